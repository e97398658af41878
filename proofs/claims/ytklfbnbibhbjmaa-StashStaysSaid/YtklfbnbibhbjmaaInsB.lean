/- slices.Insert of one slot, over the store. -/
import Derived.Test.YtklfbnbibhbjmaaInsA
import Derived.Test.YtklfbnbibhbjmaaW
namespace Go.Proofs.Ytklfbnbibhbjmaa
open Go E
set_option linter.unusedSimpArgs false
set_option linter.unusedVariables false

theorem ins_take_shift {cur ws : List Value} {n i : Nat} (hi : i < n) (h1 : (n + 1) * 3 ≤ cur.length) (h2 : 3 ≤ ws.length) :
    (insX2 cur ws n i).take ((n + 1) * 3) = (cur.take (n * 3)).take (i * 3) ++ ws.take 3 ++ (cur.take (n * 3)).drop (i * 3) ∧ (insX2 cur ws n i).length = cur.length := by
  have e1 : ((cur.drop (i * 3)).take ((n - i) * 3)).length = (n - i) * 3 := by rw [List.length_take, List.length_drop]; omega
  have e2 : (insX1 cur n i).take (i * 3) = cur.take (i * 3) := by
    unfold insX1
    rw [List.append_assoc, List.take_append_of_le_length (by rw [List.length_take]; omega), List.take_take]
    congr 1; omega
  have e3 : (insX1 cur n i).drop (i * 3 + 3) = (cur.drop (i * 3)).take ((n - i) * 3) ++ cur.drop ((i + 1) * 3 + (n - i) * 3) := by
    unfold insX1
    rw [List.append_assoc]
    have hl : (cur.take ((i + 1) * 3)).length = i * 3 + 3 := by rw [List.length_take]; omega
    rw [← hl, List.drop_left]
  have e4 : (cur.take (n * 3)).drop (i * 3) = (cur.drop (i * 3)).take ((n - i) * 3) := by
    rw [List.drop_take]
    congr 1; omega
  have e5 : (cur.take (n * 3)).take (i * 3) = cur.take (i * 3) := by rw [List.take_take]; congr 1; omega
  have hw : (ws.take 3).length = 3 := by rw [List.length_take]; omega
  constructor
  · unfold insX2
    rw [e2, e3, e4, e5, List.append_assoc, List.append_assoc, ← List.append_assoc (ws.take 3), ← List.append_assoc (cur.take (i * 3))]
    have hl : (cur.take (i * 3) ++ (ws.take 3 ++ (cur.drop (i * 3)).take ((n - i) * 3))).length = (n + 1) * 3 := by
      rw [List.length_append, List.length_append, hw, e1, List.length_take]; omega
    rw [← hl, List.take_left]
  · unfold insX2
    rw [e2, e3]
    simp only [List.length_append, hw, e1, List.length_take, List.length_drop]
    omega

theorem ins_take_grow {cur ws zc : List Value} {n i G : Nat} (hi : i < n) (h1 : n * 3 ≤ cur.length) (h2 : 3 ≤ ws.length) (hG : n + 1 ≤ G) (hz : zc.length = (G - i) * 3) :
    (insR2 (cur.take (i * 3) ++ zc) ws cur n i).take ((n + 1) * 3) = (cur.take (n * 3)).take (i * 3) ++ ws.take 3 ++ (cur.take (n * 3)).drop (i * 3) ∧ (insR2 (cur.take (i * 3) ++ zc) ws cur n i).length = G * 3 := by
  have e1 : ((cur.drop (i * 3)).take ((n - i) * 3)).length = (n - i) * 3 := by rw [List.length_take, List.length_drop]; omega
  have hti : (cur.take (i * 3)).length = i * 3 := by rw [List.length_take]; omega
  have hw : (ws.take 3).length = 3 := by rw [List.length_take]; omega
  have hR : (cur.take (i * 3) ++ zc).take (i * 3) = cur.take (i * 3) := by
    conv => lhs; rw [← hti]
    rw [hti]
    rw [List.take_append_of_le_length (by omega), List.take_take]; congr 1; omega
  have r1 : insR1 (cur.take (i * 3) ++ zc) ws i = cur.take (i * 3) ++ ws.take 3 ++ (cur.take (i * 3) ++ zc).drop (i * 3 + 3) := by unfold insR1; rw [hR]
  have hl1 : (insR1 (cur.take (i * 3) ++ zc) ws i).length = G * 3 := by
    rw [r1]
    simp only [List.length_append, hw, List.length_drop, hti, hz]
    omega
  have e2 : (insR1 (cur.take (i * 3) ++ zc) ws i).take ((i + 1) * 3) = cur.take (i * 3) ++ ws.take 3 := by
    rw [r1]
    have hl : (cur.take (i * 3) ++ ws.take 3).length = (i + 1) * 3 := by rw [List.length_append, hw, hti]; omega
    rw [← hl, List.take_left]
  have e4 : (cur.take (n * 3)).drop (i * 3) = (cur.drop (i * 3)).take ((n - i) * 3) := by
    rw [List.drop_take]
    congr 1; omega
  have e5 : (cur.take (n * 3)).take (i * 3) = cur.take (i * 3) := by rw [List.take_take]; congr 1; omega
  constructor
  · unfold insR2
    rw [e2, e4, e5]
    have hl : (cur.take (i * 3) ++ ws.take 3 ++ (cur.drop (i * 3)).take ((n - i) * 3)).length = (n + 1) * 3 := by
      rw [List.length_append, List.length_append, hw, e1, hti]; omega
    rw [← hl, List.take_left]
  · unfold insR2
    rw [e2]
    simp only [List.length_append, hw, e1, hti, List.length_drop, hl1]
    omega

theorem insD_ok {ds : List D} {h h' : List Blk} {r : D} (e : insD ds h = some (r, h')) : FullSound Try.prog 31 ds h r h' := by
  unfold insD at e
  split at e <;> try (cases e; done)
  rename_i b n g i v
  split at e <;> try (cases e; done)
  rename_i kb kv hkb hkv
  split at e <;> try (cases e; done)
  rename_i hall
  obtain ⟨⟨rfl, hbl, hbf, hbx⟩, ⟨hvl, hvx⟩, hbv, hi0, hin, hbig⟩ := hall
  have e := Option.some.inj e
  rw [Prod.mk.injEq] at e
  obtain ⟨rfl, rfl⟩ := e
  refine ⟨⟨_, Try.func31, by kernel_rfl, by kernel_rfl⟩, fun w Pr φ vs S rargs => ?_⟩
  obtain ⟨k, rfl⟩ : ∃ k : Nat, i = k := ⟨i.toNat, by omega⟩
  simp only [Int.toNat_natCast] at hin ⊢
  -- the arguments
  simp only [RepL] at rargs
  obtain ⟨v0, l1, e1, r0, v1, l2, rfl, r1, v2, l3, rfl, r2, rfl⟩ := rargs
  have hvs : vs = #[v0, v1, v2] := by
    apply Array.ext'
    simpa using e1
  subst hvs
  simp only [Rep] at r0 r1 r2
  subst r1
  obtain ⟨a0, cap, blk0, rfl, g1, g2, ⟨_, g3⟩, g4, g5, _, _, g6⟩ := r0
  rw [hkb] at g5; cases g5
  obtain ⟨c, p1, p2, p3, p4⟩ := g6 hbl
  obtain ⟨a2, cap2, blk2, rfl, q1, q2, ⟨q3, _⟩, q4, q5, _, _, q6⟩ := r2
  rw [hkv] at q5; cases q5
  obtain ⟨c2, u1, u2, u3, u4⟩ := q6 hvl
  have hcap2 : cap2 = 1 := by simpa using q3
  subst hcap2
  have ha2 := u2 (by omega)
  subst ha2
  have ha0 := p2 (by omega)
  subst ha0
  obtain ⟨cur, t, s1, s2, s3, s4, s5, s6⟩ := S.blk _ _ _ hkb p1
  obtain ⟨ws, t2, x1, x2, x3, x4, x5, x6⟩ := S.blk _ _ _ hkv u1
  rw [hbx, cond_false, hbl] at s3
  rw [hvx, cond_false, hvl] at x3
  rw [hbl] at s2
  rw [hvl] at x2
  have hcc : c2 ≠ c := fun hh => hbv (S.inj _ _ _ p1 (hh ▸ u1))
  have h1c := all_one_values (w := w) (Pr := Pr) s3 s4
  have h1v := all_one_values (w := w) (Pr := Pr) x3 x4
  have hroom : cap * 3 ≤ cur.size := by
    obtain ⟨vs', e', y1, y2⟩ := p4
    rw [s1] at y1; cases y1
    omega
  have hR : RepL w Pr [] [] (kb.cs.take (k * 3) ++ kv.cs ++ kb.cs.drop (k * 3)) ((cur.toList.take (n * 3)).take (k * 3) ++ ws.toList.take 3 ++ (cur.toList.take (n * 3)).drop (k * 3)) := ((s3.take _).append x3).append (s3.drop _)
  have hone : (kb.cs.take (k * 3) ++ kv.cs ++ kb.cs.drop (k * 3)).all D.one = true := by
    simp only [List.all_append, Bool.and_eq_true]
    exact ⟨⟨all_take _ s4, x4⟩, all_drop _ s4⟩
  have hlen : (kb.cs.take (k * 3) ++ kv.cs ++ kb.cs.drop (k * 3)).length = (n + 1) * 3 := by
    simp only [List.length_append, List.length_take, List.length_drop, hbl, hvl]
    omega
  have hcl : cur.toList.length = cur.size := by simp
  have hwl : ws.toList.length = ws.size := by simp
  have hbh : b < h.length := (List.getElem?_eq_some_iff.1 hkb).1
  by_cases hc : n + 1 ≤ cap
  · refine (insert_shift c n cap k c2 cur ws t t2 w hin hc (by unfold maxLen at g2; omega) hcc s1 (by omega) x1 x2 h1c h1v).mono ?_
    rintro e w' ⟨rfl, rfl⟩
    obtain ⟨ld, fd, Sd⟩ := drew_all S
    obtain ⟨t1, t3⟩ := ins_take_shift (ws := ws.toList) (cur := cur.toList) hin (by omega) (by omega)
    have hX1 : (insX1 cur.toList n k).length = cur.size := by
      unfold insX1
      simp only [List.length_append, List.length_take, List.length_drop, hcl]
      omega
    have hh1 := setRow_heap w.drew c cur (insX1 cur.toList n k).toArray t (0, 0) s1
    have hh2 := setRow_heap (w.drew.setRow c (insX1 cur.toList n k).toArray) c _ (insX2 cur.toList ws.toList n k).toArray t (0, 0) hh1
    obtain ⟨l, f, S'⟩ := own_write (w' := (w.drew.setRow c (insX1 cur.toList n k).toArray).setRow c (insX2 cur.toList ws.toList n k).toArray) (k' := ⟨kb.cs.take (k * 3) ++ kv.cs ++ kb.cs.drop (k * 3), 0, false⟩) Sd hkb p1 s1 hh2
      (fun x hx => by rw [setRow_other _ _ _ _ hx, setRow_other _ _ _ _ hx]) (by simp [World.setRow]) rfl rfl rfl (by simp only [List.size_toArray, t3, hcl]; exact Nat.le_refl _) (fun o ho => by omega) (by rw [hbx]) (by simp only [hlen, hbl]; omega) (by simp only [hlen, List.size_toArray, t3, hcl]; omega) (by simp only [hbf]) hone
      (fun l => by
        rw [hbx, cond_false]
        simp only [hlen, t1]
        exact RepL.mono (ld.trans l).closed _ _ hR)
    refine ⟨_, Pr, φ, rfl, ld.trans l, fd.trans f, S', ?_⟩
    simp only [Rep]
    refine ⟨_, cap, _, rfl, hc, g2, ⟨(fun h => by cases h), fun _ => by omega⟩, (fun h => by cases h), (by rw [List.getElem?_set_self hbh]), rfl, by simp only [hlen]; exact Nat.le_refl _, fun _ => ⟨c, p1, fun _ => rfl, by omega, ?_⟩⟩
    exact ⟨_, t, hh2, by simp only [List.size_toArray, t3, hcl]; omega⟩
  · refine (insert_grow c n cap k c2 cur ws t t2 w hin g1 (by omega) hbig hcc s1 (by omega) x1 x2 h1c h1v).mono ?_
    rintro e w' ⟨G, zc, y1, y2, y3, rfl, rfl⟩
    obtain ⟨t1, t3⟩ := ins_take_grow (ws := ws.toList) (cur := cur.toList) (zc := zc.toList) hin (by omega) (by omega) y1 (by simpa using y3)
    have hR2 : (insR2 (cur.toList.take (k * 3) ++ zc.toList) ws.toList cur.toList n k).toArray.size = G * 3 := by simpa using t3
    obtain ⟨wf, hwf⟩ : ∃ wf, wf = ((((w.alloc (.cells ((cur.toList.take (k * 3)).toArray ++ zc) 46)).drew).setRow w.heap.size (insR1 (cur.toList.take (k * 3) ++ zc.toList) ws.toList k).toArray).drew).setRow w.heap.size (insR2 (cur.toList.take (k * 3) ++ zc.toList) ws.toList cur.toList n k).toArray := ⟨_, rfl⟩
    rw [← hwf]
    have hg0 : (w.alloc (.cells ((cur.toList.take (k * 3)).toArray ++ zc) 46)).drew.heap[w.heap.size]? = some (.cells ((cur.toList.take (k * 3)).toArray ++ zc) 46 (0, 0)) := World.alloc_heap_new w _
    have hg1 := setRow_heap _ _ _ (insR1 (cur.toList.take (k * 3) ++ zc.toList) ws.toList k).toArray _ (0, 0) hg0
    have hg2 : wf.heap[w.heap.size]? = some (.cells (insR2 (cur.toList.take (k * 3) ++ zc.toList) ws.toList cur.toList n k).toArray 46 (0, 0)) := by
      rw [hwf]; exact setRow_heap _ _ _ _ _ (0, 0) hg1
    have hbelow : ∀ x, x < w.heap.size → wf.heap[x]? = w.heap[x]? := fun x hx => by
      rw [hwf, setRow_other _ _ _ _ (by omega)]
      show (World.setRow _ _ _).heap[x]? = _
      rw [setRow_other _ _ _ _ (by omega)]
      exact below_alloc w _ x hx
    have hsz : wf.heap.size = w.heap.size + 1 := by rw [hwf]; simp [World.setRow, World.drew]
    have l1 : Le w Pr φ h wf Pr φ h := Le.of_below hbelow (fun _ _ p => p) S.prlt
    have S1 : Sim wf Pr φ h := S.of_below hbelow (fun _ _ p => p) (fun _ _ p => .inl p) (by omega)
    obtain ⟨l2, S2⟩ := own_move (k' := ⟨kb.cs.take (k * 3) ++ kv.cs ++ kb.cs.drop (k * 3), 0, false⟩) S1 hkb p1 (c' := w.heap.size) (fun hx => absurd (S.mem_lt hx) (by omega)) (fun o p => absurd (S.prlt _ o p) (by omega)) hg2 rfl hbx (by simp only [hlen, hbl]; omega) (by simp only [hlen, hR2]; omega) (Nat.zero_le _) hone (by
      simp only [hlen, t1]
      exact RepL.mono l1.closed _ _ hR)
    have hbφ : b < φ.length := by rw [S.len]; exact hbh
    refine ⟨_, Pr, φ.set b w.heap.size, rfl, l1.trans l2, ⟨by rw [hwf]; rfl, by rw [hwf]; rfl, by rw [hwf]; rfl, by omega, fun x hx _ => hbelow x hx, fun x hx => ?_, fun _ _ p => .inl p⟩, S2, ?_⟩
    · rcases List.mem_or_eq_of_mem_set hx with hx | hx
      · exact .inl hx
      · exact .inr (by omega)
    · simp only [Rep]
      refine ⟨_, G, _, rfl, y1, y2, ⟨(fun h => by cases h), fun _ => by omega⟩, (fun h => by cases h), (by rw [List.getElem?_set_self hbh]), rfl, by simp only [hlen]; exact Nat.le_refl _, fun _ => ⟨w.heap.size, (by rw [List.getElem?_set_self hbφ]), fun _ => rfl, by omega, ?_⟩⟩
      exact ⟨_, _, hg2, by omega⟩

end Go.Proofs.Ytklfbnbibhbjmaa
