/- slices.Insert of one slot: what the memory is behind it. -/
import Derived.Test.YtklfbnbibhbjmaaLits
import Derived.Test.YtklfbnbibhbjmaaMapB
import Derived.WalkKit
import Derived.Lib.Walk
import Derived.Lib.SliceRun
import Derived.Lib.Overlaps
import Derived.Lib.AppendZerosOnto
import Derived.Laws.Externs
import Derived.Laws.CopyRow
import Derived.Laws.IdiomCopy
import Derived.Shelf.RegionOpenPlain
set_option linter.unusedVariables false
set_option linter.unusedSimpArgs false
namespace Go.Proofs.Ytklfbnbibhbjmaa
open Go E Go.RowKit Go.Lib

/-- A copy of elements of any size into a row. -/
theorem copy_k {P : Program} (w : World) (dT sT ty elem : TypeId) {inf : TypeInfo} (g o dLen dCap : Nat) (a : Addr) (sLen sCap : Nat) (cur : Array Value) (t : TypeId) (cs : List Value)
    (hu : P.underlying dT = some (.slice elem)) (hi : P.info? elem = some inf)
    (hg : w.heap[g]? = some (.cells cur t (0, 0))) (hn : cs.length = min sLen dLen * inf.size)
    (hsrc : ∀ j v, cs[j]? = some v → w.cell? (a.add j) = some v) (hfit : o + cs.length ≤ cur.size) (h1 : ∀ v ∈ cs, v.oneCell' = true) :
    (Builtin.copy_ #[dT, sT] ty #[.slice (some ⟨g, o, none⟩) dLen dCap, .slice (some a) sLen sCap]).run P w =
      .ok (.int .i64 (min sLen dLen : Nat)) (w.setRow g (cur.toList.take o ++ cs ++ cur.toList.drop (o + cs.length)).toArray) := by
  have hl : (Builtin.firstCells inf.size (min sLen dLen) (.slice (some a) sLen sCap)).run P w = .ok cs.toArray w := firstCells_run hn (.inr ⟨a, rfl, hsrc⟩) (fun h => by cases h)
  have hst := run_storeCells_at P g o t cs 0 cur w hg (by simpa using hfit) h1
  simp only [Nat.add_zero] at hst
  simp [Builtin.copy_, run_underlying hu, Builtin.lenOf, size_run hi, hl, hst, goInt]

/-- One step of a region that draws: a copy whose run is known. -/
theorem copy_step {P : Program} {ops : Array Oper} {o : Oper} {a : Act} {w : World} {K : Act → World → Prop} {Q : Exit → Act → World → Prop} {E : Prop} (hg : o.guard = none) (d x : Operand) (t1 t2 : TypeId)
    (hop : o.op = .call { callee := .builtin .copy, args := #[d, x], argTypes := #[t1, t2] }) (v u : Value) (hd : a.eval d = v) (hx : a.eval x = u) {v' : Value} {w' : World} (hr : (Builtin.copy_ #[t1, t2] o.type #[v, u]).run P w = .ok v' w') (hK : K (a.put o.dst v') w') :
    if Region.wanted o (yielded ops a.tmps) = true then Oper.wp P o a w K Q else E := by
  rw [if_pos (wanted_none hg)]
  unfold Oper.wp
  simp only [execOp, hop, resolve, invoke, builtin, Sem.run_bind, Sem.run_pure, Result.andThen_ok, List.map_toArray, List.map_cons, List.map_nil, hd, hx, hr]
  exact hK

/-- The same in one that does not. -/
theorem copy_stepL {P : Program} {ops : Array Oper} {rest : List Oper} {o : Oper} {a : Act} {w : World} {Q : Exit → Act → World → Prop} (hg : o.guard = none) (d x : Operand) (t1 t2 : TypeId)
    (hop : o.op = .call { callee := .builtin .copy, args := #[d, x], argTypes := #[t1, t2] }) (v u : Value) (hd : a.eval d = v) (hx : a.eval x = u) {v' : Value} {w' : World} (hr : (Builtin.copy_ #[t1, t2] o.type #[v, u]).run P w = .ok v' w') (hK : wpList P ops Q rest (a.put o.dst v') w') :
    wpList P ops Q (o :: rest) a w := wpList_plain hg fun _ hk => by
  unfold Oper.wp
  simp only [execOp, hop, resolve, invoke, builtin, Sem.run_bind, Sem.run_pure, Result.andThen_ok, List.map_toArray, List.map_cons, List.map_nil, hd, hx, hr]
  exact hk _ _ hK

/-- The cells when there is room: behind the first copy, and behind the second one. -/
def insX1 (cur : List Value) (n i : Nat) : List Value := cur.take ((i + 1) * 3) ++ (cur.drop (i * 3)).take ((n - i) * 3) ++ cur.drop ((i + 1) * 3 + (n - i) * 3)
def insX2 (cur ws : List Value) (n i : Nat) : List Value := (insX1 cur n i).take (i * 3) ++ ws.take 3 ++ (insX1 cur n i).drop (i * 3 + 3)

theorem slotT : Try.prog.underlying 22 = some (.slice 46) := by kernel_rfl

theorem slotI : (Try.prog.info? 46).map (fun i => (i.size, i.bytes)) = some (3, 56) := by kernel_rfl

theorem slot_info : ∃ inf, Try.prog.info? 46 = some inf ∧ inf.size = 3 ∧ inf.bytes = 56 := by
  have h := slotI
  cases hq : Try.prog.info? 46 with
  | none => rw [hq] at h; cases h
  | some inf =>
    rw [hq] at h
    simp at h
    exact ⟨inf, rfl, h.1, h.2⟩

set_option maxHeartbeats 4000000 in
set_option maxRecDepth 100000 in
/-- There is room: in place. -/
theorem insert_shift (b n c i vb : Nat) (cur ws : Array Value) (t t2 : TypeId) (w : World) (hi : i < n) (hroom : n + 1 ≤ c) (hc63 : c ≤ 9223372036854775807) (hvb : vb ≠ b)
    (hb : w.heap[b]? = some (.cells cur t (0, 0))) (hsz : (n + 1) * 3 ≤ cur.size) (hv : w.heap[vb]? = some (.cells ws t2 (0, 0))) (hvs : 3 ≤ ws.size)
    (h1c : ∀ v ∈ cur.toList.take (n * 3), v.oneCell' = true) (h1v : ∀ v ∈ ws.toList.take 3, v.oneCell' = true) :
    Go.Calls Try.prog 31 #[.slice (some ⟨b, 0, none⟩) n c, .int .i64 i, .slice (some ⟨vb, 0, none⟩) 1 1] w fun e w' =>
      e = .returned (.slice (some ⟨b, 0, none⟩) (n + 1) c) ∧ w' = (w.drew.setRow b (insX1 cur.toList n i).toArray).setRow b (insX2 cur.toList ws.toList n i).toArray := by
  obtain ⟨inf, hinf, his, hib⟩ := slot_info
  have hsize : ∀ w, (Go.sizeOf 46).run Try.prog w = .ok 3 w := fun w => by rw [size_run hinf, his]
  have hz2 : ¬ ((i : Int) = (n : Int)) := by omega
  have hov : ∀ (off : Nat) lb cb, (callFunc 38 #[.slice (some ⟨vb, 0, none⟩) 1 1, .slice (some ⟨b, off, none⟩) lb cb]).run Try.prog w = .ok (.value (.bool false)) w := fun off lb cb => by
    rw [run_callFunc_extern Try.func38 (by kernel_rfl) (by kernel_rfl) (by kernel_rfl) (e := Extern.SlicesOverlaps.overlaps #[22, 22] #[4]) (by kernel_rfl),
      Lib.run_overlaps_apart w 22 4 46 slotT 3 hsize ⟨vb, 0, none⟩ ⟨b, off, none⟩ 1 1 lb cb hvb t2 t ws.size cur.size (by simp [World.shape?, hv]) (by simp [World.shape?, hb]) (by omega) (by simp [World.frozen?, hv]) (by simp [World.frozen?, hv])]
    rfl
  have mixed : Try.prog.follows .mixedOrders = true := by kernel_rfl
  have u22 := run_underlying slotT
  have hlen : cur.toList.length = cur.size := by simp
  have hX1 : ((cur.toList.drop (i * 3)).take ((n - i) * 3)).length = (n - i) * 3 := by simp; omega
  have hcp1 : ∀ ty dc sc, (Builtin.copy_ #[22, 22] ty #[.slice (some ⟨b, (i + 1) * 3, none⟩) (n - i) dc, .slice (some ⟨b, i * 3, none⟩) (n + 1 - i) sc]).run Try.prog w.drew = .ok (.int .i64 (n - i : Nat)) (w.drew.setRow b (insX1 cur.toList n i).toArray) := fun ty dc sc => by
    have hm : min (n + 1 - i) (n - i) = n - i := by omega
    have := copy_k (P := Try.prog) w.drew 22 22 ty 46 (inf := inf) b ((i + 1) * 3) (n - i) dc ⟨b, i * 3, none⟩ (n + 1 - i) sc cur t ((cur.toList.drop (i * 3)).take ((n - i) * 3)) slotT hinf hb (by rw [hX1, hm, his]) ?_ (by rw [hX1]; omega) ?_
    · rw [hm, hX1] at this
      exact this
    · intro j v hj
      rw [List.getElem?_take] at hj
      split at hj <;> try (cases hj; done)
      rw [List.getElem?_drop] at hj
      show w.cell? _ = _
      rw [Addr.add_lit]
      simp only [World.cell?, hb]
      simpa using hj
    · intro v hv
      refine h1c v ?_
      obtain ⟨j, hj, rfl⟩ := List.mem_take_iff_getElem.1 hv
      simp only [List.getElem_drop]
      refine List.mem_take_iff_getElem.2 ⟨i * 3 + j, by omega, rfl⟩
  have hXl : (insX1 cur.toList n i).length = cur.size := by
    unfold insX1
    simp only [List.length_append, List.length_take, List.length_drop, Array.length_toList]
    omega
  obtain ⟨W1, hW1⟩ : ∃ W1, W1 = w.drew.setRow b (insX1 cur.toList n i).toArray := ⟨_, rfl⟩
  have hbl : b < w.heap.size := (Array.getElem?_eq_some_iff.1 hb).1
  have hW1b : W1.heap[b]? = some (.cells (insX1 cur.toList n i).toArray t (0, 0)) := by
    rw [hW1]; exact setRow_heap w.drew b cur _ t (0, 0) hb
  have hW1v : W1.heap[vb]? = some (.cells ws t2 (0, 0)) := by
    rw [hW1, setRow_other _ _ _ _ hvb]; exact hv
  have hcp2 : ∀ ty dc, (Builtin.copy_ #[22, 22] ty #[.slice (some ⟨b, i * 3, none⟩) (n + 1 - i) dc, .slice (some ⟨vb, 0, none⟩) 1 1]).run Try.prog W1 = .ok (.int .i64 1) (W1.setRow b (insX2 cur.toList ws.toList n i).toArray) := fun ty dc => by
    have hm : min 1 (n + 1 - i) = 1 := by omega
    have h3 : (ws.toList.take 3).length = 3 := by simp; omega
    have := copy_k (P := Try.prog) W1 22 22 ty 46 (inf := inf) b (i * 3) (n + 1 - i) dc ⟨vb, 0, none⟩ 1 1 (insX1 cur.toList n i).toArray t (ws.toList.take 3) slotT hinf hW1b (by rw [h3, hm, his]) ?_ (by rw [h3]; simp [hXl]; omega) h1v
    · rw [hm, h3] at this
      exact this
    · intro j v hj
      rw [List.getElem?_take] at hj
      split at hj <;> try (cases hj; done)
      rw [Addr.add_lit]
      simp only [World.cell?, hW1v]
      simpa using hj
  subst hW1
  have hw1 : IntKind.i64.wrap ((i : Int) + 1) = (i : Int) + 1 := by rw [IntKind.wrap_i64]; omega
  have hb1 : (0 : Int) ≤ (i : Int) + 1 := by omega
  have hin : i ≤ n := by omega
  have htn : ((i : Int) + 1).toNat = i + 1 := by omega
  have hb2 : ¬ (c = i + 1) := by omega
  have hb3 : (i : Int) ≤ (n : Int) + 1 := by omega
  have hb4 : ¬ (c = i) := by omega
  go_enter Try.func31, Try.ntmps31
  go_wp2_with (simp only [hov])
  go_region_law_o (refine copy_step rfl _ _ 22 22 rfl _ _ (by simp [Act.eval, Act.put]) (by simp [Act.eval, Act.put]) (hcp1 _ _ _) ?_)
  go_wp2_with (at_builtin; refine copy_stepL rfl _ _ 22 22 rfl _ _ rfl rfl (hcp2 _ _) ?_)
  go_ret
  exact ⟨rfl, rfl⟩

theorem slotZ : (Try.prog.info? 46).map (fun i => (i.size, i.bytes, i.zero.map fun z => z.cells.size)) = some (3, 56, some 3) := by kernel_rfl

theorem slot_zero : ∃ inf z, Try.prog.info? 46 = some inf ∧ inf.size = 3 ∧ inf.bytes = 56 ∧ inf.zero = some z ∧ z.cells.size = 3 := by
  have h := slotZ
  cases hq : Try.prog.info? 46 with
  | none => rw [hq] at h; cases h
  | some inf =>
    rw [hq] at h
    simp only [Option.map_some, Option.some.injEq, Prod.mk.injEq] at h
    cases hz : inf.zero with
    | none => rw [hz] at h; simp at h
    | some z =>
      rw [hz] at h
      simp at h
      exact ⟨inf, z, rfl, h.1, h.2.1, hz, h.2.2⟩

/-- The cells when there is no room: the new row, behind the first copy, and behind the second one. -/
def insR1 (row ws : List Value) (i : Nat) : List Value := row.take (i * 3) ++ ws.take 3 ++ row.drop (i * 3 + 3)
def insR2 (row ws cur : List Value) (n i : Nat) : List Value := (insR1 row ws i).take ((i + 1) * 3) ++ (cur.drop (i * 3)).take ((n - i) * 3) ++ (insR1 row ws i).drop ((i + 1) * 3 + (n - i) * 3)

set_option maxHeartbeats 4000000 in
set_option maxRecDepth 100000 in
/-- There is no room: a new row. -/
theorem insert_grow (b n c i vb : Nat) (cur ws : Array Value) (t t2 : TypeId) (w : World) (hi : i < n) (hnc : n ≤ c) (hroom : c < n + 1) (hbig : (n + 1) * 56 ≤ 140737488355328) (hvb : vb ≠ b)
    (hb : w.heap[b]? = some (.cells cur t (0, 0))) (hsz : n * 3 ≤ cur.size) (hv : w.heap[vb]? = some (.cells ws t2 (0, 0))) (hvs : 3 ≤ ws.size)
    (h1c : ∀ v ∈ cur.toList.take (n * 3), v.oneCell' = true) (h1v : ∀ v ∈ ws.toList.take 3, v.oneCell' = true) :
    Go.Calls Try.prog 31 #[.slice (some ⟨b, 0, none⟩) n c, .int .i64 i, .slice (some ⟨vb, 0, none⟩) 1 1] w fun e w' =>
      ∃ (G : Nat) (zc : Array Value), n + 1 ≤ G ∧ G ≤ maxLen ∧ zc.size = (G - i) * 3 ∧ e = .returned (.slice (some ⟨w.heap.size, 0, none⟩) (n + 1) G) ∧
        w' = ((((w.alloc (.cells ((cur.toList.take (i * 3)).toArray ++ zc) 46)).drew).setRow w.heap.size (insR1 (cur.toList.take (i * 3) ++ zc.toList) ws.toList i).toArray).drew).setRow w.heap.size (insR2 (cur.toList.take (i * 3) ++ zc.toList) ws.toList cur.toList n i).toArray := by
  obtain ⟨inf, z, hinf, his, hib, hz0, hzs⟩ := slot_zero
  have hz2 : ¬ ((i : Int) = (n : Int)) := by omega
  have hz3 : (c : Int) < (n : Int) + 1 := by omega
  have mixed : Try.prog.follows .mixedOrders = true := by kernel_rfl
  have u22 := run_underlying slotT
  have hbw : b < w.heap.size := (Array.getElem?_eq_some_iff.1 hb).1
  have hvw : vb < w.heap.size := (Array.getElem?_eq_some_iff.1 hv).1
  have hlen : cur.toList.length = cur.size := by simp
  have hkk : (n : Int) + 1 - (i : Int) = ((n + 1 - i : Nat) : Int) := by omega
  have hik : i + (n + 1 - i) = n + 1 := by omega
  have hti : (cur.toList.take (i * 3)).length = i * 3 := by simp; omega
  have hold : (Builtin.firstCells inf.size i (.slice (some ⟨b, 0, none⟩) i c)).run Try.prog w.drew = .ok (cur.toList.take (i * 3)).toArray w.drew := by
    refine firstCells_run (by rw [hti, his]) (.inr ⟨_, rfl, fun j v hj => ?_⟩) (fun h => by cases h)
    rw [List.getElem?_take] at hj
    split at hj <;> try (cases hj; done)
    rw [Addr.add_lit]
    show w.cell? _ = _
    simp only [World.cell?, hb]
    simpa using hj
  obtain ⟨G, hG⟩ : ∃ G, G = grownCap w (n + 1) c 46 := ⟨_, rfl⟩
  have hGn : n + 1 ≤ G := by rw [hG]; exact grownCap_ge w _ _ _
  have hGm : G ≤ maxLen := by rw [hG]; exact grownCap_le_maxLen w (n + 1) c _ (by unfold maxLen; omega)
  have hG63 : G ≤ 9223372036854775807 := by unfold maxLen at hGm; omega
  obtain ⟨zc, hzc⟩ : ∃ zc, zc = Builtin.zeroCells z.cells (n + 1 - i) ++ Builtin.zeroCells z.cells (G - (n + 1)) := ⟨_, rfl⟩
  have hzl : zc.size = (G - i) * 3 := by
    rw [hzc, Array.size_append, zeroCells_size, zeroCells_size, hzs, ← Nat.add_mul]
    congr 1; omega
  have hrz : ∀ ty, (Builtin.append_ #[22, 3] ty #[.slice (some ⟨b, 0, none⟩) i c, .int .i64 ((n : Int) + 1 - (i : Int))]).run Try.prog w =
      .ok (.slice (some ⟨w.heap.size, 0, none⟩) (n + 1) G) ((w.alloc (.cells ((cur.toList.take (i * 3)).toArray ++ zc) 46)).drew) := fun ty => by
    have h := Lib.run_append_grow_zeros (P := Try.prog) w 22 3 ty 46 inf z .i64 .i64 slotT (by kernel_rfl) hinf hz0 (some ⟨b, 0, none⟩) i c (cur.toList.take (i * 3)) hold (n + 1 - i) (by omega) (by omega) (by omega) (by omega) (by rw [hib]; omega) (by rw [hib, hik]; exact growslice_fits hroom hbig)
    rw [hik, ← hG, Array.append_assoc, ← hzc] at h
    rw [hkk]
    exact h
  obtain ⟨W1, hW1⟩ : ∃ W1, W1 = (w.alloc (.cells ((cur.toList.take (i * 3)).toArray ++ zc) 46)).drew := ⟨_, rfl⟩
  have hrow : ((cur.toList.take (i * 3)).toArray ++ zc).toList = cur.toList.take (i * 3) ++ zc.toList := by simp
  have hrl : (cur.toList.take (i * 3) ++ zc.toList).length = G * 3 := by
    rw [List.length_append, hti, Array.length_toList, hzl]; omega
  have hg1 : W1.heap[w.heap.size]? = some (.cells ((cur.toList.take (i * 3)).toArray ++ zc) 46 (0, 0)) := by
    rw [hW1]; exact World.alloc_heap_new w _
  have hb1 : W1.heap[b]? = some (.cells cur t (0, 0)) := by
    rw [hW1]; exact (below_alloc w _ b hbw).trans hb
  have hv1 : W1.heap[vb]? = some (.cells ws t2 (0, 0)) := by
    rw [hW1]; exact (below_alloc w _ vb hvw).trans hv
  have h3 : (ws.toList.take 3).length = 3 := by simp; omega
  have hcpA : ∀ ty dc, (Builtin.copy_ #[22, 22] ty #[.slice (some ⟨w.heap.size, i * 3, none⟩) (n + 1 - i) dc, .slice (some ⟨vb, 0, none⟩) 1 1]).run Try.prog W1 = .ok (.int .i64 1) (W1.setRow w.heap.size (insR1 (cur.toList.take (i * 3) ++ zc.toList) ws.toList i).toArray) := fun ty dc => by
    have hm : min 1 (n + 1 - i) = 1 := by omega
    have := copy_k (P := Try.prog) W1 22 22 ty 46 (inf := inf) w.heap.size (i * 3) (n + 1 - i) dc ⟨vb, 0, none⟩ 1 1 _ 46 (ws.toList.take 3) slotT hinf hg1 (by rw [h3, hm, his]) ?_ (by rw [h3, ← Array.length_toList, hrow, hrl]; omega) h1v
    · rw [hm, h3, hrow] at this
      exact this
    · intro j v hj
      rw [List.getElem?_take] at hj
      split at hj <;> try (cases hj; done)
      rw [Addr.add_lit]
      simp only [World.cell?, hv1]
      simpa using hj
  have hR1l : (insR1 (cur.toList.take (i * 3) ++ zc.toList) ws.toList i).length = G * 3 := by
    unfold insR1
    rw [List.length_append, List.length_append, h3, List.length_take, List.length_drop, hrl]
    omega
  have hX1 : ((cur.toList.drop (i * 3)).take ((n - i) * 3)).length = (n - i) * 3 := by simp; omega
  have hcpB : ∀ ty dc sc, (Builtin.copy_ #[22, 22] ty #[.slice (some ⟨w.heap.size, (i + 1) * 3, none⟩) (n - i) dc, .slice (some ⟨b, i * 3, none⟩) (n - i) sc]).run Try.prog (W1.setRow w.heap.size (insR1 (cur.toList.take (i * 3) ++ zc.toList) ws.toList i).toArray).drew =
      .ok (.int .i64 (n - i : Nat)) ((W1.setRow w.heap.size (insR1 (cur.toList.take (i * 3) ++ zc.toList) ws.toList i).toArray).drew.setRow w.heap.size (insR2 (cur.toList.take (i * 3) ++ zc.toList) ws.toList cur.toList n i).toArray) := fun ty dc sc => by
    have hm : min (n - i) (n - i) = n - i := by omega
    have := copy_k (P := Try.prog) (W1.setRow w.heap.size (insR1 (cur.toList.take (i * 3) ++ zc.toList) ws.toList i).toArray).drew 22 22 ty 46 (inf := inf) w.heap.size ((i + 1) * 3) (n - i) dc ⟨b, i * 3, none⟩ (n - i) sc
      (insR1 (cur.toList.take (i * 3) ++ zc.toList) ws.toList i).toArray 46 ((cur.toList.drop (i * 3)).take ((n - i) * 3)) slotT hinf (setRow_heap W1 _ _ _ _ (0, 0) hg1) (by rw [hX1, hm, his]) ?_ (by rw [hX1]; simp only [List.size_toArray, hR1l]; omega) ?_
    · rw [hm, hX1] at this
      exact this
    · intro j v hj
      rw [List.getElem?_take] at hj
      split at hj <;> try (cases hj; done)
      rw [List.getElem?_drop] at hj
      rw [Addr.add_lit]
      show (W1.setRow w.heap.size _).cell? _ = _
      simp only [World.cell?, setRow_other W1 w.heap.size b _ (by omega), hb1]
      simpa using hj
    · intro v hv
      refine h1c v ?_
      obtain ⟨j, hj, rfl⟩ := List.mem_take_iff_getElem.1 hv
      simp only [List.getElem_drop]
      refine List.mem_take_iff_getElem.2 ⟨i * 3 + j, by omega, rfl⟩
  subst hW1
  have hw1 : IntKind.i64.wrap ((i : Int) + 1) = (i : Int) + 1 := by rw [IntKind.wrap_i64]; omega
  have hbb : (0 : Int) ≤ (i : Int) + 1 := by omega
  have hin : i ≤ n := by omega
  have htn : ((i : Int) + 1).toNat = i + 1 := by omega
  have hGi : ¬ (G = i) := by omega
  have hGim : ¬ (G = i + 1) := by omega
  have hci : ¬ (c = i) := by omega
  have hbN : b ≠ w.heap.size := by omega
  have hb3 : (i : Int) ≤ (n : Int) := by omega
  refine Calls.mono (R := fun e w' => e = .returned (.slice (some ⟨w.heap.size, 0, none⟩) (n + 1) G) ∧ w' = ((((w.alloc (.cells ((cur.toList.take (i * 3)).toArray ++ zc) 46)).drew).setRow w.heap.size (insR1 (cur.toList.take (i * 3) ++ zc.toList) ws.toList i).toArray).drew).setRow w.heap.size (insR2 (cur.toList.take (i * 3) ++ zc.toList) ws.toList cur.toList n i).toArray) ?_ (fun e w' h => ⟨G, zc, hGn, hGm, hzl, h.1, h.2⟩)
  clear hlen hkk hik hold hG hrl hrow hR1l hX1 hzl hti hzc
  go_enter Try.func31, Try.ntmps31
  go_wp2_with (first
    | (at_builtin; refine Lib.wpList_append_run _ rfl _ _ _ _ rfl _ _ rfl rfl _ _ (hrz _) ?_)
    | (at_builtin; refine copy_stepL rfl _ _ 22 22 rfl _ _ rfl rfl (hcpA _ _) ?_))
  go_region_law_o (refine copy_step rfl _ _ 22 22 rfl (.slice (some ⟨w.heap.size, (i + 1) * 3, none⟩) (n - i) (G - (i + 1))) (.slice (some ⟨b, i * 3, none⟩) (n - i) (c - i)) (by simp [Act.eval, Act.put]) (by simp [Act.eval, Act.put]) (hcpB _ _ _) ?_)
  go_wp2
  go_ret
  exact ⟨rfl, rfl⟩

end Go.Proofs.Ytklfbnbibhbjmaa
