/- Whole bodies: the evaluator's answer is the call's. -/
import Derived.Test.YtcaglmjfphjpfaaSimJ
import Derived.LoopN
import Derived.Scope
namespace Go.Proofs.Ytcaglmjfphjpfaa.E
open Go

/-- A run with the feet of its operations. -/
def runF (C : Calls) : List (Nat × XOp) → St → Option (St × List ((Nat × XOp) × Foot))
  | [], st => some (st, [])
  | p :: r, st => match evFoot C p.2 st, evOp C true p.2 st with
    | some f, some st' => match runF C r st' with
      | some (st'', fs) => some (st'', (p, f) :: fs)
      | none => none
    | _, _ => none

theorem runF_cons {C : Calls} {p : Nat × XOp} {r : List (Nat × XOp)} {st st' : St} {F : List ((Nat × XOp) × Foot)} :
    runF C (p :: r) st = some (st', F) ↔ ∃ f st1 F', evFoot C p.2 st = some f ∧ evOp C true p.2 st = some st1 ∧ runF C r st1 = some (st', F') ∧ F = (p, f) :: F' := by
  constructor
  · intro h
    simp only [runF] at h
    split at h
    · rename_i f st1 h1 h2
      split at h
      · rename_i st2 fs h3
        simp at h
        obtain ⟨rfl, rfl⟩ := h
        exact ⟨f, st1, fs, h1, h2, h3, rfl⟩
      · simp at h
    · simp at h
  · rintro ⟨f, st1, F', h1, h2, h3, rfl⟩
    simp [runF, h1, h2, h3]

theorem runF_fst {C : Calls} : (l : List (Nat × XOp)) → (st st' : St) → (F : List ((Nat × XOp) × Foot)) → runF C l st = some (st', F) → F.map (·.1) = l
  | [], st, st', F, h => by simp [runF] at h; simp [← h.2]
  | p :: r, st, st', F, h => by
    obtain ⟨f, st1, F', _, _, h3, rfl⟩ := runF_cons.1 h
    simp [runF_fst r st1 st' F' h3]

theorem runF_seq {C : Calls} : (l : List (Nat × XOp)) → (st st' : St) → (F : List ((Nat × XOp) × Foot)) → runF C l st = some (st', F) → evSeq C true (l.map (·.2)) st = some st'
  | [], st, st', F, h => by simp [runF] at h; simp [evSeq, h.1]
  | p :: r, st, st', F, h => by
    obtain ⟨f, st1, F', _, h2, h3, rfl⟩ := runF_cons.1 h
    simp [evSeq, h2, runF_seq r st1 st' F' h3]

/-- Two operations that may change places. -/
def Free (e f : (Nat × XOp) × Foot) : Prop := indep e.1.2 f.1.2 = true ∧ e.2.fits f.2 = true

theorem runF_front {C : Calls} : (F1 F2 : List ((Nat × XOp) × Foot)) → (e : (Nat × XOp) × Foot) → (st st' : St) → runF C ((F1 ++ e :: F2).map (·.1)) st = some (st', F1 ++ e :: F2) → (∀ x ∈ F1, Free x e) →
    runF C ((e :: (F1 ++ F2)).map (·.1)) st = some (st', e :: (F1 ++ F2))
  | [], F2, e, st, st', h, _ => h
  | x :: F1, F2, e, st, st', h, hf => by
    simp only [List.cons_append, List.map_cons] at h
    obtain ⟨f, st1, F', h1, h2, h3, he⟩ := runF_cons.1 h
    simp only [List.cons.injEq] at he
    obtain ⟨he1, rfl⟩ := he
    have ih := runF_front F1 F2 e st1 st' h3 (fun y hy => hf y (by simp [hy]))
    simp only [List.map_cons] at ih
    obtain ⟨g, st2, F'', g1, g2, g3, ge⟩ := runF_cons.1 ih
    simp only [List.cons.injEq] at ge
    obtain ⟨ge1, rfl⟩ := ge
    obtain ⟨fr1, fr2⟩ := hf x (by simp)
    have hx2 : x.2 = f := by rw [he1]
    have he2 : e.2 = g := by rw [ge1]
    rw [hx2, he2] at fr2
    obtain ⟨s1, st1', s2, s3, s4⟩ := swap_ops fr1 fr2 h1 h2 g1 g2
    simp only [List.cons_append, List.map_cons]
    refine runF_cons.2 ⟨g, st1', x :: (F1 ++ F2), s1, s2, runF_cons.2 ⟨f, st2, F1 ++ F2, s3, s4, g3, ?_⟩, ?_⟩
    · rw [← hx2]
    · rw [← he2]

/-- The masks of 'Region.before'. -/
theorem before_spec (ops : Array Oper) : ∀ (i k : Nat), ((Region.before ops).getD i 0).testBit k = true → ∃ o, ops[i]? = some o ∧ ∃ e ∈ o.after, Region.binds .any e = true ∧ (k = e.on ∨ (e.on < i ∧ ((Region.before ops).getD e.on 0).testBit k = true)) := by
  have inner : ∀ (acc : Array Nat) (es : List Edge) (s k : Nat), (es.foldl (fun s e => if Region.binds .any e then s ||| 2 ^ e.on ||| acc.getD e.on 0 else s) s).testBit k = true →
      s.testBit k = true ∨ ∃ e ∈ es, Region.binds .any e = true ∧ (k = e.on ∨ (acc.getD e.on 0).testBit k = true) := by
    intro acc es
    induction es with
    | nil => intro s k h; exact .inl h
    | cons e es ih =>
      intro s k h
      simp only [List.foldl_cons] at h
      rcases ih _ _ h with h | ⟨e', he', hb, hk⟩
      · split at h
        · rename_i hb
          simp only [Nat.testBit_or, Bool.or_eq_true, Nat.testBit_two_pow, decide_eq_true_eq] at h
          rcases h with (h | h) | h
          · exact .inl h
          · exact .inr ⟨e, by simp, hb, .inl h.symm⟩
          · exact .inr ⟨e, by simp, hb, .inr h⟩
        · exact .inl h
      · exact .inr ⟨e', by simp [he'], hb, hk⟩
  have outer : ∀ (l : List Oper) (pre : List Oper) (acc : Array Nat), acc.size = pre.length →
      (∀ (i k : Nat), (acc.getD i 0).testBit k = true → ∃ o, pre[i]? = some o ∧ ∃ e ∈ o.after, Region.binds .any e = true ∧ (k = e.on ∨ (e.on < i ∧ (acc.getD e.on 0).testBit k = true))) →
      ∀ (i k : Nat), ((l.foldl (fun acc o => acc.push (o.after.foldl (fun s e => if Region.binds .any e then s ||| 2 ^ e.on ||| acc.getD e.on 0 else s) 0)) acc).getD i 0).testBit k = true →
        ∃ o, (pre ++ l)[i]? = some o ∧ ∃ e ∈ o.after, Region.binds .any e = true ∧ (k = e.on ∨ (e.on < i ∧ ((l.foldl (fun acc o => acc.push (o.after.foldl (fun s e => if Region.binds .any e then s ||| 2 ^ e.on ||| acc.getD e.on 0 else s) 0)) acc).getD e.on 0).testBit k = true)) := by
    intro l
    induction l with
    | nil => intro pre acc _ h; simpa using h
    | cons o l ih =>
      intro pre acc hs h
      simp only [List.foldl_cons]
      have := ih (pre ++ [o]) (acc.push (o.after.foldl (fun s e => if Region.binds .any e then s ||| 2 ^ e.on ||| acc.getD e.on 0 else s) 0)) (by simp [hs]) ?_
      · simpa using this
      · intro i k hk
        by_cases hi : i < acc.size
        · have e1 : ∀ x, (acc.push x).getD i 0 = acc.getD i 0 := fun x => by simp [Array.getD_eq_getD_getElem?, Array.getElem?_push, Nat.ne_of_lt hi]
          rw [e1] at hk
          obtain ⟨o', ho', e, he, hb, hh⟩ := h i k hk
          refine ⟨o', by rw [List.getElem?_append_left (by omega)]; exact ho', e, he, hb, ?_⟩
          rcases hh with hh | ⟨h1, h2⟩
          · exact .inl hh
          · refine .inr ⟨h1, ?_⟩
            have : e.on < acc.size := by omega
            simpa [Array.getD_eq_getD_getElem?, Array.getElem?_push, Nat.ne_of_lt this] using h2
        · by_cases hi2 : i = acc.size
          · subst hi2
            have e1 : ∀ x, (acc.push x).getD acc.size 0 = x := fun x => by simp [Array.getD_eq_getD_getElem?]
            rw [e1, ← Array.foldl_toList] at hk
            rcases inner acc o.after.toList 0 k hk with hk | ⟨e, he, hb, hh⟩
            · simp at hk
            · refine ⟨o, by rw [hs]; simp, e, by simpa using he, hb, ?_⟩
              rcases hh with hh | hh
              · exact .inl hh
              · have hlt : e.on < acc.size := by
                  rcases Nat.lt_or_ge e.on acc.size with q | q
                  · exact q
                  · simp [Array.getD_eq_getD_getElem?, Array.getElem?_eq_none q] at hh
                refine .inr ⟨hlt, ?_⟩
                simpa [Array.getD_eq_getD_getElem?, Array.getElem?_push, Nat.ne_of_lt hlt] using hh
          · have : ∀ x, (acc.push x).getD i 0 = 0 := fun x => by
              rw [Array.getD_eq_getD_getElem?, Array.getElem?_eq_none (by simp; omega)]; rfl
            rw [this] at hk
            simp at hk
  intro i k h
  have := outer ops.toList [] #[] rfl (by intro i k h; simp at h) i k
  unfold Region.before at h ⊢
  rw [← Array.foldl_toList] at h ⊢
  simpa using this h

theorem feetOK_spec {bf : Nat} {f : Foot} : (l : List (Nat × Foot)) → feetOK bf f l = true → ∀ p ∈ l, bf.testBit p.1 = true ∨ p.2.fits f = true
  | [], h, p, hp => by simp at hp
  | (i, g) :: r, h, p, hp => by
    simp only [feetOK, Bool.and_eq_true, Bool.or_eq_true] at h
    rcases List.mem_cons.1 hp with rfl | hp
    · exact h.1
    · exact feetOK_spec r h.2 p hp

theorem evOpsD_run {C : Calls} {bs : List Nat} : (xs : List XOp) → (i : Nat) → (fs : List (Nat × Foot)) → (st st' : St) → evOpsD C bs i fs xs st = some st' →
    ∃ F, runF C ((xs.zipIdx i).map fun (x, j) => (j, x)) st = some (st', F) ∧ (∀ e ∈ F, ∀ p ∈ fs, (bs.getD e.1.1 0).testBit p.1 = true ∨ p.2.fits e.2 = true) ∧
      F.Pairwise (fun e e' => (bs.getD e'.1.1 0).testBit e.1.1 = true ∨ e.2.fits e'.2 = true)
  | [], i, fs, st, st', h => by
    simp [evOpsD] at h; subst h
    exact ⟨[], by simp [runF], by simp, List.Pairwise.nil⟩
  | x :: xs, i, fs, st, st', h => by
    simp only [evOpsD] at h
    split at h <;> try (simp at h; done)
    rename_i f hf
    cases hk : feetOK (bs.getD i 0) f fs
    · rw [hk] at h
      simp at h
    · simp only [hk, cond_true] at h
      split at h <;> try (simp at h; done)
      rename_i st1 h1
      obtain ⟨F, g1, g2, g3⟩ := evOpsD_run xs (i + 1) ((i, f) :: fs) st1 st' h
      refine ⟨((i, x), f) :: F, ?_, ?_, ?_⟩
      · simp only [List.zipIdx_cons, List.map_cons]
        exact runF_cons.2 ⟨f, st1, F, hf, h1, g1, rfl⟩
      · intro e he p hp
        rcases List.mem_cons.1 he with rfl | he
        · exact feetOK_spec fs hk p hp
        · exact g2 e he p (by simp [hp])
      · refine List.Pairwise.cons (fun e he => ?_) g3
        exact g2 e he (i, f) (by simp)

/-- Whatever order the edges allow, the run comes to one end. -/
theorem linear_run {C : Calls} {ops : Array Oper} {st' : St} (hedge : ∀ (i : Nat) (o : Oper), ops[i]? = some o → ∀ e ∈ o.after, Region.binds .any e = true → e.on < i) :
    ∀ (fuel t : Nat) (listed : Array Bool) (F : List ((Nat × XOp) × Foot)) (st : St), runF C (F.map (·.1)) st = some (st', F) → F.length ≤ fuel → listed.size = ops.size →
      (F.map (·.1.1)).Pairwise (· < ·) → (∀ i, i ∈ F.map (·.1.1) ↔ (i < ops.size ∧ listed.getD i true = false)) →
      F.Pairwise (fun e e' => ((Region.before ops).getD e'.1.1 0).testBit e.1.1 = true ∨ Free e e') →
      (∀ k, listed.getD k false = true → ∀ i, ((Region.before ops).getD k 0).testBit i = true → listed.getD i false = true) →
      ∃ L : List (Nat × XOp), L.map (·.1) = Region.linearise.go .any ops fuel t listed [] ∧ (∀ p ∈ L, p ∈ F.map (·.1)) ∧ evSeq C true (L.map (·.2)) st = some st' := by
  intro fuel
  induction fuel with
  | zero =>
    intro t listed F st hr hlen _ _ _ _ _
    have : F = [] := List.eq_nil_of_length_eq_zero (by omega)
    subst this
    exact ⟨[], by simp [Region.linearise.go], by simp, by simpa using runF_seq _ _ _ _ hr⟩
  | succ fuel ih =>
    intro t listed F st hr hlen hsz hsorted hmem hpair hdown
    simp only [Region.linearise.go]
    change ∃ L : List (Nat × XOp), L.map (·.1) = (match (Region.ready .any ops listed)[t % (Region.ready .any ops listed).length]? with
      | some i => Region.linearise.go .any ops fuel (t / (Region.ready .any ops listed).length) (listed.setIfInBounds i true) [i]
      | none => [].reverse) ∧ _
    cases hi : (Region.ready .any ops listed)[t % (Region.ready .any ops listed).length]? with
    | none =>
      have hnil : Region.ready .any ops listed = [] := by
        cases hrd : Region.ready .any ops listed with
        | nil => rfl
        | cons x xs =>
          rw [hrd] at hi
          have hlt : t % (x :: xs).length < (x :: xs).length := Nat.mod_lt _ (by simp)
          rw [List.getElem?_eq_getElem hlt] at hi
          simp at hi
      cases F with
      | nil => exact ⟨[], by simp, by simp, by simpa using runF_seq _ _ _ _ hr⟩
      | cons e F =>
        exfalso
        obtain ⟨hlt, hun⟩ := (hmem e.1.1).1 (by simp)
        have : e.1.1 ∈ Region.ready .any ops listed := by
          refine mem_ready.2 ⟨hun, ops[e.1.1], Array.getElem?_eq_getElem hlt, fun ed hed hb => ?_⟩
          have hon := hedge e.1.1 _ (Array.getElem?_eq_getElem hlt) ed hed hb
          cases hl : listed.getD ed.on false with
          | true => rfl
          | false =>
            exfalso
            have h1 : listed.getD ed.on true = false := by
              have hlo : ed.on < listed.size := by omega
              simp only [Array.getD_eq_getD_getElem?, Array.getElem?_eq_getElem hlo, Option.getD_some] at hl ⊢
              exact hl
            have := (hmem ed.on).2 ⟨by omega, h1⟩
            simp only [List.map_cons, List.mem_cons] at this
            rcases this with h2 | h2
            · omega
            · simp only [List.map_cons, List.pairwise_cons] at hsorted
              have := hsorted.1 ed.on h2
              omega
        rw [hnil] at this
        simp at this
    | some i =>
      simp only []
      have hrdy := mem_ready.1 (List.mem_of_getElem? hi)
      obtain ⟨hun, o, ho, hdeps⟩ := hrdy
      have hilt : i < ops.size := (Array.getElem?_eq_some_iff.1 ho).1
      have hbits : ∀ k, ((Region.before ops).getD i 0).testBit k = true → listed.getD k false = true := by
        intro k hk
        obtain ⟨o', ho', e, he, hb, hh⟩ := before_spec ops i k hk
        rw [ho] at ho'
        simp at ho'; subst ho'
        have hl := hdeps e he hb
        rcases hh with rfl | ⟨_, hh⟩
        · exact hl
        · exact hdown _ hl k hh
      have himem := (hmem i).2 ⟨hilt, hun⟩
      obtain ⟨e, heF, hei⟩ := List.mem_map.1 himem
      obtain ⟨F1, F2, rfl⟩ := List.append_of_mem heF
      have hfree : ∀ x ∈ F1, Free x e := by
        intro x hx
        have hp := (List.pairwise_append.1 hpair).2.2 x hx e (by simp)
        rcases hp with hp | hp
        · exfalso
          rw [hei] at hp
          have hl := hbits _ hp
          have hxm := (hmem x.1.1).1 (List.mem_map.2 ⟨x, by simp [hx], rfl⟩)
          have hlo : x.1.1 < listed.size := by omega
          simp only [Array.getD_eq_getD_getElem?, Array.getElem?_eq_getElem hlo, Option.getD_some] at hl hxm
          rw [hl] at hxm
          simp at hxm
        · exact hp
      have hfront := runF_front F1 F2 e st st' hr hfree
      simp only [List.map_cons] at hfront
      obtain ⟨f, st1, F', h1, h2, h3, he⟩ := runF_cons.1 hfront
      simp only [List.cons.injEq] at he
      obtain ⟨he1, rfl⟩ := he
      have hsub : (F1 ++ F2).Sublist (F1 ++ e :: F2) := List.Sublist.append_left (List.sublist_cons_self e F2) F1
      have hnot : ∀ x ∈ F1 ++ F2, x.1.1 ≠ i := by
        intro x hx
        have hs := hsorted
        rw [List.map_append, List.map_cons, List.pairwise_append] at hs
        rcases List.mem_append.1 hx with hx | hx
        · have := hs.2.2 x.1.1 (List.mem_map.2 ⟨x, hx, rfl⟩) e.1.1 (by simp)
          omega
        · have := (List.pairwise_cons.1 hs.2.1).1 x.1.1 (List.mem_map.2 ⟨x, hx, rfl⟩)
          omega
      obtain ⟨L, g1, g2, g3⟩ := ih (t / (Region.ready .any ops listed).length) (listed.setIfInBounds i true) (F1 ++ F2) st1 h3 (by simp at hlen ⊢; omega) (by simp [hsz])
        (hsorted.sublist (hsub.map _)) (fun j => by
          constructor
          · intro hj
            obtain ⟨x, hx, rfl⟩ := List.mem_map.1 hj
            have hne := hnot x hx
            have := (hmem x.1.1).1 (List.mem_map.2 ⟨x, hsub.subset hx, rfl⟩)
            refine ⟨this.1, ?_⟩
            simp only [Array.getD_eq_getD_getElem?, Array.getElem?_setIfInBounds, Ne.symm hne, if_false] at this ⊢
            exact this.2
          · rintro ⟨hj1, hj2⟩
            by_cases hji : j = i
            · subst hji
              have hlo : j < listed.size := by omega
              simp [Array.getD_eq_getD_getElem?, hlo] at hj2
            · have : listed.getD j true = false := by
                simp only [Array.getD_eq_getD_getElem?, Array.getElem?_setIfInBounds, Ne.symm hji, if_false] at hj2 ⊢
                exact hj2
              have hm := (hmem j).2 ⟨hj1, this⟩
              obtain ⟨x, hx, hxj⟩ := List.mem_map.1 hm
              refine List.mem_map.2 ⟨x, ?_, hxj⟩
              rcases List.mem_append.1 hx with hx | hx
              · exact List.mem_append_left _ hx
              · rcases List.mem_cons.1 hx with rfl | hx
                · exact absurd (hxj.symm.trans hei) hji
                · exact List.mem_append_right _ hx) (hpair.sublist hsub) (fun k hk j hj => by
          have set1 : ∀ x, listed.getD x false = true → (listed.setIfInBounds i true).getD x false = true := by
            intro x hx
            by_cases hxi : x = i
            · subst hxi
              have hlo : x < listed.size := by omega
              simp [Array.getD_eq_getD_getElem?, hlo]
            · simp only [Array.getD_eq_getD_getElem?, Array.getElem?_setIfInBounds, Ne.symm hxi, if_false] at hx ⊢
              exact hx
          by_cases hki : k = i
          · subst hki
            exact set1 _ (hbits j hj)
          · have : listed.getD k false = true := by
              simp only [Array.getD_eq_getD_getElem?, Array.getElem?_setIfInBounds, Ne.symm hki, if_false] at hk ⊢
              exact hk
            exact set1 _ (hdown k this j hj))
      refine ⟨e.1 :: L, ?_, ?_, ?_⟩
      · rw [linearise_go_acc]
        simp [g1, hei]
      · intro p hp
        rcases List.mem_cons.1 hp with rfl | hp
        · simp
        · have := g2 p hp
          obtain ⟨x, hx, rfl⟩ := List.mem_map.1 this
          exact List.mem_map.2 ⟨x, hsub.subset hx, rfl⟩
      · simp [evSeq, h2, g3]

end Go.Proofs.Ytcaglmjfphjpfaa.E
