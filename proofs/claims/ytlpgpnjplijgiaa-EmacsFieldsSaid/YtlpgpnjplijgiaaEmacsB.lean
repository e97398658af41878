/- The laws of layer 17. -/
import Derived.Test.YtlpgpnjplijgiaaEmacsA
import Derived.Test.YtlpgpnjplijgiaaArgs
namespace Go.Proofs.Ytlpgpnjplijgiaa
open Go E
set_option linter.unusedSimpArgs false
set_option linter.unusedVariables false

theorem arg_key {x : D} (h : ArgD Try.prog 23 x) : ∃ k r : Int, x = .agg [.int .i64 k, .int .i32 r] := by
  obtain ⟨ds, rfl, hl⟩ := arg_struct (ts := [3, 21]) (by kernel_rfl) h
  obtain ⟨p1, r1, rfl, h1, hl⟩ := tyL_cons hl
  obtain ⟨p2, r2, rfl, h2, hl⟩ := tyL_cons hl
  have := tyL_nil hl
  subst this
  obtain ⟨a, rfl, _⟩ := ty_int (k := .i64) (by kernel_rfl) h1
  obtain ⟨b, rfl, _⟩ := ty_int (k := .i32) (by kernel_rfl) h2
  exact ⟨a, b, rfl⟩

theorem emTab_lt : ∀ p ∈ emTab, 0 ≤ p.1.2 ∧ p.1.2 < 128 ∧ 1 ≤ p.1.1 ∧ p.1.1 < 16 ∧ (p.1.1 = 1 ∨ p.1.1 = 2 ∨ p.1.2 = 0) := by decide

theorem em_small : (∀ n : Fin 128, emAct 1 (n.val : Int) = rfPlain n.val ∧ emAct 2 (n.val : Int) = rfMeta n.val) ∧ ∀ n : Fin 16, n.val = 1 ∨ n.val = 2 ∨ emLook n.val 0 = (let a := rfArrow n.val; if a = (0, 0, 0, 0) then none else some (a.1, a.2.1, a.2.2.1)) := by
  refine ⟨by decide +kernel, by decide +kernel⟩

theorem em_far {k r : Int} (h : r < 0 ∨ 128 ≤ r ∨ k < 1 ∨ 16 ≤ k) : emLook k r = none := by
  apply emFind_none
  rintro p hp ⟨rfl, rfl⟩
  have := emTab_lt p hp
  omega

theorem rfArrow_last (k : Int) : (rfArrow k).2.2.2 = 0 ∧ (k < 3 ∨ 10 ≤ k → rfArrow k = (0, 0, 0, 0)) := by
  unfold rfArrow
  repeat' split
  all_goals simp
  all_goals omega

theorem plain_far {r : Int} (h : ¬ (0 ≤ r ∧ r < 128)) : rfPlain r = if 32 ≤ r ∧ isR r = true then (2, 0, 0, r) else (0, 0, 0, 0) := by
  unfold rfPlain
  iterate 20 rw [if_neg (by omega)]
  have e : (r = 9 ∨ (32 ≤ r ∧ isR r = true)) ↔ (32 ≤ r ∧ isR r = true) := ⟨fun q => q.resolve_left (by omega), .inr⟩
  simp only [e]

theorem meta_far {r : Int} (h : ¬ (0 ≤ r ∧ r < 128)) : rfMeta r = (0, 0, 0, 0) := by
  unfold rfMeta
  iterate 11 rw [if_neg (by omega)]

theorem em_rf (k r : Int) : emAct k r = rfAct k r := by
  unfold rfAct
  by_cases h1 : k = 1
  · subst h1
    rw [if_pos rfl]
    by_cases hr : 0 ≤ r ∧ r < 128
    · have := (em_small.1 ⟨r.toNat, by omega⟩).1
      simp only [Int.toNat_of_nonneg hr.1] at this
      exact this
    · have hl : emLook 1 r = none := em_far (by omega)
      rw [plain_far hr]
      have e : (isR r = true ∧ (32 ≤ r ∨ r = 9)) ↔ (32 ≤ r ∧ isR r = true) := ⟨fun q => ⟨by omega, q.1⟩, fun q => ⟨q.2, .inl q.1⟩⟩
      have e2 : ¬ ((1 : Int) = 2 ∧ 48 ≤ r ∧ r ≤ 57) := by omega
      unfold emAct
      rw [if_pos (.inl rfl)]
      simp only [hl, true_and, e]
      rw [if_neg e2]
  rw [if_neg h1]
  by_cases h2 : k = 2
  · subst h2
    rw [if_pos rfl]
    by_cases hr : 0 ≤ r ∧ r < 128
    · have := (em_small.1 ⟨r.toNat, by omega⟩).2
      simp only [Int.toNat_of_nonneg hr.1] at this
      exact this
    · have hl : emLook 2 r = none := em_far (by omega)
      rw [meta_far hr]
      unfold emAct
      rw [if_pos (.inr rfl)]
      simp only [hl]
      rw [if_neg (by omega), if_neg (by omega)]
  rw [if_neg h2]
  obtain ⟨a1, a2⟩ := rfArrow_last k
  by_cases hk : 0 ≤ k ∧ k < 16
  · have := em_small.2 ⟨k.toNat, by omega⟩
    simp only [Int.toNat_of_nonneg hk.1] at this
    rcases this with h | h | h
    · omega
    · omega
    · simp only [emAct, h1, h2, or_self, if_false, h]
      by_cases ha : rfArrow k = (0, 0, 0, 0)
      · simp [ha]
      · simp only [ha, if_false]
        rw [← a1]
  · have hl : emLook k 0 = none := em_far (by omega)
    simp only [emAct, h1, h2, or_self, if_false, hl, a2 (by omega)]
    simp

theorem eqA (a b c d a' b' c' d' : Int) : eqCells [0, 0, 0, 0] [.int .i64 a, .int .i64 b, .int .i64 c, .int .i32 d] [.int .i64 a', .int .i64 b', .int .i64 c', .int .i32 d'] = some (decide (a = a' ∧ b = b' ∧ c = c' ∧ d = d')) := by
  simp only [eqCells, eqCell, if_true]
  by_cases h1 : a = a' <;> by_cases h2 : b = b' <;> by_cases h3 : c = c' <;> by_cases h4 : d = d' <;> simp [h1, h2, h3, h4, beq_eq_false_iff_ne.2]

theorem pc_EmacsMaps (n : Nat) (k r : Int) : (W (n + 8)).pc 3 [.agg [.int .i64 k, .int .i32 r]] = some (.bool true) := by
  apply runs c_typebarlaw17_EmacsMaps
  have e1 := pc_emacs_Map (n + 4) k r
  have e2 := pc_ref17_Map (n + 4) k r
  rw [em_rf] at e1
  simp [X_typebarlaw17_EmacsMaps, pc_mapped, e1, e2, eqA]
  repeat' (first
    | simp (disch := omega) only [wrap_i64, wrap_i32]
    | (simp (disch := first | omega | assumption | (simp only [i64, i32]; omega) | (simp <;> omega) | fail) only [loadD_cpr, loadD_cprs, List.take_of_length_le]; simp [*, pc_mapped, e1, e2, eqA])
    | (with_reducible refine And.intro ?_ ?_; focus first | omega | decide)
    | (with_reducible refine split_ite (fun hp => ?_) (fun hp => ?_) <;> (try simp at hp) <;> simp [*, pc_mapped, e1, e2, eqA])
    | (with_reducible refine split_ite1 (fun hp => ?_) (fun hp => ?_) <;> (try simp at hp) <;> simp [*, pc_mapped, e1, e2, eqA])
    | (refine split_cond (by simp) (fun hp => ?_) (fun hp => ?_) <;> simp at hp <;> simp [*, pc_mapped, e1, e2, eqA])
    | (refine split_ops (by simp) (fun hp => ?_) (fun hp => ?_) <;> simp at hp <;> simp [*, pc_mapped, e1, e2, eqA])
    | (refine split_opsD (by simp) (fun hp => ?_) (fun hp => ?_) <;> simp at hp <;> simp [*, pc_mapped, e1, e2, eqA])
    | (refine split_pick (by simp) (fun hp => ?_) (fun hp => ?_) <;> simp at hp <;> simp [*, pc_mapped, e1, e2, eqA])
    | omega
    | decide
    | (simp [*, pc_mapped, e1, e2, eqA]))

/-- Is it put in as it is? -/
def emIns (r : Int) : Bool := decide (r = 9 ∨ (32 ≤ r ∧ r ≠ 127 ∧ isR r = true))

theorem ite_of {α : Type} {Q : α → Prop} {c : Prop} [Decidable c] {a b : α} (h1 : Q a) (h2 : Q b) : Q (if c then a else b) := by
  split
  · exact h1
  · exact h2

theorem em_ins (r : Int) : (emIns r = true ∧ emAct 1 r = (2, 0, 0, r)) ∨ (emIns r = false ∧ ∃ a b c d, emAct 1 r = (a, b, c, d) ∧ ¬ a = 2 ∧ ¬ a = 14) := by
  rw [em_rf]
  show (_ ∧ rfPlain r = _) ∨ (_ ∧ ∃ a b c d, rfPlain r = _ ∧ _)
  cases he : emIns r
  · refine .inr ⟨rfl, (rfPlain r).1, (rfPlain r).2.1, (rfPlain r).2.2.1, (rfPlain r).2.2.2, rfl, ?_⟩
    simp only [emIns, decide_eq_false_iff_not] at he
    by_cases h127 : r = 127
    · subst h127; decide
    · have hl : ¬ (r = 9 ∨ (32 ≤ r ∧ isR r = true)) := fun q => he (q.imp id fun q => ⟨q.1, h127, q.2⟩)
      unfold rfPlain
      rw [if_neg hl]
      refine ite_of (Q := fun x : Int × Int × Int × Int => ¬ x.1 = 2 ∧ ¬ x.1 = 14) (by decide) ?_
      iterate 19 refine ite_of (Q := fun x : Int × Int × Int × Int => ¬ x.1 = 2 ∧ ¬ x.1 = 14) (by decide) ?_
      decide
  · refine .inl ⟨rfl, ?_⟩
    simp only [emIns, decide_eq_true_eq] at he
    unfold rfPlain
    iterate 20 rw [if_neg (by omega)]
    rw [if_pos (he.imp id fun q => ⟨q.1, q.2.2⟩)]

theorem em_meta (r : Int) : ∃ a b c d, emAct 2 r = (a, b, c, d) ∧ ¬ a = 2 := by
  rw [em_rf]
  refine ⟨(rfMeta r).1, (rfMeta r).2.1, (rfMeta r).2.2.1, (rfMeta r).2.2.2, rfl, ?_⟩
  unfold rfMeta
  repeat' split
  all_goals first | decide | simp

theorem pc_EmacsInserts (n : Nat) (r : Int) : (W (n + 8)).pc 4 [.int .i32 r] = some (.bool true) := by
  by_cases h9 : r = 9
  · subst h9; kernel_rfl
  by_cases h127 : r = 127
  · subst h127; kernel_rfl
  apply runs c_typebarlaw17_EmacsInserts
  have e1 := pc_emacs_Map (n + 4) 1 r
  have e2 := pc_emacs_Map (n + 4) 2 r
  obtain ⟨a2, b2, c2, d2, h2, h2'⟩ := em_meta r
  rw [h2] at e2
  rcases em_ins r with ⟨hi, h1⟩ | ⟨hi, a, b, c, d, h1, h3, h4⟩
  · rw [h1] at e1
    simp only [emIns, h9, h127, false_or, ne_eq, not_false_eq_true, true_and, decide_eq_true_eq] at hi
    obtain ⟨i1, i2⟩ := hi
    simp [X_typebarlaw17_EmacsInserts, pc_mapped, e1, e2, eqA, h9, h127, i1, i2]
    repeat' (first
      | simp (disch := omega) only [wrap_i64, wrap_i32]
      | (simp (disch := first | omega | assumption | (simp only [i64, i32]; omega) | (simp <;> omega) | fail) only [loadD_cpr, loadD_cprs, List.take_of_length_le]; simp [*, pc_mapped, e1, e2, eqA])
      | (with_reducible refine And.intro ?_ ?_; focus first | omega | decide)
      | (with_reducible refine split_ite (fun hp => ?_) (fun hp => ?_) <;> (try simp at hp) <;> simp [*, pc_mapped, e1, e2, eqA])
      | (with_reducible refine split_ite1 (fun hp => ?_) (fun hp => ?_) <;> (try simp at hp) <;> simp [*, pc_mapped, e1, e2, eqA])
      | (refine split_cond (by simp) (fun hp => ?_) (fun hp => ?_) <;> simp at hp <;> simp [*, pc_mapped, e1, e2, eqA])
      | (refine split_ops (by simp) (fun hp => ?_) (fun hp => ?_) <;> simp at hp <;> simp [*, pc_mapped, e1, e2, eqA])
      | (refine split_opsD (by simp) (fun hp => ?_) (fun hp => ?_) <;> simp at hp <;> simp [*, pc_mapped, e1, e2, eqA])
      | (refine split_pick (by simp) (fun hp => ?_) (fun hp => ?_) <;> simp at hp <;> simp [*, pc_mapped, e1, e2, eqA])
      | omega
      | decide
      | (simp [*, pc_mapped, e1, e2, eqA]))
  · rw [h1] at e1
    simp only [emIns, h9, h127, false_or, ne_eq, not_false_eq_true, true_and, decide_eq_false_iff_not] at hi
    simp [X_typebarlaw17_EmacsInserts, pc_mapped, e1, e2, eqA, h9, h127]
    repeat' (first
      | simp (disch := omega) only [wrap_i64, wrap_i32]
      | (simp (disch := first | omega | assumption | (simp only [i64, i32]; omega) | (simp <;> omega) | fail) only [loadD_cpr, loadD_cprs, List.take_of_length_le]; simp [*, pc_mapped, e1, e2, eqA])
      | (with_reducible refine And.intro ?_ ?_; focus first | omega | decide)
      | (with_reducible refine split_ite (fun hp => ?_) (fun hp => ?_) <;> (try simp at hp) <;> simp [*, pc_mapped, e1, e2, eqA])
      | (with_reducible refine split_ite1 (fun hp => ?_) (fun hp => ?_) <;> (try simp at hp) <;> simp [*, pc_mapped, e1, e2, eqA])
      | (refine split_cond (by simp) (fun hp => ?_) (fun hp => ?_) <;> simp at hp <;> simp [*, pc_mapped, e1, e2, eqA])
      | (refine split_ops (by simp) (fun hp => ?_) (fun hp => ?_) <;> simp at hp <;> simp [*, pc_mapped, e1, e2, eqA])
      | (refine split_opsD (by simp) (fun hp => ?_) (fun hp => ?_) <;> simp at hp <;> simp [*, pc_mapped, e1, e2, eqA])
      | (refine split_pick (by simp) (fun hp => ?_) (fun hp => ?_) <;> simp at hp <;> simp [*, pc_mapped, e1, e2, eqA])
      | omega
      | decide
      | (simp [*, pc_mapped, e1, e2, eqA]))
    all_goals exact hi ⟨by assumption, by assumption⟩

def FP (r : Int) (x : Int × Int × Int × Int) : Prop := 0 ≤ x.1 ∧ x.1 ≤ 17 ∧ (x.2.2.2 = 0 ∨ ((x.1 = 2 ∨ x.1 = 14) ∧ x.2.2.2 = r)) ∧ (¬ x.1 = 1 → x.2.1 = 0 ∧ x.2.2.1 = 0) ∧ (x.1 = 1 → 1 ≤ x.2.1 ∧ x.2.1 ≤ 6 ∧ 0 ≤ x.2.2.1 ∧ x.2.2.1 ≤ 6 ∧ ¬ x.2.2.1 = 3 ∧ x.2.2.2 = 0)

theorem em_fields (k r : Int) : FP r (emAct k r) := by
  rw [em_rf]
  unfold rfAct
  refine ite_of (Q := FP r) ?_ (ite_of (Q := FP r) ?_ ?_)
  · unfold rfPlain
    repeat' refine ite_of (Q := FP r) ?_ ?_
    all_goals simp [FP]
  · unfold rfMeta
    repeat' refine ite_of (Q := FP r) ?_ ?_
    all_goals simp [FP]
  · unfold rfArrow
    repeat' refine ite_of (Q := FP r) ?_ ?_
    all_goals simp [FP]

theorem pc_EmacsFields (n : Nat) (k r : Int) : (W (n + 8)).pc 5 [.agg [.int .i64 k, .int .i32 r]] = some (.bool true) := by
  apply runs c_typebarlaw17_EmacsFields
  have e1 := pc_emacs_Map (n + 4) k r
  have h1 := em_fields k r
  revert e1 h1
  generalize emAct k r = x
  obtain ⟨a, b, c, d⟩ := x
  rintro e1 ⟨g1, g2, g3, g4, g5⟩
  simp only [] at g1 g2 g3 g4 g5
  have g3 : Keep _ := ⟨g3⟩
  have g4 : Keep _ := ⟨g4⟩
  have g5 : Keep _ := ⟨g5⟩
  simp [X_typebarlaw17_EmacsFields, pc_mapped, e1]
  repeat' (first
    | simp (disch := omega) only [wrap_i64, wrap_i32]
    | (simp (disch := first | omega | assumption | (simp only [i64, i32]; omega) | (simp <;> omega) | fail) only [loadD_cpr, loadD_cprs, List.take_of_length_le]; simp [*, pc_mapped, e1])
    | (with_reducible refine And.intro ?_ ?_; focus first | omega | decide)
    | (with_reducible refine split_ite (fun hp => ?_) (fun hp => ?_) <;> (try simp at hp) <;> simp [*, pc_mapped, e1])
    | (with_reducible refine split_ite1 (fun hp => ?_) (fun hp => ?_) <;> (try simp at hp) <;> simp [*, pc_mapped, e1])
    | (refine split_cond (by simp) (fun hp => ?_) (fun hp => ?_) <;> simp at hp <;> simp [*, pc_mapped, e1])
    | (refine split_ops (by simp) (fun hp => ?_) (fun hp => ?_) <;> simp at hp <;> simp [*, pc_mapped, e1])
    | (refine split_opsD (by simp) (fun hp => ?_) (fun hp => ?_) <;> simp at hp <;> simp [*, pc_mapped, e1])
    | (refine split_pick (by simp) (fun hp => ?_) (fun hp => ?_) <;> simp at hp <;> simp [*, pc_mapped, e1])
    | omega
    | decide
    | (simp [*, pc_mapped, e1]))

end Go.Proofs.Ytlpgpnjplijgiaa
