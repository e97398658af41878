/- What slices.Concat computes. -/
import Derived.Test.YtcaglmjfphjpfaaGreatRepeat
import Derived.Test.YtcaglmjfphjpfaaGreatKillA
namespace Go.Proofs.YtcaglmjfphjpfaaGreat
open Go E
set_option linter.unusedSimpArgs false
set_option linter.unusedVariables false
set_option maxRecDepth 100000

/-- The first k of some rows, one behind the other. -/
def flt (L : List (List Int)) (k : Nat) : List Int := (L.take k).flatten

theorem flt_zero (L : List (List Int)) : flt L 0 = [] := rfl

theorem flt_at {L : List (List Int)} {k : Nat} (h : k < L.length) : flt L (k + 1) = flt L k ++ L[k] := by
  rw [flt, ← List.take_append_getElem h, List.flatten_append]; simp [flt]

theorem flt_all (L : List (List Int)) : flt L L.length = L.flatten := by simp [flt]

theorem flt_le (L : List (List Int)) (k : Nat) : (flt L k).length ≤ (flt L L.length).length := by
  rw [flt_all]
  conv => rhs; rw [← List.take_append_drop k L]
  rw [List.flatten_append, List.length_append, flt]; omega

theorem over_app (X r : List Int) (N : Nat) (h : X.length + r.length ≤ N) : over (X ++ List.replicate (N - X.length) 0) X.length r = (X ++ r) ++ List.replicate (N - (X ++ r).length) 0 := by
  simp only [over]
  rw [List.take_left, ← List.drop_drop, List.drop_left, List.drop_replicate, List.length_append]
  congr 2
  omega

theorem pc_Concat (n : Nat) (L : List (List Int)) (hL : L.length < 2000000) (hl : L.flatten.length < 2000000) : (W (n + 2)).pc 68 [rrn L] = some (rn L.flatten) := by
  rw [← flt_all] at hl ⊢
  apply runsM c_slices_Concat_S_rune_rune
  have m1 : modes 68 90 = 2 := id rfl
  have m2 : ∀ g, modes 90 g = 0 := fun _ => id rfl
  simp [X_slices_Concat_S_rune_rune]
  refine aw_rounds (fun m st => ∃ k : Nat, st = ⟨tab [(0, rrn L), (3, .int .i64 (flt L k).length), (9, rrn L), (10, .int .i64 L.length), (11, .int .i64 k)], []⟩ ∧ k ≤ L.length ∧ m = L.length - k + 1 ∧ Keep (True)) ?_ ?_ (n := L.length - (0) + 1) (by first | omega | (simp; omega)) ?_
  · rintro st ⟨k, hx⟩; omega
  rotate_left
  · exact ⟨0, by first | rfl | (simp [*, accS, accH]; done) | (simp only [*]; done) | (congr 1 <;> simp [*, accS, accH]; done) | (congr 1 <;> simp [*, accS, accH] <;> rfl) | (congr 1 <;> congr 1 <;> simp <;> omega), by first | omega | (simp; omega) | simp [*], by first | rfl | (simp; done) | omega, ⟨trivial⟩⟩
  rintro Ja ma _ ⟨k, rfl, fa1, hma, hqa⟩ hJa
  by_cases hk : k < L.length
  · have hk' : (k : Int) < L.length := by omega
    have e2 : (flt L (k + 1)).length = (flt L k).length + L[k].length := by rw [flt_at hk, List.length_append]
    have e3 := flt_le L (k + 1)
    have q1 : ¬ ((flt L k).length : Int) + L[k].length < 0 := by omega
    simp [hk, hk']
    repeat' (first
      | simp (disch := omega) only [wrap_i64, wrap_i32]
      | (simp (disch := first | omega | assumption | (simp only [i64, i32]; omega) | (simp <;> omega) | fail) only [loadD_cpr, loadD_cprs, List.take_of_length_le]; simp [*])
      | (with_reducible refine And.intro ?_ ?_; focus first | omega | decide)
      | (with_reducible refine split_ite (fun hp => ?_) (fun hp => ?_) <;> (try simp at hp) <;> simp [*])
      | (with_reducible refine split_ite1 (fun hp => ?_) (fun hp => ?_) <;> (try simp at hp) <;> simp [*])
      | (refine split_cond (by simp) (fun hp => ?_) (fun hp => ?_) <;> simp at hp <;> simp [*])
      | (refine split_ops (by simp) (fun hp => ?_) (fun hp => ?_) <;> simp at hp <;> simp [*])
      | (refine split_opsD (by simp) (fun hp => ?_) (fun hp => ?_) <;> simp at hp <;> simp [*])
      | (refine split_pick (by simp) (fun hp => ?_) (fun hp => ?_) <;> simp at hp <;> simp [*])
      | omega
      | decide
      | (simp [*]))
    rw [← Int.natCast_add, ← e2]
    exact hJa.out _ ⟨k + 1, by first | rfl | (simp [*, accS, accH]; done) | (simp only [*]; done) | (congr 1 <;> simp [*, accS, accH]; done) | (congr 1 <;> simp [*, accS, accH] <;> rfl) | (congr 1 <;> congr 1 <;> simp <;> omega), by first | omega | (simp; omega) | simp [*], by omega, ⟨trivial⟩⟩
  · have hk' : ¬ (k : Int) < L.length := by omega
    obtain rfl : k = L.length := by omega
    simp [m1]
    refine inline c_slices_Grow_S_rune_rune ?_
    have e5 : sliceD 1 (.arr 0 true []) none (some (.int .i64 0)) none = some (.arr 0 true []) := rfl
    have hz := zeros_rune (flt L L.length).length
    by_cases hN : flt L L.length = []
    · simp [X_slices_Grow_S_rune_rune, hN]
      repeat' (first
        | simp (disch := omega) only [wrap_i64, wrap_i32]
        | (simp (disch := first | omega | assumption | (simp only [i64, i32]; omega) | (simp <;> omega) | fail) only [loadD_cpr, loadD_cprs, List.take_of_length_le]; simp [*, hN])
        | (with_reducible refine And.intro ?_ ?_; focus first | omega | decide)
        | (with_reducible refine split_ite (fun hp => ?_) (fun hp => ?_) <;> (try simp at hp) <;> simp [*, hN])
        | (with_reducible refine split_ite1 (fun hp => ?_) (fun hp => ?_) <;> (try simp at hp) <;> simp [*, hN])
        | (refine split_cond (by simp) (fun hp => ?_) (fun hp => ?_) <;> simp at hp <;> simp [*, hN])
        | (refine split_ops (by simp) (fun hp => ?_) (fun hp => ?_) <;> simp at hp <;> simp [*, hN])
        | (refine split_opsD (by simp) (fun hp => ?_) (fun hp => ?_) <;> simp at hp <;> simp [*, hN])
        | (refine split_pick (by simp) (fun hp => ?_) (fun hp => ?_) <;> simp at hp <;> simp [*, hN])
        | omega
        | decide
        | (simp [*, hN]))
      refine aw_rounds (fun m st => ∃ k : Nat, st = ⟨tab [(6, .arr 0 true []), (25, rrn L), (26, .int .i64 L.length), (27, .int .i64 k)], []⟩ ∧ k ≤ L.length ∧ m = L.length - k + 1 ∧ Keep (True)) ?_ ?_ (n := L.length - (0) + 1) (by first | omega | (simp; omega)) ?_
      · rintro st ⟨k, hx⟩; omega
      rotate_left
      · exact ⟨0, by first | rfl | (simp [*, accS, accH]; done) | (simp only [*]; done) | (congr 1 <;> simp [*, accS, accH]; done) | (congr 1 <;> simp [*, accS, accH] <;> rfl) | (congr 1 <;> congr 1 <;> simp <;> omega), by first | omega | (simp; omega) | simp [*], by first | rfl | (simp; done) | omega, ⟨trivial⟩⟩
      rintro Jc mc _ ⟨k, rfl, fc1, hmc, hqc⟩ hJc
      by_cases hk : k < L.length
      · have hk' : (k : Int) < L.length := by omega
        have e3 := flt_le L (k + 1)
        have h0 : L[k] = [] := by
          rw [hN, flt_at hk] at e3
          exact List.eq_nil_of_length_eq_zero (by simp at e3; simp [e3])
        simp [hk, hk']
        repeat' (first
          | simp (disch := omega) only [wrap_i64, wrap_i32]
          | (simp (disch := first | omega | assumption | (simp only [i64, i32]; omega) | (simp <;> omega) | fail) only [loadD_cpr, loadD_cprs, List.take_of_length_le]; simp [*, h0, nilR])
          | (with_reducible refine And.intro ?_ ?_; focus first | omega | decide)
          | (with_reducible refine split_ite (fun hp => ?_) (fun hp => ?_) <;> (try simp at hp) <;> simp [*, h0, nilR])
          | (with_reducible refine split_ite1 (fun hp => ?_) (fun hp => ?_) <;> (try simp at hp) <;> simp [*, h0, nilR])
          | (refine split_cond (by simp) (fun hp => ?_) (fun hp => ?_) <;> simp at hp <;> simp [*, h0, nilR])
          | (refine split_ops (by simp) (fun hp => ?_) (fun hp => ?_) <;> simp at hp <;> simp [*, h0, nilR])
          | (refine split_opsD (by simp) (fun hp => ?_) (fun hp => ?_) <;> simp at hp <;> simp [*, h0, nilR])
          | (refine split_pick (by simp) (fun hp => ?_) (fun hp => ?_) <;> simp at hp <;> simp [*, h0, nilR])
          | omega
          | decide
          | (simp [*, h0, nilR]))
        rw [← nilR]
        exact hJc.out _ ⟨k + 1, by first | rfl | (simp [*, accS, accH]; done) | (simp only [*]; done) | (congr 1 <;> simp [*, accS, accH]; done) | (congr 1 <;> simp [*, accS, accH] <;> rfl) | (congr 1 <;> congr 1 <;> simp <;> omega), by first | omega | (simp; omega) | simp [*], by omega, ⟨trivial⟩⟩
      · have hk' : ¬ (k : Int) < L.length := by omega
        obtain rfl : k = L.length := by omega
        simp [hN]
        all_goals rfl
    · have hNp : 0 < (flt L L.length).length := List.length_pos_iff.2 hN
      have hNq : 0 < ((flt L L.length).length : Int) := by omega
      simp [X_slices_Grow_S_rune_rune]
      repeat' (first
        | simp (disch := omega) only [wrap_i64, wrap_i32]
        | (simp (disch := first | omega | assumption | (simp only [i64, i32]; omega) | (simp <;> omega) | fail) only [loadD_cpr, loadD_cprs, List.take_of_length_le]; simp [*, e5, hz, hN, hNp, hNq])
        | (with_reducible refine And.intro ?_ ?_; focus first | omega | decide)
        | (with_reducible refine split_ite (fun hp => ?_) (fun hp => ?_) <;> (try simp at hp) <;> simp [*, e5, hz, hN, hNp, hNq])
        | (with_reducible refine split_ite1 (fun hp => ?_) (fun hp => ?_) <;> (try simp at hp) <;> simp [*, e5, hz, hN, hNp, hNq])
        | (refine split_cond (by simp) (fun hp => ?_) (fun hp => ?_) <;> simp at hp <;> simp [*, e5, hz, hN, hNp, hNq])
        | (refine split_ops (by simp) (fun hp => ?_) (fun hp => ?_) <;> simp at hp <;> simp [*, e5, hz, hN, hNp, hNq])
        | (refine split_opsD (by simp) (fun hp => ?_) (fun hp => ?_) <;> simp at hp <;> simp [*, e5, hz, hN, hNp, hNq])
        | (refine split_pick (by simp) (fun hp => ?_) (fun hp => ?_) <;> simp at hp <;> simp [*, e5, hz, hN, hNp, hNq])
        | omega
        | decide
        | (simp [*, e5, hz, hN, hNp, hNq]))
      all_goals first | (exfalso; exact absurd (by assumption : flt L L.length = []) hN) | skip
      have e6 : sliceD 1 (.ref 0 0 (flt L L.length).length 1 (flt L L.length).length false) none (some (.int .i64 0)) none = some (.ref 0 0 0 1 (flt L L.length).length false) := by simp
      refine aw_rounds (fun m st => ∃ k : Nat, st = ⟨tab [(6, .ref 0 0 (flt L k).length 1 (flt L L.length).length false), (25, rrn L), (26, .int .i64 L.length), (27, .int .i64 k)], ⟨cells runeC (flt L k ++ List.replicate ((flt L L.length).length - (flt L k).length) 0), 0, false⟩ :: []⟩ ∧ k ≤ L.length ∧ m = L.length - k + 1 ∧ Keep (True)) ?_ ?_ (n := L.length - (0) + 1) (by first | omega | (simp; omega)) ?_
      · rintro st ⟨k, hx⟩; omega
      rotate_left
      · exact ⟨0, by first | rfl | (simp [*, accS, accH]; done) | (simp only [*]; done) | (congr 1 <;> simp [*, accS, accH]; done) | (congr 1 <;> simp [*, accS, accH] <;> rfl) | (congr 1 <;> congr 1 <;> simp <;> omega), by first | omega | (simp; omega) | simp [*], by first | rfl | (simp; done) | omega, ⟨trivial⟩⟩
      rintro Jb mb _ ⟨k, rfl, fb1, hmb, hqb⟩ hJb
      by_cases hk : k < L.length
      · have hk' : (k : Int) < L.length := by omega
        have e1 := Keep.mk (flt_at hk)
        have e2 : (flt L (k + 1)).length = (flt L k).length + L[k].length := by rw [flt_at hk, List.length_append]
        have e3 := flt_le L (k + 1)
        simp [hk, hk']
        by_cases h0 : L[k] = []
        · repeat' (first
            | simp (disch := omega) only [wrap_i64, wrap_i32]
            | (simp (disch := first | omega | assumption | (simp only [i64, i32]; omega) | (simp <;> omega) | fail) only [loadD_cpr, loadD_cprs, List.take_of_length_le]; simp [*, h0])
            | (with_reducible refine And.intro ?_ ?_; focus first | omega | decide)
            | (with_reducible refine split_ite (fun hp => ?_) (fun hp => ?_) <;> (try simp at hp) <;> simp [*, h0])
            | (with_reducible refine split_ite1 (fun hp => ?_) (fun hp => ?_) <;> (try simp at hp) <;> simp [*, h0])
            | (refine split_cond (by simp) (fun hp => ?_) (fun hp => ?_) <;> simp at hp <;> simp [*, h0])
            | (refine split_ops (by simp) (fun hp => ?_) (fun hp => ?_) <;> simp at hp <;> simp [*, h0])
            | (refine split_opsD (by simp) (fun hp => ?_) (fun hp => ?_) <;> simp at hp <;> simp [*, h0])
            | (refine split_pick (by simp) (fun hp => ?_) (fun hp => ?_) <;> simp at hp <;> simp [*, h0])
            | omega
            | decide
            | (simp [*, h0]))
          have e4 : flt L k = flt L (k + 1) := by rw [e1.out, h0, List.append_nil]
          rw [← cells_append, e4]
          exact hJb.out _ ⟨k + 1, by first | rfl | (simp [*, accS, accH]; done) | (simp only [*]; done) | (congr 1 <;> simp [*, accS, accH]; done) | (congr 1 <;> simp [*, accS, accH] <;> rfl) | (congr 1 <;> congr 1 <;> simp <;> omega), by first | omega | (simp; omega) | simp [*], by omega, ⟨trivial⟩⟩
        · have h0p : 0 < L[k].length := List.length_pos_iff.2 h0
          have q3 : (flt L k).length < (flt L L.length).length := by omega
          repeat' (first
            | simp (disch := omega) only [wrap_i64, wrap_i32]
            | (simp (disch := first | omega | assumption | (simp only [i64, i32]; omega) | (simp <;> omega) | fail) only [loadD_cpr, loadD_cprs, List.take_of_length_le]; simp [*, h0, q3])
            | (with_reducible refine And.intro ?_ ?_; focus first | omega | decide)
            | (with_reducible refine split_ite (fun hp => ?_) (fun hp => ?_) <;> (try simp at hp) <;> simp [*, h0, q3])
            | (with_reducible refine split_ite1 (fun hp => ?_) (fun hp => ?_) <;> (try simp at hp) <;> simp [*, h0, q3])
            | (refine split_cond (by simp) (fun hp => ?_) (fun hp => ?_) <;> simp at hp <;> simp [*, h0, q3])
            | (refine split_ops (by simp) (fun hp => ?_) (fun hp => ?_) <;> simp at hp <;> simp [*, h0, q3])
            | (refine split_opsD (by simp) (fun hp => ?_) (fun hp => ?_) <;> simp at hp <;> simp [*, h0, q3])
            | (refine split_pick (by simp) (fun hp => ?_) (fun hp => ?_) <;> simp at hp <;> simp [*, h0, q3])
            | omega
            | decide
            | (simp [*, h0, q3]))
          all_goals (rw [← cells_append, putAt_cells rfl, over_app _ _ _ (by omega), ← e1.out, ← e2])
          exact hJb.out _ ⟨k + 1, by first | rfl | (simp [*, accS, accH]; done) | (simp only [*]; done) | (congr 1 <;> simp [*, accS, accH]; done) | (congr 1 <;> simp [*, accS, accH] <;> rfl) | (congr 1 <;> congr 1 <;> simp <;> omega), by first | omega | (simp; omega) | simp [*], by omega, ⟨trivial⟩⟩
      · have hk' : ¬ (k : Int) < L.length := by omega
        obtain rfl : k = L.length := by omega
        repeat' (first
          | simp (disch := omega) only [wrap_i64, wrap_i32]
          | (simp (disch := first | omega | assumption | (simp only [i64, i32]; omega) | (simp <;> omega) | fail) only [loadD_cpr, loadD_cprs, List.take_of_length_le]; simp [*, hk'])
          | (with_reducible refine And.intro ?_ ?_; focus first | omega | decide)
          | (with_reducible refine split_ite (fun hp => ?_) (fun hp => ?_) <;> (try simp at hp) <;> simp [*, hk'])
          | (with_reducible refine split_ite1 (fun hp => ?_) (fun hp => ?_) <;> (try simp at hp) <;> simp [*, hk'])
          | (refine split_cond (by simp) (fun hp => ?_) (fun hp => ?_) <;> simp at hp <;> simp [*, hk'])
          | (refine split_ops (by simp) (fun hp => ?_) (fun hp => ?_) <;> simp at hp <;> simp [*, hk'])
          | (refine split_opsD (by simp) (fun hp => ?_) (fun hp => ?_) <;> simp at hp <;> simp [*, hk'])
          | (refine split_pick (by simp) (fun hp => ?_) (fun hp => ?_) <;> simp at hp <;> simp [*, hk'])
          | omega
          | decide
          | (simp [*, hk']))
        all_goals trace_state

end Go.Proofs.YtcaglmjfphjpfaaGreat
