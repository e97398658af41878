/- What layer 3's and 7's tests compute. -/
import Derived.Test.YtccinlhenkkpeaaDoorRenJ
namespace Go.Proofs.YtccinlhenkkpeaaDoor
open Go E
set_option linter.unusedSimpArgs false
set_option linter.unusedVariables false
set_option maxRecDepth 100000

/-- Is a cell right? -/
def celIs (c : Int × Int) : Bool := shownR c.1 && decide (0 ≤ c.2 ∧ c.2 ≤ 2) && (wideR c.1 == decide (c.2 ≠ 0))

theorem pc_wide_Is (n : Nat) (c : Int × Int) : (W (n + 4)).pc 52 [.agg [.int .i32 c.1, .int .i64 c.2]] = some (.bool (celIs c)) := by
  apply runs c_wide_Is
  have hs := pc_wide_Shown n c.1
  have hw := pc_wide_Wide (n + 2) c.1
  cases h1 : shownR c.1 <;> rw [h1] at hs
  · have he : celIs c = false := by simp [celIs, h1]
    simp [X_wide_Is, hs, he]
  · cases h2 : wideR c.1 <;> rw [h2] at hw
    all_goals
      simp [X_wide_Is, hs, hw]
      repeat' (first
        | simp (disch := omega) only [wrap_i64, wrap_i32]
        | (simp (disch := first | omega | assumption | (simp only [i64, i32]; omega) | (simp <;> omega) | fail) only [loadD_cpr, loadD_cprs, List.take_of_length_le]; simp [*, hs, hw])
        | (with_reducible refine And.intro ?_ ?_; focus first | omega | decide)
        | (with_reducible refine split_ite (fun hp => ?_) (fun hp => ?_) <;> (try simp at hp) <;> simp [*, hs, hw])
        | (with_reducible refine split_ite1 (fun hp => ?_) (fun hp => ?_) <;> (try simp at hp) <;> simp [*, hs, hw])
        | (refine split_cond (by simp) (fun hp => ?_) (fun hp => ?_) <;> simp at hp <;> simp [*, hs, hw])
        | (refine split_ops (by simp) (fun hp => ?_) (fun hp => ?_) <;> simp at hp <;> simp [*, hs, hw])
        | (refine split_opsD (by simp) (fun hp => ?_) (fun hp => ?_) <;> simp at hp <;> simp [*, hs, hw])
        | (refine split_pick (by simp) (fun hp => ?_) (fun hp => ?_) <;> simp at hp <;> simp [*, hs, hw])
        | omega
        | decide
        | (simp [*, hs, hw]))
    all_goals grind [celIs]

/-- Are a row's cells right, and its halves together? -/
def rowS : Int × Int → List (Int × Int) → Bool
  | want, [] => decide (want.1 = 0 ∧ want.2 = 0)
  | want, c :: r => celIs c && (decide (want.1 = 0 ∧ want.2 = 0) != decide (c.2 = 2)) && (decide (want.1 = 0 ∧ want.2 = 0) || decide (c.1 = want.1 ∧ c.2 = want.2)) &&
    rowS (if c.2 = 1 then (c.1, 2) else (0, 0)) r

theorem rowS_at {want : Int × Int} {l : List (Int × Int)} {i : Nat} (h : i < l.length) : rowS want (l.drop i) =
    (celIs l[i] && (decide (want.1 = 0 ∧ want.2 = 0) != decide (l[i].2 = 2)) && (decide (want.1 = 0 ∧ want.2 = 0) || decide (l[i].1 = want.1 ∧ l[i].2 = want.2)) &&
    rowS (if l[i].2 = 1 then (l[i].1, 2) else (0, 0)) (l.drop (i + 1))) := by
  rw [List.drop_eq_getElem_cons h]; rfl

theorem pc_grid_rowIs (n : Nat) (l : List (Int × Int)) (hl : l.length < 2000000) : (W (n + 5)).pc 43 [crn l] = some (.bool (rowS (0, 0) l)) := by
  apply runs c_grid_rowIs
  simp [X_grid_rowIs]
  refine aw_rounds (fun m st => ∃ i : Nat, ∃ x : Int × Int, ∃ R : List Blk, st = ⟨tab [(3, .ptr 0 0 2), (8, crn l), (9, .int .i64 l.length), (10, .int .i64 i)], ⟨[.int .i32 x.1, .int .i64 x.2], 0, true⟩ :: R⟩ ∧ i ≤ l.length ∧ m = l.length - i + 1 ∧ Keep (rowS (0, 0) l = rowS x (l.drop i))) ?_ ?_ (n := l.length - (0) + 1) (by first | omega | (simp; omega)) ?_
  · rintro st ⟨i, x, hx⟩; omega
  rotate_left
  · exact ⟨0, (0, 0), _, by first | rfl | (simp [*, accS, accH]; done) | (simp only [*]; done) | (congr 1 <;> simp [*, accS, accH]; done) | (congr 1 <;> simp [*, accS, accH] <;> rfl) | (congr 1 <;> congr 1 <;> simp <;> omega), by first | omega | (simp; omega) | simp [*], by first | rfl | (simp; done) | omega, ⟨by simp⟩⟩
  rintro Ja ma _ ⟨i, x, Ra, rfl, fa1, hma, hqa⟩ hJa
  by_cases hi : i < l.length
  · have hi' : (i : Int) < l.length := by omega
    have hq := hqa.out
    rw [rowS_at hi] at hq
    have hc := pc_wide_Is n l[i]
    cases h1 : celIs l[i] <;> rw [h1] at hc hq
    · have he : rowS (0, 0) l = false := by simpa using hq
      simp [hi, hi']
      repeat' (first
        | simp (disch := omega) only [wrap_i64, wrap_i32]
        | (simp (disch := first | omega | assumption | (simp only [i64, i32]; omega) | (simp <;> omega) | fail) only [loadD_cpr, loadD_cprs, List.take_of_length_le]; simp [*, hc, he])
        | (with_reducible refine And.intro ?_ ?_; focus first | omega | decide)
        | (with_reducible refine split_ite (fun hp => ?_) (fun hp => ?_) <;> (try simp at hp) <;> simp [*, hc, he])
        | (with_reducible refine split_ite1 (fun hp => ?_) (fun hp => ?_) <;> (try simp at hp) <;> simp [*, hc, he])
        | (refine split_cond (by simp) (fun hp => ?_) (fun hp => ?_) <;> simp at hp <;> simp [*, hc, he])
        | (refine split_ops (by simp) (fun hp => ?_) (fun hp => ?_) <;> simp at hp <;> simp [*, hc, he])
        | (refine split_opsD (by simp) (fun hp => ?_) (fun hp => ?_) <;> simp at hp <;> simp [*, hc, he])
        | (refine split_pick (by simp) (fun hp => ?_) (fun hp => ?_) <;> simp at hp <;> simp [*, hc, he])
        | omega
        | decide
        | (simp [*, hc, he]))
    · replace hq := Keep.mk hq
      simp [hi, hi']
      repeat' (first
        | simp (disch := omega) only [wrap_i64, wrap_i32]
        | (simp (disch := first | omega | assumption | (simp only [i64, i32]; omega) | (simp <;> omega) | fail) only [loadD_cpr, loadD_cprs, List.take_of_length_le]; simp [*, hc, eqCells_ii])
        | (with_reducible refine And.intro ?_ ?_; focus first | omega | decide)
        | (with_reducible refine split_ite (fun hp => ?_) (fun hp => ?_) <;> (try simp at hp) <;> simp [*, hc, eqCells_ii])
        | (with_reducible refine split_ite1 (fun hp => ?_) (fun hp => ?_) <;> (try simp at hp) <;> simp [*, hc, eqCells_ii])
        | (refine split_cond (by simp) (fun hp => ?_) (fun hp => ?_) <;> simp at hp <;> simp [*, hc, eqCells_ii])
        | (refine split_ops (by simp) (fun hp => ?_) (fun hp => ?_) <;> simp at hp <;> simp [*, hc, eqCells_ii])
        | (refine split_opsD (by simp) (fun hp => ?_) (fun hp => ?_) <;> simp at hp <;> simp [*, hc, eqCells_ii])
        | (refine split_pick (by simp) (fun hp => ?_) (fun hp => ?_) <;> simp at hp <;> simp [*, hc, eqCells_ii])
        | omega
        | decide
        | (simp [*, hc, eqCells_ii]))
      · rw [hq.out]; grind
      · rw [hq.out]; grind
      · exact hJa.out _ ⟨i + 1, (0, 0), _, by first | rfl | (simp [*, accS, accH]; done) | (simp only [*]; done) | (congr 1 <;> simp [*, accS, accH]; done) | (congr 1 <;> simp [*, accS, accH] <;> rfl) | (congr 1 <;> congr 1 <;> simp <;> omega), by first | omega | (simp; omega) | simp [*], by omega, ⟨by rw [hq.out]; grind⟩⟩
      · exact hJa.out _ ⟨i + 1, (l[i].1, 2), _, by first | rfl | (simp [*, accS, accH]; done) | (simp only [*]; done) | (congr 1 <;> simp [*, accS, accH]; done) | (congr 1 <;> simp [*, accS, accH] <;> rfl) | (congr 1 <;> congr 1 <;> simp <;> omega), by first | omega | (simp; omega) | simp [*], by omega, ⟨by rw [hq.out]; grind⟩⟩
      · exact hJa.out _ ⟨i + 1, (0, 0), _, by first | rfl | (simp [*, accS, accH]; done) | (simp only [*]; done) | (congr 1 <;> simp [*, accS, accH]; done) | (congr 1 <;> simp [*, accS, accH] <;> rfl) | (congr 1 <;> congr 1 <;> simp <;> omega), by first | omega | (simp; omega) | simp [*], by omega, ⟨by rw [hq.out]; grind⟩⟩
  · have he : rowS (0, 0) l = decide (x.1 = 0 ∧ x.2 = 0) := by
      rw [hqa.out, List.drop_of_length_le (by omega)]; rfl
    simp [hi]
    repeat' (first
      | simp (disch := omega) only [wrap_i64, wrap_i32]
      | (simp (disch := first | omega | assumption | (simp only [i64, i32]; omega) | (simp <;> omega) | fail) only [loadD_cpr, loadD_cprs, List.take_of_length_le]; simp [*, eqCells_ii, he])
      | (with_reducible refine And.intro ?_ ?_; focus first | omega | decide)
      | (with_reducible refine split_ite (fun hp => ?_) (fun hp => ?_) <;> (try simp at hp) <;> simp [*, eqCells_ii, he])
      | (with_reducible refine split_ite1 (fun hp => ?_) (fun hp => ?_) <;> (try simp at hp) <;> simp [*, eqCells_ii, he])
      | (refine split_cond (by simp) (fun hp => ?_) (fun hp => ?_) <;> simp at hp <;> simp [*, eqCells_ii, he])
      | (refine split_ops (by simp) (fun hp => ?_) (fun hp => ?_) <;> simp at hp <;> simp [*, eqCells_ii, he])
      | (refine split_opsD (by simp) (fun hp => ?_) (fun hp => ?_) <;> simp at hp <;> simp [*, eqCells_ii, he])
      | (refine split_pick (by simp) (fun hp => ?_) (fun hp => ?_) <;> simp at hp <;> simp [*, eqCells_ii, he])
      | omega
      | decide
      | (simp [*, eqCells_ii, he]))

end Go.Proofs.YtccinlhenkkpeaaDoor
