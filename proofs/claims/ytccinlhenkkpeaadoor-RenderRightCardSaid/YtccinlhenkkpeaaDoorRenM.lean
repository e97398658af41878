/- What layer 3's New and Is, and layer 7's Is, compute. -/
import Derived.Test.YtccinlhenkkpeaaDoorRenL
namespace Go.Proofs.YtccinlhenkkpeaaDoor
open Go E
set_option linter.unusedSimpArgs false
set_option linter.unusedVariables false
set_option maxRecDepth 100000

theorem pc_grid_Is (n w h : Nat) (l : List (Int × Int)) (hw : 2 ≤ w ∧ w ≤ 80) (hh : 1 ≤ h ∧ h ≤ 24) (hl : l.length = w * h) (hr : ∀ y, y < h → rowS (0, 0) ((l.drop (y * w)).take w) = true) :
    (W (n + 6)).pc 29 [.agg [.int .i64 w, .int .i64 h, crn l]] = some (.bool true) := by
  apply runs c_grid_Is
  have hm : w * h ≤ 80 * 24 := Nat.mul_le_mul hw.2 hh.2
  have e1 : ¬ (w : Int) < 2 := by omega
  have e2 : ¬ (80 : Int) < w := by omega
  have e3 : ¬ (h : Int) < 1 := by omega
  have e4 : ¬ (24 : Int) < h := by omega
  have e5 : IntKind.i64.wrap ((w : Int) * h) = (l.length : Int) := by
    rw [hl, show ((w : Int) * h) = ((w * h : Nat) : Int) by simp]
    exact wrap_i64 (by omega)
  simp [X_grid_Is, e1, e2, e3, e4, e5]
  refine aw_rounds (fun m st => ∃ y : Nat, st = ⟨tab [(1, .ptr 0 0 3), (34, .int .i64 h), (35, .int .i64 y)], [⟨[.int .i64 w, .int .i64 h, crn l], 0, true⟩]⟩ ∧ y ≤ h ∧ m = h - y + 1 ∧ Keep (True)) ?_ ?_ (n := h - (0) + 1) (by first | omega | (simp; omega)) ?_
  · rintro st ⟨y, hx⟩; omega
  rotate_left
  · exact ⟨0, by first | rfl | (simp [*, accS, accH]; done) | (simp only [*]; done) | (congr 1 <;> simp [*, accS, accH]; done) | (congr 1 <;> simp [*, accS, accH] <;> rfl) | (congr 1 <;> congr 1 <;> simp <;> omega), by first | omega | (simp; omega) | simp [*], by first | rfl | (simp; done) | omega, ⟨trivial⟩⟩
  rintro Ja ma _ ⟨y, rfl, fa1, hma, hqa⟩ hJa
  by_cases hy : y < h
  · have hy' : (y : Int) < h := by omega
    have hmy : y * w + w ≤ w * h := by
      have : (y + 1) * w ≤ h * w := Nat.mul_le_mul_right _ hy
      rw [Nat.succ_mul, Nat.mul_comm h] at this
      exact this
    obtain ⟨P, hP⟩ : ∃ P, P = y * w := ⟨_, rfl⟩
    obtain ⟨Q, hQ⟩ : ∃ Q, Q = P + w := ⟨_, rfl⟩
    have f1 : IntKind.i64.wrap ((y : Int) * w) = (P : Int) := by
      rw [hP, show ((y : Int) * w) = ((y * w : Nat) : Int) by simp]
      exact wrap_i64 (by omega)
    have f2 : IntKind.i64.wrap ((y : Int) + 1) = (y : Int) + 1 := wrap_i64 (by omega)
    have f3 : IntKind.i64.wrap (((y : Int) + 1) * w) = (Q : Int) := by
      rw [hQ, hP, show (((y : Int) + 1) * w) = ((y * w + w : Nat) : Int) by rw [← Nat.succ_mul]; simp]
      exact wrap_i64 (by omega)
    have hrow := pc_grid_rowIs n ((l.drop P).take w) (by simp; omega)
    rw [hP, hr y hy, ← hP] at hrow
    have g1 : (P : Int) ≤ Q := by omega
    have g2 : (Q : Int) ≤ l.length := by omega
    have g3 : Q - P = w := by omega
    clear hP hQ hmy
    simp [hy, hy', f1, f2, f3]
    repeat' (first
      | simp (disch := omega) only [wrap_i64, wrap_i32]
      | (simp (disch := first | omega | assumption | (simp only [i64, i32]; omega) | (simp <;> omega) | fail) only [loadD_cpr, loadD_cprs, List.take_of_length_le]; simp [*, f1, f2, f3, g1, g2, g3, hrow])
      | (with_reducible refine And.intro ?_ ?_; focus first | omega | decide)
      | (with_reducible refine split_ite (fun hp => ?_) (fun hp => ?_) <;> (try simp at hp) <;> simp [*, f1, f2, f3, g1, g2, g3, hrow])
      | (with_reducible refine split_ite1 (fun hp => ?_) (fun hp => ?_) <;> (try simp at hp) <;> simp [*, f1, f2, f3, g1, g2, g3, hrow])
      | (refine split_cond (by simp) (fun hp => ?_) (fun hp => ?_) <;> simp at hp <;> simp [*, f1, f2, f3, g1, g2, g3, hrow])
      | (refine split_ops (by simp) (fun hp => ?_) (fun hp => ?_) <;> simp at hp <;> simp [*, f1, f2, f3, g1, g2, g3, hrow])
      | (refine split_opsD (by simp) (fun hp => ?_) (fun hp => ?_) <;> simp at hp <;> simp [*, f1, f2, f3, g1, g2, g3, hrow])
      | (refine split_pick (by simp) (fun hp => ?_) (fun hp => ?_) <;> simp at hp <;> simp [*, f1, f2, f3, g1, g2, g3, hrow])
      | omega
      | decide
      | (simp [*, f1, f2, f3, g1, g2, g3, hrow]))
    exact hJa.out _ ⟨y + 1, by first | rfl | (simp [*, accS, accH]; done) | (simp only [*]; done) | (congr 1 <;> simp [*, accS, accH]; done) | (congr 1 <;> simp [*, accS, accH] <;> rfl) | (congr 1 <;> congr 1 <;> simp <;> omega), by first | omega | (simp; omega) | simp [*], by omega, ⟨trivial⟩⟩
  · have hy' : ¬ (y : Int) < h := by omega
    simp [hy, hy']

theorem pc_term_Is (n w h x y : Nat) (l : List (Int × Int)) (hw : 2 ≤ w ∧ w ≤ 80) (hh : 1 ≤ h ∧ h ≤ 24) (hl : l.length = w * h) (hr : ∀ y, y < h → rowS (0, 0) ((l.drop (y * w)).take w) = true) (hx : x < w) (hy : y < h) :
    (W (n + 7)).pc 13 [.agg [.int .i64 w, .int .i64 h, crn l, .int .i64 x, .int .i64 y, .bool false]] = some (.bool true) := by
  apply runs c_term_Is
  have hg := pc_grid_Is n w h l hw hh hl hr
  have e1 : ¬ (x : Int) < 0 := by omega
  have e2 : ¬ (w : Int) ≤ x := by omega
  have e3 : ¬ (y : Int) < 0 := by omega
  have e4 : ¬ (h : Int) ≤ y := by omega
  simp [X_term_Is, hg, e1, e2, e3, e4]

theorem zeros_cel (k : Nat) : zeros [.int .i32 0, .int .i64 0] k = cells celC (List.replicate k (0, 0)) := by
  induction k with
  | zero => rfl
  | succ k ih => rw [List.replicate_succ, zeros, ih]; rfl

theorem putAt_cel (l : List (Int × Int)) (k : Nat) (x : Int × Int) (h : k < l.length) : putAt (cells celC l) (k * 2) [.int .i32 x.1, .int .i64 x.2] = cells celC (l.set k x) := by
  have e : [D.int .i32 x.1, .int .i64 x.2] = cells celC [x] := rfl
  have e1 := cells_take (E := celC) l k
  have e2 := cells_drop (E := celC) l (k + 1)
  simp only [celC_sz] at e1 e2
  rw [e, putAt, e1, cells_length, celC_sz, show k * 2 + [x].length * 2 = (k + 1) * 2 by simp; omega, e2, ← cells_append, ← cells_append, List.set_eq_take_append_cons_drop, if_pos h]
  simp

theorem pc_grid_blank (n : Nat) : (W (n + 1)).pc 47 [] = some (.agg [.int .i32 32, .int .i64 0]) := by
  apply runs c_grid_blank
  simp [X_grid_blank, putAt]

theorem lk_grid_fill (n w h : Nat) (hw : 2 ≤ w ∧ w ≤ 80) (hh : 1 ≤ h ∧ h ≤ 24) : lendK (W (n + 2)) 35 [.int .i64 w, .int .i64 h] [] =
    some (.agg [.int .i64 w, .int .i64 h, .ref 0 0 (w * h) 2 (w * h * 2) true], [⟨cells celC (List.replicate (w * h) (32, 0)), 0, false⟩]) := by
  apply keeps c_grid_fill
  have hm : w * h ≤ 80 * 24 := Nat.mul_le_mul hw.2 hh.2
  have e1 : IntKind.i64.wrap ((w : Int) * h) = (w * h : Nat) := by
    rw [show ((w : Int) * h) = ((w * h : Nat) : Int) by simp]
    exact wrap_i64 (by omega)
  obtain ⟨N, hN⟩ : ∃ N, N = w * h := ⟨_, rfl⟩
  rw [← hN] at e1 hm ⊢
  clear hN
  have hmd : modes 35 47 = 0 := id rfl
  simp [X_grid_fill, e1]
  refine ⟨by omega, ?_⟩
  rw [zeros_cel]
  refine aw_rounds (fun m st => ∃ i : Nat, ∃ X : List (Int × Int), st = ⟨tab [(0, .int .i64 w), (1, .int .i64 h), (4, .ptr 0 0 3), (5, .ref 1 0 N 2 (N * 2) true), (12, .int .i64 N), (13, .int .i64 i)], [⟨[.int .i64 0, .int .i64 0, .arr 0 true []], 0, true⟩, ⟨cells celC X, 0, false⟩]⟩ ∧ i ≤ N ∧ X.length = N ∧ m = N - i + 1 ∧ Keep (X.take i = List.replicate i (32, 0))) ?_ ?_ (n := N - (0) + 1) (by first | omega | (simp; omega)) ?_
  · rintro st ⟨i, X, hx⟩; omega
  rotate_left
  · exact ⟨0, List.replicate N (0, 0), by first | rfl | (simp [*, accS, accH]; done) | (simp only [*]; done) | (congr 1 <;> simp [*, accS, accH]; done) | (congr 1 <;> simp [*, accS, accH] <;> rfl) | (congr 1 <;> congr 1 <;> simp <;> omega), by first | omega | (simp; omega) | simp [*], by first | omega | (simp; omega) | simp [*], by first | rfl | (simp; done) | omega, ⟨by simp⟩⟩
  rintro Ja ma _ ⟨i, X, rfl, fa1, fa2, hma, hqa⟩ hJa
  by_cases hi : i < N
  · have hi' : (i : Int) < N := by omega
    have hp := putAt_cel X i (32, 0) (by omega)
    have hb := pc_grid_blank n
    simp [hi, hi', hb, hmd]
    repeat' (first
      | simp (disch := omega) only [wrap_i64, wrap_i32]
      | (simp (disch := first | omega | assumption | (simp only [i64, i32]; omega) | (simp <;> omega) | fail) only [loadD_cpr, loadD_cprs, List.take_of_length_le]; simp [*, hb, hp, hmd])
      | (with_reducible refine And.intro ?_ ?_; focus first | omega | decide)
      | (with_reducible refine split_ite (fun hp => ?_) (fun hp => ?_) <;> (try simp at hp) <;> simp [*, hb, hp, hmd])
      | (with_reducible refine split_ite1 (fun hp => ?_) (fun hp => ?_) <;> (try simp at hp) <;> simp [*, hb, hp, hmd])
      | (refine split_cond (by simp) (fun hp => ?_) (fun hp => ?_) <;> simp at hp <;> simp [*, hb, hp, hmd])
      | (refine split_ops (by simp) (fun hp => ?_) (fun hp => ?_) <;> simp at hp <;> simp [*, hb, hp, hmd])
      | (refine split_opsD (by simp) (fun hp => ?_) (fun hp => ?_) <;> simp at hp <;> simp [*, hb, hp, hmd])
      | (refine split_pick (by simp) (fun hp => ?_) (fun hp => ?_) <;> simp at hp <;> simp [*, hb, hp, hmd])
      | omega
      | decide
      | (simp [*, hb, hp, hmd]))
    exact hJa.out _ ⟨i + 1, X.set i (32, 0), by first | rfl | (simp [*, accS, accH]; done) | (simp only [*]; done) | (congr 1 <;> simp [*, accS, accH]; done) | (congr 1 <;> simp [*, accS, accH] <;> rfl) | (congr 1 <;> congr 1 <;> simp <;> omega), by first | omega | (simp; omega) | simp [*], by first | omega | (simp; omega) | simp [*], by omega, ⟨by rw [take_set_succ (by omega), hqa.out, ← List.replicate_succ']⟩⟩
  · obtain rfl : i = N := by omega
    have hX : X = List.replicate i (32, 0) := by
      have := hqa.out
      rwa [List.take_of_length_le (by omega)] at this
    simp [hX, putAt, settleF_def, settle_def]

theorem lk_grid_New (n w h : Nat) (hw : 2 ≤ w ∧ w ≤ 80) (hh : 1 ≤ h ∧ h ≤ 24) : lendK (W (n + 3)) 22 [.int .i64 w, .int .i64 h] [] =
    some (.tup [.agg [.int .i64 w, .int .i64 h, .ref 0 0 (w * h) 2 (w * h * 2) true], eD 0], [⟨cells celC (List.replicate (w * h) (32, 0)), 0, false⟩]) := by
  apply keeps c_grid_New
  have hmd : modes 22 35 = 4 := id rfl
  have hf := lk_grid_fill n w h hw hh
  have e1 : ¬ (w : Int) < 2 := by omega
  have e2 : ¬ (80 : Int) < w := by omega
  have e3 : ¬ (h : Int) < 1 := by omega
  have e4 : ¬ (24 : Int) < h := by omega
  simp [X_grid_New, hmd, hf, e1, e2, e3, e4, lendW_def, back_def, putAt, settle_def]

theorem lk_grid_New_bad (n : Nat) (w h : Int) (hb : w < 2 ∨ 80 < w ∨ h < 1 ∨ 24 < h) : lendK (W (n + 3)) 22 [.int .i64 w, .int .i64 h] [] =
    some (.tup [.agg [.int .i64 0, .int .i64 0, .arr 0 true []], eD 4], []) := by
  apply keeps c_grid_New
  have hmd : modes 22 35 = 4 := id rfl
  simp [X_grid_New, hmd, putAt, settle_def]
  repeat' (first
    | simp (disch := omega) only [wrap_i64, wrap_i32]
    | (simp (disch := first | omega | assumption | (simp only [i64, i32]; omega) | (simp <;> omega) | fail) only [loadD_cpr, loadD_cprs, List.take_of_length_le]; simp [*, hmd, settle_def, putAt])
    | (with_reducible refine And.intro ?_ ?_; focus first | omega | decide)
    | (with_reducible refine split_ite (fun hp => ?_) (fun hp => ?_) <;> (try simp at hp) <;> simp [*, hmd, settle_def, putAt])
    | (with_reducible refine split_ite1 (fun hp => ?_) (fun hp => ?_) <;> (try simp at hp) <;> simp [*, hmd, settle_def, putAt])
    | (refine split_cond (by simp) (fun hp => ?_) (fun hp => ?_) <;> simp at hp <;> simp [*, hmd, settle_def, putAt])
    | (refine split_ops (by simp) (fun hp => ?_) (fun hp => ?_) <;> simp at hp <;> simp [*, hmd, settle_def, putAt])
    | (refine split_opsD (by simp) (fun hp => ?_) (fun hp => ?_) <;> simp at hp <;> simp [*, hmd, settle_def, putAt])
    | (refine split_pick (by simp) (fun hp => ?_) (fun hp => ?_) <;> simp at hp <;> simp [*, hmd, settle_def, putAt])
    | omega
    | decide
    | (simp [*, hmd, settle_def, putAt]))
  all_goals (exfalso; omega)

end Go.Proofs.YtccinlhenkkpeaaDoor
