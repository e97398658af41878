/- What layer 4's Lay and Cells compute. -/
import Derived.Test.YtccinlhenkkpeaaDoorRenB
namespace Go.Proofs.YtccinlhenkkpeaaDoor
open Go E
set_option linter.unusedSimpArgs false
set_option linter.unusedVariables false

theorem placesF_drop {w : Nat} {a : Nat} {l : List Int} {i : Nat} (h : i < l.length) : placesF w a (l.drop i) = (fromF w a l[i] : Int) :: placesF w (nextF w a l[i]) (l.drop (i + 1)) := by
  rw [List.drop_eq_getElem_cons h]; rfl

theorem endF_drop {w : Nat} {a : Nat} {l : List Int} {i : Nat} (h : i < l.length) : endF w a (l.drop i) = endF w (nextF w a l[i]) (l.drop (i + 1)) := by
  rw [List.drop_eq_getElem_cons h]; rfl

theorem cellsF_drop {w : Nat} {a : Nat} {l : List Int} {i : Nat} (h : i < l.length) : cellsF w a (l.drop i) = List.replicate (fromF w a l[i] - a) (32, 0) ++ cellsR l[i] ++ cellsF w (nextF w a l[i]) (l.drop (i + 1)) := by
  rw [List.drop_eq_getElem_cons h]; rfl

theorem next_le {w a : Nat} (hw : 2 ≤ w) (r : Int) : nextF w a r ≤ a + 3 := by
  have := from_le (a := a) hw r
  have := width_12 r
  simp only [nextF]; omega

theorem take_set_succ {α : Type} {X : List α} {i : Nat} {v : α} (h : i < X.length) : (X.set i v).take (i + 1) = X.take i ++ [v] := by
  apply List.ext_getElem?
  intro k
  simp only [List.getElem?_take, List.getElem?_append, List.length_take, List.getElem?_set]
  grind

theorem zeros_int (k : Nat) : zeros [.int .i64 0] k = cells intC (List.replicate k 0) := by
  induction k with
  | zero => rfl
  | succ k ih => rw [List.replicate_succ, zeros, ih]; rfl

theorem pc_flow_Lay (n w : Nat) (l : List Int) (hw : 2 ≤ w ∧ w ≤ 80) (hl : l.length ≤ 500) : (W (n + 5)).pc 16 [.int .i64 w, .int .i64 0, rn l] = some (.tup [irn (placesF w 0 l), .int .i64 (endF w 0 l), eD 0]) := by
  apply runsM c_flow_Lay
  have m1 : modes 16 31 = 4 := id rfl
  have m2 : modes 16 44 = 3 := id rfl
  have m3 : modes 16 30 = 0 := id rfl
  have hck : (W (n + 4)).pc 30 [.int .i64 w, .int .i64 0] = some (eD 0) := by
    have := pc_flow_check (n + 3) w 0
    rwa [if_neg (by omega), if_neg (by omega)] at this
  have hl' : ¬ (500 : Int) < l.length := by omega
  simp [X_flow_Lay, m1, m2, m3, hck, hl', lk_layer, lendW_def, back_def]
  refine ⟨by omega, ?_⟩
  rw [zeros_int]
  refine aw_rounds (fun m st => ∃ i : Nat, ∃ x : Nat, ∃ X : List Int, st = ⟨tab [(1, .int .i64 x), (10, .fn (.func 44) [] [.ptr 0 0 1, .ptr 1 0 1]), (11, .ref 2 0 l.length 1 l.length true), (29, rn l), (30, .int .i64 l.length), (31, .int .i64 i)], [⟨[.int .i64 w], 0, true⟩, ⟨[.int .i64 x], 0, true⟩, ⟨cells intC X, 0, false⟩]⟩ ∧ i ≤ l.length ∧ X.length = l.length ∧ x ≤ 3 * i ∧ m = l.length - i + 1 ∧ Keep (placesF w 0 l = X.take i ++ placesF w x (l.drop i) ∧ endF w 0 l = endF w x (l.drop i))) ?_ ?_ (n := l.length - (0) + 1) (by first | omega | (simp; omega)) ?_
  · rintro st ⟨i, x, X, hx⟩; omega
  rotate_left
  · exact ⟨0, 0, List.replicate l.length 0, by first | rfl | (simp [*, accS, accH]; done) | (simp only [*]; done) | (congr 1 <;> simp [*, accS, accH]; done) | (congr 1 <;> simp [*, accS, accH] <;> rfl) | (congr 1 <;> congr 1 <;> simp <;> omega), by first | omega | (simp; omega) | simp [*], by first | omega | (simp; omega) | simp [*], by first | omega | (simp; omega) | simp [*], by first | rfl | (simp; done) | omega, ⟨by simp⟩⟩
  rintro Ja ma _ ⟨i, x, X, rfl, fa1, fa2, fa3, hma, hqa⟩ hJa
  obtain ⟨q1, q2⟩ := hqa.out
  by_cases hi : i < l.length
  · have u := ls_layer_1 (n + 1) w x l[i] hw (by omega)
    have hi' : (i : Int) < l.length := by omega
    have hx := putAt_one (E := intC) rfl X (fromF w x l[i] : Int) i (by omega)
    simp only [intC_enc] at hx
    simp [hi, hi', m1, m2, m3]
    have hnx := next_le (a := x) hw.1 l[i]
    repeat' (first
      | simp (disch := omega) only [wrap_i64, wrap_i32]
      | (simp (disch := first | omega | assumption | (simp only [i64, i32]; omega) | (simp <;> omega) | fail) only [loadD_cpr, loadD_cprs, List.take_of_length_le]; simp [*, u, lendW_def, back_def, hx, m2])
      | (with_reducible refine And.intro ?_ ?_; focus first | omega | decide)
      | (with_reducible refine split_ite (fun hp => ?_) (fun hp => ?_) <;> (try simp at hp) <;> simp [*, u, lendW_def, back_def, hx, m2])
      | (with_reducible refine split_ite1 (fun hp => ?_) (fun hp => ?_) <;> (try simp at hp) <;> simp [*, u, lendW_def, back_def, hx, m2])
      | (refine split_cond (by simp) (fun hp => ?_) (fun hp => ?_) <;> simp at hp <;> simp [*, u, lendW_def, back_def, hx, m2])
      | (refine split_ops (by simp) (fun hp => ?_) (fun hp => ?_) <;> simp at hp <;> simp [*, u, lendW_def, back_def, hx, m2])
      | (refine split_opsD (by simp) (fun hp => ?_) (fun hp => ?_) <;> simp at hp <;> simp [*, u, lendW_def, back_def, hx, m2])
      | (refine split_pick (by simp) (fun hp => ?_) (fun hp => ?_) <;> simp at hp <;> simp [*, u, lendW_def, back_def, hx, m2])
      | omega
      | decide
      | (simp [*, u, lendW_def, back_def, hx, m2]))
    exact hJa.out _ ⟨i + 1, nextF w x l[i], X.set i (fromF w x l[i] : Int), by first | rfl | (simp [*, accS, accH]; done) | (simp only [*]; done) | (congr 1 <;> simp [*, accS, accH]; done) | (congr 1 <;> simp [*, accS, accH] <;> rfl) | (congr 1 <;> congr 1 <;> simp <;> omega), by first | omega | (simp; omega) | simp [*], by first | omega | (simp; omega) | simp [*], by first | omega | (simp; omega) | simp [*], by omega, ⟨⟨by rw [q1, placesF_drop hi, take_set_succ (by omega), List.append_assoc]; rfl, by rw [q2, endF_drop hi]⟩⟩⟩
  · obtain rfl : i = l.length := by omega
    have e1 : List.take l.length X = placesF w 0 l := by rw [q1, List.drop_length]; simp [placesF]
    have e2 : endF w 0 l = x := by rw [q2, List.drop_length]; rfl
    have e3 : D.arr l.length false (cells intC (placesF w 0 l)) = irn (placesF w 0 l) := row_is (placesF_length ..).symm rfl
    simp [fa2, e1, e2, e3]

theorem pc_flow_Lay_bad (n : Nat) (w : Int) (l : List Int) (hw : w < 2 ∨ 80 < w) : (W (n + 5)).pc 16 [.int .i64 w, .int .i64 0, rn l] = some (.tup [irn [], .int .i64 0, eD 4]) := by
  apply runsM c_flow_Lay
  have m3 : modes 16 30 = 0 := id rfl
  have hck : (W (n + 4)).pc 30 [.int .i64 w, .int .i64 0] = some (eD 4) := by
    have := pc_flow_check (n + 3) w 0
    rwa [if_pos hw] at this
  simp [X_flow_Lay, m3, hck]
  rfl

theorem pc_flow_Lay_full (n w : Nat) (l : List Int) (hw : 2 ≤ w ∧ w ≤ 80) (hl : 500 < l.length) : (W (n + 5)).pc 16 [.int .i64 w, .int .i64 0, rn l] = some (.tup [irn [], .int .i64 0, eD 5]) := by
  apply runsM c_flow_Lay
  have m3 : modes 16 30 = 0 := id rfl
  have hck : (W (n + 4)).pc 30 [.int .i64 w, .int .i64 0] = some (eD 0) := by
    have := pc_flow_check (n + 3) w 0
    rwa [if_neg (by omega), if_neg (by omega)] at this
  have hl' : (500 : Int) < l.length := by omega
  simp [X_flow_Lay, m3, hck, hl']
  rfl

theorem appD_acc_cel (X : List (Int × Int)) (a b : Int) (f : Bool) (hb : X.length < 2000000) : appD (accH celC X) 2 16 (accS celC 0 X) (.arr 1 f [.int .i32 a, .int .i64 b]) = some (accS celC 0 (X ++ [(a, b)]), accH celC (X ++ [(a, b)])) := by
  by_cases h : X = []
  · subst h; simp [accH, accS, appD]
  · simp [accH, accS, h, appD, contents]
    omega

theorem appD_acc_crow (X Y : List (Int × Int)) (f : Bool) (hb : X.length + Y.length < 2000000) : appD (accH celC X) 2 16 (accS celC 0 X) (row celC f Y) = some (accS celC 0 (X ++ Y), accH celC (X ++ Y)) := by
  by_cases h : X = []
  · subst h
    rw [accS, if_pos rfl, accH, if_pos rfl, show D.arr 0 true [] = row celC true [] from rfl, appD_row (by rfl)]
    by_cases hy : Y = []
    · subst hy; simp [accS, accH]; rfl
    · rw [if_neg hy, if_pos ⟨rfl, by simp; omega, by simp; omega⟩]
      simp [accS, accH, hy]
  · have e1 : accS celC 0 X = .ref 0 0 X.length 2 (X.length * 2) false := by rw [accS, if_neg h]; rfl
    have e2 : accH celC X = [⟨cells celC X, 0, false⟩] := by rw [accH, if_neg h]
    have e3 : accS celC 0 (X ++ Y) = .ref 0 0 (X.length + Y.length) 2 ((X.length + Y.length) * 2) false := by rw [accS, if_neg (by simp [h])]; simp
    have e4 : accH celC (X ++ Y) = [⟨cells celC X ++ cells celC Y, 0, false⟩] := by rw [accH, if_neg (by simp [h])]; simp
    rw [e1, e2, e3, e4]
    by_cases hy : Y = []
    · subst hy; simp [appD]
    · have hy0 : ¬ Y.length = 0 := by simpa using hy
      simp [appD, hy]
      omega

end Go.Proofs.YtccinlhenkkpeaaDoor
