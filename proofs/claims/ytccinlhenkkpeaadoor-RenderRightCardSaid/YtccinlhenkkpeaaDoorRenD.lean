/- What layer 4's Cells computes. -/
import Derived.Test.YtccinlhenkkpeaaDoorRenC
namespace Go.Proofs.YtccinlhenkkpeaaDoor
open Go E
set_option linter.unusedSimpArgs false
set_option linter.unusedVariables false

theorem cellsF_length {w : Nat} (hw : 2 ≤ w) : ∀ (l : List Int) (a : Nat), a + (cellsF w a l).length = endF w a l
  | [], a => rfl
  | r :: l, a => by
    have := cellsF_length hw l (nextF w a r)
    have := from_le (a := a) hw r
    simp only [cellsF, endF, List.length_append, List.length_replicate, cellsR_length, nextF] at *
    omega

theorem pc_flow_Cells (n w : Nat) (l : List Int) (hw : 2 ≤ w ∧ w ≤ 80) (hl : l.length ≤ 500) : (W (n + 6)).pc 17 [.int .i64 w, .int .i64 0, rn l] = some (.tup [crn (cellsF w 0 l), eD 0]) := by
  apply runs c_flow_Cells
  have hL := pc_flow_Lay n w l hw hl
  simp [X_flow_Cells, hL]
  refine aw_rounds (fun m st => ∃ i : Nat, ∃ x : Nat, ∃ X : List (Int × Int), st = ⟨tab [(1, .int .i64 0), (8, irn (placesF w 0 l)), (11, accS celC 0 X), (25, rn l), (26, .int .i64 l.length), (27, .int .i64 i)], accH celC X⟩ ∧ i ≤ l.length ∧ X.length = x ∧ x ≤ 3 * i ∧ m = l.length - i + 1 ∧ Keep (cellsF w 0 l = X ++ cellsF w x (l.drop i) ∧ (placesF w 0 l).drop i = placesF w x (l.drop i))) ?_ ?_ (n := l.length - (0) + 1) (by first | omega | (simp; omega)) ?_
  · rintro st ⟨i, x, X, hx⟩; omega
  rotate_left
  · exact ⟨0, 0, [], by first | rfl | (simp [*, accS, accH]; done) | (simp only [*]; done) | (congr 1 <;> simp [*, accS, accH]; done) | (congr 1 <;> simp [*, accS, accH] <;> rfl) | (congr 1 <;> congr 1 <;> simp <;> omega), by first | omega | (simp; omega) | simp [*], by first | omega | (simp; omega) | simp [*], by first | omega | (simp; omega) | simp [*], by first | rfl | (simp; done) | omega, ⟨by simp⟩⟩
  rintro Ja ma _ ⟨i, x, X, rfl, fa1, fa2, fa3, hma, hqa⟩ hJa
  obtain ⟨q1, q2⟩ := hqa.out
  by_cases hi : i < l.length
  · have hf := from_le (a := x) hw.1 l[i]
    have hP : i < (placesF w 0 l).length := by rw [placesF_length]; exact hi
    have hPi : (placesF w 0 l)[i] = fromF w x l[i] := by
      rw [placesF_drop hi, List.drop_eq_getElem_cons hP] at q2
      exact (List.cons.inj q2).1
    have hi' : (i : Int) < l.length := by omega
    have hwr : IntKind.i64.wrap (IntKind.i64.wrap ((fromF w x l[i] : Int) - 0) - x) = (fromF w x l[i] - x : Nat) := by
      rw [show IntKind.i64.wrap ((fromF w x l[i] : Int) - 0) = fromF w x l[i] from by rw [Int.sub_zero]; exact wrap_i64 (by omega)]
      rw [show ((fromF w x l[i] : Int) - x) = (fromF w x l[i] - x : Nat) by omega]
      exact wrap_i64 (by omega)
    have hc := pc_wide_Cells (n + 1) l[i]
    simp [hi, hi']
    repeat' (first
      | simp (disch := omega) only [wrap_i64, wrap_i32]
      | (simp (disch := first | omega | assumption | (simp only [i64, i32]; omega) | (simp <;> omega) | fail) only [loadD_cpr, loadD_cprs, List.take_of_length_le]; simp [*, hPi, hwr, hP])
      | (with_reducible refine And.intro ?_ ?_; focus first | omega | decide)
      | (with_reducible refine split_ite (fun hp => ?_) (fun hp => ?_) <;> (try simp at hp) <;> simp [*, hPi, hwr, hP])
      | (with_reducible refine split_ite1 (fun hp => ?_) (fun hp => ?_) <;> (try simp at hp) <;> simp [*, hPi, hwr, hP])
      | (refine split_cond (by simp) (fun hp => ?_) (fun hp => ?_) <;> simp at hp <;> simp [*, hPi, hwr, hP])
      | (refine split_ops (by simp) (fun hp => ?_) (fun hp => ?_) <;> simp at hp <;> simp [*, hPi, hwr, hP])
      | (refine split_opsD (by simp) (fun hp => ?_) (fun hp => ?_) <;> simp at hp <;> simp [*, hPi, hwr, hP])
      | (refine split_pick (by simp) (fun hp => ?_) (fun hp => ?_) <;> simp at hp <;> simp [*, hPi, hwr, hP])
      | omega
      | decide
      | (simp [*, hPi, hwr, hP]))
    obtain ⟨k, hk⟩ : ∃ k : Nat, fromF w x l[i] = x + k := ⟨fromF w x l[i] - x, by omega⟩
    have hpad : (fromF w x l[i] : Int) - x = k := by omega
    rw [hpad]
    have hX0 : X = X ++ List.replicate 0 (32, 0) := by simp
    rw [hX0]
    clear hX0
    refine aw_rounds (fun m st => ∃ j : Nat, st = ⟨tab [(1, .int .i64 0), (8, irn (placesF w 0 l)), (11, accS celC 0 (X ++ List.replicate j (32, 0))), (13, .int .i32 l[i]), (25, rn l), (26, .int .i64 l.length), (27, .int .i64 i), (40, .int .i64 k), (41, .int .i64 j)], accH celC (X ++ List.replicate j (32, 0))⟩ ∧ j ≤ k ∧ m = k - j + 1 ∧ Keep (True)) ?_ ?_ (n := k - (0) + 1) (by first | omega | (simp; omega)) ?_
    · rintro st ⟨j, hx⟩; omega
    rotate_left
    · exact ⟨0, by first | rfl | (simp [*, accS, accH]; done) | (simp only [*]; done) | (congr 1 <;> simp [*, accS, accH]; done) | (congr 1 <;> simp [*, accS, accH] <;> rfl) | (congr 1 <;> congr 1 <;> simp <;> omega), by first | omega | (simp; omega) | simp [*], by first | rfl | (simp; done) | omega, ⟨trivial⟩⟩
    rintro Jb mb _ ⟨j, rfl, fb1, hmb, hqb⟩ hJb
    by_cases hj : j < k
    · have hj' : (j : Int) < k := by omega
      have hap := appD_acc_cel (X ++ List.replicate j (32, 0)) 32 0 true (by simp; omega)
      rw [List.append_assoc, ← List.replicate_succ'] at hap
      simp [hj, hj', hap]
      repeat' (first
        | simp (disch := omega) only [wrap_i64, wrap_i32]
        | (simp (disch := first | omega | assumption | (simp only [i64, i32]; omega) | (simp <;> omega) | fail) only [loadD_cpr, loadD_cprs, List.take_of_length_le]; simp [*, hap])
        | (with_reducible refine And.intro ?_ ?_; focus first | omega | decide)
        | (with_reducible refine split_ite (fun hp => ?_) (fun hp => ?_) <;> (try simp at hp) <;> simp [*, hap])
        | (with_reducible refine split_ite1 (fun hp => ?_) (fun hp => ?_) <;> (try simp at hp) <;> simp [*, hap])
        | (refine split_cond (by simp) (fun hp => ?_) (fun hp => ?_) <;> simp at hp <;> simp [*, hap])
        | (refine split_ops (by simp) (fun hp => ?_) (fun hp => ?_) <;> simp at hp <;> simp [*, hap])
        | (refine split_opsD (by simp) (fun hp => ?_) (fun hp => ?_) <;> simp at hp <;> simp [*, hap])
        | (refine split_pick (by simp) (fun hp => ?_) (fun hp => ?_) <;> simp at hp <;> simp [*, hap])
        | omega
        | decide
        | (simp [*, hap]))
      exact hJb.out _ ⟨j + 1, by first | rfl | (simp [*, accS, accH]; done) | (simp only [*]; done) | (congr 1 <;> simp [*, accS, accH]; done) | (congr 1 <;> simp [*, accS, accH] <;> rfl) | (congr 1 <;> congr 1 <;> simp <;> omega), by first | omega | (simp; omega) | simp [*], by omega, ⟨trivial⟩⟩
    · obtain rfl : j = k := by omega
      have hap := appD_acc_crow (X ++ List.replicate j (32, 0)) (cellsR l[i]) false (by have := width_12 l[i]; simp; omega)
      have hw12 := width_12 l[i]
      have hnx : nextF w x l[i] = x + j + widthR l[i] := by simp only [nextF]; omega
      simp [hc, hap]
      repeat' (first
        | simp (disch := omega) only [wrap_i64, wrap_i32]
        | (simp (disch := first | omega | assumption | (simp only [i64, i32]; omega) | (simp <;> omega) | fail) only [loadD_cpr, loadD_cprs, List.take_of_length_le]; simp [*, hap, hc])
        | (with_reducible refine And.intro ?_ ?_; focus first | omega | decide)
        | (with_reducible refine split_ite (fun hp => ?_) (fun hp => ?_) <;> (try simp at hp) <;> simp [*, hap, hc])
        | (with_reducible refine split_ite1 (fun hp => ?_) (fun hp => ?_) <;> (try simp at hp) <;> simp [*, hap, hc])
        | (refine split_cond (by simp) (fun hp => ?_) (fun hp => ?_) <;> simp at hp <;> simp [*, hap, hc])
        | (refine split_ops (by simp) (fun hp => ?_) (fun hp => ?_) <;> simp at hp <;> simp [*, hap, hc])
        | (refine split_opsD (by simp) (fun hp => ?_) (fun hp => ?_) <;> simp at hp <;> simp [*, hap, hc])
        | (refine split_pick (by simp) (fun hp => ?_) (fun hp => ?_) <;> simp at hp <;> simp [*, hap, hc])
        | omega
        | decide
        | (simp [*, hap, hc]))
      exact hJa.out _ ⟨i + 1, nextF w x l[i], X ++ List.replicate j (32, 0) ++ cellsR l[i], by first | rfl | (simp [*, accS, accH]; done) | (simp only [*]; done) | (congr 1 <;> simp [*, accS, accH]; done) | (congr 1 <;> simp [*, accS, accH] <;> rfl) | (congr 1 <;> congr 1 <;> simp <;> omega), by first | omega | (simp; omega) | simp [*], by first | omega | (simp; omega) | simp [*], by first | omega | (simp; omega) | simp [*], by omega, ⟨⟨by rw [q1, cellsF_drop hi, show fromF w x l[i] - x = j by omega]; simp, by rw [← List.drop_drop, q2, placesF_drop hi]; rfl⟩⟩⟩
  · have e1 : X = cellsF w 0 l := by rw [q1, List.drop_of_length_le (by omega)]; simp [cellsF]
    simp [hi, e1]

end Go.Proofs.YtccinlhenkkpeaaDoor
