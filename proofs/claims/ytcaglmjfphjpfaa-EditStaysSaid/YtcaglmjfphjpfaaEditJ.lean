/- The law on what stays right. -/
import Derived.Test.YtcaglmjfphjpfaaEditH
namespace Go.Proofs.Ytcaglmjfphjpfaa
open Go E
set_option linter.unusedSimpArgs false
set_option linter.unusedVariables false
set_option maxRecDepth 100000

set_option maxHeartbeats 2000000 in
theorem pc_EditStays (n : Nat) (e : EditM) (l : List ActM) (c : Int) : (W (n + 26)).pc 6 [edD e, arn l, .int .i64 c] = some (.bool true) := by
  apply runs c_typebarlaw23_EditStays
  have hB := pc_Big (n + 24) e
  have hE := pc_edited (n + 1)
  by_cases hb : edBig e = true
  · rw [hb] at hB
    simp [X_typebarlaw23_EditStays, hB, hE]
  have hb' : edBig e = false := by simpa using hb
  rw [hb'] at hB
  have hsm := edBig_small hb'
  by_cases hl : 100 < l.length
  · have hl' : (100 : Int) < l.length := by omega
    simp [X_typebarlaw23_EditStays, hB, hE, hl, hl']
  have hl' : ¬ (100 : Int) < l.length := by omega
  have hI := pc_edit_Is (n + 19) e hsm.1
  cases hi : edIs e
  · rw [hi] at hI
    simp [X_typebarlaw23_EditStays, hB, hE, hl, hl', hI]
  rw [hi] at hI
  simp [X_typebarlaw23_EditStays, hB, hl, hl', hI]
  have hK := Keep.mk (edIs_ok.1 hi)
  clear hB hb hb' hI hi hsm
  refine aw_rounds (fun m st => ∃ i : Nat, ∃ x : EditM, ∃ R : List Blk, st = ⟨tab [(1, arn l), (2, .int .i64 c), (3, .ptr 0 0 7), (7, .int .i64 i)], ⟨edL x, 0, true⟩ :: R⟩ ∧ i ≤ l.length ∧ m = l.length - i + 1 ∧ Keep (EdOk x)) ?_ ?_ (n := l.length - (0) + 1) (by first | omega | (simp; omega)) ?_
  · rintro st ⟨i, x, hx⟩; omega
  rotate_left
  · exact ⟨0, e, _, by first | rfl | (simp [*, accS, accH]; done) | (simp only [*]; done) | (congr 1 <;> simp [*, accS, accH]; done) | (congr 1 <;> simp [*, accS, accH] <;> rfl) | (congr 1 <;> congr 1 <;> simp <;> omega), by first | omega | (simp; omega) | simp [*], by first | rfl | (simp; done) | omega, ⟨hK.out⟩⟩
  rintro Ja ma _ ⟨i, x, Ra, rfl, fa1, hma, hqa⟩ hJa
  by_cases hi : i < l.length
  · have hi' : (i : Int) < l.length := by omega
    have hx := hqa.out
    have hD := pc_edit_Do (n + 13) x l[i] c (edOk_sized hx)
    by_cases h0 : (doE x l[i] c).2 = 0
    · have hok := edIs_ok.1 (doE_is h0)
      have hI := pc_edit_Is (n + 19) (doE x l[i] c).1 (edOk_sized hok)
      rw [doE_is h0] at hI
      have g1 := gapIs_ln hok.g
      have g2 := gapIs_ln hx.g
      have hgo := fun (q1 : l[i].k = 1) (q2 : l[i].o = 0) => doE_go h0 q1 q2
      have hT1 := pc_gap_Text (n + 24) (doE x l[i] c).1.G (by omega) (by omega)
      have hT2 := pc_gap_Text (n + 24) x.G (by omega) (by omega)
      have hSm := pc_ref01_Same (n + 24) ((doE x l[i] c).1.G.A ++ (doE x l[i] c).1.G.B) (x.G.A ++ x.G.B) (by simp; omega)
      rw [h0] at hD
      have hok' := Keep.mk hok
      generalize (doE x l[i] c).1 = y at *
      by_cases q1 : l[i].k = 1
      · by_cases q2 : l[i].o = 0
        · have hg := hgo q1 q2
          simp only [hg, decide_true] at hSm
          simp only [hg] at hT1
          simp only [acD, q1, q2] at hD
          simp [hi, hi']
          repeat' (first
            | simp (disch := omega) only [wrap_i64, wrap_i32]
            | (simp (disch := first | omega | assumption | (simp only [i64, i32]; omega) | (simp <;> omega) | fail) only [loadD_cpr, loadD_cprs, List.take_of_length_le]; simp [*, hD, hI, hT1, hT2, hSm, q1, q2, Nat.testBit])
            | (with_reducible refine And.intro ?_ ?_; focus first | omega | decide)
            | (with_reducible refine split_ite (fun hp => ?_) (fun hp => ?_) <;> (try simp at hp) <;> simp [*, hD, hI, hT1, hT2, hSm, q1, q2, Nat.testBit])
            | (with_reducible refine split_ite1 (fun hp => ?_) (fun hp => ?_) <;> (try simp at hp) <;> simp [*, hD, hI, hT1, hT2, hSm, q1, q2, Nat.testBit])
            | (refine split_cond (by simp) (fun hp => ?_) (fun hp => ?_) <;> simp at hp <;> simp [*, hD, hI, hT1, hT2, hSm, q1, q2, Nat.testBit])
            | (refine split_ops (by simp) (fun hp => ?_) (fun hp => ?_) <;> simp at hp <;> simp [*, hD, hI, hT1, hT2, hSm, q1, q2, Nat.testBit])
            | (refine split_opsD (by simp) (fun hp => ?_) (fun hp => ?_) <;> simp at hp <;> simp [*, hD, hI, hT1, hT2, hSm, q1, q2, Nat.testBit])
            | (refine split_pick (by simp) (fun hp => ?_) (fun hp => ?_) <;> simp at hp <;> simp [*, hD, hI, hT1, hT2, hSm, q1, q2, Nat.testBit])
            | omega
            | decide
            | (simp [*, hD, hI, hT1, hT2, hSm, q1, q2, Nat.testBit]))
          all_goals trace_state
          exact hJa.out _ ⟨i + 1, y, _, by first | rfl | (simp [*, accS, accH]; done) | (simp only [*]; done) | (congr 1 <;> simp [*, accS, accH]; done) | (congr 1 <;> simp [*, accS, accH] <;> rfl) | (congr 1 <;> congr 1 <;> simp <;> omega), by first | omega | (simp; omega) | simp [*], by omega, ⟨hok'.out⟩⟩
        · simp only [acD, q1] at hD
          simp [hi, hi']
          repeat' (first
            | simp (disch := omega) only [wrap_i64, wrap_i32]
            | (simp (disch := first | omega | assumption | (simp only [i64, i32]; omega) | (simp <;> omega) | fail) only [loadD_cpr, loadD_cprs, List.take_of_length_le]; simp [*, hD, hI, q1, q2, Nat.testBit])
            | (with_reducible refine And.intro ?_ ?_; focus first | omega | decide)
            | (with_reducible refine split_ite (fun hp => ?_) (fun hp => ?_) <;> (try simp at hp) <;> simp [*, hD, hI, q1, q2, Nat.testBit])
            | (with_reducible refine split_ite1 (fun hp => ?_) (fun hp => ?_) <;> (try simp at hp) <;> simp [*, hD, hI, q1, q2, Nat.testBit])
            | (refine split_cond (by simp) (fun hp => ?_) (fun hp => ?_) <;> simp at hp <;> simp [*, hD, hI, q1, q2, Nat.testBit])
            | (refine split_ops (by simp) (fun hp => ?_) (fun hp => ?_) <;> simp at hp <;> simp [*, hD, hI, q1, q2, Nat.testBit])
            | (refine split_opsD (by simp) (fun hp => ?_) (fun hp => ?_) <;> simp at hp <;> simp [*, hD, hI, q1, q2, Nat.testBit])
            | (refine split_pick (by simp) (fun hp => ?_) (fun hp => ?_) <;> simp at hp <;> simp [*, hD, hI, q1, q2, Nat.testBit])
            | omega
            | decide
            | (simp [*, hD, hI, q1, q2, Nat.testBit]))
          all_goals trace_state
          exact hJa.out _ ⟨i + 1, y, _, by first | rfl | (simp [*, accS, accH]; done) | (simp only [*]; done) | (congr 1 <;> simp [*, accS, accH]; done) | (congr 1 <;> simp [*, accS, accH] <;> rfl) | (congr 1 <;> congr 1 <;> simp <;> omega), by first | omega | (simp; omega) | simp [*], by omega, ⟨hok'.out⟩⟩
      · simp [hi, hi']
        repeat' (first
          | simp (disch := omega) only [wrap_i64, wrap_i32]
          | (simp (disch := first | omega | assumption | (simp only [i64, i32]; omega) | (simp <;> omega) | fail) only [loadD_cpr, loadD_cprs, List.take_of_length_le]; simp [*, hD, hI, q1, Nat.testBit])
          | (with_reducible refine And.intro ?_ ?_; focus first | omega | decide)
          | (with_reducible refine split_ite (fun hp => ?_) (fun hp => ?_) <;> (try simp at hp) <;> simp [*, hD, hI, q1, Nat.testBit])
          | (with_reducible refine split_ite1 (fun hp => ?_) (fun hp => ?_) <;> (try simp at hp) <;> simp [*, hD, hI, q1, Nat.testBit])
          | (refine split_cond (by simp) (fun hp => ?_) (fun hp => ?_) <;> simp at hp <;> simp [*, hD, hI, q1, Nat.testBit])
          | (refine split_ops (by simp) (fun hp => ?_) (fun hp => ?_) <;> simp at hp <;> simp [*, hD, hI, q1, Nat.testBit])
          | (refine split_opsD (by simp) (fun hp => ?_) (fun hp => ?_) <;> simp at hp <;> simp [*, hD, hI, q1, Nat.testBit])
          | (refine split_pick (by simp) (fun hp => ?_) (fun hp => ?_) <;> simp at hp <;> simp [*, hD, hI, q1, Nat.testBit])
          | omega
          | decide
          | (simp [*, hD, hI, q1, Nat.testBit]))
        all_goals trace_state
        exact hJa.out _ ⟨i + 1, y, _, by first | rfl | (simp [*, accS, accH]; done) | (simp only [*]; done) | (congr 1 <;> simp [*, accS, accH]; done) | (congr 1 <;> simp [*, accS, accH] <;> rfl) | (congr 1 <;> congr 1 <;> simp <;> omega), by first | omega | (simp; omega) | simp [*], by omega, ⟨hok'.out⟩⟩
    · generalize (doE x l[i] c).1 = y at hD
      generalize (doE x l[i] c).2 = r at hD h0
      simp [hi, hi']
      repeat' (first
        | simp (disch := omega) only [wrap_i64, wrap_i32]
        | (simp (disch := first | omega | assumption | (simp only [i64, i32]; omega) | (simp <;> omega) | fail) only [loadD_cpr, loadD_cprs, List.take_of_length_le]; simp [*, hD, h0, Nat.testBit])
        | (with_reducible refine And.intro ?_ ?_; focus first | omega | decide)
        | (with_reducible refine split_ite (fun hp => ?_) (fun hp => ?_) <;> (try simp at hp) <;> simp [*, hD, h0, Nat.testBit])
        | (with_reducible refine split_ite1 (fun hp => ?_) (fun hp => ?_) <;> (try simp at hp) <;> simp [*, hD, h0, Nat.testBit])
        | (refine split_cond (by simp) (fun hp => ?_) (fun hp => ?_) <;> simp at hp <;> simp [*, hD, h0, Nat.testBit])
        | (refine split_ops (by simp) (fun hp => ?_) (fun hp => ?_) <;> simp at hp <;> simp [*, hD, h0, Nat.testBit])
        | (refine split_opsD (by simp) (fun hp => ?_) (fun hp => ?_) <;> simp at hp <;> simp [*, hD, h0, Nat.testBit])
        | (refine split_pick (by simp) (fun hp => ?_) (fun hp => ?_) <;> simp at hp <;> simp [*, hD, h0, Nat.testBit])
        | omega
        | decide
        | (simp [*, hD, h0, Nat.testBit]))
      all_goals trace_state
      exact hJa.out _ ⟨i + 1, x, _, by first | rfl | (simp [*, accS, accH]; done) | (simp only [*]; done) | (congr 1 <;> simp [*, accS, accH]; done) | (congr 1 <;> simp [*, accS, accH] <;> rfl) | (congr 1 <;> congr 1 <;> simp <;> omega), by first | omega | (simp; omega) | simp [*], by omega, ⟨hqa.out⟩⟩
  · have hi' : ¬ (i : Int) < l.length := by omega
    simp [hi, hi', hE]
    all_goals trace_state

end Go.Proofs.Ytcaglmjfphjpfaa
