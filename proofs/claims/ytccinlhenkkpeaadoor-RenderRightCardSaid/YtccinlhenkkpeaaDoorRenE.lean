/- An editor, as data; what is right and what is big. -/
import Derived.Test.YtccinlhenkkpeaaDoorRenD
import Derived.Test.YtccinlhenkkpeaaDoorStashA
import Derived.Test.YtccinlhenkkpeaaDoorFindA
import Derived.Test.YtccinlhenkkpeaaDoorKillC
import Derived.Test.YtccinlhenkkpeaaDoorUndoB
namespace Go.Proofs.YtccinlhenkkpeaaDoor
open Go E
set_option linter.unusedSimpArgs false
set_option linter.unusedVariables false
set_option maxRecDepth 100000

structure EditM where
  G : Gap
  K : List (List Int)
  U : List Gap
  La : Int
  Tu : Int
  Si : Int

abbrev edL (e : EditM) : List D := [rn e.G.A, rn e.G.B, rrn e.K, grn e.U, .int .i64 e.La, .int .i64 e.Tu, .int .i64 e.Si]

abbrev edD (e : EditM) : D := .agg [rn e.G.A, rn e.G.B, rrn e.K, grn e.U, .int .i64 e.La, .int .i64 e.Tu, .int .i64 e.Si]

def edIs (e : EditM) : Bool := gapIs e.G && kIs e.K && uIs e.U && decide (0 ≤ e.La ∧ e.La ≤ 3) &&
  (if e.La = 3 then decide (0 ≤ e.Tu ∧ e.Tu < e.K.length ∧ 1 ≤ e.Si ∧ e.Si ≤ e.G.A.length) else decide (e.Tu = 0 ∧ e.Si = 0))

theorem pc_edit_Is (n : Nat) (e : EditM) (hA : e.G.A.length < 2000000) (hB : e.G.B.length < 2000000) (hK : small e.K) (hU : smallU e.U) : (W (n + 6)).pc 23 [edD e] = some (.bool (edIs e)) := by
  apply runs c_edit_Is
  have h1 := pc_gap_Is (n + 1) e.G hA hB
  have h2 := pc_kill_Is (n + 1) e.K hK
  have h3 := pc_undo_Is n e.U hU
  have hk := hK.1
  have ha := hA
  simp [X_edit_Is]
  cases q1 : gapIs e.G
  · rw [q1] at h1
    have he : edIs e = false := by simp [edIs, q1]
    repeat' (first
      | simp (disch := omega) only [wrap_i64, wrap_i32]
      | (simp (disch := first | omega | assumption | (simp only [i64, i32]; omega) | (simp <;> omega) | fail) only [loadD_cpr, loadD_cprs, List.take_of_length_le]; simp [*, h1, he])
      | (with_reducible refine And.intro ?_ ?_; focus first | omega | decide)
      | (with_reducible refine split_ite (fun hp => ?_) (fun hp => ?_) <;> (try simp at hp) <;> simp [*, h1, he])
      | (with_reducible refine split_ite1 (fun hp => ?_) (fun hp => ?_) <;> (try simp at hp) <;> simp [*, h1, he])
      | (refine split_cond (by simp) (fun hp => ?_) (fun hp => ?_) <;> simp at hp <;> simp [*, h1, he])
      | (refine split_ops (by simp) (fun hp => ?_) (fun hp => ?_) <;> simp at hp <;> simp [*, h1, he])
      | (refine split_opsD (by simp) (fun hp => ?_) (fun hp => ?_) <;> simp at hp <;> simp [*, h1, he])
      | (refine split_pick (by simp) (fun hp => ?_) (fun hp => ?_) <;> simp at hp <;> simp [*, h1, he])
      | omega
      | decide
      | (simp [*, h1, he]))
  cases q2 : kIs e.K
  · rw [q1] at h1
    rw [q2] at h2
    have he : edIs e = false := by simp [edIs, q2]
    repeat' (first
      | simp (disch := omega) only [wrap_i64, wrap_i32]
      | (simp (disch := first | omega | assumption | (simp only [i64, i32]; omega) | (simp <;> omega) | fail) only [loadD_cpr, loadD_cprs, List.take_of_length_le]; simp [*, h1, h2, he])
      | (with_reducible refine And.intro ?_ ?_; focus first | omega | decide)
      | (with_reducible refine split_ite (fun hp => ?_) (fun hp => ?_) <;> (try simp at hp) <;> simp [*, h1, h2, he])
      | (with_reducible refine split_ite1 (fun hp => ?_) (fun hp => ?_) <;> (try simp at hp) <;> simp [*, h1, h2, he])
      | (refine split_cond (by simp) (fun hp => ?_) (fun hp => ?_) <;> simp at hp <;> simp [*, h1, h2, he])
      | (refine split_ops (by simp) (fun hp => ?_) (fun hp => ?_) <;> simp at hp <;> simp [*, h1, h2, he])
      | (refine split_opsD (by simp) (fun hp => ?_) (fun hp => ?_) <;> simp at hp <;> simp [*, h1, h2, he])
      | (refine split_pick (by simp) (fun hp => ?_) (fun hp => ?_) <;> simp at hp <;> simp [*, h1, h2, he])
      | omega
      | decide
      | (simp [*, h1, h2, he]))
  cases q3 : uIs e.U
  · rw [q1] at h1
    rw [q2] at h2
    rw [q3] at h3
    have he : edIs e = false := by simp [edIs, q3]
    repeat' (first
      | simp (disch := omega) only [wrap_i64, wrap_i32]
      | (simp (disch := first | omega | assumption | (simp only [i64, i32]; omega) | (simp <;> omega) | fail) only [loadD_cpr, loadD_cprs, List.take_of_length_le]; simp [*, h1, h2, h3, he])
      | (with_reducible refine And.intro ?_ ?_; focus first | omega | decide)
      | (with_reducible refine split_ite (fun hp => ?_) (fun hp => ?_) <;> (try simp at hp) <;> simp [*, h1, h2, h3, he])
      | (with_reducible refine split_ite1 (fun hp => ?_) (fun hp => ?_) <;> (try simp at hp) <;> simp [*, h1, h2, h3, he])
      | (refine split_cond (by simp) (fun hp => ?_) (fun hp => ?_) <;> simp at hp <;> simp [*, h1, h2, h3, he])
      | (refine split_ops (by simp) (fun hp => ?_) (fun hp => ?_) <;> simp at hp <;> simp [*, h1, h2, h3, he])
      | (refine split_opsD (by simp) (fun hp => ?_) (fun hp => ?_) <;> simp at hp <;> simp [*, h1, h2, h3, he])
      | (refine split_pick (by simp) (fun hp => ?_) (fun hp => ?_) <;> simp at hp <;> simp [*, h1, h2, h3, he])
      | omega
      | decide
      | (simp [*, h1, h2, h3, he]))
  rw [q1] at h1
  rw [q2] at h2
  rw [q3] at h3
  repeat' (first
    | simp (disch := omega) only [wrap_i64, wrap_i32]
    | (simp (disch := first | omega | assumption | (simp only [i64, i32]; omega) | (simp <;> omega) | fail) only [loadD_cpr, loadD_cprs, List.take_of_length_le]; simp [*, h1, h2, h3])
    | (with_reducible refine And.intro ?_ ?_; focus first | omega | decide)
    | (with_reducible refine split_ite (fun hp => ?_) (fun hp => ?_) <;> (try simp at hp) <;> simp [*, h1, h2, h3])
    | (with_reducible refine split_ite1 (fun hp => ?_) (fun hp => ?_) <;> (try simp at hp) <;> simp [*, h1, h2, h3])
    | (refine split_cond (by simp) (fun hp => ?_) (fun hp => ?_) <;> simp at hp <;> simp [*, h1, h2, h3])
    | (refine split_ops (by simp) (fun hp => ?_) (fun hp => ?_) <;> simp at hp <;> simp [*, h1, h2, h3])
    | (refine split_opsD (by simp) (fun hp => ?_) (fun hp => ?_) <;> simp at hp <;> simp [*, h1, h2, h3])
    | (refine split_pick (by simp) (fun hp => ?_) (fun hp => ?_) <;> simp at hp <;> simp [*, h1, h2, h3])
    | omega
    | decide
    | (simp [*, h1, h2, h3]))
  all_goals
    simp only [edIs, q1, q2, q3, Bool.true_and]
    grind

def edBig (e : EditM) : Bool := decide (1000 < e.G.A.length) || decide (1000 < e.G.B.length) || decide (50 < e.K.length) || decide (50 < e.U.length) || e.K.any (fun l => decide (1000 < l.length)) || e.U.any gBig

theorem edBig_small {e : EditM} (h : edBig e = false) : small e.K ∧ smallU e.U ∧ e.G.A.length ≤ 1000 ∧ e.G.B.length ≤ 1000 := by
  simp only [edBig, gBig, Bool.or_eq_false_iff, decide_eq_false_iff_not, List.any_eq_false, Bool.or_eq_true, decide_eq_true_eq, not_or] at h
  obtain ⟨⟨⟨⟨⟨h1, h2⟩, h3⟩, h4⟩, h5⟩, h6⟩ := h
  exact ⟨⟨by omega, fun x hx => by have := h5 x hx; omega⟩, ⟨by omega, fun x hx => by have := h6 x hx; omega⟩, by omega, by omega⟩

theorem pc_Big (n : Nat) (e : EditM) : (W (n + 1)).pc 14 [edD e] = some (.bool (edBig e)) := by
  apply runs c_typebarref23_Big
  by_cases hb : 1000 < e.G.A.length ∨ 1000 < e.G.B.length ∨ 50 < e.K.length ∨ 50 < e.U.length
  · have hE : edBig e = true := by
      rcases hb with h | h | h | h <;> simp [edBig, h]
    simp [X_typebarref23_Big, hE]
    repeat' (first
      | simp (disch := omega) only [wrap_i64, wrap_i32]
      | (simp (disch := first | omega | assumption | (simp only [i64, i32]; omega) | (simp <;> omega) | fail) only [loadD_cpr, loadD_cprs, List.take_of_length_le]; simp [*, hE])
      | (with_reducible refine And.intro ?_ ?_; focus first | omega | decide)
      | (with_reducible refine split_ite (fun hp => ?_) (fun hp => ?_) <;> (try simp at hp) <;> simp [*, hE])
      | (with_reducible refine split_ite1 (fun hp => ?_) (fun hp => ?_) <;> (try simp at hp) <;> simp [*, hE])
      | (refine split_cond (by simp) (fun hp => ?_) (fun hp => ?_) <;> simp at hp <;> simp [*, hE])
      | (refine split_ops (by simp) (fun hp => ?_) (fun hp => ?_) <;> simp at hp <;> simp [*, hE])
      | (refine split_opsD (by simp) (fun hp => ?_) (fun hp => ?_) <;> simp at hp <;> simp [*, hE])
      | (refine split_pick (by simp) (fun hp => ?_) (fun hp => ?_) <;> simp at hp <;> simp [*, hE])
      | omega
      | decide
      | (simp [*, hE]))
    all_goals first | rfl | (exfalso; omega)
  · simp only [not_or, Nat.not_lt] at hb
    obtain ⟨b1, b2, b3, b4⟩ := hb
    have c1 : ¬ 1000 < e.G.A.length := by omega
    have c2 : ¬ 1000 < e.G.B.length := by omega
    have c3 : ¬ 50 < e.K.length := by omega
    have c4 : ¬ 50 < e.U.length := by omega
    have d1 : ¬ (1000 : Int) < e.G.A.length := by omega
    have d2 : ¬ (1000 : Int) < e.G.B.length := by omega
    have d3 : ¬ (50 : Int) < e.K.length := by omega
    have d4 : ¬ (50 : Int) < e.U.length := by omega
    have hE := Keep.mk (show edBig e = (e.K.any (fun l => decide (1000 < l.length)) || e.U.any gBig) by simp [edBig, c1, c2, c3, c4])
    simp [X_typebarref23_Big, d1, d2, d3, d4]
    repeat' (first
      | simp (disch := omega) only [wrap_i64, wrap_i32]
      | (simp (disch := first | omega | assumption | (simp only [i64, i32]; omega) | (simp <;> omega) | fail) only [loadD_cpr, loadD_cprs, List.take_of_length_le]; simp [*, d1, d2, d3, d4])
      | (with_reducible refine And.intro ?_ ?_; focus first | omega | decide)
      | (with_reducible refine split_ite (fun hp => ?_) (fun hp => ?_) <;> (try simp at hp) <;> simp [*, d1, d2, d3, d4])
      | (with_reducible refine split_ite1 (fun hp => ?_) (fun hp => ?_) <;> (try simp at hp) <;> simp [*, d1, d2, d3, d4])
      | (refine split_cond (by simp) (fun hp => ?_) (fun hp => ?_) <;> simp at hp <;> simp [*, d1, d2, d3, d4])
      | (refine split_ops (by simp) (fun hp => ?_) (fun hp => ?_) <;> simp at hp <;> simp [*, d1, d2, d3, d4])
      | (refine split_opsD (by simp) (fun hp => ?_) (fun hp => ?_) <;> simp at hp <;> simp [*, d1, d2, d3, d4])
      | (refine split_pick (by simp) (fun hp => ?_) (fun hp => ?_) <;> simp at hp <;> simp [*, d1, d2, d3, d4])
      | omega
      | decide
      | (simp [*, d1, d2, d3, d4]))
    refine aw_rounds (fun m st => ∃ i : Nat, st = ⟨tab [(1, .ptr 0 0 7), (3, .int .i64 i)], ⟨edL e, 0, true⟩ :: []⟩ ∧ i ≤ e.K.length ∧ m = e.K.length - i + 1 ∧ Keep ((e.K.take i).any (fun l => decide (1000 < l.length)) = false)) ?_ ?_ (n := e.K.length - (0) + 1) (by first | omega | (simp; omega)) ?_
    · rintro st ⟨i, hx⟩; omega
    rotate_left
    · exact ⟨0, by first | rfl | (simp [*, accS, accH]; done) | (simp only [*]; done) | (congr 1 <;> simp [*, accS, accH]; done) | (congr 1 <;> simp [*, accS, accH] <;> rfl) | (congr 1 <;> congr 1 <;> simp <;> omega), by first | omega | (simp; omega) | simp [*], by first | rfl | (simp; done) | omega, ⟨by simp⟩⟩
    rintro Ja ma _ ⟨i, rfl, fa1, hma, hqa⟩ hJa
    by_cases hi : i < e.K.length
    · have hi' : (i : Int) < e.K.length := by omega
      by_cases hx : 1000 < (e.K[i]).length
      · have hE2 : edBig e = true := by
          rw [hE.out, any_yes (p := fun l => decide (1000 < l.length)) (l := e.K) hi (by simpa using hx)]; rfl
        have hx' : (1000 : Int) < (e.K[i]).length := by omega
        simp [hi, hi', hE2]
        repeat' (first
          | simp (disch := omega) only [wrap_i64, wrap_i32]
          | (simp (disch := first | omega | assumption | (simp only [i64, i32]; omega) | (simp <;> omega) | fail) only [loadD_cpr, loadD_cprs, List.take_of_length_le]; simp [*, hx, hx'])
          | (with_reducible refine And.intro ?_ ?_; focus first | omega | decide)
          | (with_reducible refine split_ite (fun hp => ?_) (fun hp => ?_) <;> (try simp at hp) <;> simp [*, hx, hx'])
          | (with_reducible refine split_ite1 (fun hp => ?_) (fun hp => ?_) <;> (try simp at hp) <;> simp [*, hx, hx'])
          | (refine split_cond (by simp) (fun hp => ?_) (fun hp => ?_) <;> simp at hp <;> simp [*, hx, hx'])
          | (refine split_ops (by simp) (fun hp => ?_) (fun hp => ?_) <;> simp at hp <;> simp [*, hx, hx'])
          | (refine split_opsD (by simp) (fun hp => ?_) (fun hp => ?_) <;> simp at hp <;> simp [*, hx, hx'])
          | (refine split_pick (by simp) (fun hp => ?_) (fun hp => ?_) <;> simp at hp <;> simp [*, hx, hx'])
          | omega
          | decide
          | (simp [*, hx, hx']))
      · have hx' : ¬ (1000 : Int) < (e.K[i]).length := by omega
        simp [hi, hi']
        repeat' (first
          | simp (disch := omega) only [wrap_i64, wrap_i32]
          | (simp (disch := first | omega | assumption | (simp only [i64, i32]; omega) | (simp <;> omega) | fail) only [loadD_cpr, loadD_cprs, List.take_of_length_le]; simp [*, hx, hx'])
          | (with_reducible refine And.intro ?_ ?_; focus first | omega | decide)
          | (with_reducible refine split_ite (fun hp => ?_) (fun hp => ?_) <;> (try simp at hp) <;> simp [*, hx, hx'])
          | (with_reducible refine split_ite1 (fun hp => ?_) (fun hp => ?_) <;> (try simp at hp) <;> simp [*, hx, hx'])
          | (refine split_cond (by simp) (fun hp => ?_) (fun hp => ?_) <;> simp at hp <;> simp [*, hx, hx'])
          | (refine split_ops (by simp) (fun hp => ?_) (fun hp => ?_) <;> simp at hp <;> simp [*, hx, hx'])
          | (refine split_opsD (by simp) (fun hp => ?_) (fun hp => ?_) <;> simp at hp <;> simp [*, hx, hx'])
          | (refine split_pick (by simp) (fun hp => ?_) (fun hp => ?_) <;> simp at hp <;> simp [*, hx, hx'])
          | omega
          | decide
          | (simp [*, hx, hx']))
        exact hJa.out _ ⟨i + 1, by first | rfl | (simp [*, accS, accH]; done) | (simp only [*]; done) | (congr 1 <;> simp [*, accS, accH]; done) | (congr 1 <;> simp [*, accS, accH] <;> rfl) | (congr 1 <;> congr 1 <;> simp <;> omega), by first | omega | (simp; omega) | simp [*], by omega, ⟨by rw [List.take_succ_eq_append_getElem hi, List.any_append, hqa.out]; simp; omega⟩⟩
    · have hi' : ¬ (i : Int) < e.K.length := by omega
      have hK : e.K.any (fun l => decide (1000 < l.length)) = false := by
        have := hqa.out
        rwa [List.take_of_length_le (by omega)] at this
      have hE3 := Keep.mk (show edBig e = e.U.any gBig by rw [hE.out, hK]; simp)
      simp [hi, hi']
      repeat' (first
        | simp (disch := omega) only [wrap_i64, wrap_i32]
        | (simp (disch := first | omega | assumption | (simp only [i64, i32]; omega) | (simp <;> omega) | fail) only [loadD_cpr, loadD_cprs, List.take_of_length_le]; simp [*, hi'])
        | (with_reducible refine And.intro ?_ ?_; focus first | omega | decide)
        | (with_reducible refine split_ite (fun hp => ?_) (fun hp => ?_) <;> (try simp at hp) <;> simp [*, hi'])
        | (with_reducible refine split_ite1 (fun hp => ?_) (fun hp => ?_) <;> (try simp at hp) <;> simp [*, hi'])
        | (refine split_cond (by simp) (fun hp => ?_) (fun hp => ?_) <;> simp at hp <;> simp [*, hi'])
        | (refine split_ops (by simp) (fun hp => ?_) (fun hp => ?_) <;> simp at hp <;> simp [*, hi'])
        | (refine split_opsD (by simp) (fun hp => ?_) (fun hp => ?_) <;> simp at hp <;> simp [*, hi'])
        | (refine split_pick (by simp) (fun hp => ?_) (fun hp => ?_) <;> simp at hp <;> simp [*, hi'])
        | omega
        | decide
        | (simp [*, hi']))
      clear hE hK hi hi' hqa fa1
      refine aw_rounds (fun m st => ∃ j : Nat, st = ⟨tab [(1, .ptr 0 0 7), (4, .int .i64 j)], ⟨edL e, 0, true⟩ :: []⟩ ∧ j ≤ e.U.length ∧ m = e.U.length - j + 1 ∧ Keep ((e.U.take j).any gBig = false)) ?_ ?_ (n := e.U.length - (0) + 1) (by first | omega | (simp; omega)) ?_
      · rintro st ⟨j, hx⟩; omega
      rotate_left
      · exact ⟨0, by first | rfl | (simp [*, accS, accH]; done) | (simp only [*]; done) | (congr 1 <;> simp [*, accS, accH]; done) | (congr 1 <;> simp [*, accS, accH] <;> rfl) | (congr 1 <;> congr 1 <;> simp <;> omega), by first | omega | (simp; omega) | simp [*], by first | rfl | (simp; done) | omega, ⟨by simp⟩⟩
      rintro Jb mb _ ⟨j, rfl, fb1, hmb, hqb⟩ hJb
      by_cases hj : j < e.U.length
      · have hj' : (j : Int) < e.U.length := by omega
        cases hx : gBig e.U[j]
        · have hq : ¬ 1000 < e.U[j].A.length ∧ ¬ 1000 < e.U[j].B.length := by simpa [gBig] using hx
          obtain ⟨q1, q2⟩ := hq
          have q1' : ¬ (1000 : Int) < e.U[j].A.length := by omega
          have q2' : ¬ (1000 : Int) < e.U[j].B.length := by omega
          simp [hj, hj']
          repeat' (first
            | simp (disch := omega) only [wrap_i64, wrap_i32]
            | (simp (disch := first | omega | assumption | (simp only [i64, i32]; omega) | (simp <;> omega) | fail) only [loadD_cpr, loadD_cprs, List.take_of_length_le]; simp [*, q1', q2'])
            | (with_reducible refine And.intro ?_ ?_; focus first | omega | decide)
            | (with_reducible refine split_ite (fun hp => ?_) (fun hp => ?_) <;> (try simp at hp) <;> simp [*, q1', q2'])
            | (with_reducible refine split_ite1 (fun hp => ?_) (fun hp => ?_) <;> (try simp at hp) <;> simp [*, q1', q2'])
            | (refine split_cond (by simp) (fun hp => ?_) (fun hp => ?_) <;> simp at hp <;> simp [*, q1', q2'])
            | (refine split_ops (by simp) (fun hp => ?_) (fun hp => ?_) <;> simp at hp <;> simp [*, q1', q2'])
            | (refine split_opsD (by simp) (fun hp => ?_) (fun hp => ?_) <;> simp at hp <;> simp [*, q1', q2'])
            | (refine split_pick (by simp) (fun hp => ?_) (fun hp => ?_) <;> simp at hp <;> simp [*, q1', q2'])
            | omega
            | decide
            | (simp [*, q1', q2']))
          exact hJb.out _ ⟨j + 1, by first | rfl | (simp [*, accS, accH]; done) | (simp only [*]; done) | (congr 1 <;> simp [*, accS, accH]; done) | (congr 1 <;> simp [*, accS, accH] <;> rfl) | (congr 1 <;> congr 1 <;> simp <;> omega), by first | omega | (simp; omega) | simp [*], by omega, ⟨by rw [List.take_succ_eq_append_getElem hj, List.any_append, hqb.out]; simp [hx]⟩⟩
        · have hE2 : edBig e = true := by rw [hE3.out, any_yes (p := gBig) (l := e.U) hj hx]
          simp only [gBig, Bool.or_eq_true, decide_eq_true_eq] at hx
          by_cases q1 : 1000 < e.U[j].A.length
          · have q1' : (1000 : Int) < e.U[j].A.length := by omega
            clear hx
            simp [hj, hj', hE2]
            repeat' (first
              | simp (disch := omega) only [wrap_i64, wrap_i32]
              | (simp (disch := first | omega | assumption | (simp only [i64, i32]; omega) | (simp <;> omega) | fail) only [loadD_cpr, loadD_cprs, List.take_of_length_le]; simp [*, q1', hE2])
              | (with_reducible refine And.intro ?_ ?_; focus first | omega | decide)
              | (with_reducible refine split_ite (fun hp => ?_) (fun hp => ?_) <;> (try simp at hp) <;> simp [*, q1', hE2])
              | (with_reducible refine split_ite1 (fun hp => ?_) (fun hp => ?_) <;> (try simp at hp) <;> simp [*, q1', hE2])
              | (refine split_cond (by simp) (fun hp => ?_) (fun hp => ?_) <;> simp at hp <;> simp [*, q1', hE2])
              | (refine split_ops (by simp) (fun hp => ?_) (fun hp => ?_) <;> simp at hp <;> simp [*, q1', hE2])
              | (refine split_opsD (by simp) (fun hp => ?_) (fun hp => ?_) <;> simp at hp <;> simp [*, q1', hE2])
              | (refine split_pick (by simp) (fun hp => ?_) (fun hp => ?_) <;> simp at hp <;> simp [*, q1', hE2])
              | omega
              | decide
              | (simp [*, q1', hE2]))
          · have q2 : 1000 < e.U[j].B.length := by omega
            have q1' : ¬ (1000 : Int) < e.U[j].A.length := by omega
            have q2' : (1000 : Int) < e.U[j].B.length := by omega
            clear hx
            simp [hj, hj', hE2]
            repeat' (first
              | simp (disch := omega) only [wrap_i64, wrap_i32]
              | (simp (disch := first | omega | assumption | (simp only [i64, i32]; omega) | (simp <;> omega) | fail) only [loadD_cpr, loadD_cprs, List.take_of_length_le]; simp [*, q1', q2', hE2])
              | (with_reducible refine And.intro ?_ ?_; focus first | omega | decide)
              | (with_reducible refine split_ite (fun hp => ?_) (fun hp => ?_) <;> (try simp at hp) <;> simp [*, q1', q2', hE2])
              | (with_reducible refine split_ite1 (fun hp => ?_) (fun hp => ?_) <;> (try simp at hp) <;> simp [*, q1', q2', hE2])
              | (refine split_cond (by simp) (fun hp => ?_) (fun hp => ?_) <;> simp at hp <;> simp [*, q1', q2', hE2])
              | (refine split_ops (by simp) (fun hp => ?_) (fun hp => ?_) <;> simp at hp <;> simp [*, q1', q2', hE2])
              | (refine split_opsD (by simp) (fun hp => ?_) (fun hp => ?_) <;> simp at hp <;> simp [*, q1', q2', hE2])
              | (refine split_pick (by simp) (fun hp => ?_) (fun hp => ?_) <;> simp at hp <;> simp [*, q1', q2', hE2])
              | omega
              | decide
              | (simp [*, q1', q2', hE2]))
      · have hj' : ¬ (j : Int) < e.U.length := by omega
        have hE2 : edBig e = false := by
          have := hqb.out
          rw [List.take_of_length_le (by omega)] at this
          rw [hE3.out, this]
        simp [hj, hj', hE2]


/-- A search. -/
structure SrM where
  on : Bool
  fore : Bool
  pat : List Int
  from_ : Int
  hit : Bool
  i : Int
  at_ : Int

structure EditorM where
  E : EditM
  has : Bool
  neg : Bool
  n : Int
  vm : Int
  vo : Int
  map_ : Int
  quote : Bool
  P : Past
  S : StashM
  F : SrM
  fresh : Int

abbrev srL (f : SrM) : List D := [.bool f.on, .bool f.fore, rn f.pat, .int .i64 f.from_, .bool f.hit, .int .i64 f.i, .int .i64 f.at_]

abbrev srD (f : SrM) : D := .agg [.bool f.on, .bool f.fore, rn f.pat, .int .i64 f.from_, .bool f.hit, .int .i64 f.i, .int .i64 f.at_]

abbrev edrL (e : EditorM) : List D := [rn e.E.G.A, rn e.E.G.B, rrn e.E.K, grn e.E.U, .int .i64 e.E.La, .int .i64 e.E.Tu, .int .i64 e.E.Si, .bool e.has, .bool e.neg, .int .i64 e.n, .int .i64 e.vm, .int .i64 e.vo, .int .i64 e.map_, .bool e.quote,
  .int .i64 e.P.room, .int .i64 e.P.dup, rrn e.P.L, .int .i64 e.S.at_, srn e.S.L, .bool e.F.on, .bool e.F.fore, rn e.F.pat, .int .i64 e.F.from_, .bool e.F.hit, .int .i64 e.F.i, .int .i64 e.F.at_, .int .i64 e.fresh]

abbrev edrD (e : EditorM) : D := .agg [rn e.E.G.A, rn e.E.G.B, rrn e.E.K, grn e.E.U, .int .i64 e.E.La, .int .i64 e.E.Tu, .int .i64 e.E.Si, .bool e.has, .bool e.neg, .int .i64 e.n, .int .i64 e.vm, .int .i64 e.vo, .int .i64 e.map_, .bool e.quote,
  .int .i64 e.P.room, .int .i64 e.P.dup, rrn e.P.L, .int .i64 e.S.at_, srn e.S.L, .bool e.F.on, .bool e.F.fore, rn e.F.pat, .int .i64 e.F.from_, .bool e.F.hit, .int .i64 e.F.i, .int .i64 e.F.at_, .int .i64 e.fresh]

theorem eqCells_ii (k j : IntKind) (a b c d : Int) : eqCells [0, 0] [.int k a, .int j b] [.int k c, .int j d] = some (decide (a = c ∧ b = d)) := by
  have e : decide (a = c ∧ b = d) = ((a == c) && (b == d)) := by
    by_cases h1 : a = c <;> by_cases h2 : b = d <;> simp [h1, h2]
  rw [e]
  simp only [eqCells, eqCell, if_true]
  cases (a == c) <;> cases (b == d) <;> rfl

theorem eqCells_bbi (k : IntKind) (a b c d : Bool) (x y : Int) : eqCells [1, 1, 0] [.bool a, .bool b, .int k x] [.bool c, .bool d, .int k y] = some (decide (a = c ∧ b = d ∧ x = y)) := by
  have e : decide (a = c ∧ b = d ∧ x = y) = ((a == c) && ((b == d) && (x == y))) := by
    by_cases h1 : a = c <;> by_cases h2 : b = d <;> by_cases h3 : x = y <;> simp [h1, h2, h3]
  rw [e]
  simp only [eqCells, eqCell, if_true]
  cases (a == c) <;> cases (b == d) <;> cases (x == y) <;> rfl

def ctIs (has neg : Bool) (n : Int) : Bool := if has then decide (0 ≤ n ∧ n ≤ 9999) else !neg && decide (n = 0)

theorem pc_count_Is (k : Nat) (has neg : Bool) (n : Int) : (W (k + 1)).pc 24 [.agg [.bool has, .bool neg, .int .i64 n]] = some (.bool (ctIs has neg n)) := by
  apply runs c_count_Is
  cases has <;> cases neg
  all_goals
    simp [X_count_Is, ctIs]
    repeat' (first
      | simp (disch := omega) only [wrap_i64, wrap_i32]
      | (simp (disch := first | omega | assumption | (simp only [i64, i32]; omega) | (simp <;> omega) | fail) only [loadD_cpr, loadD_cprs, List.take_of_length_le]; simp [*, eqCells_bbi])
      | (with_reducible refine And.intro ?_ ?_; focus first | omega | decide)
      | (with_reducible refine split_ite (fun hp => ?_) (fun hp => ?_) <;> (try simp at hp) <;> simp [*, eqCells_bbi])
      | (with_reducible refine split_ite1 (fun hp => ?_) (fun hp => ?_) <;> (try simp at hp) <;> simp [*, eqCells_bbi])
      | (refine split_cond (by simp) (fun hp => ?_) (fun hp => ?_) <;> simp at hp <;> simp [*, eqCells_bbi])
      | (refine split_ops (by simp) (fun hp => ?_) (fun hp => ?_) <;> simp at hp <;> simp [*, eqCells_bbi])
      | (refine split_opsD (by simp) (fun hp => ?_) (fun hp => ?_) <;> simp at hp <;> simp [*, eqCells_bbi])
      | (refine split_pick (by simp) (fun hp => ?_) (fun hp => ?_) <;> simp at hp <;> simp [*, eqCells_bbi])
      | omega
      | decide
      | (simp [*, eqCells_bbi]))
  all_goals grind

def viIs (vm vo : Int) : Bool := if vm = 0 then decide (vo = 0) else if vm = 1 then decide (0 ≤ vo ∧ vo ≤ 3) else false

theorem pc_vi_Is (k : Nat) (vm vo : Int) : (W (k + 1)).pc 25 [.agg [.int .i64 vm, .int .i64 vo]] = some (.bool (viIs vm vo)) := by
  apply runs c_vi_Is
  simp [X_vi_Is]
  repeat' (first
    | simp (disch := omega) only [wrap_i64, wrap_i32]
    | (simp (disch := first | omega | assumption | (simp only [i64, i32]; omega) | (simp <;> omega) | fail) only [loadD_cpr, loadD_cprs, List.take_of_length_le]; simp [*])
    | (with_reducible refine And.intro ?_ ?_; focus first | omega | decide)
    | (with_reducible refine split_ite (fun hp => ?_) (fun hp => ?_) <;> (try simp at hp) <;> simp [*])
    | (with_reducible refine split_ite1 (fun hp => ?_) (fun hp => ?_) <;> (try simp at hp) <;> simp [*])
    | (refine split_cond (by simp) (fun hp => ?_) (fun hp => ?_) <;> simp at hp <;> simp [*])
    | (refine split_ops (by simp) (fun hp => ?_) (fun hp => ?_) <;> simp at hp <;> simp [*])
    | (refine split_opsD (by simp) (fun hp => ?_) (fun hp => ?_) <;> simp at hp <;> simp [*])
    | (refine split_pick (by simp) (fun hp => ?_) (fun hp => ?_) <;> simp at hp <;> simp [*])
    | omega
    | decide
    | (simp [*]))
  all_goals grind [viIs]

end Go.Proofs.YtccinlhenkkpeaaDoor
