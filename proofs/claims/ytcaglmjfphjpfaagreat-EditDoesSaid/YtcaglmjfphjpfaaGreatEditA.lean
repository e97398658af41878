/- Where a move of layer 23 leads. -/
import Derived.Test.YtcaglmjfphjpfaaGreatWordsE
namespace Go.Proofs.YtcaglmjfphjpfaaGreat
open Go E
set_option linter.unusedSimpArgs false
set_option linter.unusedVariables false

set_option maxHeartbeats 1600000 in
theorem pc_edit_opposite (n : Nat) (mv : Int) (h : 0 ≤ mv ∧ mv ≤ 9) : (W (n + 1)).pc 58 [.int .i64 mv] = some (.int .i64 (oppE mv)) := by
  apply runs c_edit_opposite
  obtain h | h | h | h | h | h | h | h | h | h : mv = 0 ∨ mv = 1 ∨ mv = 2 ∨ mv = 3 ∨ mv = 4 ∨ mv = 5 ∨ mv = 6 ∨ mv = 7 ∨ mv = 8 ∨ mv = 9 := by omega
  all_goals subst h
  all_goals simp [X_edit_opposite, oppE, putAt]

theorem pc_ref23_opposite (n : Nat) (mv : Int) (h : mv = 1 ∨ mv = 2 ∨ 5 ≤ mv ∧ mv ≤ 9) : (W (n + 1)).pc 75 [.int .i64 mv] = some (.int .i64 (oppE mv)) := by
  apply runs c_typebarref23_opposite
  obtain h | h | h | h | h | h | h : mv = 1 ∨ mv = 2 ∨ mv = 5 ∨ mv = 6 ∨ mv = 7 ∨ mv = 8 ∨ mv = 9 := by omega
  all_goals subst h
  all_goals simp [X_typebarref23_opposite, oppE]
  all_goals rfl

theorem oppE_in {mv : Int} (h : mv = 1 ∨ mv = 2 ∨ 5 ≤ mv ∧ mv ≤ 9) : oppE mv = 1 ∨ oppE mv = 2 ∨ 5 ≤ oppE mv ∧ oppE mv ≤ 9 := by
  obtain h | h | h | h | h | h | h : mv = 1 ∨ mv = 2 ∨ mv = 5 ∨ mv = 6 ∨ mv = 7 ∨ mv = 8 ∨ mv = 9 := by omega
  all_goals subst h
  all_goals decide

@[simp] theorem pc_edit_counts (n : Nat) (k : Int) : (W (n + 1)).pc 11 [.int .i64 k] = some (.bool (decide (-9999 ≤ k ∧ k ≤ 9999))) := by
  apply runs c_edit_counts
  simp [X_edit_counts]
  repeat' (first
    | simp (disch := omega) only [wrap_i64, wrap_i32]
    | (simp (disch := first | omega | assumption | (simp only [i64, i32]; omega) | (simp <;> omega) | fail) only [loadD_cpr, loadD_cprs, List.take_of_length_le]; simp [*])
    | (with_reducible refine And.intro ?_ ?_; focus first | omega | decide)
    | (with_reducible refine split_ite (fun hp => ?_) (fun hp => ?_) <;> (try simp at hp) <;> simp [*])
    | (with_reducible refine split_ite1 (fun hp => ?_) (fun hp => ?_) <;> (try simp at hp) <;> simp [*])
    | (refine split_cond (by simp) (fun hp => ?_) (fun hp => ?_) <;> simp at hp <;> simp [*])
    | (refine split_ops (by simp) (fun hp => ?_) (fun hp => ?_) <;> simp at hp <;> simp [*])
    | (refine split_opsD (by simp) (fun hp => ?_) (fun hp => ?_) <;> simp at hp <;> simp [*])
    | (refine split_pick (by simp) (fun hp => ?_) (fun hp => ?_) <;> simp at hp <;> simp [*])
    | omega
    | decide
    | (simp [*]))
  all_goals (simp; omega)

/-- Where a move leads; a number of steps below 0: the other way. -/
def tgtE (l : List Int) (a mv n : Int) : Int × Int :=
  if a < 0 ∨ l.length < a ∨ mv < 1 ∨ 10 < mv ∨ n < -9999 ∨ 9999 < n then (0, 1) else if mv = 3 then (0, 0) else if mv = 4 ∨ mv = 10 then (l.length, 0) else
  if n < 0 then (iterE l (oppE mv) (-n).toNat a, 0) else (iterE l mv n.toNat a, 0)

set_option maxHeartbeats 1600000 in
theorem pc_edit_Target (n : Nat) (l : List Int) (a mv k : Int) (hl : l.length < 2000000) : (W (n + 8)).pc 27 [rn l, .int .i64 a, .int .i64 mv, .int .i64 k] = some (.tup [.int .i64 (tgtE l a mv k).1, D.int .i64 (tgtE l a mv k).2]) := by
  apply runs c_edit_Target
  by_cases hbad : a < 0 ∨ l.length < a ∨ mv < 1 ∨ 10 < mv ∨ k < -9999 ∨ 9999 < k
  · have ht : tgtE l a mv k = (0, 1) := by rw [tgtE, if_pos hbad]
    rw [ht]
    simp [X_edit_Target]
    repeat' (first
      | simp (disch := omega) only [wrap_i64, wrap_i32]
      | (simp (disch := first | omega | assumption | (simp only [i64, i32]; omega) | (simp <;> omega) | fail) only [loadD_cpr, loadD_cprs, List.take_of_length_le]; simp [*])
      | (with_reducible refine And.intro ?_ ?_; focus first | omega | decide)
      | (with_reducible refine split_ite (fun hp => ?_) (fun hp => ?_) <;> (try simp at hp) <;> simp [*])
      | (with_reducible refine split_ite1 (fun hp => ?_) (fun hp => ?_) <;> (try simp at hp) <;> simp [*])
      | (refine split_cond (by simp) (fun hp => ?_) (fun hp => ?_) <;> simp at hp <;> simp [*])
      | (refine split_ops (by simp) (fun hp => ?_) (fun hp => ?_) <;> simp at hp <;> simp [*])
      | (refine split_opsD (by simp) (fun hp => ?_) (fun hp => ?_) <;> simp at hp <;> simp [*])
      | (refine split_pick (by simp) (fun hp => ?_) (fun hp => ?_) <;> simp at hp <;> simp [*])
      | omega
      | decide
      | (simp [*]))
    all_goals first | rfl | omega | trace_state
  by_cases h3 : mv = 3
  · have ht : tgtE l a mv k = (0, 0) := by rw [tgtE, if_neg hbad, if_pos h3]
    rw [ht]
    simp [X_edit_Target, h3]
    repeat' (first
      | simp (disch := omega) only [wrap_i64, wrap_i32]
      | (simp (disch := first | omega | assumption | (simp only [i64, i32]; omega) | (simp <;> omega) | fail) only [loadD_cpr, loadD_cprs, List.take_of_length_le]; simp [*])
      | (with_reducible refine And.intro ?_ ?_; focus first | omega | decide)
      | (with_reducible refine split_ite (fun hp => ?_) (fun hp => ?_) <;> (try simp at hp) <;> simp [*])
      | (with_reducible refine split_ite1 (fun hp => ?_) (fun hp => ?_) <;> (try simp at hp) <;> simp [*])
      | (refine split_cond (by simp) (fun hp => ?_) (fun hp => ?_) <;> simp at hp <;> simp [*])
      | (refine split_ops (by simp) (fun hp => ?_) (fun hp => ?_) <;> simp at hp <;> simp [*])
      | (refine split_opsD (by simp) (fun hp => ?_) (fun hp => ?_) <;> simp at hp <;> simp [*])
      | (refine split_pick (by simp) (fun hp => ?_) (fun hp => ?_) <;> simp at hp <;> simp [*])
      | omega
      | decide
      | (simp [*]))
    all_goals first | rfl | omega | trace_state
  by_cases h4 : mv = 4 ∨ mv = 10
  · have ht : tgtE l a mv k = ((l.length : Int), 0) := by rw [tgtE, if_neg hbad, if_neg h3, if_pos h4]
    rw [ht]
    simp [X_edit_Target, h3]
    repeat' (first
      | simp (disch := omega) only [wrap_i64, wrap_i32]
      | (simp (disch := first | omega | assumption | (simp only [i64, i32]; omega) | (simp <;> omega) | fail) only [loadD_cpr, loadD_cprs, List.take_of_length_le]; simp [*])
      | (with_reducible refine And.intro ?_ ?_; focus first | omega | decide)
      | (with_reducible refine split_ite (fun hp => ?_) (fun hp => ?_) <;> (try simp at hp) <;> simp [*])
      | (with_reducible refine split_ite1 (fun hp => ?_) (fun hp => ?_) <;> (try simp at hp) <;> simp [*])
      | (refine split_cond (by simp) (fun hp => ?_) (fun hp => ?_) <;> simp at hp <;> simp [*])
      | (refine split_ops (by simp) (fun hp => ?_) (fun hp => ?_) <;> simp at hp <;> simp [*])
      | (refine split_opsD (by simp) (fun hp => ?_) (fun hp => ?_) <;> simp at hp <;> simp [*])
      | (refine split_pick (by simp) (fun hp => ?_) (fun hp => ?_) <;> simp at hp <;> simp [*])
      | omega
      | decide
      | (simp [*]))
    all_goals first | rfl | omega | trace_state
  have hmv : mv = 1 ∨ mv = 2 ∨ 5 ≤ mv ∧ mv ≤ 9 := by omega
  have ho := oppE_in hmv
  have hop := pc_edit_opposite (n + 6) mv (by omega)
  have hkk := Keep.mk hbad
  obtain ⟨q1, q2, q3, q4, q5, q6⟩ : ¬ a < 0 ∧ ¬ (l.length : Int) < a ∧ ¬ mv < 1 ∧ ¬ 10 < mv ∧ ¬ k < -9999 ∧ ¬ 9999 < k := by omega
  have q7 : ¬ mv = 4 := by omega
  have q8 : ¬ mv = 10 := by omega
  by_cases hk : k < 0
  · have ht : tgtE l a mv k = (iterE l (oppE mv) (-k).toNat a, 0) := by rw [tgtE, if_neg hbad, if_neg h3, if_neg h4, if_pos hk]
    rw [ht]
    clear ht hbad h4 hkk
    generalize oppE mv = mo at *
    obtain ⟨z, hz⟩ : ∃ z : Nat, k = -z := ⟨(-k).toNat, by omega⟩
    subst hz
    simp only [Int.neg_neg, Int.toNat_natCast]
    simp [X_edit_Target, h3, q1, q2, q3, q4, q5, q6, q7, q8, hk, hop]
    repeat' (first
      | simp (disch := omega) only [wrap_i64, wrap_i32]
      | (simp (disch := first | omega | assumption | (simp only [i64, i32]; omega) | (simp <;> omega) | fail) only [loadD_cpr, loadD_cprs, List.take_of_length_le]; simp [*, hop])
      | (with_reducible refine And.intro ?_ ?_; focus first | omega | decide)
      | (with_reducible refine split_ite (fun hp => ?_) (fun hp => ?_) <;> (try simp at hp) <;> simp [*, hop])
      | (with_reducible refine split_ite1 (fun hp => ?_) (fun hp => ?_) <;> (try simp at hp) <;> simp [*, hop])
      | (refine split_cond (by simp) (fun hp => ?_) (fun hp => ?_) <;> simp at hp <;> simp [*, hop])
      | (refine split_ops (by simp) (fun hp => ?_) (fun hp => ?_) <;> simp at hp <;> simp [*, hop])
      | (refine split_opsD (by simp) (fun hp => ?_) (fun hp => ?_) <;> simp at hp <;> simp [*, hop])
      | (refine split_pick (by simp) (fun hp => ?_) (fun hp => ?_) <;> simp at hp <;> simp [*, hop])
      | omega
      | decide
      | (simp [*, hop]))
    refine aw_rounds (fun m st => ∃ c : Nat, ∃ b : Int, st.t 0 = rn l ∧ st.t 1 = .int .i64 b ∧ st.t 2 = .int .i64 mo ∧ st.t 3 = .int .i64 c ∧ st.h = [] ∧ 0 ≤ b ∧ b ≤ l.length ∧ c ≤ 9999 ∧ m = c + 1 ∧ Keep (iterE l mo z a = iterE l mo c b)) ?_ ?_ (n := (z) + 1) (by first | omega | (simp; omega)) ?_
    · rintro st ⟨c, b, hx⟩; omega
    rotate_left
    · exact ⟨z, a, by first | (simp [*]; done) | (simp [*]; omega) | rfl, by first | (simp [*]; done) | (simp [*]; omega) | rfl, by first | (simp [*]; done) | (simp [*]; omega) | rfl, by first | (simp [*]; done) | (simp [*]; omega) | rfl, by first | (simp [*]; done) | (simp [*]; omega) | rfl, by first | omega | (simp; omega) | simp [*], by first | omega | (simp; omega) | simp [*], by first | omega | (simp; omega) | simp [*], by first | rfl | (simp; done) | omega, ⟨rfl⟩⟩
    rintro Ja ma ⟨t, h⟩ ⟨c, b, ea0, ea1, ea2, ea3, hha, fa1, fa2, fa3, hma, hqa⟩ hJa
    simp only [] at ea0 ea1 ea2 ea3 hha
    subst hha
    simp [ea0, ea1, ea2, ea3]
    have hone := pc_edit_one n l b mo hl ⟨by omega, by omega⟩
    obtain ⟨w1, _, _⟩ := stepE_way l b mo ⟨by omega, by omega⟩ ho
    have hw := Keep.mk w1
    clear w1
    by_cases hc : c = 0
    · subst hc
      have hz : iterE l mo z a = b := hqa.out
      repeat' (first
        | simp (disch := omega) only [wrap_i64, wrap_i32]
        | (simp (disch := first | omega | assumption | (simp only [i64, i32]; omega) | (simp <;> omega) | fail) only [loadD_cpr, loadD_cprs, List.take_of_length_le]; simp [*, hz])
        | (with_reducible refine And.intro ?_ ?_; focus first | omega | decide)
        | (with_reducible refine split_ite (fun hp => ?_) (fun hp => ?_) <;> (try simp at hp) <;> simp [*, hz])
        | (with_reducible refine split_ite1 (fun hp => ?_) (fun hp => ?_) <;> (try simp at hp) <;> simp [*, hz])
        | (refine split_cond (by simp) (fun hp => ?_) (fun hp => ?_) <;> simp at hp <;> simp [*, hz])
        | (refine split_ops (by simp) (fun hp => ?_) (fun hp => ?_) <;> simp at hp <;> simp [*, hz])
        | (refine split_opsD (by simp) (fun hp => ?_) (fun hp => ?_) <;> simp at hp <;> simp [*, hz])
        | (refine split_pick (by simp) (fun hp => ?_) (fun hp => ?_) <;> simp at hp <;> simp [*, hz])
        | omega
        | decide
        | (simp [*, hz]))
    · obtain ⟨d, rfl⟩ : ∃ d, c = d + 1 := ⟨c - 1, by omega⟩
      by_cases hs : stepE l b mo = b
      · have hz : iterE l mo z a = b := by rw [hqa.out]; exact iterE_fix hs _
        rw [hs] at hone
        repeat' (first
          | simp (disch := omega) only [wrap_i64, wrap_i32]
          | (simp (disch := first | omega | assumption | (simp only [i64, i32]; omega) | (simp <;> omega) | fail) only [loadD_cpr, loadD_cprs, List.take_of_length_le]; simp [*, hone, hz])
          | (with_reducible refine And.intro ?_ ?_; focus first | omega | decide)
          | (with_reducible refine split_ite (fun hp => ?_) (fun hp => ?_) <;> (try simp at hp) <;> simp [*, hone, hz])
          | (with_reducible refine split_ite1 (fun hp => ?_) (fun hp => ?_) <;> (try simp at hp) <;> simp [*, hone, hz])
          | (refine split_cond (by simp) (fun hp => ?_) (fun hp => ?_) <;> simp at hp <;> simp [*, hone, hz])
          | (refine split_ops (by simp) (fun hp => ?_) (fun hp => ?_) <;> simp at hp <;> simp [*, hone, hz])
          | (refine split_opsD (by simp) (fun hp => ?_) (fun hp => ?_) <;> simp at hp <;> simp [*, hone, hz])
          | (refine split_pick (by simp) (fun hp => ?_) (fun hp => ?_) <;> simp at hp <;> simp [*, hone, hz])
          | omega
          | decide
          | (simp [*, hone, hz]))
        all_goals trace_state
      · repeat' (first
          | simp (disch := omega) only [wrap_i64, wrap_i32]
          | (simp (disch := first | omega | assumption | (simp only [i64, i32]; omega) | (simp <;> omega) | fail) only [loadD_cpr, loadD_cprs, List.take_of_length_le]; simp [*, hone, hs])
          | (with_reducible refine And.intro ?_ ?_; focus first | omega | decide)
          | (with_reducible refine split_ite (fun hp => ?_) (fun hp => ?_) <;> (try simp at hp) <;> simp [*, hone, hs])
          | (with_reducible refine split_ite1 (fun hp => ?_) (fun hp => ?_) <;> (try simp at hp) <;> simp [*, hone, hs])
          | (refine split_cond (by simp) (fun hp => ?_) (fun hp => ?_) <;> simp at hp <;> simp [*, hone, hs])
          | (refine split_ops (by simp) (fun hp => ?_) (fun hp => ?_) <;> simp at hp <;> simp [*, hone, hs])
          | (refine split_opsD (by simp) (fun hp => ?_) (fun hp => ?_) <;> simp at hp <;> simp [*, hone, hs])
          | (refine split_pick (by simp) (fun hp => ?_) (fun hp => ?_) <;> simp at hp <;> simp [*, hone, hs])
          | omega
          | decide
          | (simp [*, hone, hs]))
        obtain ⟨w1, w2⟩ := hw.out
        exact hJa.out _ ⟨d, stepE l b mo, by first | (simp [*]; done) | (simp [*]; omega) | rfl, by first | (simp [*]; done) | (simp [*]; omega) | rfl, by first | (simp [*]; done) | (simp [*]; omega) | rfl, by first | (simp [*]; done) | (simp [*]; omega) | rfl, by first | (simp [*]; done) | (simp [*]; omega) | rfl, by first | omega | (simp; omega) | simp [*], by first | omega | (simp; omega) | simp [*], by first | omega | (simp; omega) | simp [*], by omega, ⟨hqa.out⟩⟩
  · have ht : tgtE l a mv k = (iterE l mv k.toNat a, 0) := by rw [tgtE, if_neg hbad, if_neg h3, if_neg h4, if_neg hk]
    rw [ht]
    clear ht hbad h4 hkk
    obtain ⟨z, rfl⟩ : ∃ z : Nat, k = z := ⟨k.toNat, by omega⟩
    simp [X_edit_Target, h3, q1, q2, q3, q4, q5, q6, q7, q8, hk, hop]
    repeat' (first
      | simp (disch := omega) only [wrap_i64, wrap_i32]
      | (simp (disch := first | omega | assumption | (simp only [i64, i32]; omega) | (simp <;> omega) | fail) only [loadD_cpr, loadD_cprs, List.take_of_length_le]; simp [*, hop])
      | (with_reducible refine And.intro ?_ ?_; focus first | omega | decide)
      | (with_reducible refine split_ite (fun hp => ?_) (fun hp => ?_) <;> (try simp at hp) <;> simp [*, hop])
      | (with_reducible refine split_ite1 (fun hp => ?_) (fun hp => ?_) <;> (try simp at hp) <;> simp [*, hop])
      | (refine split_cond (by simp) (fun hp => ?_) (fun hp => ?_) <;> simp at hp <;> simp [*, hop])
      | (refine split_ops (by simp) (fun hp => ?_) (fun hp => ?_) <;> simp at hp <;> simp [*, hop])
      | (refine split_opsD (by simp) (fun hp => ?_) (fun hp => ?_) <;> simp at hp <;> simp [*, hop])
      | (refine split_pick (by simp) (fun hp => ?_) (fun hp => ?_) <;> simp at hp <;> simp [*, hop])
      | omega
      | decide
      | (simp [*, hop]))
    refine aw_rounds (fun m st => ∃ c : Nat, ∃ b : Int, st.t 0 = rn l ∧ st.t 1 = .int .i64 b ∧ st.t 2 = .int .i64 mv ∧ st.t 3 = .int .i64 c ∧ st.h = [] ∧ 0 ≤ b ∧ b ≤ l.length ∧ c ≤ 9999 ∧ m = c + 1 ∧ Keep (iterE l mv z a = iterE l mv c b)) ?_ ?_ (n := (z) + 1) (by first | omega | (simp; omega)) ?_
    · rintro st ⟨c, b, hx⟩; omega
    rotate_left
    · exact ⟨z, a, by first | (simp [*]; done) | (simp [*]; omega) | rfl, by first | (simp [*]; done) | (simp [*]; omega) | rfl, by first | (simp [*]; done) | (simp [*]; omega) | rfl, by first | (simp [*]; done) | (simp [*]; omega) | rfl, by first | (simp [*]; done) | (simp [*]; omega) | rfl, by first | omega | (simp; omega) | simp [*], by first | omega | (simp; omega) | simp [*], by first | omega | (simp; omega) | simp [*], by first | rfl | (simp; done) | omega, ⟨rfl⟩⟩
    rintro Ja ma ⟨t, h⟩ ⟨c, b, ea0, ea1, ea2, ea3, hha, fa1, fa2, fa3, hma, hqa⟩ hJa
    simp only [] at ea0 ea1 ea2 ea3 hha
    subst hha
    simp [ea0, ea1, ea2, ea3]
    have hone := pc_edit_one n l b mv hl ⟨by omega, by omega⟩
    obtain ⟨w1, _, _⟩ := stepE_way l b mv ⟨by omega, by omega⟩ hmv
    have hw := Keep.mk w1
    clear w1
    by_cases hc : c = 0
    · subst hc
      have hz : iterE l mv z a = b := hqa.out
      repeat' (first
        | simp (disch := omega) only [wrap_i64, wrap_i32]
        | (simp (disch := first | omega | assumption | (simp only [i64, i32]; omega) | (simp <;> omega) | fail) only [loadD_cpr, loadD_cprs, List.take_of_length_le]; simp [*, hz])
        | (with_reducible refine And.intro ?_ ?_; focus first | omega | decide)
        | (with_reducible refine split_ite (fun hp => ?_) (fun hp => ?_) <;> (try simp at hp) <;> simp [*, hz])
        | (with_reducible refine split_ite1 (fun hp => ?_) (fun hp => ?_) <;> (try simp at hp) <;> simp [*, hz])
        | (refine split_cond (by simp) (fun hp => ?_) (fun hp => ?_) <;> simp at hp <;> simp [*, hz])
        | (refine split_ops (by simp) (fun hp => ?_) (fun hp => ?_) <;> simp at hp <;> simp [*, hz])
        | (refine split_opsD (by simp) (fun hp => ?_) (fun hp => ?_) <;> simp at hp <;> simp [*, hz])
        | (refine split_pick (by simp) (fun hp => ?_) (fun hp => ?_) <;> simp at hp <;> simp [*, hz])
        | omega
        | decide
        | (simp [*, hz]))
    · obtain ⟨d, rfl⟩ : ∃ d, c = d + 1 := ⟨c - 1, by omega⟩
      by_cases hs : stepE l b mv = b
      · have hz : iterE l mv z a = b := by rw [hqa.out]; exact iterE_fix hs _
        rw [hs] at hone
        repeat' (first
          | simp (disch := omega) only [wrap_i64, wrap_i32]
          | (simp (disch := first | omega | assumption | (simp only [i64, i32]; omega) | (simp <;> omega) | fail) only [loadD_cpr, loadD_cprs, List.take_of_length_le]; simp [*, hone, hz])
          | (with_reducible refine And.intro ?_ ?_; focus first | omega | decide)
          | (with_reducible refine split_ite (fun hp => ?_) (fun hp => ?_) <;> (try simp at hp) <;> simp [*, hone, hz])
          | (with_reducible refine split_ite1 (fun hp => ?_) (fun hp => ?_) <;> (try simp at hp) <;> simp [*, hone, hz])
          | (refine split_cond (by simp) (fun hp => ?_) (fun hp => ?_) <;> simp at hp <;> simp [*, hone, hz])
          | (refine split_ops (by simp) (fun hp => ?_) (fun hp => ?_) <;> simp at hp <;> simp [*, hone, hz])
          | (refine split_opsD (by simp) (fun hp => ?_) (fun hp => ?_) <;> simp at hp <;> simp [*, hone, hz])
          | (refine split_pick (by simp) (fun hp => ?_) (fun hp => ?_) <;> simp at hp <;> simp [*, hone, hz])
          | omega
          | decide
          | (simp [*, hone, hz]))
        all_goals trace_state
      · repeat' (first
          | simp (disch := omega) only [wrap_i64, wrap_i32]
          | (simp (disch := first | omega | assumption | (simp only [i64, i32]; omega) | (simp <;> omega) | fail) only [loadD_cpr, loadD_cprs, List.take_of_length_le]; simp [*, hone, hs])
          | (with_reducible refine And.intro ?_ ?_; focus first | omega | decide)
          | (with_reducible refine split_ite (fun hp => ?_) (fun hp => ?_) <;> (try simp at hp) <;> simp [*, hone, hs])
          | (with_reducible refine split_ite1 (fun hp => ?_) (fun hp => ?_) <;> (try simp at hp) <;> simp [*, hone, hs])
          | (refine split_cond (by simp) (fun hp => ?_) (fun hp => ?_) <;> simp at hp <;> simp [*, hone, hs])
          | (refine split_ops (by simp) (fun hp => ?_) (fun hp => ?_) <;> simp at hp <;> simp [*, hone, hs])
          | (refine split_opsD (by simp) (fun hp => ?_) (fun hp => ?_) <;> simp at hp <;> simp [*, hone, hs])
          | (refine split_pick (by simp) (fun hp => ?_) (fun hp => ?_) <;> simp at hp <;> simp [*, hone, hs])
          | omega
          | decide
          | (simp [*, hone, hs]))
        obtain ⟨w1, w2⟩ := hw.out
        exact hJa.out _ ⟨d, stepE l b mv, by first | (simp [*]; done) | (simp [*]; omega) | rfl, by first | (simp [*]; done) | (simp [*]; omega) | rfl, by first | (simp [*]; done) | (simp [*]; omega) | rfl, by first | (simp [*]; done) | (simp [*]; omega) | rfl, by first | (simp [*]; done) | (simp [*]; omega) | rfl, by first | omega | (simp; omega) | simp [*], by first | omega | (simp; omega) | simp [*], by first | omega | (simp; omega) | simp [*], by omega, ⟨hqa.out⟩⟩

theorem iterE_snoc (l : List Int) (mv : Int) (i : Nat) (a : Int) : iterE l mv (i + 1) a = stepE l (iterE l mv i a) mv := by rw [iterE_add]; rfl

set_option maxHeartbeats 1600000 in
theorem pc_ref23_Target (n : Nat) (l : List Int) (a mv k : Int) (hl : l.length < 2000000) : (W (n + 6)).pc 51 [rn l, .int .i64 a, .int .i64 mv, .int .i64 k] = some (.tup [.int .i64 (tgtE l a mv k).1, D.int .i64 (tgtE l a mv k).2]) := by
  apply runs c_typebarref23_Target
  by_cases hbad : a < 0 ∨ l.length < a ∨ mv < 1 ∨ 10 < mv ∨ k < -9999 ∨ 9999 < k
  · have ht : tgtE l a mv k = (0, 1) := by rw [tgtE, if_pos hbad]
    rw [ht]
    simp [X_typebarref23_Target]
    repeat' (first
      | simp (disch := omega) only [wrap_i64, wrap_i32]
      | (simp (disch := first | omega | assumption | (simp only [i64, i32]; omega) | (simp <;> omega) | fail) only [loadD_cpr, loadD_cprs, List.take_of_length_le]; simp [*])
      | (with_reducible refine And.intro ?_ ?_; focus first | omega | decide)
      | (with_reducible refine split_ite (fun hp => ?_) (fun hp => ?_) <;> (try simp at hp) <;> simp [*])
      | (with_reducible refine split_ite1 (fun hp => ?_) (fun hp => ?_) <;> (try simp at hp) <;> simp [*])
      | (refine split_cond (by simp) (fun hp => ?_) (fun hp => ?_) <;> simp at hp <;> simp [*])
      | (refine split_ops (by simp) (fun hp => ?_) (fun hp => ?_) <;> simp at hp <;> simp [*])
      | (refine split_opsD (by simp) (fun hp => ?_) (fun hp => ?_) <;> simp at hp <;> simp [*])
      | (refine split_pick (by simp) (fun hp => ?_) (fun hp => ?_) <;> simp at hp <;> simp [*])
      | omega
      | decide
      | (simp [*]))
    all_goals first | rfl | omega | trace_state
  by_cases h3 : mv = 3
  · have ht : tgtE l a mv k = (0, 0) := by rw [tgtE, if_neg hbad, if_pos h3]
    rw [ht]
    simp [X_typebarref23_Target, h3]
    repeat' (first
      | simp (disch := omega) only [wrap_i64, wrap_i32]
      | (simp (disch := first | omega | assumption | (simp only [i64, i32]; omega) | (simp <;> omega) | fail) only [loadD_cpr, loadD_cprs, List.take_of_length_le]; simp [*])
      | (with_reducible refine And.intro ?_ ?_; focus first | omega | decide)
      | (with_reducible refine split_ite (fun hp => ?_) (fun hp => ?_) <;> (try simp at hp) <;> simp [*])
      | (with_reducible refine split_ite1 (fun hp => ?_) (fun hp => ?_) <;> (try simp at hp) <;> simp [*])
      | (refine split_cond (by simp) (fun hp => ?_) (fun hp => ?_) <;> simp at hp <;> simp [*])
      | (refine split_ops (by simp) (fun hp => ?_) (fun hp => ?_) <;> simp at hp <;> simp [*])
      | (refine split_opsD (by simp) (fun hp => ?_) (fun hp => ?_) <;> simp at hp <;> simp [*])
      | (refine split_pick (by simp) (fun hp => ?_) (fun hp => ?_) <;> simp at hp <;> simp [*])
      | omega
      | decide
      | (simp [*]))
    all_goals first | rfl | omega | trace_state
  by_cases h4 : mv = 4 ∨ mv = 10
  · have ht : tgtE l a mv k = ((l.length : Int), 0) := by rw [tgtE, if_neg hbad, if_neg h3, if_pos h4]
    rw [ht]
    simp [X_typebarref23_Target, h3]
    repeat' (first
      | simp (disch := omega) only [wrap_i64, wrap_i32]
      | (simp (disch := first | omega | assumption | (simp only [i64, i32]; omega) | (simp <;> omega) | fail) only [loadD_cpr, loadD_cprs, List.take_of_length_le]; simp [*])
      | (with_reducible refine And.intro ?_ ?_; focus first | omega | decide)
      | (with_reducible refine split_ite (fun hp => ?_) (fun hp => ?_) <;> (try simp at hp) <;> simp [*])
      | (with_reducible refine split_ite1 (fun hp => ?_) (fun hp => ?_) <;> (try simp at hp) <;> simp [*])
      | (refine split_cond (by simp) (fun hp => ?_) (fun hp => ?_) <;> simp at hp <;> simp [*])
      | (refine split_ops (by simp) (fun hp => ?_) (fun hp => ?_) <;> simp at hp <;> simp [*])
      | (refine split_opsD (by simp) (fun hp => ?_) (fun hp => ?_) <;> simp at hp <;> simp [*])
      | (refine split_pick (by simp) (fun hp => ?_) (fun hp => ?_) <;> simp at hp <;> simp [*])
      | omega
      | decide
      | (simp [*]))
    all_goals first | rfl | omega | trace_state
  have hmv : mv = 1 ∨ mv = 2 ∨ 5 ≤ mv ∧ mv ≤ 9 := by omega
  have ho := oppE_in hmv
  have hop := pc_ref23_opposite (n + 4) mv hmv
  obtain ⟨q1, q2, q3, q4, q5, q6⟩ : ¬ a < 0 ∧ ¬ (l.length : Int) < a ∧ ¬ mv < 1 ∧ ¬ 10 < mv ∧ ¬ k < -9999 ∧ ¬ 9999 < k := by omega
  have q7 : ¬ mv = 4 := by omega
  have q8 : ¬ mv = 10 := by omega
  by_cases hk : k < 0
  · have ht : tgtE l a mv k = (iterE l (oppE mv) (-k).toNat a, 0) := by rw [tgtE, if_neg hbad, if_neg h3, if_neg h4, if_pos hk]
    rw [ht]
    clear ht hbad h4
    generalize oppE mv = mo at *
    obtain ⟨z, hz⟩ : ∃ z : Nat, k = -z := ⟨(-k).toNat, by omega⟩
    subst hz
    simp only [Int.neg_neg, Int.toNat_natCast]
    simp [X_typebarref23_Target, h3, q1, q2, q3, q4, q5, q6, q7, q8, hk, hop]
    repeat' (first
      | simp (disch := omega) only [wrap_i64, wrap_i32]
      | (simp (disch := first | omega | assumption | (simp only [i64, i32]; omega) | (simp <;> omega) | fail) only [loadD_cpr, loadD_cprs, List.take_of_length_le]; simp [*, hop])
      | (with_reducible refine And.intro ?_ ?_; focus first | omega | decide)
      | (with_reducible refine split_ite (fun hp => ?_) (fun hp => ?_) <;> (try simp at hp) <;> simp [*, hop])
      | (with_reducible refine split_ite1 (fun hp => ?_) (fun hp => ?_) <;> (try simp at hp) <;> simp [*, hop])
      | (refine split_cond (by simp) (fun hp => ?_) (fun hp => ?_) <;> simp at hp <;> simp [*, hop])
      | (refine split_ops (by simp) (fun hp => ?_) (fun hp => ?_) <;> simp at hp <;> simp [*, hop])
      | (refine split_opsD (by simp) (fun hp => ?_) (fun hp => ?_) <;> simp at hp <;> simp [*, hop])
      | (refine split_pick (by simp) (fun hp => ?_) (fun hp => ?_) <;> simp at hp <;> simp [*, hop])
      | omega
      | decide
      | (simp [*, hop]))
    refine aw_rounds (fun m st => ∃ c : Nat, ∃ b : Int, st.t 0 = rn l ∧ st.t 1 = .int .i64 b ∧ st.t 2 = .int .i64 mo ∧ st.t 3 = .int .i64 z ∧ st.t 10 = .int .i64 c ∧ st.h = [] ∧ 0 ≤ b ∧ b ≤ l.length ∧ c ≤ z ∧ c ≤ l.length + 1 ∧ z ≤ 9999 ∧ m = l.length + 1 - c + 1 ∧ Keep (b = iterE l mo c a)) ?_ ?_ (n := l.length + 1 - (0) + 1) (by first | omega | (simp; omega)) ?_
    · rintro st ⟨c, b, hx⟩; omega
    rotate_left
    · exact ⟨0, a, by first | (simp [*]; done) | (simp [*]; omega) | rfl, by first | (simp [*]; done) | (simp [*]; omega) | rfl, by first | (simp [*]; done) | (simp [*]; omega) | rfl, by first | (simp [*]; done) | (simp [*]; omega) | rfl, by first | (simp [*]; done) | (simp [*]; omega) | rfl, by first | (simp [*]; done) | (simp [*]; omega) | rfl, by first | omega | (simp; omega) | simp [*], by first | omega | (simp; omega) | simp [*], by first | omega | (simp; omega) | simp [*], by first | omega | (simp; omega) | simp [*], by first | omega | (simp; omega) | simp [*], by first | rfl | (simp; done) | omega, ⟨rfl⟩⟩
    rintro Ja ma ⟨t, h⟩ ⟨c, b, ea0, ea1, ea2, ea3, ea10, hha, fa1, fa2, fa3, fa4, fa5, hma, hqa⟩ hJa
    simp only [] at ea0 ea1 ea2 ea3 ea10 hha
    subst hha
    simp [ea0, ea1, ea2, ea3, ea10]
    have hone := pc_ref23_step n l b mo hl ⟨by omega, by omega⟩ ho
    obtain ⟨w1, _, _⟩ := stepE_way l b mo ⟨by omega, by omega⟩ ho
    have hw := Keep.mk w1
    clear w1
    by_cases hc : c < z ∧ c ≤ l.length
    · have hc1 : (c : Int) < z := by omega
      have hc2 : (c : Int) ≤ l.length := by omega
      repeat' (first
        | simp (disch := omega) only [wrap_i64, wrap_i32]
        | (simp (disch := first | omega | assumption | (simp only [i64, i32]; omega) | (simp <;> omega) | fail) only [loadD_cpr, loadD_cprs, List.take_of_length_le]; simp [*, hone, hc1, hc2])
        | (with_reducible refine And.intro ?_ ?_; focus first | omega | decide)
        | (with_reducible refine split_ite (fun hp => ?_) (fun hp => ?_) <;> (try simp at hp) <;> simp [*, hone, hc1, hc2])
        | (with_reducible refine split_ite1 (fun hp => ?_) (fun hp => ?_) <;> (try simp at hp) <;> simp [*, hone, hc1, hc2])
        | (refine split_cond (by simp) (fun hp => ?_) (fun hp => ?_) <;> simp at hp <;> simp [*, hone, hc1, hc2])
        | (refine split_ops (by simp) (fun hp => ?_) (fun hp => ?_) <;> simp at hp <;> simp [*, hone, hc1, hc2])
        | (refine split_opsD (by simp) (fun hp => ?_) (fun hp => ?_) <;> simp at hp <;> simp [*, hone, hc1, hc2])
        | (refine split_pick (by simp) (fun hp => ?_) (fun hp => ?_) <;> simp at hp <;> simp [*, hone, hc1, hc2])
        | omega
        | decide
        | (simp [*, hone, hc1, hc2]))
      all_goals obtain ⟨w1, w2⟩ := hw.out
      exact hJa.out _ ⟨c + 1, stepE l b mo, by first | (simp [*]; done) | (simp [*]; omega) | rfl, by first | (simp [*]; done) | (simp [*]; omega) | rfl, by first | (simp [*]; done) | (simp [*]; omega) | rfl, by first | (simp [*]; done) | (simp [*]; omega) | rfl, by first | (simp [*]; done) | (simp [*]; omega) | rfl, by first | (simp [*]; done) | (simp [*]; omega) | rfl, by first | omega | (simp; omega) | simp [*], by first | omega | (simp; omega) | simp [*], by first | omega | (simp; omega) | simp [*], by first | omega | (simp; omega) | simp [*], by first | omega | (simp; omega) | simp [*], by omega, ⟨by rw [iterE_snoc, ← hqa.out]⟩⟩
    · have hz : iterE l mo z a = b := by
        rw [hqa.out]
        by_cases h : c = z
        · rw [h]
        · rw [iterE_more ho (by omega) (by omega) (k := z) (by omega), iterE_more ho (by omega) (by omega) (k := c) (by omega)]
      clear hone
      repeat' (first
        | simp (disch := omega) only [wrap_i64, wrap_i32]
        | (simp (disch := first | omega | assumption | (simp only [i64, i32]; omega) | (simp <;> omega) | fail) only [loadD_cpr, loadD_cprs, List.take_of_length_le]; simp [*, hz])
        | (with_reducible refine And.intro ?_ ?_; focus first | omega | decide)
        | (with_reducible refine split_ite (fun hp => ?_) (fun hp => ?_) <;> (try simp at hp) <;> simp [*, hz])
        | (with_reducible refine split_ite1 (fun hp => ?_) (fun hp => ?_) <;> (try simp at hp) <;> simp [*, hz])
        | (refine split_cond (by simp) (fun hp => ?_) (fun hp => ?_) <;> simp at hp <;> simp [*, hz])
        | (refine split_ops (by simp) (fun hp => ?_) (fun hp => ?_) <;> simp at hp <;> simp [*, hz])
        | (refine split_opsD (by simp) (fun hp => ?_) (fun hp => ?_) <;> simp at hp <;> simp [*, hz])
        | (refine split_pick (by simp) (fun hp => ?_) (fun hp => ?_) <;> simp at hp <;> simp [*, hz])
        | omega
        | decide
        | (simp [*, hz]))
      all_goals first | omega | trace_state
  · have ht : tgtE l a mv k = (iterE l mv k.toNat a, 0) := by rw [tgtE, if_neg hbad, if_neg h3, if_neg h4, if_neg hk]
    rw [ht]
    clear ht hbad h4
    obtain ⟨z, rfl⟩ : ∃ z : Nat, k = z := ⟨k.toNat, by omega⟩
    simp [X_typebarref23_Target, h3, q1, q2, q3, q4, q5, q6, q7, q8, hk, hop]
    repeat' (first
      | simp (disch := omega) only [wrap_i64, wrap_i32]
      | (simp (disch := first | omega | assumption | (simp only [i64, i32]; omega) | (simp <;> omega) | fail) only [loadD_cpr, loadD_cprs, List.take_of_length_le]; simp [*, hop])
      | (with_reducible refine And.intro ?_ ?_; focus first | omega | decide)
      | (with_reducible refine split_ite (fun hp => ?_) (fun hp => ?_) <;> (try simp at hp) <;> simp [*, hop])
      | (with_reducible refine split_ite1 (fun hp => ?_) (fun hp => ?_) <;> (try simp at hp) <;> simp [*, hop])
      | (refine split_cond (by simp) (fun hp => ?_) (fun hp => ?_) <;> simp at hp <;> simp [*, hop])
      | (refine split_ops (by simp) (fun hp => ?_) (fun hp => ?_) <;> simp at hp <;> simp [*, hop])
      | (refine split_opsD (by simp) (fun hp => ?_) (fun hp => ?_) <;> simp at hp <;> simp [*, hop])
      | (refine split_pick (by simp) (fun hp => ?_) (fun hp => ?_) <;> simp at hp <;> simp [*, hop])
      | omega
      | decide
      | (simp [*, hop]))
    refine aw_rounds (fun m st => ∃ c : Nat, ∃ b : Int, st.t 0 = rn l ∧ st.t 1 = .int .i64 b ∧ st.t 2 = .int .i64 mv ∧ st.t 3 = .int .i64 z ∧ st.t 10 = .int .i64 c ∧ st.h = [] ∧ 0 ≤ b ∧ b ≤ l.length ∧ c ≤ z ∧ c ≤ l.length + 1 ∧ z ≤ 9999 ∧ m = l.length + 1 - c + 1 ∧ Keep (b = iterE l mv c a)) ?_ ?_ (n := l.length + 1 - (0) + 1) (by first | omega | (simp; omega)) ?_
    · rintro st ⟨c, b, hx⟩; omega
    rotate_left
    · exact ⟨0, a, by first | (simp [*]; done) | (simp [*]; omega) | rfl, by first | (simp [*]; done) | (simp [*]; omega) | rfl, by first | (simp [*]; done) | (simp [*]; omega) | rfl, by first | (simp [*]; done) | (simp [*]; omega) | rfl, by first | (simp [*]; done) | (simp [*]; omega) | rfl, by first | (simp [*]; done) | (simp [*]; omega) | rfl, by first | omega | (simp; omega) | simp [*], by first | omega | (simp; omega) | simp [*], by first | omega | (simp; omega) | simp [*], by first | omega | (simp; omega) | simp [*], by first | omega | (simp; omega) | simp [*], by first | rfl | (simp; done) | omega, ⟨rfl⟩⟩
    rintro Ja ma ⟨t, h⟩ ⟨c, b, ea0, ea1, ea2, ea3, ea10, hha, fa1, fa2, fa3, fa4, fa5, hma, hqa⟩ hJa
    simp only [] at ea0 ea1 ea2 ea3 ea10 hha
    subst hha
    simp [ea0, ea1, ea2, ea3, ea10]
    have hone := pc_ref23_step n l b mv hl ⟨by omega, by omega⟩ hmv
    obtain ⟨w1, _, _⟩ := stepE_way l b mv ⟨by omega, by omega⟩ hmv
    have hw := Keep.mk w1
    clear w1
    by_cases hc : c < z ∧ c ≤ l.length
    · have hc1 : (c : Int) < z := by omega
      have hc2 : (c : Int) ≤ l.length := by omega
      repeat' (first
        | simp (disch := omega) only [wrap_i64, wrap_i32]
        | (simp (disch := first | omega | assumption | (simp only [i64, i32]; omega) | (simp <;> omega) | fail) only [loadD_cpr, loadD_cprs, List.take_of_length_le]; simp [*, hone, hc1, hc2])
        | (with_reducible refine And.intro ?_ ?_; focus first | omega | decide)
        | (with_reducible refine split_ite (fun hp => ?_) (fun hp => ?_) <;> (try simp at hp) <;> simp [*, hone, hc1, hc2])
        | (with_reducible refine split_ite1 (fun hp => ?_) (fun hp => ?_) <;> (try simp at hp) <;> simp [*, hone, hc1, hc2])
        | (refine split_cond (by simp) (fun hp => ?_) (fun hp => ?_) <;> simp at hp <;> simp [*, hone, hc1, hc2])
        | (refine split_ops (by simp) (fun hp => ?_) (fun hp => ?_) <;> simp at hp <;> simp [*, hone, hc1, hc2])
        | (refine split_opsD (by simp) (fun hp => ?_) (fun hp => ?_) <;> simp at hp <;> simp [*, hone, hc1, hc2])
        | (refine split_pick (by simp) (fun hp => ?_) (fun hp => ?_) <;> simp at hp <;> simp [*, hone, hc1, hc2])
        | omega
        | decide
        | (simp [*, hone, hc1, hc2]))
      all_goals obtain ⟨w1, w2⟩ := hw.out
      exact hJa.out _ ⟨c + 1, stepE l b mv, by first | (simp [*]; done) | (simp [*]; omega) | rfl, by first | (simp [*]; done) | (simp [*]; omega) | rfl, by first | (simp [*]; done) | (simp [*]; omega) | rfl, by first | (simp [*]; done) | (simp [*]; omega) | rfl, by first | (simp [*]; done) | (simp [*]; omega) | rfl, by first | (simp [*]; done) | (simp [*]; omega) | rfl, by first | omega | (simp; omega) | simp [*], by first | omega | (simp; omega) | simp [*], by first | omega | (simp; omega) | simp [*], by first | omega | (simp; omega) | simp [*], by first | omega | (simp; omega) | simp [*], by omega, ⟨by rw [iterE_snoc, ← hqa.out]⟩⟩
    · have hz : iterE l mv z a = b := by
        rw [hqa.out]
        by_cases h : c = z
        · rw [h]
        · rw [iterE_more hmv (by omega) (by omega) (k := z) (by omega), iterE_more hmv (by omega) (by omega) (k := c) (by omega)]
      clear hone
      repeat' (first
        | simp (disch := omega) only [wrap_i64, wrap_i32]
        | (simp (disch := first | omega | assumption | (simp only [i64, i32]; omega) | (simp <;> omega) | fail) only [loadD_cpr, loadD_cprs, List.take_of_length_le]; simp [*, hz])
        | (with_reducible refine And.intro ?_ ?_; focus first | omega | decide)
        | (with_reducible refine split_ite (fun hp => ?_) (fun hp => ?_) <;> (try simp at hp) <;> simp [*, hz])
        | (with_reducible refine split_ite1 (fun hp => ?_) (fun hp => ?_) <;> (try simp at hp) <;> simp [*, hz])
        | (refine split_cond (by simp) (fun hp => ?_) (fun hp => ?_) <;> simp at hp <;> simp [*, hz])
        | (refine split_ops (by simp) (fun hp => ?_) (fun hp => ?_) <;> simp at hp <;> simp [*, hz])
        | (refine split_opsD (by simp) (fun hp => ?_) (fun hp => ?_) <;> simp at hp <;> simp [*, hz])
        | (refine split_pick (by simp) (fun hp => ?_) (fun hp => ?_) <;> simp at hp <;> simp [*, hz])
        | omega
        | decide
        | (simp [*, hz]))
      all_goals first | omega | trace_state
end Go.Proofs.YtcaglmjfphjpfaaGreat
