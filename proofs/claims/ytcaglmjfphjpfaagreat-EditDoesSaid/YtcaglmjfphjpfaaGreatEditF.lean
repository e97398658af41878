/- What an act makes of a line that is edited. -/
import Derived.Test.YtcaglmjfphjpfaaGreatEditE
namespace Go.Proofs.YtcaglmjfphjpfaaGreat
open Go E
set_option linter.unusedSimpArgs false
set_option linter.unusedVariables false
set_option maxRecDepth 100000

theorem doE_bad {e : EditM} {a : ActM} {c : Int} (h : edIs e = false ∨ c < -9999 ∨ 9999 < c ∨ actOk a = false) : doE e a c = (edZ, 1) := by rw [doE, if_pos h]

theorem doE_no {e : EditM} {a : ActM} {c : Int} (h : ¬ (edIs e = false ∨ c < -9999 ∨ 9999 < c ∨ actOk a = false)) (h0 : (actS e a c).2 ≠ 0) : doE e a c = (edZ, (actS e a c).2) := by rw [doE, if_neg h, if_pos h0]

theorem doE_yes {e : EditM} {a : ActM} {c : Int} (h : ¬ (edIs e = false ∨ c < -9999 ∨ 9999 < c ∨ actOk a = false)) (h0 : (actS e a c).2 = 0) : doE e a c = ((actS e a c).1, 0) := by
  rw [doE, if_neg h, if_neg (by simp [h0]), ← h0]

set_option maxHeartbeats 1000000 in
theorem pc_edit_Do_bad (n : Nat) (e : EditM) (a : ActM) (c : Int) (hs : EdSized e) (hbad : edIs e = false ∨ c < -9999 ∨ 9999 < c ∨ actOk a = false) : (W (n + 12)).pc 5 [edD e, acD a, .int .i64 c] = some (.tup [edD (doE e a c).1, eD (doE e a c).2]) := by
  apply runsM c_edit_Do
  have hI := pc_edit_Is (n + 5) e hs
  have hC := pc_edit_counts (n + 10) c
  have hR := pc_glyph_Is (n + 9) a.r
  have m1 : modes 5 9 = 0 := id rfl
  have m2 : modes 5 11 = 0 := id rfl
  have m3 : modes 5 12 = 0 := id rfl
  rw [doE_bad hbad]
  cases q1 : edIs e
  · rw [q1] at hI
    simp [X_edit_Do, m1, m2, m3, hI]
    all_goals first | exact ⟨rfl, rfl, rfl, rfl, rfl, rfl, rfl⟩ | rfl
  rw [q1] at hI
  by_cases q2 : -9999 ≤ c ∧ c ≤ 9999
  · simp only [q2, and_self, decide_true] at hC
    by_cases r1 : a.k < 1
    · simp [X_edit_Do, m1, m2, m3, hI, hC, r1]
      all_goals first | exact ⟨rfl, rfl, rfl, rfl, rfl, rfl, rfl⟩ | rfl
    by_cases r2 : 6 < a.k
    · simp [X_edit_Do, m1, m2, m3, hI, hC, r1, r2]
      all_goals first | exact ⟨rfl, rfl, rfl, rfl, rfl, rfl, rfl⟩ | rfl
    have q4 : actOk a = false := by
      rcases hbad with h | h | h | h
      · rw [q1] at h; simp at h
      · omega
      · omega
      · exact h
    have q5 : (a.k = 1 ∧ (a.m < 1 ∨ 10 < a.m ∨ a.o < 0 ∨ 6 < a.o)) ∨ (a.k = 2 ∧ isR a.r = false) := by
      simp only [actOk, Bool.and_eq_false_iff, Bool.or_eq_false_iff, decide_eq_false_iff_not] at q4
      grind
    rcases q5 with ⟨k1, k2⟩ | ⟨k1, k2⟩
    · by_cases b1 : a.m < 1
      · simp [X_edit_Do, m1, m2, m3, hI, hC, k1, b1]
        all_goals first | exact ⟨rfl, rfl, rfl, rfl, rfl, rfl, rfl⟩ | rfl
      by_cases b2 : 10 < a.m
      · simp [X_edit_Do, m1, m2, m3, hI, hC, k1, b1, b2]
        all_goals first | exact ⟨rfl, rfl, rfl, rfl, rfl, rfl, rfl⟩ | rfl
      by_cases b3 : a.o < 0
      · simp [X_edit_Do, m1, m2, m3, hI, hC, k1, b1, b2, b3]
        all_goals first | exact ⟨rfl, rfl, rfl, rfl, rfl, rfl, rfl⟩ | rfl
      have b4 : 6 < a.o := by omega
      simp [X_edit_Do, m1, m2, m3, hI, hC, k1, b1, b2, b3, b4]
      all_goals first | exact ⟨rfl, rfl, rfl, rfl, rfl, rfl, rfl⟩ | rfl
    · rw [k2] at hR
      simp [X_edit_Do, m1, m2, m3, hI, hC, hR, k1]
      all_goals first | exact ⟨rfl, rfl, rfl, rfl, rfl, rfl, rfl⟩ | rfl
  · simp only [q2, decide_false] at hC
    simp [X_edit_Do, m1, m2, m3, hI, hC]
    all_goals first | exact ⟨rfl, rfl, rfl, rfl, rfl, rfl, rfl⟩ | rfl

set_option maxHeartbeats 1000000 in
theorem pc_edit_Do_1 (n : Nat) (e : EditM) (a : ActM) (c : Int) (hs : EdSized e) (q1 : edIs e = true) (q2 : -9999 ≤ c) (q3 : c ≤ 9999) (q4 : actOk a = true) (hk : a.k = 1) : (W (n + 12)).pc 5 [edD e, acD a, .int .i64 c] = some (.tup [edD (doE e a c).1, eD (doE e a c).2]) := by
  apply runsM c_edit_Do
  have hI := pc_edit_Is (n + 5) e hs
  have hC := pc_edit_counts (n + 10) c
  have m1 : modes 5 9 = 0 := id rfl
  have m2 : modes 5 11 = 0 := id rfl
  have m4 : modes 5 13 = 3 := id rfl
  have hno : ¬ (edIs e = false ∨ c < -9999 ∨ 9999 < c ∨ actOk a = false) := by rw [q1, q4]; simp; omega
  have hE := edIs_ok.1 q1
  rw [q1] at hI
  simp only [q2, q3, and_self, decide_true] at hC
  obtain ⟨b1, b2, b3, b4⟩ : 1 ≤ a.m ∧ a.m ≤ 10 ∧ 0 ≤ a.o ∧ a.o ≤ 6 := by simp only [actOk, hk, Bool.and_eq_true, Bool.or_eq_true, decide_eq_true_eq] at q4; omega
  have b1' : ¬ a.m < 1 := by omega
  have b2' : ¬ 10 < a.m := by omega
  have b3' : ¬ a.o < 0 := by omega
  have b4' : ¬ 6 < a.o := by omega
  have hx : actS e a c = moveS e a c := by simp [actS, hk]
  have hm := ls_move (n + 1) e a c hE ⟨b3, b4⟩
  rw [← hx] at hm
  by_cases h0 : (actS e a c).2 = 0
  · rw [doE_yes hno h0]
    rw [h0] at hm
    generalize (actS e a c).1 = R at hm ⊢
    simp only [nowE, wkL, hk] at hm
    simp [X_edit_Do, m1, m2, m4, hI, hC, hk, b1', b2', b3', b4', lendW_def, back_def, hm]
  · rw [doE_no hno h0]
    generalize (actS e a c).1 = R at hm
    generalize (actS e a c).2 = r at hm h0 ⊢
    simp only [nowE, wkL, hk] at hm
    simp [X_edit_Do, m1, m2, m4, hI, hC, hk, b1', b2', b3', b4', lendW_def, back_def, hm, h0]
    all_goals first | exact ⟨rfl, rfl, rfl, rfl, rfl, rfl, rfl⟩ | rfl

set_option maxHeartbeats 1000000 in
theorem pc_edit_Do_2 (n : Nat) (e : EditM) (a : ActM) (c : Int) (hs : EdSized e) (q1 : edIs e = true) (q2 : -9999 ≤ c) (q3 : c ≤ 9999) (q4 : actOk a = true) (hk : a.k = 2) : (W (n + 12)).pc 5 [edD e, acD a, .int .i64 c] = some (.tup [edD (doE e a c).1, eD (doE e a c).2]) := by
  apply runsM c_edit_Do
  have hI := pc_edit_Is (n + 5) e hs
  have hC := pc_edit_counts (n + 10) c
  have m1 : modes 5 9 = 0 := id rfl
  have m2 : modes 5 11 = 0 := id rfl
  have m4 : modes 5 14 = 3 := id rfl
  have hno : ¬ (edIs e = false ∨ c < -9999 ∨ 9999 < c ∨ actOk a = false) := by rw [q1, q4]; simp; omega
  have hE := edIs_ok.1 q1
  rw [q1] at hI
  simp only [q2, q3, and_self, decide_true] at hC
  have hR := pc_glyph_Is (n + 9) a.r
  have m3 : modes 5 12 = 0 := id rfl
  have hr : isR a.r = true := by simpa [actOk, hk] using q4
  rw [hr] at hR
  have hx : actS e a c = insS e a.r c := by simp [actS, hk]
  have hm := ls_insert (n + 2) e a c hE q3
  rw [← hx] at hm
  by_cases h0 : (actS e a c).2 = 0
  · rw [doE_yes hno h0]
    rw [h0] at hm
    generalize (actS e a c).1 = R at hm ⊢
    simp only [nowE, wkL, hk] at hm
    simp [X_edit_Do, m1, m2, m4, hI, hC, hk, hR, m3, lendW_def, back_def, hm]
  · rw [doE_no hno h0]
    generalize (actS e a c).1 = R at hm
    generalize (actS e a c).2 = r at hm h0 ⊢
    simp only [nowE, wkL, hk] at hm
    simp [X_edit_Do, m1, m2, m4, hI, hC, hk, hR, m3, lendW_def, back_def, hm, h0]
    all_goals first | exact ⟨rfl, rfl, rfl, rfl, rfl, rfl, rfl⟩ | rfl

set_option maxHeartbeats 1000000 in
theorem pc_edit_Do_3 (n : Nat) (e : EditM) (a : ActM) (c : Int) (hs : EdSized e) (q1 : edIs e = true) (q2 : -9999 ≤ c) (q3 : c ≤ 9999) (q4 : actOk a = true) (hk : a.k = 3) : (W (n + 12)).pc 5 [edD e, acD a, .int .i64 c] = some (.tup [edD (doE e a c).1, eD (doE e a c).2]) := by
  apply runsM c_edit_Do
  have hI := pc_edit_Is (n + 5) e hs
  have hC := pc_edit_counts (n + 10) c
  have m1 : modes 5 9 = 0 := id rfl
  have m2 : modes 5 11 = 0 := id rfl
  have m4 : modes 5 15 = 3 := id rfl
  have hno : ¬ (edIs e = false ∨ c < -9999 ∨ 9999 < c ∨ actOk a = false) := by rw [q1, q4]; simp; omega
  have hE := edIs_ok.1 q1
  rw [q1] at hI
  simp only [q2, q3, and_self, decide_true] at hC
  have hx : actS e a c = yankS e := by simp [actS, hk]
  have hm := ls_yank (n + 2) e a c hE
  rw [← hx] at hm
  by_cases h0 : (actS e a c).2 = 0
  · rw [doE_yes hno h0]
    rw [h0] at hm
    generalize (actS e a c).1 = R at hm ⊢
    simp only [nowE, wkL, hk] at hm
    simp [X_edit_Do, m1, m2, m4, hI, hC, hk, lendW_def, back_def, hm]
  · rw [doE_no hno h0]
    generalize (actS e a c).1 = R at hm
    generalize (actS e a c).2 = r at hm h0 ⊢
    simp only [nowE, wkL, hk] at hm
    simp [X_edit_Do, m1, m2, m4, hI, hC, hk, lendW_def, back_def, hm, h0]
    all_goals first | exact ⟨rfl, rfl, rfl, rfl, rfl, rfl, rfl⟩ | rfl

set_option maxHeartbeats 1000000 in
theorem pc_edit_Do_4 (n : Nat) (e : EditM) (a : ActM) (c : Int) (hs : EdSized e) (q1 : edIs e = true) (q2 : -9999 ≤ c) (q3 : c ≤ 9999) (q4 : actOk a = true) (hk : a.k = 4) : (W (n + 12)).pc 5 [edD e, acD a, .int .i64 c] = some (.tup [edD (doE e a c).1, eD (doE e a c).2]) := by
  apply runsM c_edit_Do
  have hI := pc_edit_Is (n + 5) e hs
  have hC := pc_edit_counts (n + 10) c
  have m1 : modes 5 9 = 0 := id rfl
  have m2 : modes 5 11 = 0 := id rfl
  have m4 : modes 5 16 = 3 := id rfl
  have hno : ¬ (edIs e = false ∨ c < -9999 ∨ 9999 < c ∨ actOk a = false) := by rw [q1, q4]; simp; omega
  have hE := edIs_ok.1 q1
  rw [q1] at hI
  simp only [q2, q3, and_self, decide_true] at hC
  have hx : actS e a c = popS e := by simp [actS, hk]
  have hm := ls_pop (n + 2) e a c hE
  rw [← hx] at hm
  by_cases h0 : (actS e a c).2 = 0
  · rw [doE_yes hno h0]
    rw [h0] at hm
    generalize (actS e a c).1 = R at hm ⊢
    simp only [nowE, wkL, hk] at hm
    simp [X_edit_Do, m1, m2, m4, hI, hC, hk, lendW_def, back_def, hm]
  · rw [doE_no hno h0]
    generalize (actS e a c).1 = R at hm
    generalize (actS e a c).2 = r at hm h0 ⊢
    simp only [nowE, wkL, hk] at hm
    simp [X_edit_Do, m1, m2, m4, hI, hC, hk, lendW_def, back_def, hm, h0]
    all_goals first | exact ⟨rfl, rfl, rfl, rfl, rfl, rfl, rfl⟩ | rfl

set_option maxHeartbeats 1000000 in
theorem pc_edit_Do_5 (n : Nat) (e : EditM) (a : ActM) (c : Int) (hs : EdSized e) (q1 : edIs e = true) (q2 : -9999 ≤ c) (q3 : c ≤ 9999) (q4 : actOk a = true) (hk : a.k = 5) : (W (n + 12)).pc 5 [edD e, acD a, .int .i64 c] = some (.tup [edD (doE e a c).1, eD (doE e a c).2]) := by
  apply runsM c_edit_Do
  have hI := pc_edit_Is (n + 5) e hs
  have hC := pc_edit_counts (n + 10) c
  have m1 : modes 5 9 = 0 := id rfl
  have m2 : modes 5 11 = 0 := id rfl
  have m4 : modes 5 17 = 3 := id rfl
  have hno : ¬ (edIs e = false ∨ c < -9999 ∨ 9999 < c ∨ actOk a = false) := by rw [q1, q4]; simp; omega
  have hE := edIs_ok.1 q1
  rw [q1] at hI
  simp only [q2, q3, and_self, decide_true] at hC
  have hx : actS e a c = backS e := by simp [actS, hk]
  have hm := ls_back (n + 2) e a c hE
  rw [← hx] at hm
  by_cases h0 : (actS e a c).2 = 0
  · rw [doE_yes hno h0]
    rw [h0] at hm
    generalize (actS e a c).1 = R at hm ⊢
    simp only [nowE, wkL, hk] at hm
    simp [X_edit_Do, m1, m2, m4, hI, hC, hk, lendW_def, back_def, hm]
  · rw [doE_no hno h0]
    generalize (actS e a c).1 = R at hm
    generalize (actS e a c).2 = r at hm h0 ⊢
    simp only [nowE, wkL, hk] at hm
    simp [X_edit_Do, m1, m2, m4, hI, hC, hk, lendW_def, back_def, hm, h0]
    all_goals first | exact ⟨rfl, rfl, rfl, rfl, rfl, rfl, rfl⟩ | rfl

set_option maxHeartbeats 1000000 in
theorem pc_edit_Do_6 (n : Nat) (e : EditM) (a : ActM) (c : Int) (hs : EdSized e) (q1 : edIs e = true) (q2 : -9999 ≤ c) (q3 : c ≤ 9999) (q4 : actOk a = true) (hk : a.k = 6) : (W (n + 12)).pc 5 [edD e, acD a, .int .i64 c] = some (.tup [edD (doE e a c).1, eD (doE e a c).2]) := by
  apply runsM c_edit_Do
  have hI := pc_edit_Is (n + 5) e hs
  have hC := pc_edit_counts (n + 10) c
  have m1 : modes 5 9 = 0 := id rfl
  have m2 : modes 5 11 = 0 := id rfl
  have m4 : modes 5 18 = 3 := id rfl
  have hno : ¬ (edIs e = false ∨ c < -9999 ∨ 9999 < c ∨ actOk a = false) := by rw [q1, q4]; simp; omega
  have hE := edIs_ok.1 q1
  rw [q1] at hI
  simp only [q2, q3, and_self, decide_true] at hC
  have hx : actS e a c = swapS e := by simp [actS, hk]
  have hm := ls_swap (n + 2) e a c hE
  rw [← hx] at hm
  by_cases h0 : (actS e a c).2 = 0
  · rw [doE_yes hno h0]
    rw [h0] at hm
    generalize (actS e a c).1 = R at hm ⊢
    simp only [nowE, wkL, hk] at hm
    simp [X_edit_Do, m1, m2, m4, hI, hC, hk, lendW_def, back_def, hm]
  · rw [doE_no hno h0]
    generalize (actS e a c).1 = R at hm
    generalize (actS e a c).2 = r at hm h0 ⊢
    simp only [nowE, wkL, hk] at hm
    simp [X_edit_Do, m1, m2, m4, hI, hC, hk, lendW_def, back_def, hm, h0]
    all_goals first | exact ⟨rfl, rfl, rfl, rfl, rfl, rfl, rfl⟩ | rfl

theorem pc_edit_Do (n : Nat) (e : EditM) (a : ActM) (c : Int) (hs : EdSized e) : (W (n + 12)).pc 5 [edD e, acD a, .int .i64 c] = some (.tup [edD (doE e a c).1, eD (doE e a c).2]) := by
  by_cases hbad : edIs e = false ∨ c < -9999 ∨ 9999 < c ∨ actOk a = false
  · exact pc_edit_Do_bad n e a c hs hbad
  · simp only [not_or, Bool.not_eq_false, Int.not_lt] at hbad
    obtain ⟨q1, q2, q3, q4⟩ := hbad
    have hk : 1 ≤ a.k ∧ a.k ≤ 6 := by
      simp only [actOk, Bool.and_eq_true, decide_eq_true_eq] at q4
      exact q4.1.1
    obtain hk | hk | hk | hk | hk | hk : a.k = 1 ∨ a.k = 2 ∨ a.k = 3 ∨ a.k = 4 ∨ a.k = 5 ∨ a.k = 6 := by omega
    · exact pc_edit_Do_1 n e a c hs q1 q2 q3 q4 hk
    · exact pc_edit_Do_2 n e a c hs q1 q2 q3 q4 hk
    · exact pc_edit_Do_3 n e a c hs q1 q2 q3 q4 hk
    · exact pc_edit_Do_4 n e a c hs q1 q2 q3 q4 hk
    · exact pc_edit_Do_5 n e a c hs q1 q2 q3 q4 hk
    · exact pc_edit_Do_6 n e a c hs q1 q2 q3 q4 hk

end Go.Proofs.YtcaglmjfphjpfaaGreat
