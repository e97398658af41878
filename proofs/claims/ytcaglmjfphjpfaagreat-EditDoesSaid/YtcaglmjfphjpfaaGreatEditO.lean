/- The document's answer for layer 23. -/
import Derived.Test.YtcaglmjfphjpfaaGreatEditN
import Derived.Test.YtcaglmjfphjpfaaGreatEditH
namespace Go.Proofs.YtcaglmjfphjpfaaGreat
open Go E
set_option linter.unusedSimpArgs false
set_option linter.unusedVariables false
set_option maxRecDepth 100000

theorem moved_of {e : EditM} {a : ActM} {c : Int} {lo hi : Nat} {on : Bool} {R : EditM} (hlo : loE e a c = (lo : Int)) (hhi : hiE e a c = (hi : Int)) (hne : lo < hi) (o0 : a.o ≠ 0)
    (hon : (decide ((e.G.A.length : Int) < toE e a c) || decide (a.m = 10)) = on) (hR : passE e a.o lo hi on = R) : finS (moveS e a c) = (R, 0) := by
  have : moveS e a c = (R, 0) := by
    rw [moveS, if_neg o0, hlo, hhi, if_neg (by omega), hon, Int.toNat_natCast, Int.toNat_natCast, hR]
  rw [this, finS, if_neg (by simp)]

set_option maxHeartbeats 2000000 in
theorem pc_ref23_moved (n : Nat) (e : EditM) (a : ActM) (c : Int) (h : EdOk e) (ho : 0 ≤ a.o ∧ a.o ≤ 6) : (W (n + 9)).pc 21 [edD e, acD a, .int .i64 c] = some (.tup [edD (finS (moveS e a c)).1, eD (finS (moveS e a c)).2]) := by
  obtain ⟨g1, g2, g3⟩ := gapIs_ln h.g
  obtain ⟨t1, t2⟩ := toE_in (e := e) a c
  obtain ⟨T, hTo⟩ : ∃ T : Nat, toE e a c = T := ⟨(toE e a c).toNat, by omega⟩
  obtain ⟨l, hl⟩ : ∃ l, l = e.G.A ++ e.G.B := ⟨_, rfl⟩
  have hLen : l.length = e.G.A.length + e.G.B.length := by rw [hl]; exact List.length_append
  have hR : allR l = true := by rw [hl, allR_append, g2, g3]; rfl
  have t2' : T ≤ l.length := by omega
  have ht := pc_ref10_Text (n + 6) e.G (by omega) (by omega)
  have hT := pc_ref23_Target (n + 2) (e.G.A ++ e.G.B) e.G.A.length a.m c (by simp; omega)
  rw [show (tgtE (e.G.A ++ e.G.B) e.G.A.length a.m c).1 = (T : Int) from hTo] at hT
  generalize (tgtE (e.G.A ++ e.G.B) e.G.A.length a.m c).2 = er at hT
  rw [← hl] at ht hT
  by_cases o0 : a.o = 0
  · by_cases hz : T = e.G.A.length
    · have hS : finS (moveS e a c) = (edZ, 7) := by
        rw [moveS, if_pos o0, if_pos (by omega), finS, if_pos (by simp)]
      rw [hS]
      rw [hz] at hT
      apply runs c_typebarref23_moved
      clear hl
      simp [X_typebarref23_moved, ht, hT, o0, putAt]
      all_goals exact ⟨rfl, rfl, rfl, rfl, rfl, rfl, rfl⟩
    · have hS : finS (moveS e a c) = (⟨gapGo e.G T, e.K, e.U, 0, 0, 0⟩, 0) := by
        rw [moveS, if_pos o0, if_neg (by omega), finS, if_neg (by simp), hTo]
      rw [hS]
      have hG := pc_ref10_Go (n + 4) e.G (T : Int) (by omega) (by omega)
      have hz' : ¬ (T : Int) = (e.G.A.length : Int) := by omega
      apply runs c_typebarref23_moved
      clear hl
      simp [X_typebarref23_moved, ht, hT, hG, o0, hz, hz', putAt, Nat.testBit]
  have ho' : 1 ≤ a.o ∧ a.o ≤ 6 := by omega
  have hlo : loE e a c = if a.m = 10 then 0 else min (e.G.A.length : Int) T := by rw [loE, hTo]
  have hhi : hiE e a c = if a.m = 10 then (l.length : Int) else if a.m = 9 ∧ (e.G.A.length : Int) < T then min ((T : Int) + 1) l.length else max (e.G.A.length : Int) T := by rw [hiE, hTo, hl]
  by_cases hz : loE e a c = hiE e a c
  · have hS : finS (moveS e a c) = (edZ, 7) := by
      rw [moveS, if_neg o0, if_pos hz, finS, if_pos (by simp)]
    rw [hS]
    rw [hlo, hhi] at hz
    apply runs c_typebarref23_moved
    clear hl
    by_cases m10 : a.m = 10
    · simp only [m10, if_true] at hz
      have hl0 : l = [] := List.eq_nil_of_length_eq_zero (by omega)
      have hA0 : e.G.A.length = 0 := by rw [hl0] at hLen; simp only [List.length_nil] at hLen; omega
      have hT0 : T = 0 := by rw [hl0] at t2'; simp at t2'; exact t2'
      rw [m10, hA0, hT0] at hT
      rw [hl0] at ht hT
      have hA1 : (e.G.A.length : Int) = 0 := by omega
      simp only [Int.natCast_zero] at hT
      clear hlo hhi hz
      simp [X_typebarref23_moved, ht, hT, o0, m10, hA0, hA1, putAt]
      all_goals exact ⟨rfl, rfl, rfl, rfl, rfl, rfl, rfl⟩
    · have hTA : T = e.G.A.length := by
        rw [if_neg m10, if_neg m10] at hz
        split at hz <;> omega
      rw [hTA] at hT
      clear hlo hhi hz
      simp [X_typebarref23_moved, ht, hT, o0, m10, putAt]
      repeat' (first
        | simp (disch := omega) only [wrap_i64, wrap_i32]
        | (simp (disch := first | omega | assumption | (simp only [i64, i32]; omega) | (simp <;> omega) | fail) only [loadD_cpr, loadD_cprs, List.take_of_length_le]; simp [*, m10, o0])
        | (with_reducible refine And.intro ?_ ?_; focus first | omega | decide)
        | (with_reducible refine split_ite (fun hp => ?_) (fun hp => ?_) <;> (try simp at hp) <;> simp [*, m10, o0])
        | (with_reducible refine split_ite1 (fun hp => ?_) (fun hp => ?_) <;> (try simp at hp) <;> simp [*, m10, o0])
        | (refine split_cond (by simp) (fun hp => ?_) (fun hp => ?_) <;> simp at hp <;> simp [*, m10, o0])
        | (refine split_ops (by simp) (fun hp => ?_) (fun hp => ?_) <;> simp at hp <;> simp [*, m10, o0])
        | (refine split_opsD (by simp) (fun hp => ?_) (fun hp => ?_) <;> simp at hp <;> simp [*, m10, o0])
        | (refine split_pick (by simp) (fun hp => ?_) (fun hp => ?_) <;> simp at hp <;> simp [*, m10, o0])
        | omega
        | decide
        | (simp [*, m10, o0]))
      all_goals exact ⟨rfl, rfl, rfl, rfl, rfl, rfl, rfl⟩
  have hic : (a.o = 3) ∨ (4 ≤ a.o) ∨ (a.o = 2 ∧ ¬ e.La = 2) ∨ (a.o = 2 ∧ e.La = 2) ∨ a.o = 1 := by omega
  have hch : ∀ lo hi : Nat, lo < hi → hi ≤ l.length → ∀ on : Bool, 4 ≤ a.o → passE e a.o lo hi on = ⟨gapSplit (sCh l lo hi a.o) hi, e.K, uPush e.U e.G, 0, 0, 0⟩ := by
    intro lo hi h1 h2 on h4
    rw [passE, if_neg (by omega), if_pos h4, ← hl, change_in h1 h2 (by omega)]
    simp only []
    rw [gapOf_ok (allR_sCh _ _ _ hR) (by simp; omega) (by simp; omega)]
    rfl
  have h3 : ∀ (lo hi : Nat) (on : Bool), a.o = 3 → passE e a.o lo hi on = ⟨gapSplit l lo, kAdd e.K ((l.drop lo).take (hi - lo)) 0, e.U, 0, 0, 0⟩ := fun lo hi on q => by rw [passE, if_pos q, ← hl]
  have h2 : ∀ (lo hi : Nat) (on : Bool), a.o = 2 → passE e a.o lo hi on = ⟨⟨l.take lo, l.drop hi⟩, kAdd e.K ((l.drop lo).take (hi - lo)) (if e.La = 2 then if on then 1 else -1 else 0), uPush e.U e.G, 2, 0, 0⟩ := fun lo hi on q => by rw [passE, if_neg (by omega), if_neg (by omega), if_pos q, if_pos q, ← hl]
  have h1 : ∀ (lo hi : Nat) (on : Bool), a.o = 1 → passE e a.o lo hi on = ⟨⟨l.take lo, l.drop hi⟩, e.K, uPush e.U e.G, 0, 0, 0⟩ := fun lo hi on q => by rw [passE, if_neg (by omega), if_neg (by omega), if_neg (by omega), if_neg (by omega), ← hl]

  rw [hlo, hhi] at hz
  by_cases c_m10gt : a.m = 10 ∧ e.G.A.length < T
  · obtain ⟨m10, hAT⟩ := c_m10gt
    have e1 : loE e a c = ((0 : Nat) : Int) := by rw [hlo]; split <;> omega
    have e2 : hiE e a c = ((l.length : Nat) : Int) := by rw [hhi]; split <;> (try split) <;> omega
    have hne : 0 < l.length := by rw [hlo] at e1; rw [hhi] at e2; rw [e1, e2] at hz; omega
    have e3 : (decide ((e.G.A.length : Int) < toE e a c) || decide (a.m = 10)) = true := by rw [hTo]; first | (simp [*]; done) | (simp [*]; omega)
    rcases hic with o3 | o4 | ⟨o2, hla⟩ | ⟨o2, hla⟩ | o1
    · rw [moved_of (lo := 0) (hi := l.length) (on := true) e1 e2 hne o0 e3 (h3 _ _ _ o3)]
      exact moved_m10gt_3 n e a c h l hl T t2' ho' hne hTo m10 hAT o3
    · rw [moved_of (lo := 0) (hi := l.length) (on := true) e1 e2 hne o0 e3 (hch _ _ hne (by omega) _ o4)]
      exact moved_m10gt_4 n e a c h l hl T t2' ho' hne hTo m10 hAT o4
    · rw [moved_of (lo := 0) (hi := l.length) (on := true) e1 e2 hne o0 e3 (by rw [h2 _ _ _ o2, if_neg hla])]
      exact moved_m10gt_2n n e a c h l hl T t2' ho' hne hTo m10 hAT o2 hla
    · rw [moved_of (lo := 0) (hi := l.length) (on := true) e1 e2 hne o0 e3 (by rw [h2 _ _ _ o2, if_pos hla])]
      exact moved_m10gt_2y n e a c h l hl T t2' ho' hne hTo m10 hAT o2 hla
    · rw [moved_of (lo := 0) (hi := l.length) (on := true) e1 e2 hne o0 e3 (h1 _ _ _ o1)]
      exact moved_m10gt_1 n e a c h l hl T t2' ho' hne hTo m10 hAT o1
  by_cases c_m10le : a.m = 10 ∧ ¬ e.G.A.length < T
  · obtain ⟨m10, hAT⟩ := c_m10le
    have e1 : loE e a c = ((0 : Nat) : Int) := by rw [hlo]; split <;> omega
    have e2 : hiE e a c = ((l.length : Nat) : Int) := by rw [hhi]; split <;> (try split) <;> omega
    have hne : 0 < l.length := by rw [hlo] at e1; rw [hhi] at e2; rw [e1, e2] at hz; omega
    have e3 : (decide ((e.G.A.length : Int) < toE e a c) || decide (a.m = 10)) = true := by rw [hTo]; first | (simp [*]; done) | (simp [*]; omega)
    rcases hic with o3 | o4 | ⟨o2, hla⟩ | ⟨o2, hla⟩ | o1
    · rw [moved_of (lo := 0) (hi := l.length) (on := true) e1 e2 hne o0 e3 (h3 _ _ _ o3)]
      exact moved_m10le_3 n e a c h l hl T t2' ho' hne hTo m10 hAT o3
    · rw [moved_of (lo := 0) (hi := l.length) (on := true) e1 e2 hne o0 e3 (hch _ _ hne (by omega) _ o4)]
      exact moved_m10le_4 n e a c h l hl T t2' ho' hne hTo m10 hAT o4
    · rw [moved_of (lo := 0) (hi := l.length) (on := true) e1 e2 hne o0 e3 (by rw [h2 _ _ _ o2, if_neg hla])]
      exact moved_m10le_2n n e a c h l hl T t2' ho' hne hTo m10 hAT o2 hla
    · rw [moved_of (lo := 0) (hi := l.length) (on := true) e1 e2 hne o0 e3 (by rw [h2 _ _ _ o2, if_pos hla])]
      exact moved_m10le_2y n e a c h l hl T t2' ho' hne hTo m10 hAT o2 hla
    · rw [moved_of (lo := 0) (hi := l.length) (on := true) e1 e2 hne o0 e3 (h1 _ _ _ o1)]
      exact moved_m10le_1 n e a c h l hl T t2' ho' hne hTo m10 hAT o1
  by_cases c_lt9 : a.m = 9 ∧ T < e.G.A.length
  · obtain ⟨m9, hAT⟩ := c_lt9
    have e1 : loE e a c = ((T : Nat) : Int) := by rw [hlo]; split <;> omega
    have e2 : hiE e a c = ((e.G.A.length : Nat) : Int) := by rw [hhi]; split <;> (try split) <;> omega
    have hne : T < e.G.A.length := by rw [hlo] at e1; rw [hhi] at e2; rw [e1, e2] at hz; omega
    have e3 : (decide ((e.G.A.length : Int) < toE e a c) || decide (a.m = 10)) = false := by rw [hTo]; first | (simp [*]; done) | (simp [*]; omega)
    rcases hic with o3 | o4 | ⟨o2, hla⟩ | ⟨o2, hla⟩ | o1
    · rw [moved_of (lo := T) (hi := e.G.A.length) (on := false) e1 e2 hne o0 e3 (h3 _ _ _ o3)]
      exact moved_lt9_3 n e a c h l hl T t2' ho' hne hTo m9 hAT o3
    · rw [moved_of (lo := T) (hi := e.G.A.length) (on := false) e1 e2 hne o0 e3 (hch _ _ hne (by omega) _ o4)]
      exact moved_lt9_4 n e a c h l hl T t2' ho' hne hTo m9 hAT o4
    · rw [moved_of (lo := T) (hi := e.G.A.length) (on := false) e1 e2 hne o0 e3 (by rw [h2 _ _ _ o2, if_neg hla])]
      exact moved_lt9_2n n e a c h l hl T t2' ho' hne hTo m9 hAT o2 hla
    · rw [moved_of (lo := T) (hi := e.G.A.length) (on := false) e1 e2 hne o0 e3 (by rw [h2 _ _ _ o2, if_pos hla])]
      exact moved_lt9_2y n e a c h l hl T t2' ho' hne hTo m9 hAT o2 hla
    · rw [moved_of (lo := T) (hi := e.G.A.length) (on := false) e1 e2 hne o0 e3 (h1 _ _ _ o1)]
      exact moved_lt9_1 n e a c h l hl T t2' ho' hne hTo m9 hAT o1
  by_cases c_lt : (¬ a.m = 9 ∧ ¬ a.m = 10) ∧ T < e.G.A.length
  · obtain ⟨⟨m9, m10⟩, hAT⟩ := c_lt
    have e1 : loE e a c = ((T : Nat) : Int) := by rw [hlo]; split <;> omega
    have e2 : hiE e a c = ((e.G.A.length : Nat) : Int) := by rw [hhi]; split <;> (try split) <;> omega
    have hne : T < e.G.A.length := by rw [hlo] at e1; rw [hhi] at e2; rw [e1, e2] at hz; omega
    have e3 : (decide ((e.G.A.length : Int) < toE e a c) || decide (a.m = 10)) = false := by rw [hTo]; first | (simp [*]; done) | (simp [*]; omega)
    rcases hic with o3 | o4 | ⟨o2, hla⟩ | ⟨o2, hla⟩ | o1
    · rw [moved_of (lo := T) (hi := e.G.A.length) (on := false) e1 e2 hne o0 e3 (h3 _ _ _ o3)]
      exact moved_lt_3 n e a c h l hl T t2' ho' hne hTo m9 m10 hAT o3
    · rw [moved_of (lo := T) (hi := e.G.A.length) (on := false) e1 e2 hne o0 e3 (hch _ _ hne (by omega) _ o4)]
      exact moved_lt_4 n e a c h l hl T t2' ho' hne hTo m9 m10 hAT o4
    · rw [moved_of (lo := T) (hi := e.G.A.length) (on := false) e1 e2 hne o0 e3 (by rw [h2 _ _ _ o2, if_neg hla])]
      exact moved_lt_2n n e a c h l hl T t2' ho' hne hTo m9 m10 hAT o2 hla
    · rw [moved_of (lo := T) (hi := e.G.A.length) (on := false) e1 e2 hne o0 e3 (by rw [h2 _ _ _ o2, if_pos hla])]
      exact moved_lt_2y n e a c h l hl T t2' ho' hne hTo m9 m10 hAT o2 hla
    · rw [moved_of (lo := T) (hi := e.G.A.length) (on := false) e1 e2 hne o0 e3 (h1 _ _ _ o1)]
      exact moved_lt_1 n e a c h l hl T t2' ho' hne hTo m9 m10 hAT o1
  by_cases c_gt9 : (a.m = 9 ∧ e.G.A.length < T) ∧ T < l.length
  · obtain ⟨⟨m9, hAT⟩, hTL⟩ := c_gt9
    have e1 : loE e a c = ((e.G.A.length : Nat) : Int) := by rw [hlo]; split <;> omega
    have e2 : hiE e a c = (((T + 1) : Nat) : Int) := by rw [hhi]; split <;> (try split) <;> omega
    have hne : e.G.A.length < (T + 1) := by rw [hlo] at e1; rw [hhi] at e2; rw [e1, e2] at hz; omega
    have e3 : (decide ((e.G.A.length : Int) < toE e a c) || decide (a.m = 10)) = true := by rw [hTo]; first | (simp [*]; done) | (simp [*]; omega)
    rcases hic with o3 | o4 | ⟨o2, hla⟩ | ⟨o2, hla⟩ | o1
    · rw [moved_of (lo := e.G.A.length) (hi := (T + 1)) (on := true) e1 e2 hne o0 e3 (h3 _ _ _ o3)]
      exact moved_gt9_3 n e a c h l hl T t2' ho' hne hTo m9 hAT hTL o3
    · rw [moved_of (lo := e.G.A.length) (hi := (T + 1)) (on := true) e1 e2 hne o0 e3 (hch _ _ hne (by omega) _ o4)]
      exact moved_gt9_4 n e a c h l hl T t2' ho' hne hTo m9 hAT hTL o4
    · rw [moved_of (lo := e.G.A.length) (hi := (T + 1)) (on := true) e1 e2 hne o0 e3 (by rw [h2 _ _ _ o2, if_neg hla])]
      exact moved_gt9_2n n e a c h l hl T t2' ho' hne hTo m9 hAT hTL o2 hla
    · rw [moved_of (lo := e.G.A.length) (hi := (T + 1)) (on := true) e1 e2 hne o0 e3 (by rw [h2 _ _ _ o2, if_pos hla])]
      exact moved_gt9_2y n e a c h l hl T t2' ho' hne hTo m9 hAT hTL o2 hla
    · rw [moved_of (lo := e.G.A.length) (hi := (T + 1)) (on := true) e1 e2 hne o0 e3 (h1 _ _ _ o1)]
      exact moved_gt9_1 n e a c h l hl T t2' ho' hne hTo m9 hAT hTL o1
  by_cases c_gt9e : (a.m = 9 ∧ e.G.A.length < T) ∧ ¬ T < l.length
  · obtain ⟨⟨m9, hAT⟩, hTL⟩ := c_gt9e
    have e1 : loE e a c = ((e.G.A.length : Nat) : Int) := by rw [hlo]; split <;> omega
    have e2 : hiE e a c = ((T : Nat) : Int) := by rw [hhi]; split <;> (try split) <;> omega
    have hne : e.G.A.length < T := by rw [hlo] at e1; rw [hhi] at e2; rw [e1, e2] at hz; omega
    have e3 : (decide ((e.G.A.length : Int) < toE e a c) || decide (a.m = 10)) = true := by rw [hTo]; first | (simp [*]; done) | (simp [*]; omega)
    rcases hic with o3 | o4 | ⟨o2, hla⟩ | ⟨o2, hla⟩ | o1
    · rw [moved_of (lo := e.G.A.length) (hi := T) (on := true) e1 e2 hne o0 e3 (h3 _ _ _ o3)]
      exact moved_gt9e_3 n e a c h l hl T t2' ho' hne hTo m9 hAT hTL o3
    · rw [moved_of (lo := e.G.A.length) (hi := T) (on := true) e1 e2 hne o0 e3 (hch _ _ hne (by omega) _ o4)]
      exact moved_gt9e_4 n e a c h l hl T t2' ho' hne hTo m9 hAT hTL o4
    · rw [moved_of (lo := e.G.A.length) (hi := T) (on := true) e1 e2 hne o0 e3 (by rw [h2 _ _ _ o2, if_neg hla])]
      exact moved_gt9e_2n n e a c h l hl T t2' ho' hne hTo m9 hAT hTL o2 hla
    · rw [moved_of (lo := e.G.A.length) (hi := T) (on := true) e1 e2 hne o0 e3 (by rw [h2 _ _ _ o2, if_pos hla])]
      exact moved_gt9e_2y n e a c h l hl T t2' ho' hne hTo m9 hAT hTL o2 hla
    · rw [moved_of (lo := e.G.A.length) (hi := T) (on := true) e1 e2 hne o0 e3 (h1 _ _ _ o1)]
      exact moved_gt9e_1 n e a c h l hl T t2' ho' hne hTo m9 hAT hTL o1
  by_cases c_gt : (¬ a.m = 9 ∧ ¬ a.m = 10) ∧ e.G.A.length < T
  · obtain ⟨⟨m9, m10⟩, hAT⟩ := c_gt
    have e1 : loE e a c = ((e.G.A.length : Nat) : Int) := by rw [hlo]; split <;> omega
    have e2 : hiE e a c = ((T : Nat) : Int) := by rw [hhi]; split <;> (try split) <;> omega
    have hne : e.G.A.length < T := by rw [hlo] at e1; rw [hhi] at e2; rw [e1, e2] at hz; omega
    have e3 : (decide ((e.G.A.length : Int) < toE e a c) || decide (a.m = 10)) = true := by rw [hTo]; first | (simp [*]; done) | (simp [*]; omega)
    rcases hic with o3 | o4 | ⟨o2, hla⟩ | ⟨o2, hla⟩ | o1
    · rw [moved_of (lo := e.G.A.length) (hi := T) (on := true) e1 e2 hne o0 e3 (h3 _ _ _ o3)]
      exact moved_gt_3 n e a c h l hl T t2' ho' hne hTo m9 m10 hAT o3
    · rw [moved_of (lo := e.G.A.length) (hi := T) (on := true) e1 e2 hne o0 e3 (hch _ _ hne (by omega) _ o4)]
      exact moved_gt_4 n e a c h l hl T t2' ho' hne hTo m9 m10 hAT o4
    · rw [moved_of (lo := e.G.A.length) (hi := T) (on := true) e1 e2 hne o0 e3 (by rw [h2 _ _ _ o2, if_neg hla])]
      exact moved_gt_2n n e a c h l hl T t2' ho' hne hTo m9 m10 hAT o2 hla
    · rw [moved_of (lo := e.G.A.length) (hi := T) (on := true) e1 e2 hne o0 e3 (by rw [h2 _ _ _ o2, if_pos hla])]
      exact moved_gt_2y n e a c h l hl T t2' ho' hne hTo m9 m10 hAT o2 hla
    · rw [moved_of (lo := e.G.A.length) (hi := T) (on := true) e1 e2 hne o0 e3 (h1 _ _ _ o1)]
      exact moved_gt_1 n e a c h l hl T t2' ho' hne hTo m9 m10 hAT o1
  · exfalso
    split at hz
    · omega
    · split at hz <;> omega

end Go.Proofs.YtcaglmjfphjpfaaGreat
