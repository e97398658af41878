/- What the functions of layer 11 compute. -/
import Derived.Test.YtcaglmjfphjpfaaGreatW
import Derived.Test.YtcaglmjfphjpfaaGreatWordsP
namespace Go.Proofs.YtcaglmjfphjpfaaGreat
open Go E
set_option linter.unusedSimpArgs false
set_option linter.unusedVariables false

@[simp] theorem pc_words_In (n : Nat) (r : Int) : (W (n + 1)).pc 87 [.int .i32 r] = some (.bool (inW r)) := by
  apply runs c_words_In
  simp [X_words_In]
  repeat' (first
    | simp (disch := omega) only [wrap_i64, wrap_i32]
    | (simp (disch := first | omega | assumption | (simp only [i64, i32]; omega) | (simp <;> omega) | fail) only [loadD_cpr, loadD_cprs, List.take_of_length_le]; simp [*])
    | (with_reducible refine And.intro ?_ ?_; focus first | omega | decide)
    | (with_reducible refine split_ite (fun hp => ?_) (fun hp => ?_) <;> (try simp at hp) <;> simp [*])
    | (with_reducible refine split_ite1 (fun hp => ?_) (fun hp => ?_) <;> (try simp at hp) <;> simp [*])
    | (refine split_cond (by simp) (fun hp => ?_) (fun hp => ?_) <;> simp at hp <;> simp [*])
    | (refine split_ops (by simp) (fun hp => ?_) (fun hp => ?_) <;> simp at hp <;> simp [*])
    | (refine split_opsD (by simp) (fun hp => ?_) (fun hp => ?_) <;> simp at hp <;> simp [*])
    | (refine split_pick (by simp) (fun hp => ?_) (fun hp => ?_) <;> simp at hp <;> simp [*])
    | omega
    | decide
    | (simp [*]))
  all_goals grind [inW]

@[simp] theorem pc_words_Kind (n : Nat) (r : Int) : (W (n + 2)).pc 103 [.int .i32 r] = some (.int .i64 (kindW r)) := by
  apply runs c_words_Kind
  simp [X_words_Kind]
  repeat' (first
    | simp (disch := omega) only [wrap_i64, wrap_i32]
    | (simp (disch := first | omega | assumption | (simp only [i64, i32]; omega) | (simp <;> omega) | fail) only [loadD_cpr, loadD_cprs, List.take_of_length_le]; simp [*])
    | (with_reducible refine And.intro ?_ ?_; focus first | omega | decide)
    | (with_reducible refine split_ite (fun hp => ?_) (fun hp => ?_) <;> (try simp at hp) <;> simp [*])
    | (with_reducible refine split_ite1 (fun hp => ?_) (fun hp => ?_) <;> (try simp at hp) <;> simp [*])
    | (refine split_cond (by simp) (fun hp => ?_) (fun hp => ?_) <;> simp at hp <;> simp [*])
    | (refine split_ops (by simp) (fun hp => ?_) (fun hp => ?_) <;> simp at hp <;> simp [*])
    | (refine split_opsD (by simp) (fun hp => ?_) (fun hp => ?_) <;> simp at hp <;> simp [*])
    | (refine split_pick (by simp) (fun hp => ?_) (fun hp => ?_) <;> simp at hp <;> simp [*])
    | omega
    | decide
    | (simp [*]))
  all_goals grind [kindW]

@[simp] theorem pc_words_blank (n : Nat) (r : Int) : (W (n + 3)).pc 105 [.int .i32 r] = some (.bool (decide (kindW r = 0))) := by
  apply runs c_words_blank
  simp [X_words_blank]

@[simp] theorem pc_words_ends_1 (n : Nat) (r : Int) : (W (n + 2)).pc 111 [.int .i32 r] = some (.bool (!inW r)) := by
  apply runs c_words_ends_1
  simp [X_words_ends_1]

theorem lk_passer (n : Nat) (l : List Int) (i by_ : Int) : lendK (W (n + 1)) 102 [rn l, .int .i64 i, .int .i64 by_] [] =
    some (.fn (.func 112) [] [.ptr 0 0 1, .ptr 1 0 1, .ptr 2 0 1], [⟨[.int .i64 (place l i)], 0, true⟩, ⟨[.int .i64 by_], 0, true⟩, ⟨[rn l], 0, true⟩]) := by
  apply keeps c_words_passer
  have e : max 0 (min i (l.length : Int)) = (place l i : Int) := by simp only [place]; split; omega; split <;> omega
  simp [X_words_passer, settle_def, e]

theorem ls_pass_up (n : Nat) (p : Int → Bool) (g : FuncId) (hg : ∀ r, (W (n + 3)).pc g [.int .i32 r] = some (.bool (p r))) (hm : modes 112 g = 0) (l : List Int) (i : Nat) (hi : i ≤ l.length) (hl : l.length < 2000000) :
    lendS (W (n + 4)) 112 [.fn (.func g) [] [], .ptr 0 0 1, .ptr 1 0 1, .ptr 2 0 1] [⟨[.int .i64 i], 0, true⟩, ⟨[.int .i64 1], 0, true⟩, ⟨[rn l], 0, true⟩] =
    some (.int .i64 (up p l i), [⟨[.int .i64 (up p l i)], 0, true⟩, ⟨[.int .i64 1], 0, true⟩, ⟨[rn l], 0, true⟩]) := by
  apply lends c_words_passer_1
  simp [X_words_passer_1]
  refine aw_rounds (fun m st => ∃ k : Nat, st = ⟨tab [(0, .fn (.func g) [] []), (1, .ptr 0 0 1), (2, .ptr 1 0 1), (3, .ptr 2 0 1)], ⟨[.int .i64 k], 0, true⟩ :: ⟨[.int .i64 1], 0, true⟩ :: ⟨[rn l], 0, true⟩ :: []⟩ ∧ k ≤ l.length ∧ m = l.length - k + 1 ∧ Keep (up p l i = up p l k)) ?_ ?_ (n := l.length - (i) + 1) (by first | omega | (simp; omega)) ?_
  · rintro st ⟨k, hx⟩; omega
  rotate_left
  · exact ⟨i, by first | rfl | (simp [*, accS, accH]; done) | (simp only [*]; done) | (congr 1 <;> simp [*, accS, accH]; done) | (congr 1 <;> simp [*, accS, accH] <;> rfl) | (congr 1 <;> congr 1 <;> simp <;> omega), by first | omega | (simp; omega) | simp [*], by first | rfl | (simp; done) | omega, ⟨rfl⟩⟩
  rintro Ja ma _ ⟨k, rfl, fa1, hma, hqa⟩ hJa
  by_cases hk : k < l.length
  · cases hpp : p l[k]
    · have he : up p l i = k := by rw [hqa.out, up_stop hk hpp]
      simp [hm]
      repeat' (first
        | simp (disch := omega) only [wrap_i64, wrap_i32]
        | (simp (disch := first | omega | assumption | (simp only [i64, i32]; omega) | (simp <;> omega) | fail) only [loadD_cpr, loadD_cprs, List.take_of_length_le]; simp [*, hm, hg, hpp, he, settleF_def, settle_def])
        | (with_reducible refine And.intro ?_ ?_; focus first | omega | decide)
        | (with_reducible refine split_ite (fun hp => ?_) (fun hp => ?_) <;> (try simp at hp) <;> simp [*, hm, hg, hpp, he, settleF_def, settle_def])
        | (with_reducible refine split_ite1 (fun hp => ?_) (fun hp => ?_) <;> (try simp at hp) <;> simp [*, hm, hg, hpp, he, settleF_def, settle_def])
        | (refine split_cond (by simp) (fun hp => ?_) (fun hp => ?_) <;> simp at hp <;> simp [*, hm, hg, hpp, he, settleF_def, settle_def])
        | (refine split_ops (by simp) (fun hp => ?_) (fun hp => ?_) <;> simp at hp <;> simp [*, hm, hg, hpp, he, settleF_def, settle_def])
        | (refine split_opsD (by simp) (fun hp => ?_) (fun hp => ?_) <;> simp at hp <;> simp [*, hm, hg, hpp, he, settleF_def, settle_def])
        | (refine split_pick (by simp) (fun hp => ?_) (fun hp => ?_) <;> simp at hp <;> simp [*, hm, hg, hpp, he, settleF_def, settle_def])
        | omega
        | decide
        | (simp [*, hm, hg, hpp, he, settleF_def, settle_def]))
    · simp [hm]
      repeat' (first
        | simp (disch := omega) only [wrap_i64, wrap_i32]
        | (simp (disch := first | omega | assumption | (simp only [i64, i32]; omega) | (simp <;> omega) | fail) only [loadD_cpr, loadD_cprs, List.take_of_length_le]; simp [*, hm, hg, hpp])
        | (with_reducible refine And.intro ?_ ?_; focus first | omega | decide)
        | (with_reducible refine split_ite (fun hp => ?_) (fun hp => ?_) <;> (try simp at hp) <;> simp [*, hm, hg, hpp])
        | (with_reducible refine split_ite1 (fun hp => ?_) (fun hp => ?_) <;> (try simp at hp) <;> simp [*, hm, hg, hpp])
        | (refine split_cond (by simp) (fun hp => ?_) (fun hp => ?_) <;> simp at hp <;> simp [*, hm, hg, hpp])
        | (refine split_ops (by simp) (fun hp => ?_) (fun hp => ?_) <;> simp at hp <;> simp [*, hm, hg, hpp])
        | (refine split_opsD (by simp) (fun hp => ?_) (fun hp => ?_) <;> simp at hp <;> simp [*, hm, hg, hpp])
        | (refine split_pick (by simp) (fun hp => ?_) (fun hp => ?_) <;> simp at hp <;> simp [*, hm, hg, hpp])
        | omega
        | decide
        | (simp [*, hm, hg, hpp]))
      exact hJa.out _ ⟨k + 1, by first | rfl | (simp [*, accS, accH]; done) | (simp only [*]; done) | (congr 1 <;> simp [*, accS, accH]; done) | (congr 1 <;> simp [*, accS, accH] <;> rfl) | (congr 1 <;> congr 1 <;> simp <;> omega), by first | omega | (simp; omega) | simp [*], by omega, ⟨by rw [hqa.out, up_go hk hpp]⟩⟩
  · have he : up p l i = k := by rw [hqa.out, up_end (by omega)]
    simp [hm]
    repeat' (first
      | simp (disch := omega) only [wrap_i64, wrap_i32]
      | (simp (disch := first | omega | assumption | (simp only [i64, i32]; omega) | (simp <;> omega) | fail) only [loadD_cpr, loadD_cprs, List.take_of_length_le]; simp [*, hm, hg, he, settleF_def, settle_def])
      | (with_reducible refine And.intro ?_ ?_; focus first | omega | decide)
      | (with_reducible refine split_ite (fun hp => ?_) (fun hp => ?_) <;> (try simp at hp) <;> simp [*, hm, hg, he, settleF_def, settle_def])
      | (with_reducible refine split_ite1 (fun hp => ?_) (fun hp => ?_) <;> (try simp at hp) <;> simp [*, hm, hg, he, settleF_def, settle_def])
      | (refine split_cond (by simp) (fun hp => ?_) (fun hp => ?_) <;> simp at hp <;> simp [*, hm, hg, he, settleF_def, settle_def])
      | (refine split_ops (by simp) (fun hp => ?_) (fun hp => ?_) <;> simp at hp <;> simp [*, hm, hg, he, settleF_def, settle_def])
      | (refine split_opsD (by simp) (fun hp => ?_) (fun hp => ?_) <;> simp at hp <;> simp [*, hm, hg, he, settleF_def, settle_def])
      | (refine split_pick (by simp) (fun hp => ?_) (fun hp => ?_) <;> simp at hp <;> simp [*, hm, hg, he, settleF_def, settle_def])
      | omega
      | decide
      | (simp [*, hm, hg, he, settleF_def, settle_def]))

theorem ls_pass_dn (n : Nat) (p : Int → Bool) (g : FuncId) (hg : ∀ r, (W (n + 3)).pc g [.int .i32 r] = some (.bool (p r))) (hm : modes 112 g = 0) (l : List Int) (i : Nat) (hi : i ≤ l.length) (hl : l.length < 2000000) :
    lendS (W (n + 4)) 112 [.fn (.func g) [] [], .ptr 0 0 1, .ptr 1 0 1, .ptr 2 0 1] [⟨[.int .i64 i], 0, true⟩, ⟨[.int .i64 (-1)], 0, true⟩, ⟨[rn l], 0, true⟩] =
    some (.int .i64 (dn p l i), [⟨[.int .i64 (dn p l i)], 0, true⟩, ⟨[.int .i64 (-1)], 0, true⟩, ⟨[rn l], 0, true⟩]) := by
  apply lends c_words_passer_1
  simp [X_words_passer_1]
  refine aw_rounds (fun m st => ∃ k : Nat, st = ⟨tab [(0, .fn (.func g) [] []), (1, .ptr 0 0 1), (2, .ptr 1 0 1), (3, .ptr 2 0 1)], ⟨[.int .i64 k], 0, true⟩ :: ⟨[.int .i64 (-1)], 0, true⟩ :: ⟨[rn l], 0, true⟩ :: []⟩ ∧ k ≤ l.length ∧ m = k + 1 ∧ Keep (dn p l i = dn p l k)) ?_ ?_ (n := (i) + 1) (by first | omega | (simp; omega)) ?_
  · rintro st ⟨k, hx⟩; omega
  rotate_left
  · exact ⟨i, by first | rfl | (simp [*, accS, accH]; done) | (simp only [*]; done) | (congr 1 <;> simp [*, accS, accH]; done) | (congr 1 <;> simp [*, accS, accH] <;> rfl) | (congr 1 <;> congr 1 <;> simp <;> omega), by first | omega | (simp; omega) | simp [*], by first | rfl | (simp; done) | omega, ⟨rfl⟩⟩
  rintro Ja ma _ ⟨k, rfl, fa1, hma, hqa⟩ hJa
  obtain h0 | ⟨q, rfl⟩ : k = 0 ∨ ∃ q, k = q + 1 := by cases k; exact .inl rfl; exact .inr ⟨_, rfl⟩
  · subst h0
    have he : dn p l i = 0 := by rw [hqa.out, dn_zero]
    simp [hm]
    repeat' (first
      | simp (disch := omega) only [wrap_i64, wrap_i32]
      | (simp (disch := first | omega | assumption | (simp only [i64, i32]; omega) | (simp <;> omega) | fail) only [loadD_cpr, loadD_cprs, List.take_of_length_le]; simp [*, hm, hg, he, settleF_def, settle_def])
      | (with_reducible refine And.intro ?_ ?_; focus first | omega | decide)
      | (with_reducible refine split_ite (fun hp => ?_) (fun hp => ?_) <;> (try simp at hp) <;> simp [*, hm, hg, he, settleF_def, settle_def])
      | (with_reducible refine split_ite1 (fun hp => ?_) (fun hp => ?_) <;> (try simp at hp) <;> simp [*, hm, hg, he, settleF_def, settle_def])
      | (refine split_cond (by simp) (fun hp => ?_) (fun hp => ?_) <;> simp at hp <;> simp [*, hm, hg, he, settleF_def, settle_def])
      | (refine split_ops (by simp) (fun hp => ?_) (fun hp => ?_) <;> simp at hp <;> simp [*, hm, hg, he, settleF_def, settle_def])
      | (refine split_opsD (by simp) (fun hp => ?_) (fun hp => ?_) <;> simp at hp <;> simp [*, hm, hg, he, settleF_def, settle_def])
      | (refine split_pick (by simp) (fun hp => ?_) (fun hp => ?_) <;> simp at hp <;> simp [*, hm, hg, he, settleF_def, settle_def])
      | omega
      | decide
      | (simp [*, hm, hg, he, settleF_def, settle_def]))
  · have hk : q < l.length := by omega
    cases hpp : p l[q]
    · have he : dn p l i = q + 1 := by rw [hqa.out, dn_stop hk hpp]
      simp [hm]
      repeat' (first
        | simp (disch := omega) only [wrap_i64, wrap_i32]
        | (simp (disch := first | omega | assumption | (simp only [i64, i32]; omega) | (simp <;> omega) | fail) only [loadD_cpr, loadD_cprs, List.take_of_length_le]; simp [*, hm, hg, hpp, he, settleF_def, settle_def])
        | (with_reducible refine And.intro ?_ ?_; focus first | omega | decide)
        | (with_reducible refine split_ite (fun hp => ?_) (fun hp => ?_) <;> (try simp at hp) <;> simp [*, hm, hg, hpp, he, settleF_def, settle_def])
        | (with_reducible refine split_ite1 (fun hp => ?_) (fun hp => ?_) <;> (try simp at hp) <;> simp [*, hm, hg, hpp, he, settleF_def, settle_def])
        | (refine split_cond (by simp) (fun hp => ?_) (fun hp => ?_) <;> simp at hp <;> simp [*, hm, hg, hpp, he, settleF_def, settle_def])
        | (refine split_ops (by simp) (fun hp => ?_) (fun hp => ?_) <;> simp at hp <;> simp [*, hm, hg, hpp, he, settleF_def, settle_def])
        | (refine split_opsD (by simp) (fun hp => ?_) (fun hp => ?_) <;> simp at hp <;> simp [*, hm, hg, hpp, he, settleF_def, settle_def])
        | (refine split_pick (by simp) (fun hp => ?_) (fun hp => ?_) <;> simp at hp <;> simp [*, hm, hg, hpp, he, settleF_def, settle_def])
        | omega
        | decide
        | (simp [*, hm, hg, hpp, he, settleF_def, settle_def]))
      all_goals trace_state
    · simp [hm]
      repeat' (first
        | simp (disch := omega) only [wrap_i64, wrap_i32]
        | (simp (disch := first | omega | assumption | (simp only [i64, i32]; omega) | (simp <;> omega) | fail) only [loadD_cpr, loadD_cprs, List.take_of_length_le]; simp [*, hm, hg, hpp])
        | (with_reducible refine And.intro ?_ ?_; focus first | omega | decide)
        | (with_reducible refine split_ite (fun hp => ?_) (fun hp => ?_) <;> (try simp at hp) <;> simp [*, hm, hg, hpp])
        | (with_reducible refine split_ite1 (fun hp => ?_) (fun hp => ?_) <;> (try simp at hp) <;> simp [*, hm, hg, hpp])
        | (refine split_cond (by simp) (fun hp => ?_) (fun hp => ?_) <;> simp at hp <;> simp [*, hm, hg, hpp])
        | (refine split_ops (by simp) (fun hp => ?_) (fun hp => ?_) <;> simp at hp <;> simp [*, hm, hg, hpp])
        | (refine split_opsD (by simp) (fun hp => ?_) (fun hp => ?_) <;> simp at hp <;> simp [*, hm, hg, hpp])
        | (refine split_pick (by simp) (fun hp => ?_) (fun hp => ?_) <;> simp at hp <;> simp [*, hm, hg, hpp])
        | omega
        | decide
        | (simp [*, hm, hg, hpp]))
      exact hJa.out _ ⟨q, by first | rfl | (simp [*, accS, accH]; done) | (simp only [*]; done) | (congr 1 <;> simp [*, accS, accH]; done) | (congr 1 <;> simp [*, accS, accH] <;> rfl) | (congr 1 <;> congr 1 <;> simp <;> omega), by first | omega | (simp; omega) | simp [*], by omega, ⟨by rw [hqa.out, dn_go hk hpp]⟩⟩

theorem pc_words_Fore (n : Nat) (l : List Int) (i : Int) (hl : l.length < 2000000) : (W (n + 6)).pc 80 [rn l, .int .i64 i] = some (.int .i64 (foreW l (place l i))) := by
  have hpl := place_le l i
  have he : (W (n + 5)).pc 101 [rn l, .int .i64 i, .int .i64 1] = some (.int .i64 (foreW l (place l i))) := by
    apply runsM c_words_ends
    have m1 : modes 101 102 = 4 := id rfl
    have m2 : modes 101 112 = 3 := id rfl
    have u1 := ls_pass_up n (fun r => !inW r) 111 (fun r => pc_words_ends_1 (n + 1) r) (id rfl) l (place l i) hpl hl
    have hu := (up_spec (fun r => !inW r) l (place l i) hpl).2.1
    have u2 := ls_pass_up n inW 87 (fun r => pc_words_In (n + 2) r) (id rfl) l (up (fun r => !inW r) l (place l i)) hu hl
    simp [X_words_ends, m1, m2, lendW_def, back_def, lk_passer, u1, u2, foreW]
  apply runs c_words_Fore
  simp [X_words_Fore, he]

end Go.Proofs.YtcaglmjfphjpfaaGreat
