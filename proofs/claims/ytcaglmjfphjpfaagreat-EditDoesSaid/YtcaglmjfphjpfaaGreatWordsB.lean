/- What the functions of layer 11 compute: behind signs of one kind. -/
import Derived.Test.YtcaglmjfphjpfaaGreatWordsA
namespace Go.Proofs.YtcaglmjfphjpfaaGreat
open Go E
set_option linter.unusedSimpArgs false
set_option linter.unusedVariables false

theorem ls_kind_Next (n : Nat) (r k : Int) : lendS (W (n + 3)) 104 [.int .i32 r, .ptr 0 0 1] [⟨[.int .i64 k], 0, true⟩] = some (.bool (decide (kindW r = k)), [⟨[.int .i64 k], 0, true⟩]) := by
  apply lends c_words_Next_1
  have hm : modes 104 103 = 0 := id rfl
  simp [X_words_Next_1, hm, settleF_def, settle_def]
theorem ls_kind_Prev (n : Nat) (r k : Int) : lendS (W (n + 3)) 106 [.int .i32 r, .ptr 0 0 1] [⟨[.int .i64 k], 0, true⟩] = some (.bool (decide (kindW r = k)), [⟨[.int .i64 k], 0, true⟩]) := by
  apply lends c_words_Prev_1
  have hm : modes 106 103 = 0 := id rfl
  simp [X_words_Prev_1, hm, settleF_def, settle_def]
theorem ls_kind_Tail (n : Nat) (r k : Int) : lendS (W (n + 3)) 107 [.int .i32 r, .ptr 0 0 1] [⟨[.int .i64 k], 0, true⟩] = some (.bool (decide (kindW r = k)), [⟨[.int .i64 k], 0, true⟩]) := by
  apply lends c_words_Tail_1
  have hm : modes 107 103 = 0 := id rfl
  simp [X_words_Tail_1, hm, settleF_def, settle_def]

theorem ls_pass_upK (n : Nat) (p : Int → Bool) (g : FuncId) (v : Int) (hg : ∀ r, lendS (W (n + 3)) g [.int .i32 r, .ptr 0 0 1] [⟨[.int .i64 v], 0, true⟩] = some (.bool (p r), [⟨[.int .i64 v], 0, true⟩])) (hm : modes 112 g = 3) (l : List Int) (i : Nat) (hi : i ≤ l.length) (hl : l.length < 2000000) :
    lendS (W (n + 4)) 112 [.fn (.func g) [] [.ptr 0 0 1], .ptr 1 0 1, .ptr 2 0 1, .ptr 3 0 1] [⟨[.int .i64 v], 0, true⟩, ⟨[.int .i64 i], 0, true⟩, ⟨[.int .i64 1], 0, true⟩, ⟨[rn l], 0, true⟩] =
    some (.int .i64 (up p l i), [⟨[.int .i64 v], 0, true⟩, ⟨[.int .i64 (up p l i)], 0, true⟩, ⟨[.int .i64 1], 0, true⟩, ⟨[rn l], 0, true⟩]) := by
  apply lends c_words_passer_1
  simp [X_words_passer_1]
  refine aw_rounds (fun m st => ∃ k : Nat, st = ⟨tab [(0, .fn (.func g) [] [.ptr 0 0 1]), (1, .ptr 1 0 1), (2, .ptr 2 0 1), (3, .ptr 3 0 1)], ⟨[.int .i64 v], 0, true⟩ :: ⟨[.int .i64 k], 0, true⟩ :: ⟨[.int .i64 1], 0, true⟩ :: ⟨[rn l], 0, true⟩ :: []⟩ ∧ k ≤ l.length ∧ m = l.length - k + 1 ∧ Keep (up p l i = up p l k)) ?_ ?_ (n := l.length - (i) + 1) (by first | omega | (simp; omega)) ?_
  · rintro st ⟨k, hx⟩; omega
  rotate_left
  · exact ⟨i, by first | rfl | (simp [*, accS, accH]; done) | (simp only [*]; done) | (congr 1 <;> simp [*, accS, accH]; done) | (congr 1 <;> simp [*, accS, accH] <;> rfl) | (congr 1 <;> congr 1 <;> simp <;> omega), by first | omega | (simp; omega) | simp [*], by first | rfl | (simp; done) | omega, ⟨rfl⟩⟩
  rintro Ja ma _ ⟨k, rfl, fa1, hma, hqa⟩ hJa
  by_cases hk : k < l.length
  · cases hpp : p l[k]
    · have he : up p l i = k := by rw [hqa.out, up_stop hk hpp]
      simp [hm]
      repeat' (first
        | simp (disch := omega) only [wrap_i64, wrap_i32]
        | (simp (disch := first | omega | assumption | (simp only [i64, i32]; omega) | (simp <;> omega) | fail) only [loadD_cpr, loadD_cprs, List.take_of_length_le]; simp [*, hm, hg, hpp, he, settleF_def, settle_def, lendW_def, back_def])
        | (with_reducible refine And.intro ?_ ?_; focus first | omega | decide)
        | (with_reducible refine split_ite (fun hp => ?_) (fun hp => ?_) <;> (try simp at hp) <;> simp [*, hm, hg, hpp, he, settleF_def, settle_def, lendW_def, back_def])
        | (with_reducible refine split_ite1 (fun hp => ?_) (fun hp => ?_) <;> (try simp at hp) <;> simp [*, hm, hg, hpp, he, settleF_def, settle_def, lendW_def, back_def])
        | (refine split_cond (by simp) (fun hp => ?_) (fun hp => ?_) <;> simp at hp <;> simp [*, hm, hg, hpp, he, settleF_def, settle_def, lendW_def, back_def])
        | (refine split_ops (by simp) (fun hp => ?_) (fun hp => ?_) <;> simp at hp <;> simp [*, hm, hg, hpp, he, settleF_def, settle_def, lendW_def, back_def])
        | (refine split_opsD (by simp) (fun hp => ?_) (fun hp => ?_) <;> simp at hp <;> simp [*, hm, hg, hpp, he, settleF_def, settle_def, lendW_def, back_def])
        | (refine split_pick (by simp) (fun hp => ?_) (fun hp => ?_) <;> simp at hp <;> simp [*, hm, hg, hpp, he, settleF_def, settle_def, lendW_def, back_def])
        | omega
        | decide
        | (simp [*, hm, hg, hpp, he, settleF_def, settle_def, lendW_def, back_def]))
    · simp [hm]
      repeat' (first
        | simp (disch := omega) only [wrap_i64, wrap_i32]
        | (simp (disch := first | omega | assumption | (simp only [i64, i32]; omega) | (simp <;> omega) | fail) only [loadD_cpr, loadD_cprs, List.take_of_length_le]; simp [*, hm, hg, hpp, lendW_def, back_def])
        | (with_reducible refine And.intro ?_ ?_; focus first | omega | decide)
        | (with_reducible refine split_ite (fun hp => ?_) (fun hp => ?_) <;> (try simp at hp) <;> simp [*, hm, hg, hpp, lendW_def, back_def])
        | (with_reducible refine split_ite1 (fun hp => ?_) (fun hp => ?_) <;> (try simp at hp) <;> simp [*, hm, hg, hpp, lendW_def, back_def])
        | (refine split_cond (by simp) (fun hp => ?_) (fun hp => ?_) <;> simp at hp <;> simp [*, hm, hg, hpp, lendW_def, back_def])
        | (refine split_ops (by simp) (fun hp => ?_) (fun hp => ?_) <;> simp at hp <;> simp [*, hm, hg, hpp, lendW_def, back_def])
        | (refine split_opsD (by simp) (fun hp => ?_) (fun hp => ?_) <;> simp at hp <;> simp [*, hm, hg, hpp, lendW_def, back_def])
        | (refine split_pick (by simp) (fun hp => ?_) (fun hp => ?_) <;> simp at hp <;> simp [*, hm, hg, hpp, lendW_def, back_def])
        | omega
        | decide
        | (simp [*, hm, hg, hpp, lendW_def, back_def]))
      exact hJa.out _ ⟨k + 1, by first | rfl | (simp [*, accS, accH]; done) | (simp only [*]; done) | (congr 1 <;> simp [*, accS, accH]; done) | (congr 1 <;> simp [*, accS, accH] <;> rfl) | (congr 1 <;> congr 1 <;> simp <;> omega), by first | omega | (simp; omega) | simp [*], by omega, ⟨by rw [hqa.out, up_go hk hpp]⟩⟩
  · have he : up p l i = k := by rw [hqa.out, up_end (by omega)]
    simp [hm]
    repeat' (first
      | simp (disch := omega) only [wrap_i64, wrap_i32]
      | (simp (disch := first | omega | assumption | (simp only [i64, i32]; omega) | (simp <;> omega) | fail) only [loadD_cpr, loadD_cprs, List.take_of_length_le]; simp [*, hm, hg, he, settleF_def, settle_def])
      | (with_reducible refine And.intro ?_ ?_; focus first | omega | decide)
      | (with_reducible refine split_ite (fun hp => ?_) (fun hp => ?_) <;> (try simp at hp) <;> simp [*, hm, hg, he, settleF_def, settle_def])
      | (with_reducible refine split_ite1 (fun hp => ?_) (fun hp => ?_) <;> (try simp at hp) <;> simp [*, hm, hg, he, settleF_def, settle_def])
      | (refine split_cond (by simp) (fun hp => ?_) (fun hp => ?_) <;> simp at hp <;> simp [*, hm, hg, he, settleF_def, settle_def])
      | (refine split_ops (by simp) (fun hp => ?_) (fun hp => ?_) <;> simp at hp <;> simp [*, hm, hg, he, settleF_def, settle_def])
      | (refine split_opsD (by simp) (fun hp => ?_) (fun hp => ?_) <;> simp at hp <;> simp [*, hm, hg, he, settleF_def, settle_def])
      | (refine split_pick (by simp) (fun hp => ?_) (fun hp => ?_) <;> simp at hp <;> simp [*, hm, hg, he, settleF_def, settle_def])
      | omega
      | decide
      | (simp [*, hm, hg, he, settleF_def, settle_def]))

theorem ls_pass_dnK (n : Nat) (p : Int → Bool) (g : FuncId) (v : Int) (hg : ∀ r, lendS (W (n + 3)) g [.int .i32 r, .ptr 0 0 1] [⟨[.int .i64 v], 0, true⟩] = some (.bool (p r), [⟨[.int .i64 v], 0, true⟩])) (hm : modes 112 g = 3) (l : List Int) (i : Nat) (hi : i ≤ l.length) (hl : l.length < 2000000) :
    lendS (W (n + 4)) 112 [.fn (.func g) [] [.ptr 0 0 1], .ptr 1 0 1, .ptr 2 0 1, .ptr 3 0 1] [⟨[.int .i64 v], 0, true⟩, ⟨[.int .i64 i], 0, true⟩, ⟨[.int .i64 (-1)], 0, true⟩, ⟨[rn l], 0, true⟩] =
    some (.int .i64 (dn p l i), [⟨[.int .i64 v], 0, true⟩, ⟨[.int .i64 (dn p l i)], 0, true⟩, ⟨[.int .i64 (-1)], 0, true⟩, ⟨[rn l], 0, true⟩]) := by
  apply lends c_words_passer_1
  simp [X_words_passer_1]
  refine aw_rounds (fun m st => ∃ k : Nat, st = ⟨tab [(0, .fn (.func g) [] [.ptr 0 0 1]), (1, .ptr 1 0 1), (2, .ptr 2 0 1), (3, .ptr 3 0 1)], ⟨[.int .i64 v], 0, true⟩ :: ⟨[.int .i64 k], 0, true⟩ :: ⟨[.int .i64 (-1)], 0, true⟩ :: ⟨[rn l], 0, true⟩ :: []⟩ ∧ k ≤ l.length ∧ m = k + 1 ∧ Keep (dn p l i = dn p l k)) ?_ ?_ (n := (i) + 1) (by first | omega | (simp; omega)) ?_
  · rintro st ⟨k, hx⟩; omega
  rotate_left
  · exact ⟨i, by first | rfl | (simp [*, accS, accH]; done) | (simp only [*]; done) | (congr 1 <;> simp [*, accS, accH]; done) | (congr 1 <;> simp [*, accS, accH] <;> rfl) | (congr 1 <;> congr 1 <;> simp <;> omega), by first | omega | (simp; omega) | simp [*], by first | rfl | (simp; done) | omega, ⟨rfl⟩⟩
  rintro Ja ma _ ⟨k, rfl, fa1, hma, hqa⟩ hJa
  obtain h0 | ⟨q, rfl⟩ : k = 0 ∨ ∃ q, k = q + 1 := by cases k; exact .inl rfl; exact .inr ⟨_, rfl⟩
  · subst h0
    have he : dn p l i = 0 := by rw [hqa.out, dn_zero]
    simp [hm]
    repeat' (first
      | simp (disch := omega) only [wrap_i64, wrap_i32]
      | (simp (disch := first | omega | assumption | (simp only [i64, i32]; omega) | (simp <;> omega) | fail) only [loadD_cpr, loadD_cprs, List.take_of_length_le]; simp [*, hm, hg, he, settleF_def, settle_def])
      | (with_reducible refine And.intro ?_ ?_; focus first | omega | decide)
      | (with_reducible refine split_ite (fun hp => ?_) (fun hp => ?_) <;> (try simp at hp) <;> simp [*, hm, hg, he, settleF_def, settle_def])
      | (with_reducible refine split_ite1 (fun hp => ?_) (fun hp => ?_) <;> (try simp at hp) <;> simp [*, hm, hg, he, settleF_def, settle_def])
      | (refine split_cond (by simp) (fun hp => ?_) (fun hp => ?_) <;> simp at hp <;> simp [*, hm, hg, he, settleF_def, settle_def])
      | (refine split_ops (by simp) (fun hp => ?_) (fun hp => ?_) <;> simp at hp <;> simp [*, hm, hg, he, settleF_def, settle_def])
      | (refine split_opsD (by simp) (fun hp => ?_) (fun hp => ?_) <;> simp at hp <;> simp [*, hm, hg, he, settleF_def, settle_def])
      | (refine split_pick (by simp) (fun hp => ?_) (fun hp => ?_) <;> simp at hp <;> simp [*, hm, hg, he, settleF_def, settle_def])
      | omega
      | decide
      | (simp [*, hm, hg, he, settleF_def, settle_def]))
  · have hk : q < l.length := by omega
    cases hpp : p l[q]
    · have he : dn p l i = q + 1 := by rw [hqa.out, dn_stop hk hpp]
      simp [hm]
      repeat' (first
        | simp (disch := omega) only [wrap_i64, wrap_i32]
        | (simp (disch := first | omega | assumption | (simp only [i64, i32]; omega) | (simp <;> omega) | fail) only [loadD_cpr, loadD_cprs, List.take_of_length_le]; simp [*, hm, hg, hpp, he, settleF_def, settle_def, lendW_def, back_def])
        | (with_reducible refine And.intro ?_ ?_; focus first | omega | decide)
        | (with_reducible refine split_ite (fun hp => ?_) (fun hp => ?_) <;> (try simp at hp) <;> simp [*, hm, hg, hpp, he, settleF_def, settle_def, lendW_def, back_def])
        | (with_reducible refine split_ite1 (fun hp => ?_) (fun hp => ?_) <;> (try simp at hp) <;> simp [*, hm, hg, hpp, he, settleF_def, settle_def, lendW_def, back_def])
        | (refine split_cond (by simp) (fun hp => ?_) (fun hp => ?_) <;> simp at hp <;> simp [*, hm, hg, hpp, he, settleF_def, settle_def, lendW_def, back_def])
        | (refine split_ops (by simp) (fun hp => ?_) (fun hp => ?_) <;> simp at hp <;> simp [*, hm, hg, hpp, he, settleF_def, settle_def, lendW_def, back_def])
        | (refine split_opsD (by simp) (fun hp => ?_) (fun hp => ?_) <;> simp at hp <;> simp [*, hm, hg, hpp, he, settleF_def, settle_def, lendW_def, back_def])
        | (refine split_pick (by simp) (fun hp => ?_) (fun hp => ?_) <;> simp at hp <;> simp [*, hm, hg, hpp, he, settleF_def, settle_def, lendW_def, back_def])
        | omega
        | decide
        | (simp [*, hm, hg, hpp, he, settleF_def, settle_def, lendW_def, back_def]))
    · simp [hm]
      repeat' (first
        | simp (disch := omega) only [wrap_i64, wrap_i32]
        | (simp (disch := first | omega | assumption | (simp only [i64, i32]; omega) | (simp <;> omega) | fail) only [loadD_cpr, loadD_cprs, List.take_of_length_le]; simp [*, hm, hg, hpp, lendW_def, back_def])
        | (with_reducible refine And.intro ?_ ?_; focus first | omega | decide)
        | (with_reducible refine split_ite (fun hp => ?_) (fun hp => ?_) <;> (try simp at hp) <;> simp [*, hm, hg, hpp, lendW_def, back_def])
        | (with_reducible refine split_ite1 (fun hp => ?_) (fun hp => ?_) <;> (try simp at hp) <;> simp [*, hm, hg, hpp, lendW_def, back_def])
        | (refine split_cond (by simp) (fun hp => ?_) (fun hp => ?_) <;> simp at hp <;> simp [*, hm, hg, hpp, lendW_def, back_def])
        | (refine split_ops (by simp) (fun hp => ?_) (fun hp => ?_) <;> simp at hp <;> simp [*, hm, hg, hpp, lendW_def, back_def])
        | (refine split_opsD (by simp) (fun hp => ?_) (fun hp => ?_) <;> simp at hp <;> simp [*, hm, hg, hpp, lendW_def, back_def])
        | (refine split_pick (by simp) (fun hp => ?_) (fun hp => ?_) <;> simp at hp <;> simp [*, hm, hg, hpp, lendW_def, back_def])
        | omega
        | decide
        | (simp [*, hm, hg, hpp, lendW_def, back_def]))
      exact hJa.out _ ⟨q, by first | rfl | (simp [*, accS, accH]; done) | (simp only [*]; done) | (congr 1 <;> simp [*, accS, accH]; done) | (congr 1 <;> simp [*, accS, accH] <;> rfl) | (congr 1 <;> congr 1 <;> simp <;> omega), by first | omega | (simp; omega) | simp [*], by omega, ⟨by rw [hqa.out, dn_go hk hpp]⟩⟩

theorem pc_words_Behind (n : Nat) (l : List Int) (i : Int) (hl : l.length < 2000000) : (W (n + 6)).pc 81 [rn l, .int .i64 i] = some (.int .i64 (behindW l (place l i))) := by
  have hpl := place_le l i
  have he : (W (n + 5)).pc 101 [rn l, .int .i64 i, .int .i64 (-1)] = some (.int .i64 (behindW l (place l i))) := by
    apply runsM c_words_ends
    have m1 : modes 101 102 = 4 := id rfl
    have m2 : modes 101 112 = 3 := id rfl
    have u1 := ls_pass_dn n (fun r => !inW r) 111 (fun r => pc_words_ends_1 (n + 1) r) (id rfl) l (place l i) hpl hl
    have hu := (dn_spec (fun r => !inW r) l (place l i) hpl).1
    have u2 := ls_pass_dn n inW 87 (fun r => pc_words_In (n + 2) r) (id rfl) l (dn (fun r => !inW r) l (place l i)) (by omega) hl
    simp [X_words_ends, m1, m2, lendW_def, back_def, lk_passer, u1, u2, behindW]
  apply runs c_words_Behind
  simp [X_words_Behind, he]

theorem clamp_place (l : List Int) (i : Int) : max 0 (min i (l.length : Int)) = (place l i : Int) := by simp only [place]; split; omega; split <;> omega

theorem place_nat {l : List Int} {i : Nat} (h : i ≤ l.length) : place l (i : Int) = i := by simp only [place]; split; omega; split <;> omega

theorem pc_words_Next (n : Nat) (l : List Int) (i : Int) (hl : l.length < 2000000) : (W (n + 5)).pc 82 [rn l, .int .i64 i] = some (.int .i64 (nextW l (place l i))) := by
  have hpl := place_le l i
  apply runsM c_words_Next
  have m1 : modes 82 102 = 4 := id rfl
  have m2 : modes 82 112 = 3 := id rfl
  have m3 : modes 82 103 = 0 := id rfl
  have hc := clamp_place l i
  generalize place l i = a at hpl hc ⊢
  have ha := place_nat hpl
  have u1 := fun j hj => ls_pass_up n (fun s => decide (kindW s = 0)) 105 (fun r => pc_words_blank n r) (id rfl) l j hj hl
  by_cases hal : a < l.length
  · have hn : ¬ (a : Int) = l.length := by omega
    have u2 := ls_pass_upK n (fun s => decide (kindW s = kindW l[a])) 104 (kindW l[a]) (fun r => ls_kind_Next n r (kindW l[a])) (id rfl) l a hpl hl
    have hu := (up_spec (fun s => decide (kindW s = kindW l[a])) l a hpl).2.1
    have v1 := u1 a hpl
    have v2 := u1 _ hu
    have hnx : nextW l a = up (fun s => decide (kindW s = 0)) l (if kindW l[a] ≠ 0 then up (fun s => decide (kindW s = kindW l[a])) l a else a) := by
      simp only [nextW, List.getElem?_eq_getElem hal]
    by_cases hk : kindW l[a] = 0
    · rw [hk] at u2
      simp [hk] at hnx
      simp [X_words_Next, m1, m2, m3, hc, hn]
      repeat' (first
        | simp (disch := omega) only [wrap_i64, wrap_i32]
        | (simp (disch := first | omega | assumption | (simp only [i64, i32]; omega) | (simp <;> omega) | fail) only [loadD_cpr, loadD_cprs, List.take_of_length_le]; simp [*, m1, m2, m3, lendW_def, back_def, lk_passer, ha, hk, v1, hnx])
        | (with_reducible refine And.intro ?_ ?_; focus first | omega | decide)
        | (with_reducible refine split_ite (fun hp => ?_) (fun hp => ?_) <;> (try simp at hp) <;> simp [*, m1, m2, m3, lendW_def, back_def, lk_passer, ha, hk, v1, hnx])
        | (with_reducible refine split_ite1 (fun hp => ?_) (fun hp => ?_) <;> (try simp at hp) <;> simp [*, m1, m2, m3, lendW_def, back_def, lk_passer, ha, hk, v1, hnx])
        | (refine split_cond (by simp) (fun hp => ?_) (fun hp => ?_) <;> simp at hp <;> simp [*, m1, m2, m3, lendW_def, back_def, lk_passer, ha, hk, v1, hnx])
        | (refine split_ops (by simp) (fun hp => ?_) (fun hp => ?_) <;> simp at hp <;> simp [*, m1, m2, m3, lendW_def, back_def, lk_passer, ha, hk, v1, hnx])
        | (refine split_opsD (by simp) (fun hp => ?_) (fun hp => ?_) <;> simp at hp <;> simp [*, m1, m2, m3, lendW_def, back_def, lk_passer, ha, hk, v1, hnx])
        | (refine split_pick (by simp) (fun hp => ?_) (fun hp => ?_) <;> simp at hp <;> simp [*, m1, m2, m3, lendW_def, back_def, lk_passer, ha, hk, v1, hnx])
        | omega
        | decide
        | (simp [*, m1, m2, m3, lendW_def, back_def, lk_passer, ha, hk, v1, hnx]))
      all_goals trace_state
    · simp [hk] at hnx
      simp [X_words_Next, m1, m2, m3, hc, hn]
      repeat' (first
        | simp (disch := omega) only [wrap_i64, wrap_i32]
        | (simp (disch := first | omega | assumption | (simp only [i64, i32]; omega) | (simp <;> omega) | fail) only [loadD_cpr, loadD_cprs, List.take_of_length_le]; simp [*, m1, m2, m3, lendW_def, back_def, lk_passer, ha, hk, u2, v2, hnx])
        | (with_reducible refine And.intro ?_ ?_; focus first | omega | decide)
        | (with_reducible refine split_ite (fun hp => ?_) (fun hp => ?_) <;> (try simp at hp) <;> simp [*, m1, m2, m3, lendW_def, back_def, lk_passer, ha, hk, u2, v2, hnx])
        | (with_reducible refine split_ite1 (fun hp => ?_) (fun hp => ?_) <;> (try simp at hp) <;> simp [*, m1, m2, m3, lendW_def, back_def, lk_passer, ha, hk, u2, v2, hnx])
        | (refine split_cond (by simp) (fun hp => ?_) (fun hp => ?_) <;> simp at hp <;> simp [*, m1, m2, m3, lendW_def, back_def, lk_passer, ha, hk, u2, v2, hnx])
        | (refine split_ops (by simp) (fun hp => ?_) (fun hp => ?_) <;> simp at hp <;> simp [*, m1, m2, m3, lendW_def, back_def, lk_passer, ha, hk, u2, v2, hnx])
        | (refine split_opsD (by simp) (fun hp => ?_) (fun hp => ?_) <;> simp at hp <;> simp [*, m1, m2, m3, lendW_def, back_def, lk_passer, ha, hk, u2, v2, hnx])
        | (refine split_pick (by simp) (fun hp => ?_) (fun hp => ?_) <;> simp at hp <;> simp [*, m1, m2, m3, lendW_def, back_def, lk_passer, ha, hk, u2, v2, hnx])
        | omega
        | decide
        | (simp [*, m1, m2, m3, lendW_def, back_def, lk_passer, ha, hk, u2, v2, hnx]))
      all_goals trace_state
  · have hn : a = l.length := by omega
    subst hn
    simp [X_words_Next, hc, nextW]

end Go.Proofs.YtcaglmjfphjpfaaGreat
