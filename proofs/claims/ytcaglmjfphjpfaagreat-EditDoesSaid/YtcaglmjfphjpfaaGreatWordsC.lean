/- What the functions of layer 11 compute: Prev, Tail, and the document's answer. -/
import Derived.Test.YtcaglmjfphjpfaaGreatWordsB
namespace Go.Proofs.YtcaglmjfphjpfaaGreat
open Go E
set_option linter.unusedSimpArgs false
set_option linter.unusedVariables false

theorem pc_words_Prev (n : Nat) (l : List Int) (i : Int) (hl : l.length < 2000000) : (W (n + 5)).pc 83 [rn l, .int .i64 i] = some (.int .i64 (prevW l (place l i))) := by
  have hpl := place_le l i
  apply runsM c_words_Prev
  have m1 : modes 83 102 = 4 := id rfl
  have m2 : modes 83 112 = 3 := id rfl
  have m3 : modes 83 103 = 0 := id rfl
  have v1 := ls_pass_dn n (fun s => decide (kindW s = 0)) 105 (fun r => pc_words_blank n r) (id rfl) l (place l i) hpl hl
  obtain ⟨h1, _, _⟩ := dn_spec (fun s => decide (kindW s = 0)) l (place l i) hpl
  have hpr : prevW l (place l i) = prevW l (place l i) := rfl
  conv at hpr => rhs; rw [prevW]
  generalize dn (fun s => decide (kindW s = 0)) l (place l i) = a at *
  by_cases ha : a = 0
  · subst ha
    have hpr2 : prevW l (place l i) = 0 := by rw [hpr]; split <;> simp
    clear hpr
    simp [X_words_Prev, m1, m2, m3, lendW_def, back_def, lk_passer, v1, hpr2]
  · have hal : a - 1 < l.length := by omega
    have hn : ¬ (a : Int) = 0 := by omega
    have e1 : ((a : Int) - 1).toNat = a - 1 := by omega
    have hpr2 : prevW l (place l i) = dn (fun s => decide (kindW s = kindW l[a - 1])) l a := by
      rw [hpr, List.getElem?_eq_getElem hal]; simp [ha]
    clear hpr
    have u2 := ls_pass_dnK n (fun s => decide (kindW s = kindW l[a - 1])) 106 (kindW l[a - 1]) (fun r => ls_kind_Prev n r (kindW l[a - 1])) (id rfl) l a (by omega) hl
    simp [X_words_Prev, m1, m2, m3, lendW_def, back_def, lk_passer, v1, hn]
    repeat' (first
      | simp (disch := omega) only [wrap_i64, wrap_i32]
      | (simp (disch := first | omega | assumption | (simp only [i64, i32]; omega) | (simp <;> omega) | fail) only [loadD_cpr, loadD_cprs, List.take_of_length_le]; simp [*, m1, m2, m3, lendW_def, back_def, e1, u2, hpr2])
      | (with_reducible refine And.intro ?_ ?_; focus first | omega | decide)
      | (with_reducible refine split_ite (fun hp => ?_) (fun hp => ?_) <;> (try simp at hp) <;> simp [*, m1, m2, m3, lendW_def, back_def, e1, u2, hpr2])
      | (with_reducible refine split_ite1 (fun hp => ?_) (fun hp => ?_) <;> (try simp at hp) <;> simp [*, m1, m2, m3, lendW_def, back_def, e1, u2, hpr2])
      | (refine split_cond (by simp) (fun hp => ?_) (fun hp => ?_) <;> simp at hp <;> simp [*, m1, m2, m3, lendW_def, back_def, e1, u2, hpr2])
      | (refine split_ops (by simp) (fun hp => ?_) (fun hp => ?_) <;> simp at hp <;> simp [*, m1, m2, m3, lendW_def, back_def, e1, u2, hpr2])
      | (refine split_opsD (by simp) (fun hp => ?_) (fun hp => ?_) <;> simp at hp <;> simp [*, m1, m2, m3, lendW_def, back_def, e1, u2, hpr2])
      | (refine split_pick (by simp) (fun hp => ?_) (fun hp => ?_) <;> simp at hp <;> simp [*, m1, m2, m3, lendW_def, back_def, e1, u2, hpr2])
      | omega
      | decide
      | (simp [*, m1, m2, m3, lendW_def, back_def, e1, u2, hpr2]))
    all_goals trace_state

theorem pc_words_Tail (n : Nat) (l : List Int) (i : Int) (hl : l.length < 2000000) : (W (n + 5)).pc 84 [rn l, .int .i64 i] = some (.int .i64 (tailW l (place l i))) := by
  have hpl := place_le l i
  apply runsM c_words_Tail
  have m1 : modes 84 102 = 4 := id rfl
  have m2 : modes 84 112 = 3 := id rfl
  have m3 : modes 84 103 = 0 := id rfl
  have hc := clamp_place l i
  generalize place l i = a at hpl hc ⊢
  by_cases hal : l.length ≤ a + 1
  · have hn : (l.length : Int) ≤ (a : Int) + 1 := by omega
    have ht : tailW l a = l.length := by rw [tailW, if_pos hal]
    simp [X_words_Tail, hc, ht]
    repeat' (first
      | simp (disch := omega) only [wrap_i64, wrap_i32]
      | (simp (disch := first | omega | assumption | (simp only [i64, i32]; omega) | (simp <;> omega) | fail) only [loadD_cpr, loadD_cprs, List.take_of_length_le]; simp [*, ht])
      | (with_reducible refine And.intro ?_ ?_; focus first | omega | decide)
      | (with_reducible refine split_ite (fun hp => ?_) (fun hp => ?_) <;> (try simp at hp) <;> simp [*, ht])
      | (with_reducible refine split_ite1 (fun hp => ?_) (fun hp => ?_) <;> (try simp at hp) <;> simp [*, ht])
      | (refine split_cond (by simp) (fun hp => ?_) (fun hp => ?_) <;> simp at hp <;> simp [*, ht])
      | (refine split_ops (by simp) (fun hp => ?_) (fun hp => ?_) <;> simp at hp <;> simp [*, ht])
      | (refine split_opsD (by simp) (fun hp => ?_) (fun hp => ?_) <;> simp at hp <;> simp [*, ht])
      | (refine split_pick (by simp) (fun hp => ?_) (fun hp => ?_) <;> simp at hp <;> simp [*, ht])
      | omega
      | decide
      | (simp [*, ht]))
    all_goals trace_state
  · have hb : place l ((a : Int) + 1) = a + 1 := by
      have := place_nat (show a + 1 ≤ l.length by omega)
      rwa [show ((a + 1 : Nat) : Int) = (a : Int) + 1 by omega] at this
    have v1 := ls_pass_up n (fun s => decide (kindW s = 0)) 105 (fun r => pc_words_blank n r) (id rfl) l (a + 1) (by omega) hl
    rw [show ((a + 1 : Nat) : Int) = (a : Int) + 1 by omega] at v1
    obtain ⟨h1, h2, _, _⟩ := up_spec (fun s => decide (kindW s = 0)) l (a + 1) (by omega)
    have ht : tailW l a = tailW l a := rfl
    conv at ht => rhs; rw [tailW, if_neg hal]
    generalize up (fun s => decide (kindW s = 0)) l (a + 1) = b at *
    have hn : ¬ ((l.length : Int) ≤ (a : Int) + 1) := by omega
    by_cases hbl : b = l.length
    · have ht2 : tailW l a = b := by rw [ht, List.getElem?_eq_none (show l.length ≤ b by omega)]; exact hbl.symm
      have hbl' : (b : Int) = l.length := by omega
      clear ht hbl
      simp [X_words_Tail, m1, m2, m3, hc, hn]
      repeat' (first
        | simp (disch := omega) only [wrap_i64, wrap_i32]
        | (simp (disch := first | omega | assumption | (simp only [i64, i32]; omega) | (simp <;> omega) | fail) only [loadD_cpr, loadD_cprs, List.take_of_length_le]; simp [*, m1, m2, m3, lendW_def, back_def, lk_passer, hb, v1, ht2])
        | (with_reducible refine And.intro ?_ ?_; focus first | omega | decide)
        | (with_reducible refine split_ite (fun hp => ?_) (fun hp => ?_) <;> (try simp at hp) <;> simp [*, m1, m2, m3, lendW_def, back_def, lk_passer, hb, v1, ht2])
        | (with_reducible refine split_ite1 (fun hp => ?_) (fun hp => ?_) <;> (try simp at hp) <;> simp [*, m1, m2, m3, lendW_def, back_def, lk_passer, hb, v1, ht2])
        | (refine split_cond (by simp) (fun hp => ?_) (fun hp => ?_) <;> simp at hp <;> simp [*, m1, m2, m3, lendW_def, back_def, lk_passer, hb, v1, ht2])
        | (refine split_ops (by simp) (fun hp => ?_) (fun hp => ?_) <;> simp at hp <;> simp [*, m1, m2, m3, lendW_def, back_def, lk_passer, hb, v1, ht2])
        | (refine split_opsD (by simp) (fun hp => ?_) (fun hp => ?_) <;> simp at hp <;> simp [*, m1, m2, m3, lendW_def, back_def, lk_passer, hb, v1, ht2])
        | (refine split_pick (by simp) (fun hp => ?_) (fun hp => ?_) <;> simp at hp <;> simp [*, m1, m2, m3, lendW_def, back_def, lk_passer, hb, v1, ht2])
        | omega
        | decide
        | (simp [*, m1, m2, m3, lendW_def, back_def, lk_passer, hb, v1, ht2]))
      all_goals trace_state
    · have hbl2 : b < l.length := by omega
      have hbl3 : ¬ (b : Int) = l.length := by omega
      have ht2 : tailW l a = up (fun s => decide (kindW s = kindW l[b])) l b - 1 := by rw [ht, List.getElem?_eq_getElem hbl2]
      have u2 := ls_pass_upK n (fun s => decide (kindW s = kindW l[b])) 107 (kindW l[b]) (fun r => ls_kind_Tail n r (kindW l[b])) (id rfl) l b h2 hl
      have hu1 : 1 ≤ up (fun s => decide (kindW s = kindW l[b])) l b := by have := (up_spec (fun s => decide (kindW s = kindW l[b])) l b h2).1; omega
      have hu2 := (up_spec (fun s => decide (kindW s = kindW l[b])) l b h2).2.1
      have hpb : place l (b : Int) = b := place_nat h2
      clear ht
      simp [X_words_Tail, m1, m2, m3, hc, hn]
      repeat' (first
        | simp (disch := omega) only [wrap_i64, wrap_i32]
        | (simp (disch := first | omega | assumption | (simp only [i64, i32]; omega) | (simp <;> omega) | fail) only [loadD_cpr, loadD_cprs, List.take_of_length_le]; simp [*, m1, m2, m3, lendW_def, back_def, lk_passer, hb, v1, u2, hbl3, hpb, ht2])
        | (with_reducible refine And.intro ?_ ?_; focus first | omega | decide)
        | (with_reducible refine split_ite (fun hp => ?_) (fun hp => ?_) <;> (try simp at hp) <;> simp [*, m1, m2, m3, lendW_def, back_def, lk_passer, hb, v1, u2, hbl3, hpb, ht2])
        | (with_reducible refine split_ite1 (fun hp => ?_) (fun hp => ?_) <;> (try simp at hp) <;> simp [*, m1, m2, m3, lendW_def, back_def, lk_passer, hb, v1, u2, hbl3, hpb, ht2])
        | (refine split_cond (by simp) (fun hp => ?_) (fun hp => ?_) <;> simp at hp <;> simp [*, m1, m2, m3, lendW_def, back_def, lk_passer, hb, v1, u2, hbl3, hpb, ht2])
        | (refine split_ops (by simp) (fun hp => ?_) (fun hp => ?_) <;> simp at hp <;> simp [*, m1, m2, m3, lendW_def, back_def, lk_passer, hb, v1, u2, hbl3, hpb, ht2])
        | (refine split_opsD (by simp) (fun hp => ?_) (fun hp => ?_) <;> simp at hp <;> simp [*, m1, m2, m3, lendW_def, back_def, lk_passer, hb, v1, u2, hbl3, hpb, ht2])
        | (refine split_pick (by simp) (fun hp => ?_) (fun hp => ?_) <;> simp at hp <;> simp [*, m1, m2, m3, lendW_def, back_def, lk_passer, hb, v1, u2, hbl3, hpb, ht2])
        | omega
        | decide
        | (simp [*, m1, m2, m3, lendW_def, back_def, lk_passer, hb, v1, u2, hbl3, hpb, ht2]))
      all_goals trace_state
      all_goals omega

@[simp] theorem pc_ref11_In (n : Nat) (r : Int) : (W (n + 1)).pc 77 [.int .i32 r] = some (.bool (inW r)) := by
  apply runs c_typebarref11_In
  simp [X_typebarref11_In]
  repeat' (first
    | simp (disch := omega) only [wrap_i64, wrap_i32]
    | (simp (disch := first | omega | assumption | (simp only [i64, i32]; omega) | (simp <;> omega) | fail) only [loadD_cpr, loadD_cprs, List.take_of_length_le]; simp [*])
    | (with_reducible refine And.intro ?_ ?_; focus first | omega | decide)
    | (with_reducible refine split_ite (fun hp => ?_) (fun hp => ?_) <;> (try simp at hp) <;> simp [*])
    | (with_reducible refine split_ite1 (fun hp => ?_) (fun hp => ?_) <;> (try simp at hp) <;> simp [*])
    | (refine split_cond (by simp) (fun hp => ?_) (fun hp => ?_) <;> simp at hp <;> simp [*])
    | (refine split_ops (by simp) (fun hp => ?_) (fun hp => ?_) <;> simp at hp <;> simp [*])
    | (refine split_opsD (by simp) (fun hp => ?_) (fun hp => ?_) <;> simp at hp <;> simp [*])
    | (refine split_pick (by simp) (fun hp => ?_) (fun hp => ?_) <;> simp at hp <;> simp [*])
    | omega
    | decide
    | (simp [*]))
  all_goals grind [inW]

@[simp] theorem pc_ref11_Kind (n : Nat) (r : Int) : (W (n + 2)).pc 110 [.int .i32 r] = some (.int .i64 (kindW r)) := by
  apply runs c_typebarref11_Kind
  simp [X_typebarref11_Kind]
  repeat' (first
    | simp (disch := omega) only [wrap_i64, wrap_i32]
    | (simp (disch := first | omega | assumption | (simp only [i64, i32]; omega) | (simp <;> omega) | fail) only [loadD_cpr, loadD_cprs, List.take_of_length_le]; simp [*])
    | (with_reducible refine And.intro ?_ ?_; focus first | omega | decide)
    | (with_reducible refine split_ite (fun hp => ?_) (fun hp => ?_) <;> (try simp at hp) <;> simp [*])
    | (with_reducible refine split_ite1 (fun hp => ?_) (fun hp => ?_) <;> (try simp at hp) <;> simp [*])
    | (refine split_cond (by simp) (fun hp => ?_) (fun hp => ?_) <;> simp at hp <;> simp [*])
    | (refine split_ops (by simp) (fun hp => ?_) (fun hp => ?_) <;> simp at hp <;> simp [*])
    | (refine split_opsD (by simp) (fun hp => ?_) (fun hp => ?_) <;> simp at hp <;> simp [*])
    | (refine split_pick (by simp) (fun hp => ?_) (fun hp => ?_) <;> simp at hp <;> simp [*])
    | omega
    | decide
    | (simp [*]))
  all_goals grind [kindW]

@[simp] theorem pc_ref11_place (n : Nat) (l : List Int) (i : Int) : (W (n + 1)).pc 108 [rn l, .int .i64 i] = some (.int .i64 (place l i)) := by
  apply runs c_typebarref11_place
  simp [X_typebarref11_place]
  repeat' (first
    | simp (disch := omega) only [wrap_i64, wrap_i32]
    | (simp (disch := first | omega | assumption | (simp only [i64, i32]; omega) | (simp <;> omega) | fail) only [loadD_cpr, loadD_cprs, List.take_of_length_le]; simp [*])
    | (with_reducible refine And.intro ?_ ?_; focus first | omega | decide)
    | (with_reducible refine split_ite (fun hp => ?_) (fun hp => ?_) <;> (try simp at hp) <;> simp [*])
    | (with_reducible refine split_ite1 (fun hp => ?_) (fun hp => ?_) <;> (try simp at hp) <;> simp [*])
    | (refine split_cond (by simp) (fun hp => ?_) (fun hp => ?_) <;> simp at hp <;> simp [*])
    | (refine split_ops (by simp) (fun hp => ?_) (fun hp => ?_) <;> simp at hp <;> simp [*])
    | (refine split_opsD (by simp) (fun hp => ?_) (fun hp => ?_) <;> simp at hp <;> simp [*])
    | (refine split_pick (by simp) (fun hp => ?_) (fun hp => ?_) <;> simp at hp <;> simp [*])
    | omega
    | decide
    | (simp [*]))
  all_goals (simp only [place]; split <;> (try split) <;> omega)

theorem pc_ref11_Fore (n : Nat) (l : List Int) (i : Int) (hl : l.length < 2000000) : (W (n + 2)).pc 96 [rn l, .int .i64 i] = some (.int .i64 (foreW l (place l i))) := by
  have hpl := place_le l i
  apply runs c_typebarref11_Fore
  simp [X_typebarref11_Fore]
  generalize place l i = a at hpl ⊢
  refine aw_rounds (fun m st => ∃ k : Nat, st = ⟨tab [(0, rn l), (1, .int .i64 k)], []⟩ ∧ k ≤ l.length ∧ m = l.length - k + 1 ∧ Keep (foreW l a = up inW l (up (fun r => !inW r) l k))) ?_ ?_ (n := l.length - (a) + 1) (by first | omega | (simp; omega)) ?_
  · rintro st ⟨k, hx⟩; omega
  rotate_left
  · exact ⟨a, by first | rfl | (simp [*, accS, accH]; done) | (simp only [*]; done) | (congr 1 <;> simp [*, accS, accH]; done) | (congr 1 <;> simp [*, accS, accH] <;> rfl) | (congr 1 <;> congr 1 <;> simp <;> omega), by first | omega | (simp; omega) | simp [*], by first | rfl | (simp; done) | omega, ⟨rfl⟩⟩
  rintro Ja ma _ ⟨k, rfl, fa1, hma, hqa⟩ hJa
  by_cases hgo : k < l.length ∧ inW (l.getD k 0) = false
  · obtain ⟨hk, hpp⟩ := hgo
    rw [getD_at hk] at hpp
    simp
    repeat' (first
      | simp (disch := omega) only [wrap_i64, wrap_i32]
      | (simp (disch := first | omega | assumption | (simp only [i64, i32]; omega) | (simp <;> omega) | fail) only [loadD_cpr, loadD_cprs, List.take_of_length_le]; simp [*, hpp])
      | (with_reducible refine And.intro ?_ ?_; focus first | omega | decide)
      | (with_reducible refine split_ite (fun hp => ?_) (fun hp => ?_) <;> (try simp at hp) <;> simp [*, hpp])
      | (with_reducible refine split_ite1 (fun hp => ?_) (fun hp => ?_) <;> (try simp at hp) <;> simp [*, hpp])
      | (refine split_cond (by simp) (fun hp => ?_) (fun hp => ?_) <;> simp at hp <;> simp [*, hpp])
      | (refine split_ops (by simp) (fun hp => ?_) (fun hp => ?_) <;> simp at hp <;> simp [*, hpp])
      | (refine split_opsD (by simp) (fun hp => ?_) (fun hp => ?_) <;> simp at hp <;> simp [*, hpp])
      | (refine split_pick (by simp) (fun hp => ?_) (fun hp => ?_) <;> simp at hp <;> simp [*, hpp])
      | omega
      | decide
      | (simp [*, hpp]))
    exact hJa.out _ ⟨k + 1, by first | rfl | (simp [*, accS, accH]; done) | (simp only [*]; done) | (congr 1 <;> simp [*, accS, accH]; done) | (congr 1 <;> simp [*, accS, accH] <;> rfl) | (congr 1 <;> congr 1 <;> simp <;> omega), by first | omega | (simp; omega) | simp [*], by omega, ⟨by rw [hqa.out, up_go (p := fun r => !inW r) hk (by simp [hpp])]⟩⟩
  · have he : Keep (foreW l a = up inW l k) := ⟨by
      rw [hqa.out]
      by_cases hk : k < l.length
      · rw [up_stop (p := fun r => !inW r) hk (by rw [getD_at hk] at hgo; simpa [hk] using hgo)]
      · rw [up_end (p := fun r => !inW r) (by omega)]⟩
    have hgo2 : ∀ h : k < l.length, inW l[k] = true := fun h => by rw [getD_at h] at hgo; simpa [h] using hgo
    clear hgo hqa
    simp
    repeat' (first
      | simp (disch := omega) only [wrap_i64, wrap_i32]
      | (simp (disch := first | omega | assumption | (simp only [i64, i32]; omega) | (simp <;> omega) | fail) only [loadD_cpr, loadD_cprs, List.take_of_length_le]; simp [*, hgo2])
      | (with_reducible refine And.intro ?_ ?_; focus first | omega | decide)
      | (with_reducible refine split_ite (fun hp => ?_) (fun hp => ?_) <;> (try simp at hp) <;> simp [*, hgo2])
      | (with_reducible refine split_ite1 (fun hp => ?_) (fun hp => ?_) <;> (try simp at hp) <;> simp [*, hgo2])
      | (refine split_cond (by simp) (fun hp => ?_) (fun hp => ?_) <;> simp at hp <;> simp [*, hgo2])
      | (refine split_ops (by simp) (fun hp => ?_) (fun hp => ?_) <;> simp at hp <;> simp [*, hgo2])
      | (refine split_opsD (by simp) (fun hp => ?_) (fun hp => ?_) <;> simp at hp <;> simp [*, hgo2])
      | (refine split_pick (by simp) (fun hp => ?_) (fun hp => ?_) <;> simp at hp <;> simp [*, hgo2])
      | omega
      | decide
      | (simp [*, hgo2]))
    all_goals
      refine aw_rounds (fun m st => ∃ q : Nat, st.t 0 = rn l ∧ st.t 1 = .int .i64 q ∧ st.h = [] ∧ q ≤ l.length ∧ m = l.length - q + 1 ∧ Keep (foreW l a = up inW l q)) ?_ ?_ (n := l.length - (k) + 1) (by first | omega | (simp; omega)) ?_
      · rintro st ⟨q, hx⟩; omega
      rotate_left
      · exact ⟨k, by first | (simp [*]; done) | (simp [*]; omega) | rfl, by first | (simp [*]; done) | (simp [*]; omega) | rfl, by first | (simp [*]; done) | (simp [*]; omega) | rfl, by first | omega | (simp; omega) | simp [*], by first | rfl | (simp; done) | omega, ⟨he.out⟩⟩
      rintro Jb mb ⟨t, h⟩ ⟨q, eb0, eb1, hhb, fb1, hmb, hqb⟩ hJb
      simp only [] at eb0 eb1 hhb
      subst hhb
      simp [eb0, eb1]
      by_cases hq : q < l.length
      · cases hqq : inW l[q]
        · have hz : foreW l a = q := by rw [hqb.out, up_stop hq hqq]
          repeat' (first
            | simp (disch := omega) only [wrap_i64, wrap_i32]
            | (simp (disch := first | omega | assumption | (simp only [i64, i32]; omega) | (simp <;> omega) | fail) only [loadD_cpr, loadD_cprs, List.take_of_length_le]; simp [*, hqq, hz])
            | (with_reducible refine And.intro ?_ ?_; focus first | omega | decide)
            | (with_reducible refine split_ite (fun hp => ?_) (fun hp => ?_) <;> (try simp at hp) <;> simp [*, hqq, hz])
            | (with_reducible refine split_ite1 (fun hp => ?_) (fun hp => ?_) <;> (try simp at hp) <;> simp [*, hqq, hz])
            | (refine split_cond (by simp) (fun hp => ?_) (fun hp => ?_) <;> simp at hp <;> simp [*, hqq, hz])
            | (refine split_ops (by simp) (fun hp => ?_) (fun hp => ?_) <;> simp at hp <;> simp [*, hqq, hz])
            | (refine split_opsD (by simp) (fun hp => ?_) (fun hp => ?_) <;> simp at hp <;> simp [*, hqq, hz])
            | (refine split_pick (by simp) (fun hp => ?_) (fun hp => ?_) <;> simp at hp <;> simp [*, hqq, hz])
            | omega
            | decide
            | (simp [*, hqq, hz]))
        · repeat' (first
            | simp (disch := omega) only [wrap_i64, wrap_i32]
            | (simp (disch := first | omega | assumption | (simp only [i64, i32]; omega) | (simp <;> omega) | fail) only [loadD_cpr, loadD_cprs, List.take_of_length_le]; simp [*, hqq])
            | (with_reducible refine And.intro ?_ ?_; focus first | omega | decide)
            | (with_reducible refine split_ite (fun hp => ?_) (fun hp => ?_) <;> (try simp at hp) <;> simp [*, hqq])
            | (with_reducible refine split_ite1 (fun hp => ?_) (fun hp => ?_) <;> (try simp at hp) <;> simp [*, hqq])
            | (refine split_cond (by simp) (fun hp => ?_) (fun hp => ?_) <;> simp at hp <;> simp [*, hqq])
            | (refine split_ops (by simp) (fun hp => ?_) (fun hp => ?_) <;> simp at hp <;> simp [*, hqq])
            | (refine split_opsD (by simp) (fun hp => ?_) (fun hp => ?_) <;> simp at hp <;> simp [*, hqq])
            | (refine split_pick (by simp) (fun hp => ?_) (fun hp => ?_) <;> simp at hp <;> simp [*, hqq])
            | omega
            | decide
            | (simp [*, hqq]))
          exact hJb.out _ ⟨q + 1, by first | (simp [*]; done) | (simp [*]; omega) | rfl, by first | (simp [*]; done) | (simp [*]; omega) | rfl, by first | (simp [*]; done) | (simp [*]; omega) | rfl, by first | omega | (simp; omega) | simp [*], by omega, ⟨by rw [hqb.out, up_go hq hqq]⟩⟩
      · have hz : foreW l a = q := by rw [hqb.out, up_end (by omega)]
        repeat' (first
          | simp (disch := omega) only [wrap_i64, wrap_i32]
          | (simp (disch := first | omega | assumption | (simp only [i64, i32]; omega) | (simp <;> omega) | fail) only [loadD_cpr, loadD_cprs, List.take_of_length_le]; simp [*, hz])
          | (with_reducible refine And.intro ?_ ?_; focus first | omega | decide)
          | (with_reducible refine split_ite (fun hp => ?_) (fun hp => ?_) <;> (try simp at hp) <;> simp [*, hz])
          | (with_reducible refine split_ite1 (fun hp => ?_) (fun hp => ?_) <;> (try simp at hp) <;> simp [*, hz])
          | (refine split_cond (by simp) (fun hp => ?_) (fun hp => ?_) <;> simp at hp <;> simp [*, hz])
          | (refine split_ops (by simp) (fun hp => ?_) (fun hp => ?_) <;> simp at hp <;> simp [*, hz])
          | (refine split_opsD (by simp) (fun hp => ?_) (fun hp => ?_) <;> simp at hp <;> simp [*, hz])
          | (refine split_pick (by simp) (fun hp => ?_) (fun hp => ?_) <;> simp at hp <;> simp [*, hz])
          | omega
          | decide
          | (simp [*, hz]))

theorem pc_ref11_Behind (n : Nat) (l : List Int) (i : Int) (hl : l.length < 2000000) : (W (n + 2)).pc 97 [rn l, .int .i64 i] = some (.int .i64 (behindW l (place l i))) := by
  have hpl := place_le l i
  apply runs c_typebarref11_Behind
  simp [X_typebarref11_Behind]
  generalize place l i = a at hpl ⊢
  refine aw_rounds (fun m st => ∃ k : Nat, st = ⟨tab [(0, rn l), (1, .int .i64 k)], []⟩ ∧ k ≤ l.length ∧ m = k + 1 ∧ Keep (behindW l a = dn inW l (dn (fun r => !inW r) l k))) ?_ ?_ (n := (a) + 1) (by first | omega | (simp; omega)) ?_
  · rintro st ⟨k, hx⟩; omega
  rotate_left
  · exact ⟨a, by first | rfl | (simp [*, accS, accH]; done) | (simp only [*]; done) | (congr 1 <;> simp [*, accS, accH]; done) | (congr 1 <;> simp [*, accS, accH] <;> rfl) | (congr 1 <;> congr 1 <;> simp <;> omega), by first | omega | (simp; omega) | simp [*], by first | rfl | (simp; done) | omega, ⟨rfl⟩⟩
  rintro Ja ma _ ⟨k, rfl, fa1, hma, hqa⟩ hJa
  obtain h0 | ⟨q, rfl⟩ : k = 0 ∨ ∃ q, k = q + 1 := by cases k; exact .inl rfl; exact .inr ⟨_, rfl⟩
  · subst h0
    have he : behindW l a = 0 := by rw [hqa.out, dn_zero, dn_zero]
    simp
    repeat' (first
      | simp (disch := omega) only [wrap_i64, wrap_i32]
      | (simp (disch := first | omega | assumption | (simp only [i64, i32]; omega) | (simp <;> omega) | fail) only [loadD_cpr, loadD_cprs, List.take_of_length_le]; simp [*])
      | (with_reducible refine And.intro ?_ ?_; focus first | omega | decide)
      | (with_reducible refine split_ite (fun hp => ?_) (fun hp => ?_) <;> (try simp at hp) <;> simp [*])
      | (with_reducible refine split_ite1 (fun hp => ?_) (fun hp => ?_) <;> (try simp at hp) <;> simp [*])
      | (refine split_cond (by simp) (fun hp => ?_) (fun hp => ?_) <;> simp at hp <;> simp [*])
      | (refine split_ops (by simp) (fun hp => ?_) (fun hp => ?_) <;> simp at hp <;> simp [*])
      | (refine split_opsD (by simp) (fun hp => ?_) (fun hp => ?_) <;> simp at hp <;> simp [*])
      | (refine split_pick (by simp) (fun hp => ?_) (fun hp => ?_) <;> simp at hp <;> simp [*])
      | omega
      | decide
      | (simp [*]))
    refine aw_rounds (fun m st => ∃ q : Nat, st.t 0 = rn l ∧ st.t 1 = .int .i64 0 ∧ st.h = [] ∧ q = 0 ∧ m = 0 + 1 ∧ Keep (True)) ?_ ?_ (n := 0 + 1) (by first | omega | (simp; omega)) ?_
    · rintro st ⟨q, hx⟩; omega
    rotate_left
    · exact ⟨0, by first | (simp [*]; done) | (simp [*]; omega) | rfl, by first | (simp [*]; done) | (simp [*]; omega) | rfl, by first | (simp [*]; done) | (simp [*]; omega) | rfl, by first | omega | (simp; omega) | simp [*], by first | rfl | (simp; done) | omega, ⟨trivial⟩⟩
    rintro Jb mb ⟨t, h⟩ ⟨q, eb0, eb1, hhb, fb1, hmb, hqb⟩ hJb
    simp only [] at eb0 eb1 hhb
    subst hhb
    simp [eb0, eb1]
    repeat' (first
      | simp (disch := omega) only [wrap_i64, wrap_i32]
      | (simp (disch := first | omega | assumption | (simp only [i64, i32]; omega) | (simp <;> omega) | fail) only [loadD_cpr, loadD_cprs, List.take_of_length_le]; simp [*, he])
      | (with_reducible refine And.intro ?_ ?_; focus first | omega | decide)
      | (with_reducible refine split_ite (fun hp => ?_) (fun hp => ?_) <;> (try simp at hp) <;> simp [*, he])
      | (with_reducible refine split_ite1 (fun hp => ?_) (fun hp => ?_) <;> (try simp at hp) <;> simp [*, he])
      | (refine split_cond (by simp) (fun hp => ?_) (fun hp => ?_) <;> simp at hp <;> simp [*, he])
      | (refine split_ops (by simp) (fun hp => ?_) (fun hp => ?_) <;> simp at hp <;> simp [*, he])
      | (refine split_opsD (by simp) (fun hp => ?_) (fun hp => ?_) <;> simp at hp <;> simp [*, he])
      | (refine split_pick (by simp) (fun hp => ?_) (fun hp => ?_) <;> simp at hp <;> simp [*, he])
      | omega
      | decide
      | (simp [*, he]))
  · have hk : q < l.length := by omega
    cases hpp : inW l[q]
    · simp
      repeat' (first
        | simp (disch := omega) only [wrap_i64, wrap_i32]
        | (simp (disch := first | omega | assumption | (simp only [i64, i32]; omega) | (simp <;> omega) | fail) only [loadD_cpr, loadD_cprs, List.take_of_length_le]; simp [*, hpp])
        | (with_reducible refine And.intro ?_ ?_; focus first | omega | decide)
        | (with_reducible refine split_ite (fun hp => ?_) (fun hp => ?_) <;> (try simp at hp) <;> simp [*, hpp])
        | (with_reducible refine split_ite1 (fun hp => ?_) (fun hp => ?_) <;> (try simp at hp) <;> simp [*, hpp])
        | (refine split_cond (by simp) (fun hp => ?_) (fun hp => ?_) <;> simp at hp <;> simp [*, hpp])
        | (refine split_ops (by simp) (fun hp => ?_) (fun hp => ?_) <;> simp at hp <;> simp [*, hpp])
        | (refine split_opsD (by simp) (fun hp => ?_) (fun hp => ?_) <;> simp at hp <;> simp [*, hpp])
        | (refine split_pick (by simp) (fun hp => ?_) (fun hp => ?_) <;> simp at hp <;> simp [*, hpp])
        | omega
        | decide
        | (simp [*, hpp]))
      exact hJa.out _ ⟨q, by first | rfl | (simp [*, accS, accH]; done) | (simp only [*]; done) | (congr 1 <;> simp [*, accS, accH]; done) | (congr 1 <;> simp [*, accS, accH] <;> rfl) | (congr 1 <;> congr 1 <;> simp <;> omega), by first | omega | (simp; omega) | simp [*], by omega, ⟨by rw [hqa.out, dn_go (p := fun r => !inW r) hk (by simp [hpp])]⟩⟩
    · have he := Keep.mk (show behindW l a = dn inW l (q + 1) by rw [hqa.out, dn_stop (p := fun r => !inW r) hk (by simp [hpp])])
      simp
      repeat' (first
        | simp (disch := omega) only [wrap_i64, wrap_i32]
        | (simp (disch := first | omega | assumption | (simp only [i64, i32]; omega) | (simp <;> omega) | fail) only [loadD_cpr, loadD_cprs, List.take_of_length_le]; simp [*, hpp])
        | (with_reducible refine And.intro ?_ ?_; focus first | omega | decide)
        | (with_reducible refine split_ite (fun hp => ?_) (fun hp => ?_) <;> (try simp at hp) <;> simp [*, hpp])
        | (with_reducible refine split_ite1 (fun hp => ?_) (fun hp => ?_) <;> (try simp at hp) <;> simp [*, hpp])
        | (refine split_cond (by simp) (fun hp => ?_) (fun hp => ?_) <;> simp at hp <;> simp [*, hpp])
        | (refine split_ops (by simp) (fun hp => ?_) (fun hp => ?_) <;> simp at hp <;> simp [*, hpp])
        | (refine split_opsD (by simp) (fun hp => ?_) (fun hp => ?_) <;> simp at hp <;> simp [*, hpp])
        | (refine split_pick (by simp) (fun hp => ?_) (fun hp => ?_) <;> simp at hp <;> simp [*, hpp])
        | omega
        | decide
        | (simp [*, hpp]))
      refine aw_rounds (fun m st => ∃ k : Nat, st.t 0 = rn l ∧ st.t 1 = .int .i64 k ∧ st.h = [] ∧ k ≤ l.length ∧ m = k + 1 ∧ Keep (behindW l a = dn inW l k)) ?_ ?_ (n := (q + 1) + 1) (by first | omega | (simp; omega)) ?_
      · rintro st ⟨k, hx⟩; omega
      rotate_left
      · exact ⟨q + 1, by first | (simp [*]; done) | (simp [*]; omega) | rfl, by first | (simp [*]; done) | (simp [*]; omega) | rfl, by first | (simp [*]; done) | (simp [*]; omega) | rfl, by first | omega | (simp; omega) | simp [*], by first | rfl | (simp; done) | omega, ⟨he.out⟩⟩
      rintro Jb mb ⟨t, h⟩ ⟨k, eb0, eb1, hhb, fb1, hmb, hqb⟩ hJb
      simp only [] at eb0 eb1 hhb
      subst hhb
      simp [eb0, eb1]
      obtain h0 | ⟨z, rfl⟩ : k = 0 ∨ ∃ z, k = z + 1 := by cases k; exact .inl rfl; exact .inr ⟨_, rfl⟩
      · subst h0
        have hz : behindW l a = 0 := by rw [hqb.out, dn_zero]
        repeat' (first
          | simp (disch := omega) only [wrap_i64, wrap_i32]
          | (simp (disch := first | omega | assumption | (simp only [i64, i32]; omega) | (simp <;> omega) | fail) only [loadD_cpr, loadD_cprs, List.take_of_length_le]; simp [*, hz])
          | (with_reducible refine And.intro ?_ ?_; focus first | omega | decide)
          | (with_reducible refine split_ite (fun hp => ?_) (fun hp => ?_) <;> (try simp at hp) <;> simp [*, hz])
          | (with_reducible refine split_ite1 (fun hp => ?_) (fun hp => ?_) <;> (try simp at hp) <;> simp [*, hz])
          | (refine split_cond (by simp) (fun hp => ?_) (fun hp => ?_) <;> simp at hp <;> simp [*, hz])
          | (refine split_ops (by simp) (fun hp => ?_) (fun hp => ?_) <;> simp at hp <;> simp [*, hz])
          | (refine split_opsD (by simp) (fun hp => ?_) (fun hp => ?_) <;> simp at hp <;> simp [*, hz])
          | (refine split_pick (by simp) (fun hp => ?_) (fun hp => ?_) <;> simp at hp <;> simp [*, hz])
          | omega
          | decide
          | (simp [*, hz]))
      · have hk2 : z < l.length := by omega
        cases hzz : inW l[z]
        · have hz : behindW l a = z + 1 := by rw [hqb.out, dn_stop hk2 hzz]
          repeat' (first
            | simp (disch := omega) only [wrap_i64, wrap_i32]
            | (simp (disch := first | omega | assumption | (simp only [i64, i32]; omega) | (simp <;> omega) | fail) only [loadD_cpr, loadD_cprs, List.take_of_length_le]; simp [*, hzz, hz])
            | (with_reducible refine And.intro ?_ ?_; focus first | omega | decide)
            | (with_reducible refine split_ite (fun hp => ?_) (fun hp => ?_) <;> (try simp at hp) <;> simp [*, hzz, hz])
            | (with_reducible refine split_ite1 (fun hp => ?_) (fun hp => ?_) <;> (try simp at hp) <;> simp [*, hzz, hz])
            | (refine split_cond (by simp) (fun hp => ?_) (fun hp => ?_) <;> simp at hp <;> simp [*, hzz, hz])
            | (refine split_ops (by simp) (fun hp => ?_) (fun hp => ?_) <;> simp at hp <;> simp [*, hzz, hz])
            | (refine split_opsD (by simp) (fun hp => ?_) (fun hp => ?_) <;> simp at hp <;> simp [*, hzz, hz])
            | (refine split_pick (by simp) (fun hp => ?_) (fun hp => ?_) <;> simp at hp <;> simp [*, hzz, hz])
            | omega
            | decide
            | (simp [*, hzz, hz]))
        · repeat' (first
            | simp (disch := omega) only [wrap_i64, wrap_i32]
            | (simp (disch := first | omega | assumption | (simp only [i64, i32]; omega) | (simp <;> omega) | fail) only [loadD_cpr, loadD_cprs, List.take_of_length_le]; simp [*, hzz])
            | (with_reducible refine And.intro ?_ ?_; focus first | omega | decide)
            | (with_reducible refine split_ite (fun hp => ?_) (fun hp => ?_) <;> (try simp at hp) <;> simp [*, hzz])
            | (with_reducible refine split_ite1 (fun hp => ?_) (fun hp => ?_) <;> (try simp at hp) <;> simp [*, hzz])
            | (refine split_cond (by simp) (fun hp => ?_) (fun hp => ?_) <;> simp at hp <;> simp [*, hzz])
            | (refine split_ops (by simp) (fun hp => ?_) (fun hp => ?_) <;> simp at hp <;> simp [*, hzz])
            | (refine split_opsD (by simp) (fun hp => ?_) (fun hp => ?_) <;> simp at hp <;> simp [*, hzz])
            | (refine split_pick (by simp) (fun hp => ?_) (fun hp => ?_) <;> simp at hp <;> simp [*, hzz])
            | omega
            | decide
            | (simp [*, hzz]))
          exact hJb.out _ ⟨z, by first | (simp [*]; done) | (simp [*]; omega) | rfl, by first | (simp [*]; done) | (simp [*]; omega) | rfl, by first | (simp [*]; done) | (simp [*]; omega) | rfl, by first | omega | (simp; omega) | simp [*], by omega, ⟨by rw [hqb.out, dn_go hk2 hzz]⟩⟩

end Go.Proofs.YtcaglmjfphjpfaaGreat
