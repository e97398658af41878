/- What the functions of layer 12 compute: adding a text. -/
import Derived.Test.YtcaglmjfphjpfaaGreatKillB
namespace Go.Proofs.YtcaglmjfphjpfaaGreat
open Go E
set_option linter.unusedSimpArgs false
set_option linter.unusedVariables false

theorem kIs_len {L : List (List Int)} (h : kIs L = true) : L.length ≤ 8 ∧ ∀ l ∈ L, kOne l = true := by
  simp only [kIs, Bool.and_eq_true, decide_eq_true_eq, List.all_eq_true] at h
  exact h

theorem kOne_len {l : List Int} (h : kOne l = true) : 0 < l.length ∧ l.length ≤ 200 ∧ allR l = true := by
  simp only [kOne, Bool.and_eq_true, decide_eq_true_eq] at h
  exact ⟨h.1.1, h.1.2, h.2⟩

def kAdd (L : List (List Int)) (l : List Int) (how : Int) : List (List Int) :=
  if kIs L = false ∨ kOne l = false then L else
  if how = 0 ∨ L.length = 0 ∨ 200 < (L.getD (L.length - 1) []).length + l.length then L.drop (L.length + 1 - 8) ++ [l]
  else L.take (L.length - 1) ++ [if how < 0 then l ++ L.getD (L.length - 1) [] else L.getD (L.length - 1) [] ++ l]

@[simp] theorem pc_kill_joined (n : Nat) (a b : List Int) (ha : a.length < 2000000) (hb : b.length < 2000000) : (W (n + 1)).pc 85 [rn a, rn b] = some (rn (a ++ b)) := by
  apply runs c_kill_joined
  simp [X_kill_joined, nilR, *]
  repeat' (first
    | simp (disch := omega) only [wrap_i64, wrap_i32]
    | (simp (disch := first | omega | assumption | (simp only [i64, i32]; omega) | (simp <;> omega) | fail) only [loadD_cpr, loadD_cprs, List.take_of_length_le]; simp [*, nilR])
    | (with_reducible refine And.intro ?_ ?_; focus first | omega | decide)
    | (with_reducible refine split_ite (fun hp => ?_) (fun hp => ?_) <;> (try simp at hp) <;> simp [*, nilR])
    | (with_reducible refine split_ite1 (fun hp => ?_) (fun hp => ?_) <;> (try simp at hp) <;> simp [*, nilR])
    | (refine split_cond (by simp) (fun hp => ?_) (fun hp => ?_) <;> simp at hp <;> simp [*, nilR])
    | (refine split_ops (by simp) (fun hp => ?_) (fun hp => ?_) <;> simp at hp <;> simp [*, nilR])
    | (refine split_opsD (by simp) (fun hp => ?_) (fun hp => ?_) <;> simp at hp <;> simp [*, nilR])
    | (refine split_pick (by simp) (fun hp => ?_) (fun hp => ?_) <;> simp at hp <;> simp [*, nilR])
    | omega
    | decide
    | (simp [*, nilR]))

@[simp] theorem pc_kill_Add (n : Nat) (L : List (List Int)) (l : List Int) (how : Int) (hL : small L) (hl : l.length < 2000000) : (W (n + 5)).pc 65 [kD L, rn l, .int .i64 how] = some (kD (kAdd L l how)) := by
  apply runs c_kill_Add
  have hL1 := hL.1
  cases hk : kIs L
  · simp [X_kill_Add, nilRR, hL, hk, kAdd]
  cases ho : kOne l
  · simp [X_kill_Add, nilRR, hL, hl, hk, ho, kAdd]
    repeat' (first
      | simp (disch := omega) only [wrap_i64, wrap_i32]
      | (simp (disch := first | omega | assumption | (simp only [i64, i32]; omega) | (simp <;> omega) | fail) only [loadD_cpr, loadD_cprs, List.take_of_length_le]; simp [*, nilRR])
      | (with_reducible refine And.intro ?_ ?_; focus first | omega | decide)
      | (with_reducible refine split_ite (fun hp => ?_) (fun hp => ?_) <;> (try simp at hp) <;> simp [*, nilRR])
      | (with_reducible refine split_ite1 (fun hp => ?_) (fun hp => ?_) <;> (try simp at hp) <;> simp [*, nilRR])
      | (refine split_cond (by simp) (fun hp => ?_) (fun hp => ?_) <;> simp at hp <;> simp [*, nilRR])
      | (refine split_ops (by simp) (fun hp => ?_) (fun hp => ?_) <;> simp at hp <;> simp [*, nilRR])
      | (refine split_opsD (by simp) (fun hp => ?_) (fun hp => ?_) <;> simp at hp <;> simp [*, nilRR])
      | (refine split_pick (by simp) (fun hp => ?_) (fun hp => ?_) <;> simp at hp <;> simp [*, nilRR])
      | omega
      | decide
      | (simp [*, nilRR]))
  obtain ⟨k1, k2⟩ := kIs_len hk
  obtain ⟨o1, o2, o3⟩ := kOne_len ho
  have e1 : (max 0 ((L.length : Int) + 1 - 8)).toNat = L.length + 1 - 8 := by omega
  by_cases hn : L.length = 0
  · have h0 : L = [] := List.eq_nil_of_length_eq_zero hn
    subst h0
    simp [X_kill_Add, nilRR, hL, hl, hk, ho]
    repeat' (first
      | simp (disch := omega) only [wrap_i64, wrap_i32]
      | (simp (disch := first | omega | assumption | (simp only [i64, i32]; omega) | (simp <;> omega) | fail) only [loadD_cpr, loadD_cprs, List.take_of_length_le]; simp [*, nilRR])
      | (with_reducible refine And.intro ?_ ?_; focus first | omega | decide)
      | (with_reducible refine split_ite (fun hp => ?_) (fun hp => ?_) <;> (try simp at hp) <;> simp [*, nilRR])
      | (with_reducible refine split_ite1 (fun hp => ?_) (fun hp => ?_) <;> (try simp at hp) <;> simp [*, nilRR])
      | (refine split_cond (by simp) (fun hp => ?_) (fun hp => ?_) <;> simp at hp <;> simp [*, nilRR])
      | (refine split_ops (by simp) (fun hp => ?_) (fun hp => ?_) <;> simp at hp <;> simp [*, nilRR])
      | (refine split_opsD (by simp) (fun hp => ?_) (fun hp => ?_) <;> simp at hp <;> simp [*, nilRR])
      | (refine split_pick (by simp) (fun hp => ?_) (fun hp => ?_) <;> simp at hp <;> simp [*, nilRR])
      | omega
      | decide
      | (simp [*, nilRR]))
    all_goals simp [kAdd, hk, ho]; rfl
  have h0 : ¬ L = [] := by simpa using hn
  have hm : (L.getD (L.length - 1) []) = L[L.length - 1] := getD_at (by omega) _
  have hm2 : L[L.length - 1].length ≤ 200 := (kOne_len (k2 _ (List.getElem_mem (by omega)))).2.1
  have e2 : ((L.length : Int) - 1).toNat = L.length - 1 := by omega
  simp [X_kill_Add, nilRR, hL, hl, hk, ho, h0]
  repeat' (first
    | simp (disch := omega) only [wrap_i64, wrap_i32]
    | (simp (disch := first | omega | assumption | (simp only [i64, i32]; omega) | (simp <;> omega) | fail) only [loadD_cpr, loadD_cprs, List.take_of_length_le, pc_kill_joined]; simp [*, nilRR, h0, e1, e2])
    | (with_reducible refine And.intro ?_ ?_; focus first | omega | decide)
    | (with_reducible refine split_ite (fun hp => ?_) (fun hp => ?_) <;> (try simp at hp) <;> simp [*, nilRR, h0, e1, e2])
    | (with_reducible refine split_ite1 (fun hp => ?_) (fun hp => ?_) <;> (try simp at hp) <;> simp [*, nilRR, h0, e1, e2])
    | (refine split_cond (by simp) (fun hp => ?_) (fun hp => ?_) <;> simp at hp <;> simp [*, nilRR, h0, e1, e2])
    | (refine split_ops (by simp) (fun hp => ?_) (fun hp => ?_) <;> simp at hp <;> simp [*, nilRR, h0, e1, e2])
    | (refine split_opsD (by simp) (fun hp => ?_) (fun hp => ?_) <;> simp at hp <;> simp [*, nilRR, h0, e1, e2])
    | (refine split_pick (by simp) (fun hp => ?_) (fun hp => ?_) <;> simp at hp <;> simp [*, nilRR, h0, e1, e2])
    | omega
    | decide
    | (simp [*, nilRR, h0, e1, e2]))
  · exact row_is (by simp [kAdd, hk, ho] <;> omega) (by simp [kAdd, hk, ho])
  · have e : kAdd L l how = L.drop (L.length + 1 - 8) ++ [l] := by
      rw [kAdd, if_neg (by simp [hk, ho]), if_pos (by rw [hm]; omega)]
    rw [e]
    exact row_is (by simp <;> omega) (by simp)
  · have e : kAdd L l how = L.take (L.length - 1) ++ [l ++ L[L.length - 1]] := by
      rw [kAdd, if_neg (by simp [hk, ho]), if_neg (by rw [hm]; omega), hm, if_pos hp]
    rw [e, List.take_of_length_le (by simp <;> omega)]
    exact row_is (by simp <;> omega) (by simp)
  · have e : kAdd L l how = L.take (L.length - 1) ++ [L[L.length - 1] ++ l] := by
      rw [kAdd, if_neg (by simp [hk, ho]), if_neg (by rw [hm]; omega), hm, if_neg (by omega)]
    rw [e, List.take_of_length_le (by simp <;> omega)]
    exact row_is (by simp <;> omega) (by simp)

@[simp] theorem pc_ref12_Add (n : Nat) (L : List (List Int)) (l : List Int) (how : Int) (hL : small L) (hl : l.length < 2000000) : (W (n + 5)).pc 53 [kD L, rn l, .int .i64 how] = some (kD (kAdd L l how)) := by
  apply runs c_typebarref12_Add
  have hL1 := hL.1
  cases hk : kIs L
  · simp [X_typebarref12_Add, nilRR, hL, hk, kAdd]
  cases ho : kOne l
  · simp [X_typebarref12_Add, nilRR, hL, hl, hk, ho, kAdd]
    repeat' (first
      | simp (disch := omega) only [wrap_i64, wrap_i32]
      | (simp (disch := first | omega | assumption | (simp only [i64, i32]; omega) | (simp <;> omega) | fail) only [loadD_cpr, loadD_cprs, List.take_of_length_le]; simp [*, nilRR])
      | (with_reducible refine And.intro ?_ ?_; focus first | omega | decide)
      | (with_reducible refine split_ite (fun hp => ?_) (fun hp => ?_) <;> (try simp at hp) <;> simp [*, nilRR])
      | (with_reducible refine split_ite1 (fun hp => ?_) (fun hp => ?_) <;> (try simp at hp) <;> simp [*, nilRR])
      | (refine split_cond (by simp) (fun hp => ?_) (fun hp => ?_) <;> simp at hp <;> simp [*, nilRR])
      | (refine split_ops (by simp) (fun hp => ?_) (fun hp => ?_) <;> simp at hp <;> simp [*, nilRR])
      | (refine split_opsD (by simp) (fun hp => ?_) (fun hp => ?_) <;> simp at hp <;> simp [*, nilRR])
      | (refine split_pick (by simp) (fun hp => ?_) (fun hp => ?_) <;> simp at hp <;> simp [*, nilRR])
      | omega
      | decide
      | (simp [*, nilRR]))
  obtain ⟨k1, k2⟩ := kIs_len hk
  obtain ⟨o1, o2, o3⟩ := kOne_len ho
  have e1 : (max 0 ((L.length : Int) + 1 - 8)).toNat = L.length + 1 - 8 := by omega
  by_cases hn : L.length = 0
  · have h0 : L = [] := List.eq_nil_of_length_eq_zero hn
    subst h0
    simp [X_typebarref12_Add, nilRR, hL, hl, hk, ho]
    repeat' (first
      | simp (disch := omega) only [wrap_i64, wrap_i32]
      | (simp (disch := first | omega | assumption | (simp only [i64, i32]; omega) | (simp <;> omega) | fail) only [loadD_cpr, loadD_cprs, List.take_of_length_le]; simp [*, nilRR])
      | (with_reducible refine And.intro ?_ ?_; focus first | omega | decide)
      | (with_reducible refine split_ite (fun hp => ?_) (fun hp => ?_) <;> (try simp at hp) <;> simp [*, nilRR])
      | (with_reducible refine split_ite1 (fun hp => ?_) (fun hp => ?_) <;> (try simp at hp) <;> simp [*, nilRR])
      | (refine split_cond (by simp) (fun hp => ?_) (fun hp => ?_) <;> simp at hp <;> simp [*, nilRR])
      | (refine split_ops (by simp) (fun hp => ?_) (fun hp => ?_) <;> simp at hp <;> simp [*, nilRR])
      | (refine split_opsD (by simp) (fun hp => ?_) (fun hp => ?_) <;> simp at hp <;> simp [*, nilRR])
      | (refine split_pick (by simp) (fun hp => ?_) (fun hp => ?_) <;> simp at hp <;> simp [*, nilRR])
      | omega
      | decide
      | (simp [*, nilRR]))
    all_goals simp [kAdd, hk, ho]; rfl
  have h0 : ¬ L = [] := by simpa using hn
  have hm : (L.getD (L.length - 1) []) = L[L.length - 1] := getD_at (by omega) _
  have hm2 : L[L.length - 1].length ≤ 200 := (kOne_len (k2 _ (List.getElem_mem (by omega)))).2.1
  have e2 : ((L.length : Int) - 1).toNat = L.length - 1 := by omega
  have hl0 : ¬ l = [] := by intro h; subst h; simp at o1
  have hx0 : ¬ L[L.length - 1] = [] := by
    have := (kOne_len (k2 _ (List.getElem_mem (show L.length - 1 < L.length by omega)))).1
    intro h; rw [h] at this; simp at this
  have hlt : L.length - 1 < L.length := by omega
  have hset : ∀ x, L.set (L.length - 1) x = L.take (L.length - 1) ++ [x] := by
    intro x
    rw [List.set_eq_take_append_cons_drop, if_pos hlt, List.drop_of_length_le (by omega)]
  have e3 : L.length - 1 + 1 = L.length := by omega
  have e4 : 1 + L.length ≤ L.length + 1 := by omega
  simp [X_typebarref12_Add, nilRR, hL, hl, hk, ho, h0]
  repeat' (first
    | simp (disch := omega) only [wrap_i64, wrap_i32]
    | (simp (disch := first | omega | assumption | (simp only [i64, i32]; omega) | (simp <;> omega) | fail) only [loadD_cpr, loadD_cprs, List.take_of_length_le]; simp [*, nilRR, h0, e1, e2])
    | (with_reducible refine And.intro ?_ ?_; focus first | omega | decide)
    | (with_reducible refine split_ite (fun hp => ?_) (fun hp => ?_) <;> (try simp at hp) <;> simp [*, nilRR, h0, e1, e2])
    | (with_reducible refine split_ite1 (fun hp => ?_) (fun hp => ?_) <;> (try simp at hp) <;> simp [*, nilRR, h0, e1, e2])
    | (refine split_cond (by simp) (fun hp => ?_) (fun hp => ?_) <;> simp at hp <;> simp [*, nilRR, h0, e1, e2])
    | (refine split_ops (by simp) (fun hp => ?_) (fun hp => ?_) <;> simp at hp <;> simp [*, nilRR, h0, e1, e2])
    | (refine split_opsD (by simp) (fun hp => ?_) (fun hp => ?_) <;> simp at hp <;> simp [*, nilRR, h0, e1, e2])
    | (refine split_pick (by simp) (fun hp => ?_) (fun hp => ?_) <;> simp at hp <;> simp [*, nilRR, h0, e1, e2])
    | omega
    | decide
    | (simp [*, nilRR, h0, e1, e2]))
  · have e : kAdd L l how = L.take (L.length - 1) ++ [L[L.length - 1] ++ l] := by
      rw [kAdd, if_neg (by simp [hk, ho]), if_neg (by rw [hm]; omega), hm, if_neg (by omega)]
    rw [e]
    exact row_is (by simp <;> omega) (by simp)
  · have e : kAdd L l how = L.take (L.length - 1) ++ [l ++ L[L.length - 1]] := by
      rw [kAdd, if_neg (by simp [hk, ho]), if_neg (by rw [hm]; omega), hm, if_pos (by omega)]
    rw [e]
    exact row_is (by simp <;> omega) (by simp)
  · have e : kAdd L l how = L.drop 1 ++ [l] := by
      rw [kAdd, if_neg (by simp [hk, ho]), if_pos (by rw [hm]; omega), show L.length + 1 - 8 = 1 by omega]
    have e5 : cells rrC L ++ [row runeC false l] = cells rrC (L ++ [l]) := by simp
    rw [e, e5, ← List.drop_one, cells_drop1 rfl, cells_take1 rfl, List.take_of_length_le (by simp), List.drop_append_of_le_length (by omega)]
    exact row_is (by simp <;> omega) rfl
  · have e : kAdd L l how = L ++ [l] := by
      rw [kAdd, if_neg (by simp [hk, ho]), if_pos (by rw [hm]; omega), show L.length + 1 - 8 = 0 by omega]; rfl
    rw [e, List.take_of_length_le (by simp)]
    exact row_is (by simp <;> omega) (by simp)
  · contradiction
  · have e : kAdd L l 0 = L.drop 1 ++ [l] := by
      rw [kAdd, if_neg (by simp [hk, ho]), if_pos (by omega), show L.length + 1 - 8 = 1 by omega]
    have e5 : cells rrC L ++ [row runeC false l] = cells rrC (L ++ [l]) := by simp
    rw [e, e5, ← List.drop_one, cells_drop1 rfl, cells_take1 rfl, List.take_of_length_le (by simp), List.drop_append_of_le_length (by omega)]
    exact row_is (by simp <;> omega) rfl
  · have e : kAdd L l 0 = L ++ [l] := by
      rw [kAdd, if_neg (by simp [hk, ho]), if_pos (by omega), show L.length + 1 - 8 = 0 by omega]; rfl
    rw [e, List.take_of_length_le (by simp)]
    exact row_is (by simp <;> omega) (by simp)

@[simp] theorem pc_ref01_Sames (n : Nat) (A B : List (List Int)) (hA : small A) : (W (n + 2)).pc 60 [rrn A, rrn B] = some (.bool (decide (A = B))) := by
  apply runs c_typebarref01_Sames
  obtain ⟨hL, hl⟩ := hA
  simp [X_typebarref01_Sames, nilRR]
  repeat' (first
    | simp (disch := omega) only [wrap_i64, wrap_i32]
    | (simp (disch := first | omega | assumption | (simp only [i64, i32]; omega) | (simp <;> omega) | fail) only [loadD_cpr, loadD_cprs, List.take_of_length_le]; simp [*])
    | (with_reducible refine And.intro ?_ ?_; focus first | omega | decide)
    | (with_reducible refine split_ite (fun hp => ?_) (fun hp => ?_) <;> (try simp at hp) <;> simp [*])
    | (with_reducible refine split_ite1 (fun hp => ?_) (fun hp => ?_) <;> (try simp at hp) <;> simp [*])
    | (refine split_cond (by simp) (fun hp => ?_) (fun hp => ?_) <;> simp at hp <;> simp [*])
    | (refine split_ops (by simp) (fun hp => ?_) (fun hp => ?_) <;> simp at hp <;> simp [*])
    | (refine split_opsD (by simp) (fun hp => ?_) (fun hp => ?_) <;> simp at hp <;> simp [*])
    | (refine split_pick (by simp) (fun hp => ?_) (fun hp => ?_) <;> simp at hp <;> simp [*])
    | omega
    | decide
    | (simp [*]))
  · intro e; subst e; simp at *
  refine aw_rounds (fun m st => ∃ i : Nat, st.t 0 = rrn A ∧ st.t 1 = rrn B ∧ st.t 5 = .int .i64 i ∧ st.h = [] ∧ i ≤ A.length ∧ m = A.length - i + 1 ∧ Keep (A.take i = B.take i)) ?_ ?_ (n := A.length - (0) + 1) (by first | omega | (simp; omega)) ?_
  · rintro st ⟨i, hx⟩; omega
  rotate_left
  · exact ⟨0, by first | (simp [*]; done) | (simp [*]; omega) | rfl, by first | (simp [*]; done) | (simp [*]; omega) | rfl, by first | (simp [*]; done) | (simp [*]; omega) | rfl, by first | (simp [*]; done) | (simp [*]; omega) | rfl, by first | omega | (simp; omega) | simp [*], by first | rfl | (simp; done) | omega, ⟨by simp⟩⟩
  rintro Ja ma ⟨t, h⟩ ⟨i, ea0, ea1, ea5, hha, fa1, hma, hqa⟩ hJa
  simp only [] at ea0 ea1 ea5 hha
  subst hha
  simp [ea0, ea1, ea5]
  have hs : ∀ h : i < A.length, A[i].length < 2000000 := fun h => hl _ (List.getElem_mem h)
  repeat' (first
    | simp (disch := omega) only [wrap_i64, wrap_i32]
    | (simp (disch := first | omega | assumption | (simp only [i64, i32]; omega) | (simp <;> omega) | fail) only [loadD_cpr, loadD_cprs, List.take_of_length_le, pc_ref01_Same]; simp [*])
    | (with_reducible refine And.intro ?_ ?_; focus first | omega | decide)
    | (with_reducible refine split_ite (fun hp => ?_) (fun hp => ?_) <;> (try simp at hp) <;> simp [*])
    | (with_reducible refine split_ite1 (fun hp => ?_) (fun hp => ?_) <;> (try simp at hp) <;> simp [*])
    | (refine split_cond (by simp) (fun hp => ?_) (fun hp => ?_) <;> simp at hp <;> simp [*])
    | (refine split_ops (by simp) (fun hp => ?_) (fun hp => ?_) <;> simp at hp <;> simp [*])
    | (refine split_opsD (by simp) (fun hp => ?_) (fun hp => ?_) <;> simp at hp <;> simp [*])
    | (refine split_pick (by simp) (fun hp => ?_) (fun hp => ?_) <;> simp at hp <;> simp [*])
    | omega
    | decide
    | (simp [*]))
  · intro e; subst e; simp at *
  · exact hJa.out _ ⟨i + 1, by first | (simp [*]; done) | (simp [*]; omega) | rfl, by first | (simp [*]; done) | (simp [*]; omega) | rfl, by first | (simp [*]; done) | (simp [*]; omega) | rfl, by first | (simp [*]; done) | (simp [*]; omega) | rfl, by first | omega | (simp; omega) | simp [*], by omega, ⟨by rw [← List.take_append_getElem (by omega), ← List.take_append_getElem (by omega), hqa.out, hp]⟩⟩
  · have := hqa.out
    rwa [List.take_of_length_le (by omega), List.take_of_length_le (by omega)] at this

@[simp] theorem pc_ref12_Same (n : Nat) (A B : List (List Int)) (hA : small A) : (W (n + 3)).pc 30 [kD A, kD B] = some (.bool (decide (A = B))) := by
  apply runs c_typebarref12_Same
  simp [X_typebarref12_Same, *]


def killBig (L : List (List Int)) (l : List Int) : Bool := decide (100 < L.length) || decide (1000 < l.length) || L.any fun x => decide (1000 < x.length)


end Go.Proofs.YtcaglmjfphjpfaaGreat
