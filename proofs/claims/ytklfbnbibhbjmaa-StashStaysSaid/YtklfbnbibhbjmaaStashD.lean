/- What the document's Go computes. -/
import Derived.Test.YtklfbnbibhbjmaaStashC
namespace Go.Proofs.Ytklfbnbibhbjmaa
open Go E
set_option linter.unusedSimpArgs false
set_option linter.unusedVariables false

/-- What the document takes for a number: the new line, or the one that was left. -/
def sPick (L : List (Int × Gap)) (at_ : Int) (g : Gap) (i : Int) : List (Int × Gap) :=
  if i = at_ then [(i, g)] else match sFind L i with
    | some y => [(i, y)]
    | none => []

def sUp (L : List (Int × Gap)) (at_ : Int) (g : Gap) : Nat → Int → List (Int × Gap)
  | 0, _ => []
  | k + 1, i => sPick L at_ g i ++ sUp L at_ g k (i + 1)

theorem sFind_low {m le i : Int} {L : List (Int × Gap)} (h : slotsOk m le L = true) (hi : i < le) : sFind L i = none := by
  rw [sFind, List.find?_eq_none.2]
  · rfl
  · intro x hx
    have := slotsOk_ge h x hx
    simp; omega

theorem sFind_cons (x : Int × Gap) (r : List (Int × Gap)) (i : Int) : sFind (x :: r) i = if x.1 = i then some x.2 else sFind r i := by
  by_cases h : x.1 = i
  · rw [sFind, List.find?_cons_of_pos (by simpa using h), if_pos h]; rfl
  · rw [sFind, List.find?_cons_of_neg (by simpa using h), if_neg h]; rfl

theorem sUp_skip {x : Int × Gap} {r : List (Int × Gap)} {at_ : Int} {g : Gap} : ∀ (d : Nat) (le : Int), x.1 < le → sUp (x :: r) at_ g d le = sUp r at_ g d le
  | 0, _, _ => rfl
  | d + 1, le, h => by
    have hn : ¬ x.1 = le := by omega
    simp only [sUp, sPick, sFind_cons, hn, if_false, sUp_skip (x := x) (r := r) d (le + 1) (by omega)]

theorem sUp_all {m at_ : Int} {g : Gap} : ∀ (d : Nat) (le : Int) (L : List (Int × Gap)), slotsOk m le L = true → m + 1 - le = d → at_ < le → sUp L at_ g d le = L
  | 0, le, L, h, hd, ha => by
    cases L with
    | nil => rfl
    | cons x r => have := slotsOk_ge h x (by simp); omega
  | d + 1, le, L, h, hd, ha => by
    have hn : ¬ le = at_ := by omega
    cases L with
    | nil =>
      have := sUp_all (m := m) (g := g) d (le + 1) [] (by rfl) (by omega) (show at_ < le + 1 by omega)
      simp only [sUp, sPick, hn, if_false, this]
      rfl
    | cons x r =>
      simp only [slotsOk, Bool.and_eq_true, decide_eq_true_eq] at h
      by_cases hx : x.1 = le
      · rw [sUp, sUp_skip d (le + 1) (by omega), sUp_all d (le + 1) r (by rw [← hx]; exact h.2) (by omega) (by omega)]
        simp only [sPick, hn, if_false, sFind_cons, hx, if_true]
        simp [← hx]
      · have h' : slotsOk m (le + 1) (x :: r) = true := by
          simp only [slotsOk, Bool.and_eq_true, decide_eq_true_eq]
          exact ⟨⟨by omega, h.1.2⟩, h.2⟩
        rw [sUp, sUp_all d (le + 1) (x :: r) h' (by omega) (by omega)]
        simp only [sPick, hn, if_false, sFind_low h' (show le < le + 1 by omega)]
        rfl

theorem sInto_zero {m le : Int} {L : List (Int × Gap)} {g : Gap} (h : slotsOk m le L = true) : sInto L (sCnt L le) (le, g) = match L with
    | [] => [(le, g)]
    | x :: r => if x.1 = le then (le, g) :: r else (le, g) :: x :: r := by
  rw [sCnt_zero h (Int.le_refl _)]
  cases L with
  | nil => simp [sInto]
  | cons x r =>
    by_cases hx : x.1 = le
    · simp [sInto, hx]
    · simp [sInto, hx]

theorem sUp_into {m at_ : Int} {g : Gap} : ∀ (d : Nat) (le : Int) (L : List (Int × Gap)), slotsOk m le L = true → m + 1 - le = d → le ≤ at_ → at_ ≤ m → sUp L at_ g d le = sInto L (sCnt L at_) (at_, g)
  | 0, le, L, h, hd, ha, hm => by omega
  | d + 1, le, L, h, hd, ha, hm => by
    by_cases he : le = at_
    · subst he
      rw [sInto_zero h]
      cases L with
      | nil => rw [sUp, sUp_all (m := m) d (le + 1) [] rfl (by omega) (by omega)]; simp [sPick]
      | cons x r =>
        simp only [slotsOk, Bool.and_eq_true, decide_eq_true_eq] at h
        by_cases hx : x.1 = le
        · rw [sUp, sUp_skip d (le + 1) (by omega), sUp_all d (le + 1) r (by rw [← hx]; exact h.2) (by omega) (by omega)]
          simp [sPick, hx]
        · have h' : slotsOk m (le + 1) (x :: r) = true := by
            simp only [slotsOk, Bool.and_eq_true, decide_eq_true_eq]
            exact ⟨⟨by omega, h.1.2⟩, h.2⟩
          rw [sUp, sUp_all d (le + 1) (x :: r) h' (by omega) (by omega)]
          simp [sPick, hx]
    · cases L with
      | nil =>
        rw [sUp, sUp_into (m := m) d (le + 1) [] rfl (by omega) (by omega) hm]
        simp only [sPick, he, if_false]
        rfl
      | cons x r =>
        simp only [slotsOk, Bool.and_eq_true, decide_eq_true_eq] at h
        by_cases hx : x.1 = le
        · rw [sUp, sUp_skip d (le + 1) (by omega), sUp_into d (le + 1) r (by rw [← hx]; exact h.2) (by omega) (by omega) hm]
          have hc : sCnt (x :: r) at_ = sCnt r at_ + 1 := by simp [sCnt, show x.1 < at_ by omega]
          rw [hc]
          simp only [sPick, he, if_false, sFind_cons, hx, if_true, sInto, List.length_cons, List.getElem_cons_succ, Nat.add_lt_add_iff_right, List.take_succ_cons, List.drop_succ_cons, List.set_cons_succ]
          have e : (le, x.2) = x := by rw [← hx]
          rw [e]
          split <;> rfl
        · have h' : slotsOk m (le + 1) (x :: r) = true := by
            simp only [slotsOk, Bool.and_eq_true, decide_eq_true_eq]
            exact ⟨⟨by omega, h.1.2⟩, h.2⟩
          rw [sUp, sUp_into d (le + 1) (x :: r) h' (by omega) (by omega) hm]
          simp only [sPick, he, if_false, sFind_low h' (show le < le + 1 by omega)]
          rfl

end Go.Proofs.Ytklfbnbibhbjmaa
