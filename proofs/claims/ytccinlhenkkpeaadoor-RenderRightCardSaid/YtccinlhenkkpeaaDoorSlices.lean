/- What some functions of package slices compute. -/
import Derived.Test.YtccinlhenkkpeaaDoorGapB
namespace Go.Proofs.YtccinlhenkkpeaaDoor
open Go E
set_option linter.unusedSimpArgs false
set_option linter.unusedVariables false

@[simp] theorem pc_Equal_rune (n : Nat) (l r : List Int) (hl : l.length < 2000000) : (W (n + 1)).pc 54 [rn l, rn r] = some (.bool (decide (l = r))) := by
  apply runs c_slices_Equal_S_rune_rune
  simp [X_slices_Equal_S_rune_rune]
  repeat' (first
    | simp (disch := omega) only [wrap_i64, wrap_i32]
    | (simp (disch := first | omega | assumption | (simp only [i64, i32]; omega) | (simp <;> omega) | fail) only [loadD_cpr, loadD_cprs, List.take_of_length_le]; simp [*])
    | (with_reducible refine And.intro ?_ ?_; focus first | omega | decide)
    | (with_reducible refine split_ite (fun hp => ?_) (fun hp => ?_) <;> (try simp at hp) <;> simp [*])
    | (with_reducible refine split_ite1 (fun hp => ?_) (fun hp => ?_) <;> (try simp at hp) <;> simp [*])
    | (refine split_cond (by simp) (fun hp => ?_) (fun hp => ?_) <;> simp at hp <;> simp [*])
    | (refine split_ops (by simp) (fun hp => ?_) (fun hp => ?_) <;> simp at hp <;> simp [*])
    | (refine split_opsD (by simp) (fun hp => ?_) (fun hp => ?_) <;> simp at hp <;> simp [*])
    | (refine split_pick (by simp) (fun hp => ?_) (fun hp => ?_) <;> simp at hp <;> simp [*])
    | omega
    | decide
    | (simp [*]))
  · intro e; subst e; simp at *
  refine aw_rounds (fun m st => ∃ i : Nat, st.t 0 = rn l ∧ st.t 1 = rn r ∧ st.t 12 = .int .i64 l.length ∧ st.t 13 = .int .i64 i ∧ st.h = [] ∧ i ≤ l.length ∧ m = l.length - i + 1 ∧ Keep (l.take i = r.take i)) ?_ ?_ (n := l.length - (0) + 1) (by first | omega | (simp; omega)) ?_
  · rintro st ⟨i, hx⟩; omega
  rotate_left
  · exact ⟨0, by first | (simp [*]; done) | (simp [*]; omega) | rfl, by first | (simp [*]; done) | (simp [*]; omega) | rfl, by first | (simp [*]; done) | (simp [*]; omega) | rfl, by first | (simp [*]; done) | (simp [*]; omega) | rfl, by first | (simp [*]; done) | (simp [*]; omega) | rfl, by first | omega | (simp; omega) | simp [*], by first | rfl | (simp; done) | omega, ⟨by simp⟩⟩
  rintro Ja ma ⟨t, h⟩ ⟨i, ea0, ea1, ea12, ea13, hha, fa1, hma, hqa⟩ hJa
  simp only [] at ea0 ea1 ea12 ea13 hha
  subst hha
  simp [ea0, ea1, ea12, ea13]
  repeat' (first
    | simp (disch := omega) only [wrap_i64, wrap_i32]
    | (simp (disch := first | omega | assumption | (simp only [i64, i32]; omega) | (simp <;> omega) | fail) only [loadD_cpr, loadD_cprs, List.take_of_length_le]; simp [*])
    | (with_reducible refine And.intro ?_ ?_; focus first | omega | decide)
    | (with_reducible refine split_ite (fun hp => ?_) (fun hp => ?_) <;> (try simp at hp) <;> simp [*])
    | (with_reducible refine split_ite1 (fun hp => ?_) (fun hp => ?_) <;> (try simp at hp) <;> simp [*])
    | (refine split_cond (by simp) (fun hp => ?_) (fun hp => ?_) <;> simp at hp <;> simp [*])
    | (refine split_ops (by simp) (fun hp => ?_) (fun hp => ?_) <;> simp at hp <;> simp [*])
    | (refine split_opsD (by simp) (fun hp => ?_) (fun hp => ?_) <;> simp at hp <;> simp [*])
    | (refine split_pick (by simp) (fun hp => ?_) (fun hp => ?_) <;> simp at hp <;> simp [*])
    | omega
    | decide
    | (simp [*]))
  · intro e; subst e; simp at *
  · exact hJa.out _ ⟨i + 1, by first | (simp [*]; done) | (simp [*]; omega) | rfl, by first | (simp [*]; done) | (simp [*]; omega) | rfl, by first | (simp [*]; done) | (simp [*]; omega) | rfl, by first | (simp [*]; done) | (simp [*]; omega) | rfl, by first | (simp [*]; done) | (simp [*]; omega) | rfl, by first | omega | (simp; omega) | simp [*], by omega, ⟨by rw [← List.take_append_getElem (by omega), ← List.take_append_getElem (by omega), hqa.out, hp]⟩⟩
  · have := hqa.out
    rwa [List.take_of_length_le (by omega), List.take_of_length_le (by omega)] at this

/-- A row that its caller may write. -/
def freshD {α : Type} (E : Cell α) (l : List α) : D := if l = [] then .arr 0 true [] else .ref 0 0 l.length E.sz (l.length * E.sz) false

def freshH {α : Type} (E : Cell α) (l : List α) : List Blk := if l = [] then [] else [⟨cells E l, 0, false⟩]

theorem own1_fresh {α : Type} (E : Cell α) (l : List α) (h : List Blk) : own1 (some (freshD E l, freshH E l)) h = if l = [] then some (.arr 0 true [], h) else some (.ref h.length 0 l.length E.sz (l.length * E.sz) false, h ++ [⟨cells E l, 0, false⟩]) := by
  by_cases hl : l = []
  · simp [freshD, freshH, hl]
  · simp [freshD, freshH, hl]

@[simp] theorem appD_acc_rune (X : List Int) (v : Int) (f : Bool) (hb : X.length < 2000000) : appD (accH runeC X) 1 4 (accS runeC 0 X) (.arr 1 f [.int .i32 v]) = some (accS runeC 0 (X ++ [v]), accH runeC (X ++ [v])) := by
  by_cases h : X = []
  · subst h; simp [accH, accS, appD]
  · simp [accH, accS, h, appD, contents]
    omega

@[simp] theorem freezeR_acc {α : Type} (E : Cell α) (X : List α) : freezeR (accS E 0 X) (accH E X) = some (row E false X, if X = [] then [] else [⟨cells E X, X.length * E.sz, false⟩]) := by
  by_cases h : X = []
  · subst h; simp [accH, accS]; rfl
  · simp [accH, accS, h]
    exact row_is rfl (List.take_of_length_le (by simp))

@[simp] theorem freezeV_acc {α : Type} (E : Cell α) (X : List α) : freezeV (accS E 0 X) (accH E X) = some (row E false X, if X = [] then [] else [⟨cells E X, X.length * E.sz, false⟩]) := by
  by_cases h : X = []
  · subst h; simp [accH, accS]; rfl
  · simp [accH, accS, h]
    exact row_is rfl (List.take_of_length_le (by simp))




end Go.Proofs.YtccinlhenkkpeaaDoor
