/- What some functions of package slices compute. -/
import Derived.Test.YtklfbnbibhbjmaaGapB
namespace Go.Proofs.Ytklfbnbibhbjmaa
open Go E
set_option linter.unusedSimpArgs false
set_option linter.unusedVariables false


/-- A row that its caller may write. -/
def freshD {α : Type} (E : Cell α) (l : List α) : D := if l = [] then .arr 0 true [] else .ref 0 0 l.length E.sz (l.length * E.sz) false

def freshH {α : Type} (E : Cell α) (l : List α) : List Blk := if l = [] then [] else [⟨cells E l, 0, false⟩]

theorem own1_fresh {α : Type} (E : Cell α) (l : List α) (h : List Blk) : own1 (some (freshD E l, freshH E l)) h = if l = [] then some (.arr 0 true [], h) else some (.ref h.length 0 l.length E.sz (l.length * E.sz) false, h ++ [⟨cells E l, 0, false⟩]) := by
  by_cases hl : l = []
  · simp [freshD, freshH, hl]
  · simp [freshD, freshH, hl]

@[simp] theorem appD_acc_rune (X : List Int) (v : Int) (f : Bool) (hb : X.length < 2000000) : appD (accH runeC X) 1 4 (accS runeC 0 X) (.arr 1 f [.int .i32 v]) = some (accS runeC 0 (X ++ [v]), accH runeC (X ++ [v])) := by
  by_cases h : X = []
  · subst h; simp [accH, accS, appD]
  · simp [accH, accS, h, appD, contents]
    omega

@[simp] theorem freezeR_acc {α : Type} (E : Cell α) (X : List α) : freezeR (accS E 0 X) (accH E X) = some (row E false X, if X = [] then [] else [⟨cells E X, X.length * E.sz, false⟩]) := by
  by_cases h : X = []
  · subst h; simp [accH, accS]; rfl
  · simp [accH, accS, h]
    exact row_is rfl (List.take_of_length_le (by simp))

@[simp] theorem freezeV_acc {α : Type} (E : Cell α) (X : List α) : freezeV (accS E 0 X) (accH E X) = some (row E false X, if X = [] then [] else [⟨cells E X, X.length * E.sz, false⟩]) := by
  by_cases h : X = []
  · subst h; simp [accH, accS]; rfl
  · simp [accH, accS, h]
    exact row_is rfl (List.take_of_length_le (by simp))




end Go.Proofs.Ytklfbnbibhbjmaa
