/- What the functions of layer 12 compute: adding a text. -/
import Derived.Test.YtccinlhenkkpeaaDoorKillB
namespace Go.Proofs.YtccinlhenkkpeaaDoor
open Go E
set_option linter.unusedSimpArgs false
set_option linter.unusedVariables false

theorem kIs_len {L : List (List Int)} (h : kIs L = true) : L.length ≤ 8 ∧ ∀ l ∈ L, kOne l = true := by
  simp only [kIs, Bool.and_eq_true, decide_eq_true_eq, List.all_eq_true] at h
  exact h

theorem kOne_len {l : List Int} (h : kOne l = true) : 0 < l.length ∧ l.length ≤ 200 ∧ allR l = true := by
  simp only [kOne, Bool.and_eq_true, decide_eq_true_eq] at h
  exact ⟨h.1.1, h.1.2, h.2⟩

def kAdd (L : List (List Int)) (l : List Int) (how : Int) : List (List Int) :=
  if kIs L = false ∨ kOne l = false then L else
  if how = 0 ∨ L.length = 0 ∨ 200 < (L.getD (L.length - 1) []).length + l.length then L.drop (L.length + 1 - 8) ++ [l]
  else L.take (L.length - 1) ++ [if how < 0 then l ++ L.getD (L.length - 1) [] else L.getD (L.length - 1) [] ++ l]







def killBig (L : List (List Int)) (l : List Int) : Bool := decide (100 < L.length) || decide (1000 < l.length) || L.any fun x => decide (1000 < x.length)


end Go.Proofs.YtccinlhenkkpeaaDoor
