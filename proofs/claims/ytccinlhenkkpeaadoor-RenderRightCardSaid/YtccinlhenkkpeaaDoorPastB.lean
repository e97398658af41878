/- What the functions of layer 19 compute: a line is added. -/
import Derived.Test.YtccinlhenkkpeaaDoorPastA
namespace Go.Proofs.YtccinlhenkkpeaaDoor
open Go E
set_option linter.unusedSimpArgs false
set_option linter.unusedVariables false

/-- A past with a line. -/
def pAdd (p : Past) (l : List Int) : Past :=
  if pIs p = false ∨ kOne l = false then p else
  if p.dup = 1 ∧ p.L ≠ [] ∧ p.L.getD (p.L.length - 1) [] = l then p else
  let R := (if p.dup = 2 then p.L.filter (fun x => decide (x ≠ l)) else p.L) ++ [l]
  ⟨p.room, p.dup, R.drop (R.length - p.room.toNat)⟩



def pBig (p : Past) (l : List Int) : Bool := decide (100 < p.L.length) || decide (1000 < l.length) || p.L.any fun x => decide (1000 < x.length)


theorem pBig_small {p : Past} {l : List Int} (h : pBig p l = false) : small p.L ∧ l.length ≤ 1000 ∧ p.L.length ≤ 100 ∧ ∀ x ∈ p.L, x.length ≤ 1000 := by
  simp only [pBig, Bool.or_eq_false_iff, decide_eq_false_iff_not, List.any_eq_false, decide_eq_true_eq] at h
  refine ⟨⟨by omega, fun x hx => ?_⟩, by omega, by omega, fun x hx => ?_⟩
  · have := h.2 x hx; omega
  · have := h.2 x hx; omega

theorem pGet_len {p : Past} {m : Nat} (h : ∀ x ∈ p.L, x.length ≤ m) (i : Int) : (pGet p i).1.length ≤ m := by
  simp only [pGet]
  split
  · simp
  split
  · simp
  · rw [List.getD_eq_getElem?_getD]
    rcases Nat.lt_or_ge i.toNat p.L.length with h1 | h1
    · rw [List.getElem?_eq_getElem h1]; exact h _ (List.getElem_mem h1)
    · rw [List.getElem?_eq_none h1]; simp

theorem pNew_small (room dup : Int) : small (pNew room dup).1.L := by
  simp only [pNew]; split <;> simp [small]


end Go.Proofs.YtccinlhenkkpeaaDoor
