/- What the laws of layer 14 on letters alone compute. -/
import Derived.Test.YtcaglmjfphjpfaaGreatShapeC
namespace Go.Proofs.YtcaglmjfphjpfaaGreat
open Go E
set_option linter.unusedSimpArgs false
set_option linter.unusedVariables false

theorem inW_upR (r : Int) : inW (upR r) = inW r := by grind [inW, upR]
theorem inW_loR (r : Int) : inW (loR r) = inW r := by grind [inW, loR]
theorem upR_upR (r : Int) : upR (upR r) = upR r := by grind [upR]
theorem loR_loR (r : Int) : loR (loR r) = loR r := by grind [loR]
theorem loR_upR (r : Int) : loR (upR r) = loR r := by grind [loR, upR]

theorem inW_chR (l : List Int) (f : Nat) (how : Int) (i : Nat) (r : Int) : inW (chR l f how i r) = inW r := by
  rw [chR]; split
  · exact inW_upR r
  · exact inW_loR r

theorem loR_chR (l : List Int) (f : Nat) (how : Int) (i : Nat) (r : Int) : loR (chR l f how i r) = loR r := by
  rw [chR]; split
  · exact loR_upR r
  · exact loR_loR r

theorem inW_sCh (l : List Int) (f t : Nat) (how : Int) (i : Nat) : inW ((sCh l f t how).getD i 0) = inW (l.getD i 0) := by
  by_cases h : i < l.length
  · rw [getD_at (by simpa using h), getD_at h, sCh_at h]
    split
    · exact inW_chR ..
    · rfl
  · have h1 : (sCh l f t how)[i]? = none := List.getElem?_eq_none (by simpa using h)
    have h2 : l[i]? = none := List.getElem?_eq_none (by omega)
    rw [List.getD, List.getD, h1, h2]

theorem chR_idem (l : List Int) (f t : Nat) (how : Int) (i : Nat) (r : Int) : chR (sCh l f t how) f how i (chR l f how i r) = chR l f how i r := by
  have h1 := inW_sCh l f t how (i - 1)
  have h2 := inW_chR l f how i r
  rw [chR, h1, h2]
  simp only [chR]
  split
  · exact upR_upR r
  · exact loR_loR r

theorem sCh_idem (l : List Int) (f t : Nat) (how : Int) : sCh (sCh l f t how) f t how = sCh l f t how := by
  refine List.ext_getElem (by simp) fun i h1 h2 => ?_
  have hi : i < l.length := by simpa using h2
  rw [sCh_at h2, sCh_at hi]
  split
  · exact chR_idem ..
  · rfl

theorem change_bad {l : List Int} {f t how : Int} (h : (change l f t how).2 ≠ 0) : (change l f t how).1 = [] := by
  simp only [change] at *
  split at h
  · rename_i hc; rw [if_pos hc]
  · simp at h

theorem change_ok {l : List Int} {f t how : Int} (h : (change l f t how).2 = 0) : ∃ F T : Nat, f = F ∧ t = T ∧ T ≤ l.length ∧ change l f t how = (sCh l F T how, 0) ∧ change (sCh l F T how) f t how = (sCh l F T how, 0) := by
  by_cases hc : f < 0 ∨ t < f ∨ l.length < t ∨ how < 4 ∨ 6 < how
  · rw [change, if_pos hc] at h; simp at h
  · refine ⟨f.toNat, t.toNat, by omega, by omega, by omega, by rw [change, if_neg hc], ?_⟩
    rw [change, if_neg (by rw [sCh_length]; exact hc), sCh_idem]


end Go.Proofs.YtcaglmjfphjpfaaGreat
