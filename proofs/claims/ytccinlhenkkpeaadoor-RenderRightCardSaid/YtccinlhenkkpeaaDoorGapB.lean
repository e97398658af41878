/- What cutting and going in a line compute. -/
import Derived.Test.YtccinlhenkkpeaaDoorGapA
namespace Go.Proofs.YtccinlhenkkpeaaDoor
open Go E
set_option linter.unusedSimpArgs false
set_option linter.unusedVariables false

theorem gapIs_len {g : Gap} (h : gapIs g = true) : g.A.length + g.B.length ≤ 200 ∧ allR g.A = true ∧ allR g.B = true := by
  simp only [gapIs, Bool.and_eq_true, decide_eq_true_eq] at h
  exact ⟨h.1.1, h.1.2, h.2⟩

def gapCut (g : Gap) (k : Int) : Gap × List Int :=
  if gapIs g = false then (g, []) else if 0 < k then (⟨g.A, g.B.drop (min k.toNat g.B.length)⟩, g.B.take (min k.toNat g.B.length)) else
    (⟨g.A.take (g.A.length - (-k).toNat), g.B⟩, g.A.drop (g.A.length - (-k).toNat))



def gapGo (g : Gap) (k : Int) : Gap := if gapIs g = true then gapSplit (g.A ++ g.B) k.toNat else g

theorem gapIs_or (g : Gap) : gapIs g = false ∨ gapIs g = true ∧ g.A.length + g.B.length ≤ 200 := by
  cases h : gapIs g
  · exact .inl rfl
  · exact .inr ⟨rfl, (gapIs_len h).1⟩



theorem gapOf_len (l : List Int) (k : Int) : (gapOf l k).1.A.length ≤ l.length ∧ (gapOf l k).1.B.length ≤ l.length := by
  simp only [gapOf, gapSplit]
  split
  · simp
  split
  · simp
  · simp; omega

theorem gapGo_len (g : Gap) (k : Int) : (gapGo g k).A.length ≤ g.A.length + g.B.length ∧ (gapGo g k).B.length ≤ g.A.length + g.B.length := by
  simp only [gapGo, gapSplit]
  split <;> simp <;> omega

theorem gapInsert_len (g : Gap) (l : List Int) : (gapInsert g l).1.A.length ≤ g.A.length + l.length ∧ (gapInsert g l).1.B.length ≤ g.B.length := by
  simp only [gapInsert]
  split
  · simp
  split
  · simp
  · simp

theorem gapCut_len (g : Gap) (k : Int) : (gapCut g k).1.A.length ≤ g.A.length ∧ (gapCut g k).1.B.length ≤ g.B.length ∧ (gapCut g k).2.length ≤ g.A.length + g.B.length := by
  simp only [gapCut]
  split
  · simp
  split
  · simp; omega
  · simp; omega

end Go.Proofs.YtccinlhenkkpeaaDoor
