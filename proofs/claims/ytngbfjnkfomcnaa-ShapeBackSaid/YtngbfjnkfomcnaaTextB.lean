/- The text of a line, by the document, as a row that the caller may write. -/
import Derived.Test.YtngbfjnkfomcnaaGapB
namespace Go.Proofs.Ytngbfjnkfomcnaa
open Go E
set_option linter.unusedSimpArgs false
set_option linter.unusedVariables false

theorem oc_ref10_join (n : Nat) (a b : List Int) (hA : a.length < 1000000) (hB : b.length < 1000000) : (W (n + 1)).oc 69 [rn a, rn b] = some (accS runeC 0 (a ++ b), accH runeC (a ++ b)) := by
  apply owns c_typebarref10_join
  simp [X_typebarref10_join, accS, accH]
  by_cases ha : a = [] <;> by_cases hb : b = [] <;> simp [ha, hb]
  all_goals (try (constructor <;> omega))
  all_goals (try omega)

theorem oc_ref10_Text (n : Nat) (g : Gap) (hA : g.A.length < 1000000) (hB : g.B.length < 1000000) : (W (n + 2)).oc 60 [gD g] = some (accS runeC 1 (g.A ++ g.B), ⟨[rn g.A, rn g.B], 0, true⟩ :: accH runeC (g.A ++ g.B)) := by
  apply owns c_typebarref10_Text
  have hm : modes 60 69 = 1 := id rfl
  simp [X_typebarref10_Text, hm, hA, hB, oc_ref10_join]

@[simp] theorem pc_ref10_Text (n : Nat) (g : Gap) (hA : g.A.length < 1000000) (hB : g.B.length < 1000000) : (W (n + 2)).pc 60 [gD g] = some (rn (g.A ++ g.B)) := by
  apply runsM c_typebarref10_Text
  have hm : modes 60 69 = 1 := id rfl
  simp [X_typebarref10_Text, hm, hA, hB, oc_ref10_join]

end Go.Proofs.Ytngbfjnkfomcnaa
