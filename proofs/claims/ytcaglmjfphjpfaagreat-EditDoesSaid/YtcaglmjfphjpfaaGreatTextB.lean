/- The text of a line, by the document, as a row that the caller may write. -/
import Derived.Test.YtcaglmjfphjpfaaGreatGapB
namespace Go.Proofs.YtcaglmjfphjpfaaGreat
open Go E
set_option linter.unusedSimpArgs false
set_option linter.unusedVariables false

theorem oc_ref10_join (n : Nat) (a b : List Int) (hA : a.length < 2000000) (hB : b.length < 2000000) : (W (n + 1)).oc 56 [rn a, rn b] = some (accS runeC 0 (a ++ b), accH runeC (a ++ b)) := by
  apply owns c_typebarref10_join
  simp [X_typebarref10_join, accS, accH]
  by_cases ha : a = [] <;> by_cases hb : b = [] <;> simp [ha, hb]
  all_goals (try (constructor <;> omega))
  all_goals (try omega)

theorem oc_ref10_Text (n : Nat) (g : Gap) (hA : g.A.length < 2000000) (hB : g.B.length < 2000000) : (W (n + 2)).oc 50 [gD g] = some (accS runeC 1 (g.A ++ g.B), ⟨[rn g.A, rn g.B], 0, true⟩ :: accH runeC (g.A ++ g.B)) := by
  apply owns c_typebarref10_Text
  have hm : modes 50 56 = 1 := id rfl
  simp [X_typebarref10_Text, hm, hA, hB, oc_ref10_join]

@[simp] theorem pc_ref10_Text (n : Nat) (g : Gap) (hA : g.A.length < 2000000) (hB : g.B.length < 2000000) : (W (n + 2)).pc 50 [gD g] = some (rn (g.A ++ g.B)) := by
  apply runsM c_typebarref10_Text
  have hm : modes 50 56 = 1 := id rfl
  simp [X_typebarref10_Text, hm, hA, hB, oc_ref10_join]

@[simp] theorem pc_ref10_Go (n : Nat) (g : Gap) (k : Int) (hA : g.A.length < 2000000) (hB : g.B.length < 2000000) : (W (n + 4)).pc 52 [gD g, .int .i64 k] = some (gD (gapGo g k)) := by
  apply runs c_typebarref10_Go
  rcases gapIs_or g with hg | ⟨hg, hn⟩
  · simp [X_typebarref10_Go, nilR, gapGo, *]
  simp [X_typebarref10_Go, nilR, *]
  repeat' (first
    | simp (disch := omega) only [wrap_i64, wrap_i32]
    | (simp (disch := first | omega | assumption | (simp only [i64, i32]; omega) | (simp <;> omega) | fail) only [loadD_cpr, loadD_cprs, List.take_of_length_le, pc_ref10_join]; simp [*, nilR])
    | (with_reducible refine And.intro ?_ ?_; focus first | omega | decide)
    | (with_reducible refine split_ite (fun hp => ?_) (fun hp => ?_) <;> (try simp at hp) <;> simp [*, nilR])
    | (with_reducible refine split_ite1 (fun hp => ?_) (fun hp => ?_) <;> (try simp at hp) <;> simp [*, nilR])
    | (refine split_cond (by simp) (fun hp => ?_) (fun hp => ?_) <;> simp at hp <;> simp [*, nilR])
    | (refine split_ops (by simp) (fun hp => ?_) (fun hp => ?_) <;> simp at hp <;> simp [*, nilR])
    | (refine split_opsD (by simp) (fun hp => ?_) (fun hp => ?_) <;> simp at hp <;> simp [*, nilR])
    | (refine split_pick (by simp) (fun hp => ?_) (fun hp => ?_) <;> simp at hp <;> simp [*, nilR])
    | omega
    | decide
    | (simp [*, nilR]))
  all_goals simp [gapGo, gapSplit, *]
  · refine ⟨.inl (by omega), ?_⟩
    rw [show k.toNat = 0 by omega]; rfl
  · exact ⟨(List.take_of_length_le (by simp; omega)).symm, by omega⟩

end Go.Proofs.YtcaglmjfphjpfaaGreat
