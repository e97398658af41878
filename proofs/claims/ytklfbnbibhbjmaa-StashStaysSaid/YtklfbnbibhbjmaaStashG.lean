/- The statements StashDoes and StashTells. -/
import Derived.Test.YtklfbnbibhbjmaaStashF
namespace Go.Proofs.Ytklfbnbibhbjmaa
open Go E
set_option linter.unusedSimpArgs false
set_option linter.unusedVariables false

theorem sBig_len {s : StashM} {p : Past} {g : Gap} (h : sBig s p g = false) : s.L.length ≤ 1000000 := by
  simp only [sBig, Bool.or_eq_false_iff, decide_eq_false_iff_not] at h
  omega

theorem pc_StashDoes (n : Nat) (s : StashM) (p : Past) (g : Gap) (to : Int) : (W (n + 24)).pc 3 [stD s, pD p, gD g, .int .i64 to] = some (.bool true) := by
  apply runs c_typebarlaw20_StashDoes
  cases hb : sBig s p g
  · obtain ⟨hs, hp, hg⟩ := sBig_small hb
    obtain ⟨q1, q2, q3⟩ := sGo_small (to := to) hs (sBig_len hb) hp hg
    simp [X_typebarlaw20_StashDoes, pc_sBig, pc_stashed, hb, hs, hp, hg, pc_stash_Go, pc_ref20_Go, q1, q2, q3, pc_ref20_Same]
  · simp [X_typebarlaw20_StashDoes, pc_sBig, hb]

theorem pc_StashTells (n : Nat) (s : StashM) (p : Past) (i : Int) : (W (n + 24)).pc 4 [stD s, pD p, .int .i64 i] = some (.bool true) := by
  apply runs c_typebarlaw20_StashTells
  have hbb : (W (n + 23)).pc 7 [stD s, pD p, .agg [rn [], rn []]] = some (.bool (sBig s p ⟨[], []⟩)) := pc_sBig (n + 22) s p ⟨[], []⟩
  cases hb : sBig s p ⟨[], []⟩
  · obtain ⟨hs, hp, hg⟩ := sBig_small hb
    have hq : smallS [] := by simp [smallS]
    have hz : fD.g0S.A.length < 2000000 ∧ fD.g0S.B.length < 2000000 := by decide
    have hOO : (W (n + 23)).pc 11 [.agg [.int .i64 p.L.length, srn []], .agg [.int .i64 p.L.length, srn []]] = some (.bool true) := pc_ref20_Same (n + 20) ⟨p.L.length, []⟩ ⟨p.L.length, []⟩ (by simp [smallS]) rfl
    have hq2 : smallS (⟨p.L.length, []⟩ : StashM).L := by simp [smallS]
    cases h6 : sFind s.L i
    · simp [X_typebarlaw20_StashTells, nilR, hbb, pc_stashed, hb, hs, hp, pc_stash_Find, pc_ref20_Find, h6, pc_stash_Is, pc_ref20_Is, pc_stash_Open, pc_ref20_Open, hOO, hz]
    · rename_i y
      have hy : y.A.length < 2000000 ∧ y.B.length < 2000000 := by
        simp only [sFind] at h6
        obtain ⟨x, hx, rfl⟩ := Option.map_eq_some_iff.1 h6
        exact hs.2 _ (List.mem_of_find?_eq_some hx)
      simp [X_typebarlaw20_StashTells, nilR, hbb, pc_stashed, hb, hs, hp, pc_stash_Find, pc_ref20_Find, h6, pc_stash_Is, pc_ref20_Is, pc_stash_Open, pc_ref20_Open, hOO, hz, hy]
  · simp [X_typebarlaw20_StashTells, nilR, hbb, hb]

end Go.Proofs.Ytklfbnbibhbjmaa
