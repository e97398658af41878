/- The law that the program's acts are the document's. -/
import Derived.Test.YtcaglmjfphjpfaaGreatEditR
namespace Go.Proofs.YtcaglmjfphjpfaaGreat
open Go E
set_option linter.unusedSimpArgs false
set_option linter.unusedVariables false
set_option maxRecDepth 100000

set_option maxHeartbeats 1000000 in
theorem pc_EditDoes (n : Nat) (e : EditM) (a : ActM) (c : Int) : (W (n + 26)).pc 3 [edD e, acD a, .int .i64 c] = some (.bool true) := by
  apply runs c_typebarlaw23_EditDoes
  have hB := pc_Big (n + 24) e
  have hE := pc_edited (n + 1)
  by_cases hb : edBig e = true
  · rw [hb] at hB
    simp [X_typebarlaw23_EditDoes, hB]
  have hb' : edBig e = false := by simpa using hb
  rw [hb'] at hB
  obtain ⟨hs, sK, sU, sA, sB⟩ := edBig_small hb'
  have hD := pc_edit_Do (n + 13) e a c hs
  have hR := pc_ref23_Do (n + 15) e a c (by omega) (by omega) sK sU
  have hI := pc_edit_Is (n + 19) e hs
  have hI2 := pc_ref23_Is (n + 19) e (by omega) (by omega) sK sU
  have hok : (doE e a c).1.G.A.length < 2000000 ∧ (doE e a c).1.G.B.length < 2000000 ∧ small (doE e a c).1.K ∧ smallU (doE e a c).1.U := by
    by_cases h0 : (doE e a c).2 = 0
    · have ho := edIs_ok.1 (doE_is h0)
      have hg := gapIs_ln ho.g
      exact ⟨by omega, by omega, kIs_small ho.k, uIs_small ho.u⟩
    · have hz : (doE e a c).1 = edZ := by
        by_cases hbad : edIs e = false ∨ c < -9999 ∨ 9999 < c ∨ actOk a = false
        · rw [doE_bad hbad]
        · by_cases h1 : (actS e a c).2 = 0
          · rw [doE_yes hbad h1] at h0; simp at h0
          · rw [doE_no hbad h1]
      rw [hz]
      simp [edZ, small, smallU]
  have hS := pc_ref23_Same (n + 21) (doE e a c).1 (doE e a c).1 hok.1 hok.2.1 hok.2.2.1 hok.2.2.2
  simp only [and_self, decide_true] at hS
  generalize (doE e a c).1 = y at *
  generalize (doE e a c).2 = r at *
  generalize edIs e = b at *
  simp [X_typebarlaw23_EditDoes, hB, hE, hD, hR, hI, hI2, hS]

end Go.Proofs.YtcaglmjfphjpfaaGreat
