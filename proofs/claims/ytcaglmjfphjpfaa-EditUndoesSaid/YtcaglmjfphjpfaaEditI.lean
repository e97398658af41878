/- The laws on what stays right, and on what is undone. -/
import Derived.Test.YtcaglmjfphjpfaaEditH
namespace Go.Proofs.Ytcaglmjfphjpfaa
open Go E
set_option linter.unusedSimpArgs false
set_option linter.unusedVariables false
set_option maxRecDepth 100000

theorem actS_U {e : EditM} {a : ActM} {n : Int} (h0 : (actS e a n).2 = 0) (h4 : a.k ≠ 4) (h5 : a.k ≠ 5) (h2 : ¬ (a.k = 2 ∧ e.La = 1)) (h1 : ¬ (a.k = 1 ∧ (a.o = 0 ∨ a.o = 3))) : (actS e a n).1.U = uPush e.U e.G := by
  rw [actS] at h0 ⊢
  split at h0
  · rename_i e1
    rw [if_pos e1]
    have o0 : a.o ≠ 0 := fun h => h1 ⟨e1, .inl h⟩
    have o3 : a.o ≠ 3 := fun h => h1 ⟨e1, .inr h⟩
    rw [moveS, if_neg o0] at h0 ⊢
    split at h0
    · simp at h0
    · rename_i o1
      rw [if_neg o1]
      simp only [passE, if_neg o3]
      split <;> rfl
  split at h0
  · rename_i e1 e2
    rw [if_neg e1, if_pos e2]
    rw [insS] at h0 ⊢
    split at h0
    · simp at h0
    · rename_i o1
      rw [if_neg o1]
      simp only []
      rw [if_neg (fun h => h2 ⟨e2, h⟩)]
  split at h0
  · rename_i e1 e2 e3
    rw [if_neg e1, if_neg e2, if_pos e3]
    rw [yankS] at h0 ⊢
    split at h0
    · simp at h0
    · rename_i o1
      rw [if_neg o1]
      rfl
  · rename_i e1 e2 e3
    rw [if_neg e1, if_neg e2, if_neg e3, if_neg h4, if_neg h5]
    rfl

/-- What was done is undone. -/
theorem doE_undo {e : EditM} {a : ActM} {n : Int} (h0 : (doE e a n).2 = 0) (h4 : a.k ≠ 4) (h5 : a.k ≠ 5) (h2 : ¬ (a.k = 2 ∧ e.La = 1)) (h1 : ¬ (a.k = 1 ∧ (a.o = 0 ∨ a.o = 3))) :
    (doE (doE e a n).1 ⟨5, 0, 0, 0⟩ n).2 = 0 ∧ (doE (doE e a n).1 ⟨5, 0, 0, 0⟩ n).1.G = e.G ∧ (doE (doE e a n).1 ⟨5, 0, 0, 0⟩ n).1.U.length ≤ e.U.length := by
  have hi := doE_is h0
  obtain ⟨k1, k2, k3, k4, k5⟩ := doE_ok h0
  have hU := actS_U k4 h4 h5 h2 h1
  rw [k5] at hi ⊢
  simp only [] at hi ⊢
  generalize (actS e a n).1 = x at hi hU ⊢
  obtain ⟨L', p1, p2, p3⟩ := uPush_pop k1.u k1.g
  have hS : actS x ⟨5, 0, 0, 0⟩ n = (⟨e.G, x.K, L', 0, 0, 0⟩, 0) := by
    simp only [actS]
    simp [backS, hU, p1]
  have hno : ¬ (edIs x = false ∨ n < -9999 ∨ 9999 < n ∨ actOk ⟨5, 0, 0, 0⟩ = false) := by
    rw [hi]; simp [actOk]; omega
  rw [doE_yes hno (by rw [hS]), hS]
  exact ⟨rfl, rfl, p2⟩

set_option maxHeartbeats 1000000 in
theorem pc_EditUndoes (n : Nat) (e : EditM) (a : ActM) (c : Int) (hs : EdSized e) : (W (n + 26)).pc 7 [edD e, acD a, .int .i64 c] = some (.bool true) := by
  apply runs c_typebarlaw23_EditUndoes
  have hD := pc_edit_Do (n + 13) e a c hs
  have hB := pc_Big (n + 24) e
  have hE := pc_edited (n + 1)
  by_cases hb : edBig e = true
  · rw [hb] at hB
    generalize doE e a c = R at hD
    simp [X_typebarlaw23_EditUndoes, hD, hB, hE]
  · have hb' : edBig e = false := by simpa using hb
    rw [hb'] at hB
    have hsm := edBig_small hb'
    by_cases h0 : (doE e a c).2 = 0
    · by_cases h4 : a.k = 4
      · generalize (doE e a c).1 = y at hD
        rw [h0] at hD
        simp only [acD, h4] at hD
        simp [X_typebarlaw23_EditUndoes, hD, hB, hE, h4]
      by_cases h5 : a.k = 5
      · generalize (doE e a c).1 = y at hD
        rw [h0] at hD
        simp only [acD, h5] at hD
        simp [X_typebarlaw23_EditUndoes, hD, hB, hE, h5]
      by_cases h2 : a.k = 2 ∧ e.La = 1
      · generalize (doE e a c).1 = y at hD
        rw [h0] at hD
        simp only [acD, edD, h2.1, h2.2] at hD
        simp only [edD, h2.2] at hB
        simp [X_typebarlaw23_EditUndoes, hD, hB, hE, h2.1, h2.2]
      by_cases h1 : a.k = 1 ∧ (a.o = 0 ∨ a.o = 3)
      · generalize (doE e a c).1 = y at hD
        rw [h0] at hD
        obtain ⟨k1, k2⟩ := h1
        rcases k2 with k2 | k2
        · simp only [acD, k1, k2] at hD
          simp [X_typebarlaw23_EditUndoes, hD, hB, hE, k1, k2]
        · simp only [acD, k1, k2] at hD
          simp [X_typebarlaw23_EditUndoes, hD, hB, hE, k1, k2]
      obtain ⟨u1, u2, u3⟩ := doE_undo h0 h4 h5 h2 h1
      have hok := edIs_ok.1 (doE_is h0)
      have hD2 := pc_edit_Do (n + 13) (doE e a c).1 ⟨5, 0, 0, 0⟩ c (edOk_sized hok)
      have hi2 := doE_is u1
      have hok2 := gapIs_ln (edIs_ok.1 hi2).g
      have hSm := pc_ref10_Same (n + 23) (doE (doE e a c).1 ⟨5, 0, 0, 0⟩ c).1.G e.G (by omega) (by omega)
      rw [u2] at hSm
      simp only [and_self, decide_true] at hSm
      rw [u1] at hD2
      rw [h0] at hD
      generalize doE (doE e a c).1 ⟨5, 0, 0, 0⟩ c = Z at *
      generalize (doE e a c).1 = y at *
      rw [u2] at hok2
      have u3' : (Z.1.U.length : Int) ≤ e.U.length := by omega
      simp only [edD, u2] at hD2
      by_cases hk2 : a.k = 2
      · have hLa : ¬ e.La = 1 := fun h => h2 ⟨hk2, h⟩
        simp only [acD, hk2] at hD
        simp [X_typebarlaw23_EditUndoes, hD, hB, hE, hk2, hLa, hD2, hSm, u3, u3']
        all_goals trace_state
      · by_cases hk1 : a.k = 1
        · have o0 : ¬ a.o = 0 := fun h => h1 ⟨hk1, .inl h⟩
          have o3 : ¬ a.o = 3 := fun h => h1 ⟨hk1, .inr h⟩
          simp only [acD, hk1] at hD
          simp [X_typebarlaw23_EditUndoes, hD, hB, hE, hk1, o0, o3, hD2, hSm, u3, u3']
          all_goals trace_state
        · simp [X_typebarlaw23_EditUndoes, hD, hB, hE, h4, h5, hk1, hk2, hD2, hSm, u3, u3']
          all_goals trace_state
    · generalize (doE e a c).1 = y at hD
      generalize (doE e a c).2 = r at hD h0
      simp [X_typebarlaw23_EditUndoes, hD, hB, hE, h0]

end Go.Proofs.Ytcaglmjfphjpfaa
