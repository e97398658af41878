/- What the laws of layer 14 on two signs changed about compute. -/
import Derived.Test.YtcaglmjfphjpfaaGreatShapeB
import Derived.Test.YtcaglmjfphjpfaaGreatShapeC
namespace Go.Proofs.YtcaglmjfphjpfaaGreat
open Go E
set_option linter.unusedSimpArgs false
set_option linter.unusedVariables false

theorem swapAt_len (g : Gap) (h : 0 < g.A.length) : swapAt g < g.A.length + g.B.length := by rw [swapAt]; split <;> omega

theorem gSwap_len (g : Gap) : (gSwap g).1.A.length ≤ g.A.length + g.B.length ∧ (gSwap g).1.B.length ≤ g.A.length + g.B.length := by
  simp only [gSwap]
  split
  · simp
  split
  · simp
  · simp only [gapSplit, List.length_take, List.length_drop, swapL_length, List.length_append]; omega


theorem swapL_swapL {l : List Int} {k : Nat} (h0 : 0 < k) (h : k < l.length) : swapL (swapL l k) k = l := by
  have e1 : (swapL l k).getD k 0 = l.getD (k - 1) 0 := by
    rw [getD_at (by rw [swapL_length]; exact h)]
    simp only [swapL, List.getElem_set_self]
  have e2 : (swapL l k).getD (k - 1) 0 = l.getD k 0 := by
    rw [getD_at (by rw [swapL_length]; omega)]
    simp only [swapL]
    rw [List.getElem_set_ne (by omega), List.getElem_set_self]
  rw [swapL, e1, e2]
  refine List.ext_getElem (by simp [swapL_length]) fun i h1 h2 => ?_
  rw [List.getElem_set]
  by_cases hi : k = i
  · subst hi; rw [if_pos rfl, getD_at h2]
  · rw [if_neg hi, List.getElem_set]
    by_cases hj : k - 1 = i
    · subst hj; rw [if_pos rfl, getD_at h2]
    · rw [if_neg hj]
      simp only [swapL]
      rw [List.getElem_set_ne hi, List.getElem_set_ne hj]

/-- What a line becomes whose signs are changed about, and what becomes of it if that is done again, one sign ahead. -/
theorem gSwap_back {g : Gap} (h : (gSwap g).2 = 0) : gapIs (gSwap g).1 = true ∧ (gSwap (gapGo (gSwap g).1 ((gSwap g).1.A.length - 1))).2 = 0 ∧
    (gSwap (gapGo (gSwap g).1 ((gSwap g).1.A.length - 1))).1.A ++ (gSwap (gapGo (gSwap g).1 ((gSwap g).1.A.length - 1))).1.B = g.A ++ g.B ∧ g.A.length ≤ (gSwap g).1.A.length ∧ (gSwap g).1.A.length ≤ g.A.length + 1 ∧ gapIs g = true := by
  have hg : gapIs g = true := by
    cases hg : gapIs g
    · rw [gSwap, if_pos hg] at h; simp at h
    · rfl
  have hn : ¬ (g.A.length = 0 ∨ g.A.length + g.B.length < 2) := by
    intro hn
    rw [gSwap, if_neg (by simp [hg]), if_pos hn] at h
    simp at h
  have e : gSwap g = (gapSplit (swapL (g.A ++ g.B) (swapAt g)) (swapAt g + 1), 0) := by rw [gSwap, if_neg (by simp [hg]), if_neg hn]
  obtain ⟨g1, g2, g3⟩ := gapIs_len hg
  have hk : 0 < swapAt g ∧ swapAt g < g.A.length + g.B.length ∧ g.A.length ≤ swapAt g + 1 ∧ swapAt g ≤ g.A.length := by rw [swapAt]; split <;> omega
  generalize swapAt g = k at *
  have hl : (swapL (g.A ++ g.B) k).length = g.A.length + g.B.length := by rw [swapL_length]; simp
  have ha : allR (swapL (g.A ++ g.B) k) = true := swapL_all (by simp; omega) (by simp [g2, g3])
  rw [e]
  generalize hX : swapL (g.A ++ g.B) k = X at *
  have hall : ∀ m, gapIs (gapSplit X m) = true := by
    intro m
    have h1 : allR (X.take m ++ X.drop m) = true := by rw [List.take_append_drop]; exact ha
    simp only [allR_append, Bool.and_eq_true] at h1
    simp only [gapIs, gapSplit, Bool.and_eq_true, decide_eq_true_eq, List.length_take, List.length_drop]
    exact ⟨⟨by omega, h1.1⟩, h1.2⟩
  have hlen : (gapSplit X (k + 1)).A.length = k + 1 := by simp [gapSplit]; omega
  have hgo : gapGo (gapSplit X (k + 1)) ((k + 1 : Nat) - 1 : Int) = gapSplit X k := by
    rw [gapGo, if_pos (hall _)]
    simp only [gapSplit, List.take_append_drop]
    congr 2 <;> omega
  have hsw : gSwap (gapSplit X k) = (gapSplit (g.A ++ g.B) (k + 1), 0) := by
    have h1 : (gapSplit X k).A.length = k := by simp [gapSplit]; omega
    have h2 : (gapSplit X k).B.length = g.A.length + g.B.length - k := by simp [gapSplit]; omega
    have h3 : swapAt (gapSplit X k) = k := by rw [swapAt, if_neg (by omega), h1]
    rw [gSwap, if_neg (by simp [hall]), if_neg (by omega), h3]
    simp only [gapSplit, List.take_append_drop]
    rw [← hX, swapL_swapL hk.1 (by simp; omega)]
  simp only [hlen, hgo, hsw]
  refine ⟨hall _, trivial, by simp [gapSplit], by omega, by omega, hg⟩

theorem gSwap_err {g : Gap} (h : (gSwap g).2 ≠ 0) : decide ((gSwap g).2 = 1) = !gapIs g ∧ ((gSwap g).2 = 1 ∨ g.A.length = 0 ∨ g.A.length + g.B.length < 2) := by
  cases hg : gapIs g
  · simp [gSwap, hg]
  · by_cases hn : g.A.length = 0 ∨ g.A.length + g.B.length < 2
    · rw [gSwap, if_neg (by simp [hg]), if_pos hn]
      exact ⟨rfl, .inr hn⟩
    · rw [gSwap, if_neg (by simp [hg]), if_neg hn] at h
      simp at h


end Go.Proofs.YtcaglmjfphjpfaaGreat
