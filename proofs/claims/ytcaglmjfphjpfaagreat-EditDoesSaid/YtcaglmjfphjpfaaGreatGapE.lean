/- What the laws of layer 10 that ask no reference compute. -/
import Derived.Test.YtcaglmjfphjpfaaGreatGapC
namespace Go.Proofs.YtcaglmjfphjpfaaGreat
open Go E
set_option linter.unusedSimpArgs false
set_option linter.unusedVariables false

theorem allR_take {l : List Int} (h : allR l = true) (k : Nat) : allR (l.take k) = true := by
  simp only [allR, List.all_eq_true] at *
  exact fun x hx => h x (List.mem_of_mem_take hx)

theorem allR_drop2 {l : List Int} (h : allR l = true) (k : Nat) : allR (l.drop k) = true := by
  simp only [allR, List.all_eq_true] at *
  exact fun x hx => h x (List.mem_of_mem_drop hx)

theorem gapIs_mk {a b : List Int} (hn : a.length + b.length ≤ 200) (ha : allR a = true) (hb : allR b = true) : gapIs ⟨a, b⟩ = true := by simp [gapIs, *]

theorem gapCut_is {g : Gap} (h : gapIs g = true) (k : Int) : gapIs (gapCut g k).1 = true ∧ (gapCut g k).1.A.length + (gapCut g k).1.B.length + (gapCut g k).2.length = g.A.length + g.B.length := by
  obtain ⟨h1, h2, h3⟩ := gapIs_len h
  simp only [gapCut, h]
  split
  · simp at *
  split
  · exact ⟨gapIs_mk (by simp; omega) h2 (allR_drop2 h3 _), by simp; omega⟩
  · exact ⟨gapIs_mk (by simp; omega) (allR_take h2 _) h3, by simp; omega⟩

theorem gapGo_is {g : Gap} (h : gapIs g = true) (k : Int) : gapIs (gapGo g k) = true ∧ (gapGo g k).A ++ (gapGo g k).B = g.A ++ g.B := by
  obtain ⟨h1, h2, h3⟩ := gapIs_len h
  have h4 : allR (g.A ++ g.B) = true := by simp [h2, h3]
  simp only [gapGo, h, gapSplit, if_true]
  exact ⟨gapIs_mk (by simp; omega) (allR_take h4 _) (allR_drop2 h4 _), List.take_append_drop _ _⟩

theorem gapInsert_is {g : Gap} (h : gapIs g = true) (l : List Int) : ((gapInsert g l).2 = 0 → gapIs (gapInsert g l).1 = true ∧ (gapInsert g l).1.A.length + (gapInsert g l).1.B.length = g.A.length + g.B.length + l.length) ∧
    decide ((gapInsert g l).2 = 5) = (decide (200 < g.A.length + g.B.length + l.length) && allR l) := by
  obtain ⟨h1, h2, h3⟩ := gapIs_len h
  cases hl : allR l
  · simp [gapInsert, h, hl]
  · simp only [gapInsert, h, hl]
    by_cases hn : 200 < g.A.length + g.B.length + l.length
    · simp [hn]
    · simp only [hn]
      refine ⟨fun _ => ⟨gapIs_mk (by simp; omega) (by simp [*]) h3, by simp; omega⟩, by simp⟩


theorem gapBack1 {g : Gap} {l : List Int} (h : (gapInsert g l).2 = 0) : gapCut (gapInsert g l).1 (-(l.length : Int)) = (g, l) := by
  simp only [gapInsert] at h ⊢
  split at h
  · simp at h
  rename_i h1
  simp only [not_or, Bool.not_eq_false] at h1
  obtain ⟨h1, h4⟩ := h1
  split at h
  · simp at h
  rename_i h5
  obtain ⟨_, h2, h3⟩ := gapIs_len h1
  have h6 : gapIs ⟨g.A ++ l, g.B⟩ = true := gapIs_mk (by simp; omega) (by simp [*]) h3
  have e1 : ¬ (0 : Int) < -(l.length : Int) := by omega
  simp [h1, h4, h5, gapCut, h6, e1]
  intro h7; omega

theorem gapBack2 {g : Gap} (h : gapIs g = true) (k : Int) : (gapInsert (gapCut g k).1 (gapCut g k).2).2 = 0 ∧
    (k ≤ 0 → (gapInsert (gapCut g k).1 (gapCut g k).2).1 = g) ∧ (0 < k → gapGo (gapInsert (gapCut g k).1 (gapCut g k).2).1 g.A.length = g) := by
  obtain ⟨h1, h2, h3⟩ := gapIs_len h
  have ⟨c1, c2⟩ := gapCut_is h k
  have a1 : allR (gapCut g k).2 = true := by
    simp only [gapCut, h]
    split
    · rfl
    split
    · exact allR_take h3 _
    · exact allR_drop2 h2 _
  have h0 : ¬ 200 < (gapCut g k).1.A.length + (gapCut g k).1.B.length + (gapCut g k).2.length := by omega
  simp only [gapInsert, c1, a1, h0]
  refine ⟨rfl, fun hk => ?_, fun hk => ?_⟩
  · have e1 : ¬ 0 < k := by omega
    simp [gapCut, h, e1]
  · have h6 : gapIs ⟨g.A ++ g.B.take (min k.toNat g.B.length), g.B.drop (min k.toNat g.B.length)⟩ = true :=
      gapIs_mk (by simp; omega) (by simp [h2, allR_take h3]) (allR_drop2 h3 _)
    simp [gapCut, h, hk, gapGo, h6, gapSplit]


end Go.Proofs.YtcaglmjfphjpfaaGreat
