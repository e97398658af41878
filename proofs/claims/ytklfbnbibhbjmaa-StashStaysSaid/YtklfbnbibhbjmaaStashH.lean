/- Layer 20: what lies in a stash after a line was laid down. -/
import Derived.Test.YtklfbnbibhbjmaaStashG
namespace Go.Proofs.Ytklfbnbibhbjmaa
open Go E
set_option linter.unusedSimpArgs false
set_option linter.unusedVariables false

/-- A line laid where its number tells it. -/
def sPut (at_ : Int) (g : Gap) : List (Int × Gap) → List (Int × Gap)
  | [] => [(at_, g)]
  | x :: r => if x.1 < at_ then x :: sPut at_ g r else if x.1 = at_ then (at_, g) :: r else (at_, g) :: x :: r

theorem sInto_put {m at_ : Int} {g : Gap} : ∀ {L : List (Int × Gap)} {le : Int}, slotsOk m le L = true → sInto L (sCnt L at_) (at_, g) = sPut at_ g L
  | [], _, _ => by simp [sInto, sPut, sCnt]
  | x :: r, le, h => by
    have h' := h
    simp only [slotsOk, Bool.and_eq_true, decide_eq_true_eq] at h'
    by_cases hx : x.1 < at_
    · have hc : sCnt (x :: r) at_ = sCnt r at_ + 1 := by simp [sCnt, hx]
      have ih := sInto_put (at_ := at_) (g := g) h'.2
      rw [hc, sPut, if_pos hx, ← ih]
      simp only [sInto, List.length_cons, List.getElem_cons_succ, Nat.add_lt_add_iff_right, List.take_succ_cons, List.drop_succ_cons, List.set_cons_succ]
      split <;> rfl
    · have hc : sCnt (x :: r) at_ = 0 := by
        have := sCnt_zero h'.2 (k := at_) (by omega)
        simpa [sCnt, hx] using this
      rw [hc, sPut, if_neg hx]
      by_cases he : x.1 = at_
      · simp [sInto, he]
      · simp [sInto, he]

theorem sPut_len (at_ : Int) (g : Gap) : ∀ L : List (Int × Gap), (sPut at_ g L).length ≤ L.length + 1
  | [] => by simp [sPut]
  | x :: r => by
    have := sPut_len at_ g r
    simp only [sPut]
    split
    · simp; omega
    split <;> simp

theorem sPut_find (at_ : Int) (g : Gap) (i : Int) : ∀ (L : List (Int × Gap)), sFind (sPut at_ g L) i = if i = at_ then some g else sFind L i
  | [] => by
    simp only [sPut, sFind_cons]
    by_cases h : i = at_
    · simp [h]
    · have h2 : ¬ at_ = i := fun e => h e.symm
      simp [h, h2]
  | x :: r => by
    simp only [sPut]
    split
    · rename_i hx
      rw [sFind_cons, sFind_cons, sPut_find at_ g i r]
      by_cases h : x.1 = i
      · have : ¬ i = at_ := by omega
        simp [h, this]
      · simp [h]
    split
    · rename_i hx he
      rw [sFind_cons, sFind_cons]
      by_cases h : i = at_
      · simp [h]
      · have h2 : ¬ at_ = i := fun e => h e.symm
        have h3 : ¬ x.1 = i := by omega
        simp [h, h2, h3]
    · rw [sFind_cons]
      by_cases h : i = at_
      · simp [h]
      · have h2 : ¬ at_ = i := fun e => h e.symm
        simp [h, h2]

theorem sPut_ok {m at_ : Int} {g : Gap} (hg : gapIs g = true) (hm : at_ ≤ m) : ∀ {L : List (Int × Gap)} {le : Int}, slotsOk m le L = true → le ≤ at_ → slotsOk m le (sPut at_ g L) = true
  | [], le, _, ha => by simp [sPut, slotsOk, hg, ha, hm]
  | x :: r, le, h, ha => by
    simp only [slotsOk, Bool.and_eq_true, decide_eq_true_eq] at h
    simp only [sPut]
    split
    · rename_i hx
      simp only [slotsOk, Bool.and_eq_true, decide_eq_true_eq]
      exact ⟨h.1, sPut_ok hg hm h.2 (by omega)⟩
    split
    · rename_i hx he
      simp only [slotsOk, Bool.and_eq_true, decide_eq_true_eq]
      exact ⟨⟨⟨ha, hm⟩, hg⟩, by rw [← he]; exact h.2⟩
    · simp only [slotsOk, Bool.and_eq_true, decide_eq_true_eq]
      exact ⟨⟨⟨ha, hm⟩, hg⟩, ⟨⟨by omega, h.1.1.2⟩, h.1.2⟩, h.2⟩

theorem sGo_ok {s : StashM} {p : Past} {g : Gap} {to : Int} (h : (sGo s p g to).2.2 = 0) : sIs s p = true ∧ gapIs g = true ∧ (0 ≤ to ∧ to ≤ p.L.length ∧ to ≠ s.at_) ∧ sGo s p g to = (⟨to, sPut s.at_ g s.L⟩, sTake s p to, 0) := by
  have h0 := h
  simp only [sGo] at h
  split at h
  · rename_i h1
    split at h
    · rename_i h2
      have h3 : slotsOk p.L.length 0 s.L = true := by
        have := h1.1
        simp only [sIs, Bool.and_eq_true] at this
        exact this.2
      exact ⟨h1.1, h1.2, h2, by rw [sGo, if_pos h1, if_pos h2, sInto_put h3]⟩
    · exact absurd h (by decide)
  · exact absurd h (by decide)

theorem sGo_is {s : StashM} {p : Past} {g : Gap} {to : Int} (h1 : sIs s p = true) (h2 : gapIs g = true) (h3 : 0 ≤ to ∧ to ≤ p.L.length) : sIs ⟨to, sPut s.at_ g s.L⟩ p = true := by
  simp only [sIs, Bool.and_eq_true, decide_eq_true_eq] at h1 ⊢
  exact ⟨⟨h1.1.1, h3⟩, sPut_ok h2 h1.1.2.2 h1.2 h1.1.2.1⟩

theorem sPut_mem {at_ : Int} {g : Gap} : ∀ {L : List (Int × Gap)} {x : Int × Gap}, x ∈ sPut at_ g L → x ∈ L ∨ x = (at_, g)
  | [], x, h => by simpa [sPut] using h
  | y :: r, x, h => by
    simp only [sPut] at h
    split at h
    · rcases List.mem_cons.1 h with h | h
      · exact .inl (h ▸ List.mem_cons_self ..)
      · rcases sPut_mem h with h | h
        · exact .inl (List.mem_cons_of_mem _ h)
        · exact .inr h
    split at h
    · rcases List.mem_cons.1 h with h | h
      · exact .inr h
      · exact .inl (List.mem_cons_of_mem _ h)
    · rcases List.mem_cons.1 h with h | h
      · exact .inr h
      · exact .inl h

theorem sPut_small {at_ : Int} {g : Gap} {L : List (Int × Gap)} {k : Nat} (hk : L.length ≤ k) (hk2 : k ≤ 1000000) (hs : smallS L) (hg : g.A.length < 2000000 ∧ g.B.length < 2000000) : smallS (sPut at_ g L) ∧ (sPut at_ g L).length ≤ k + 1 := by
  have := sPut_len at_ g L
  refine ⟨⟨by omega, fun x hx => ?_⟩, by omega⟩
  rcases sPut_mem hx with h | h
  · exact hs.2 x h
  · rw [h]; exact hg

/-- Who goes elsewhere, and back, and there again. -/
theorem sGo_back {s : StashM} {p : Past} {g h : Gap} {to : Int} (he : (sGo s p g to).2.2 = 0) (hf : (sGo (sGo s p g to).1 p h s.at_).2.2 = 0) :
    (sGo s p g to).1.at_ = to ∧ (sGo (sGo s p g to).1 p h s.at_).1.at_ = s.at_ ∧ (sGo (sGo s p g to).1 p h s.at_).2.1 = g ∧
    (sGo (sGo (sGo s p g to).1 p h s.at_).1 p g to).2.1 = h ∧ (sGo (sGo (sGo s p g to).1 p h s.at_).1 p g to).2.2 = 0 := by
  obtain ⟨a1, a2, a3, a4⟩ := sGo_ok he
  rw [a4] at hf ⊢
  obtain ⟨b1, b2, b3, b4⟩ := sGo_ok hf
  rw [b4]
  have hi := sGo_is b1 b2 ⟨b3.1, b3.2.1⟩
  have hn := a3.2.2
  refine ⟨rfl, rfl, ?_, ?_, ?_⟩
  · simp [sTake, sPut_find]
  · rw [sGo, if_pos ⟨hi, a2⟩, if_pos ⟨a3.1, a3.2.1, a3.2.2⟩]
    simp [sTake, sPut_find]
  · rw [sGo, if_pos ⟨hi, a2⟩, if_pos ⟨a3.1, a3.2.1, a3.2.2⟩]

end Go.Proofs.Ytklfbnbibhbjmaa
