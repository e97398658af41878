/- What the laws of layer 13 compute. -/
import Derived.Test.YtccinlhenkkpeaaDoorUndoA
namespace Go.Proofs.YtccinlhenkkpeaaDoor
open Go E
set_option linter.unusedSimpArgs false
set_option linter.unusedVariables false

theorem gap_ext {a b : Gap} (h : a.A = b.A ∧ a.B = b.B) : a = b := by
  cases a; cases b; simpa using h

theorem gap_iff {a b : Gap} : (a.A = b.A ∧ a.B = b.B) ↔ a = b := ⟨gap_ext, by rintro rfl; simp⟩



def gBig (g : Gap) : Bool := decide (1000 < g.A.length) || decide (1000 < g.B.length)

def uBig (L : List Gap) (g : Gap) : Bool := decide (100 < L.length) || gBig g || L.any gBig


theorem uBig_small {L : List Gap} {g : Gap} (h : uBig L g = false) : smallU L ∧ g.A.length ≤ 1000 ∧ g.B.length ≤ 1000 ∧ L.length ≤ 100 ∧ ∀ x ∈ L, x.A.length ≤ 1000 ∧ x.B.length ≤ 1000 := by
  simp only [uBig, gBig, Bool.or_eq_false_iff, decide_eq_false_iff_not, List.any_eq_false, Bool.or_eq_true, decide_eq_true_eq, not_or] at h
  refine ⟨⟨by omega, fun x hx => ?_⟩, by omega, by omega, by omega, fun x hx => ?_⟩
  · have := h.2 x hx; omega
  · have := h.2 x hx; omega

theorem uPush_mem {L : List Gap} {g x : Gap} (h : x ∈ uPush L g) : x ∈ L ∨ x = g := by
  simp only [uPush] at h
  split at h
  · exact .inl h
  split at h
  · exact .inl h
  · rcases List.mem_append.1 h with h | h
    · exact .inl (List.mem_of_mem_drop h)
    · exact .inr (by simpa using h)

theorem uPush_len (L : List Gap) (g : Gap) : (uPush L g).length ≤ L.length + 1 := by
  simp only [uPush]
  split
  · omega
  split
  · omega
  · simp <;> omega

theorem uPush_small {L : List Gap} {g : Gap} (hl : L.length ≤ 100) (hx : ∀ x ∈ L, x.A.length ≤ 1000 ∧ x.B.length ≤ 1000) (hA : g.A.length ≤ 1000) (hB : g.B.length ≤ 1000) : smallU (uPush L g) := by
  have := uPush_len L g
  refine ⟨by omega, fun x h => ?_⟩
  rcases uPush_mem h with h | rfl
  · have := hx x h; omega
  · omega

theorem uPop_small {L : List Gap} (h : smallU L) : smallU (uPop L).1 ∧ (uPop L).2.1.A.length < 2000000 ∧ (uPop L).2.1.B.length < 2000000 := by
  simp only [uPop]
  split
  · simp [smallU, g0]
  split
  · simp [smallU, g0]
  · refine ⟨⟨?_, fun x hx => h.2 x (List.mem_of_mem_take hx)⟩, lastG_len h⟩
    have := h.1
    simp; try omega


theorem uIs_len {L : List Gap} (h : uIs L = true) : L.length ≤ 16 ∧ ∀ g ∈ L, gapIs g = true := by
  simp only [uIs, Bool.and_eq_true, decide_eq_true_eq, List.all_eq_true] at h
  exact h

theorem uIs_mk {L : List Gap} (h : L.length ≤ 16) (h2 : ∀ g ∈ L, gapIs g = true) : uIs L = true := by
  simp only [uIs, Bool.and_eq_true, decide_eq_true_eq, List.all_eq_true]; exact ⟨h, h2⟩

/-- What is pushed: nothing, for it is there; or a new line. -/
theorem uPush_new {L : List Gap} {g : Gap} (hk : uIs L = true) (hg : gapIs g = true) :
    (uPush L g = L ∧ uPop L = (L.take (L.length - 1), g, 0) ∧ uIs (L.take (L.length - 1)) = true ∧ 0 < L.length) ∨
    (uPush L g = L.drop (L.length - 15) ++ [g] ∧ uIs (L.drop (L.length - 15) ++ [g]) = true ∧ uPop (L.drop (L.length - 15) ++ [g]) = (L.drop (L.length - 15), g, 0) ∧ uIs (L.drop (L.length - 15)) = true) := by
  obtain ⟨k1, k2⟩ := uIs_len hk
  by_cases h : L ≠ [] ∧ (lastG L).A = g.A ∧ (lastG L).B = g.B
  · left
    have e : uPush L g = L := by rw [uPush, if_neg (by simp [hk, hg]), if_pos h]
    have e2 : lastG L = g := gap_ext h.2
    have hn := List.length_pos_iff.2 h.1
    exact ⟨e, by simp [uPop, hk, h.1, e2], uIs_mk (by simp; omega) fun x hx => k2 x (List.mem_of_mem_take hx), hn⟩
  · right
    have hk2 : uIs (L.drop (L.length - 15) ++ [g]) = true := uIs_mk (by simp; omega) fun x hx => by
      rcases List.mem_append.1 hx with hx | hx
      · exact k2 x (List.mem_of_mem_drop hx)
      · rw [List.mem_singleton.1 hx]; exact hg
    refine ⟨by rw [uPush, if_neg (by simp [hk, hg]), if_neg h], hk2, ?_, uIs_mk (by simp; omega) fun x hx => k2 x (List.mem_of_mem_drop hx)⟩
    simp [uPop, hk2, lastG]


end Go.Proofs.YtccinlhenkkpeaaDoor
