/- What the laws of layer 13 compute. -/
import Derived.Test.YtcaglmjfphjpfaaGreatUndoA
namespace Go.Proofs.YtcaglmjfphjpfaaGreat
open Go E
set_option linter.unusedSimpArgs false
set_option linter.unusedVariables false

theorem gap_ext {a b : Gap} (h : a.A = b.A ∧ a.B = b.B) : a = b := by
  cases a; cases b; simpa using h

theorem gap_iff {a b : Gap} : (a.A = b.A ∧ a.B = b.B) ↔ a = b := ⟨gap_ext, by rintro rfl; simp⟩

@[simp] theorem pc_ref13_Same (n : Nat) (A B : List Gap) (hA : smallU A) : (W (n + 3)).pc 31 [uD A, uD B] = some (.bool (decide (A = B))) := by
  apply runs c_typebarref13_Same
  obtain ⟨hL, hl⟩ := hA
  simp [X_typebarref13_Same]
  repeat' (first
    | simp (disch := omega) only [wrap_i64, wrap_i32]
    | (simp (disch := first | omega | assumption | (simp only [i64, i32]; omega) | (simp <;> omega) | fail) only [loadD_cpr, loadD_cprs, List.take_of_length_le]; simp [*])
    | (with_reducible refine And.intro ?_ ?_; focus first | omega | decide)
    | (with_reducible refine split_ite (fun hp => ?_) (fun hp => ?_) <;> (try simp at hp) <;> simp [*])
    | (with_reducible refine split_ite1 (fun hp => ?_) (fun hp => ?_) <;> (try simp at hp) <;> simp [*])
    | (refine split_cond (by simp) (fun hp => ?_) (fun hp => ?_) <;> simp at hp <;> simp [*])
    | (refine split_ops (by simp) (fun hp => ?_) (fun hp => ?_) <;> simp at hp <;> simp [*])
    | (refine split_opsD (by simp) (fun hp => ?_) (fun hp => ?_) <;> simp at hp <;> simp [*])
    | (refine split_pick (by simp) (fun hp => ?_) (fun hp => ?_) <;> simp at hp <;> simp [*])
    | omega
    | decide
    | (simp [*]))
  · intro e; subst e; simp at *
  refine aw_rounds (fun m st => ∃ i : Nat, st.t 2 = .ptr 0 0 1 ∧ st.t 3 = .ptr 1 0 1 ∧ st.t 5 = .int .i64 i ∧ st.h = [⟨[grn A], 0, true⟩, ⟨[grn B], 0, true⟩] ∧ i ≤ A.length ∧ m = A.length - i + 1 ∧ Keep (A.take i = B.take i)) ?_ ?_ (n := A.length - (0) + 1) (by first | omega | (simp; omega)) ?_
  · rintro st ⟨i, hx⟩; omega
  rotate_left
  · exact ⟨0, by first | (simp [*]; done) | (simp [*]; omega) | rfl, by first | (simp [*]; done) | (simp [*]; omega) | rfl, by first | (simp [*]; done) | (simp [*]; omega) | rfl, by first | (simp [*]; done) | (simp [*]; omega) | rfl, by first | omega | (simp; omega) | simp [*], by first | rfl | (simp; done) | omega, ⟨by simp⟩⟩
  rintro Ja ma ⟨t, h⟩ ⟨i, ea2, ea3, ea5, hha, fa1, hma, hqa⟩ hJa
  simp only [] at ea2 ea3 ea5 hha
  subst hha
  simp [ea2, ea3, ea5]
  have hs : ∀ h : i < A.length, A[i].A.length < 2000000 ∧ A[i].B.length < 2000000 := fun h => hl _ (List.getElem_mem h)
  repeat' (first
    | simp (disch := omega) only [wrap_i64, wrap_i32]
    | (simp (disch := first | omega | assumption | (simp only [i64, i32]; omega) | (simp <;> omega) | fail) only [loadD_cpr, loadD_cprs, List.take_of_length_le, pc_ref10_Same]; simp [*])
    | (with_reducible refine And.intro ?_ ?_; focus first | omega | decide)
    | (with_reducible refine split_ite (fun hp => ?_) (fun hp => ?_) <;> (try simp at hp) <;> simp [*])
    | (with_reducible refine split_ite1 (fun hp => ?_) (fun hp => ?_) <;> (try simp at hp) <;> simp [*])
    | (refine split_cond (by simp) (fun hp => ?_) (fun hp => ?_) <;> simp at hp <;> simp [*])
    | (refine split_ops (by simp) (fun hp => ?_) (fun hp => ?_) <;> simp at hp <;> simp [*])
    | (refine split_opsD (by simp) (fun hp => ?_) (fun hp => ?_) <;> simp at hp <;> simp [*])
    | (refine split_pick (by simp) (fun hp => ?_) (fun hp => ?_) <;> simp at hp <;> simp [*])
    | omega
    | decide
    | (simp [*]))
  · intro e; subst e; simp at hp
  · exact hJa.out _ ⟨i + 1, by first | (simp [*]; done) | (simp [*]; omega) | rfl, by first | (simp [*]; done) | (simp [*]; omega) | rfl, by first | (simp [*]; done) | (simp [*]; omega) | rfl, by first | (simp [*]; done) | (simp [*]; omega) | rfl, by first | omega | (simp; omega) | simp [*], by omega, ⟨by rw [← List.take_append_getElem (by omega), ← List.take_append_getElem (by omega), hqa.out, gap_ext hp]⟩⟩
  · have := hqa.out
    rwa [List.take_of_length_le (by omega), List.take_of_length_le (by omega)] at this


def gBig (g : Gap) : Bool := decide (1000 < g.A.length) || decide (1000 < g.B.length)

def uBig (L : List Gap) (g : Gap) : Bool := decide (100 < L.length) || gBig g || L.any gBig


theorem uBig_small {L : List Gap} {g : Gap} (h : uBig L g = false) : smallU L ∧ g.A.length ≤ 1000 ∧ g.B.length ≤ 1000 ∧ L.length ≤ 100 ∧ ∀ x ∈ L, x.A.length ≤ 1000 ∧ x.B.length ≤ 1000 := by
  simp only [uBig, gBig, Bool.or_eq_false_iff, decide_eq_false_iff_not, List.any_eq_false, Bool.or_eq_true, decide_eq_true_eq, not_or] at h
  refine ⟨⟨by omega, fun x hx => ?_⟩, by omega, by omega, by omega, fun x hx => ?_⟩
  · have := h.2 x hx; omega
  · have := h.2 x hx; omega

theorem uPush_mem {L : List Gap} {g x : Gap} (h : x ∈ uPush L g) : x ∈ L ∨ x = g := by
  simp only [uPush] at h
  split at h
  · exact .inl h
  split at h
  · exact .inl h
  · rcases List.mem_append.1 h with h | h
    · exact .inl (List.mem_of_mem_drop h)
    · exact .inr (by simpa using h)

theorem uPush_len (L : List Gap) (g : Gap) : (uPush L g).length ≤ L.length + 1 := by
  simp only [uPush]
  split
  · omega
  split
  · omega
  · simp <;> omega

theorem uPush_small {L : List Gap} {g : Gap} (hl : L.length ≤ 100) (hx : ∀ x ∈ L, x.A.length ≤ 1000 ∧ x.B.length ≤ 1000) (hA : g.A.length ≤ 1000) (hB : g.B.length ≤ 1000) : smallU (uPush L g) := by
  have := uPush_len L g
  refine ⟨by omega, fun x h => ?_⟩
  rcases uPush_mem h with h | rfl
  · have := hx x h; omega
  · omega

theorem uPop_small {L : List Gap} (h : smallU L) : smallU (uPop L).1 ∧ (uPop L).2.1.A.length < 2000000 ∧ (uPop L).2.1.B.length < 2000000 := by
  simp only [uPop]
  split
  · simp [smallU, g0]
  split
  · simp [smallU, g0]
  · refine ⟨⟨?_, fun x hx => h.2 x (List.mem_of_mem_take hx)⟩, lastG_len h⟩
    have := h.1
    simp; try omega


theorem uIs_len {L : List Gap} (h : uIs L = true) : L.length ≤ 16 ∧ ∀ g ∈ L, gapIs g = true := by
  simp only [uIs, Bool.and_eq_true, decide_eq_true_eq, List.all_eq_true] at h
  exact h

theorem uIs_mk {L : List Gap} (h : L.length ≤ 16) (h2 : ∀ g ∈ L, gapIs g = true) : uIs L = true := by
  simp only [uIs, Bool.and_eq_true, decide_eq_true_eq, List.all_eq_true]; exact ⟨h, h2⟩

/-- What is pushed: nothing, for it is there; or a new line. -/
theorem uPush_new {L : List Gap} {g : Gap} (hk : uIs L = true) (hg : gapIs g = true) :
    (uPush L g = L ∧ uPop L = (L.take (L.length - 1), g, 0) ∧ uIs (L.take (L.length - 1)) = true ∧ 0 < L.length) ∨
    (uPush L g = L.drop (L.length - 15) ++ [g] ∧ uIs (L.drop (L.length - 15) ++ [g]) = true ∧ uPop (L.drop (L.length - 15) ++ [g]) = (L.drop (L.length - 15), g, 0) ∧ uIs (L.drop (L.length - 15)) = true) := by
  obtain ⟨k1, k2⟩ := uIs_len hk
  by_cases h : L ≠ [] ∧ (lastG L).A = g.A ∧ (lastG L).B = g.B
  · left
    have e : uPush L g = L := by rw [uPush, if_neg (by simp [hk, hg]), if_pos h]
    have e2 : lastG L = g := gap_ext h.2
    have hn := List.length_pos_iff.2 h.1
    exact ⟨e, by simp [uPop, hk, h.1, e2], uIs_mk (by simp; omega) fun x hx => k2 x (List.mem_of_mem_take hx), hn⟩
  · right
    have hk2 : uIs (L.drop (L.length - 15) ++ [g]) = true := uIs_mk (by simp; omega) fun x hx => by
      rcases List.mem_append.1 hx with hx | hx
      · exact k2 x (List.mem_of_mem_drop hx)
      · rw [List.mem_singleton.1 hx]; exact hg
    refine ⟨by rw [uPush, if_neg (by simp [hk, hg]), if_neg h], hk2, ?_, uIs_mk (by simp; omega) fun x hx => k2 x (List.mem_of_mem_drop hx)⟩
    simp [uPop, hk2, lastG]


end Go.Proofs.YtcaglmjfphjpfaaGreat
