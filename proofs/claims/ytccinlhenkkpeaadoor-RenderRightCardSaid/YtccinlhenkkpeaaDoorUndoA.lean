/- What the functions of layer 13 compute. -/
import Derived.Test.YtccinlhenkkpeaaDoorSlices
import Derived.Test.YtccinlhenkkpeaaDoorTyp
namespace Go.Proofs.YtccinlhenkkpeaaDoor
open Go E
set_option linter.unusedSimpArgs false
set_option linter.unusedVariables false

abbrev grn (L : List Gap) : D := row gapC false L

abbrev uD (L : List Gap) : D := .agg [grn L]

theorem nilG (b : Bool) : D.arr 0 b [] = row gapC b [] := rfl

def uIs (L : List Gap) : Bool := decide (L.length ≤ 16) && L.all gapIs

def smallU (L : List Gap) : Prop := L.length < 2000000 ∧ ∀ g ∈ L, g.A.length < 2000000 ∧ g.B.length < 2000000

def g0 : Gap := ⟨[], []⟩

/-- The last line, if there is one. -/
def lastG (L : List Gap) : Gap := match L.getLast? with
  | some g => g
  | none => g0

theorem lastG_at {L : List Gap} (h : 0 < L.length) : lastG L = L[L.length - 1] := by
  simp only [lastG]
  rw [List.getLast?_eq_getElem?, List.getElem?_eq_getElem (by omega)]

theorem lastG_mem {L : List Gap} (h : 0 < L.length) : lastG L ∈ L := by
  rw [lastG_at h]; exact List.getElem_mem _

theorem lastG_len {L : List Gap} (h : smallU L) : (lastG L).A.length < 2000000 ∧ (lastG L).B.length < 2000000 := by
  by_cases h0 : 0 < L.length
  · exact h.2 _ (lastG_mem h0)
  · have : L = [] := List.eq_nil_of_length_eq_zero (by omega)
    subst this; simp [lastG, g0]

@[simp] theorem pc_undo_Is (n : Nat) (L : List Gap) (hL : smallU L) : (W (n + 5)).pc 38 [uD L] = some (.bool (uIs L)) := by
  apply runs c_undo_Is
  obtain ⟨hL, hl⟩ := hL
  simp [X_undo_Is]
  refine aw_rounds (fun m st => ∃ i : Nat, st.t 1 = .ptr 0 0 1 ∧ st.t 6 = grn L ∧ st.t 7 = .int .i64 L.length ∧ st.t 8 = .int .i64 i ∧ (∃ R, st.h = ⟨[grn L], 0, true⟩ :: R) ∧ i ≤ L.length ∧ m = L.length - i + 1 ∧ Keep (L.all gapIs = (L.drop i).all gapIs)) ?_ ?_ (n := L.length - (0) + 1) (by first | omega | (simp; omega)) ?_
  · rintro st ⟨i, hx⟩; omega
  rotate_left
  · exact ⟨0, by first | (simp [*]; done) | (simp [*]; omega) | rfl, by first | (simp [*]; done) | (simp [*]; omega) | rfl, by first | (simp [*]; done) | (simp [*]; omega) | rfl, by first | (simp [*]; done) | (simp [*]; omega) | rfl, ⟨_, rfl⟩, by first | omega | (simp; omega) | simp [*], by first | rfl | (simp; done) | omega, ⟨by simp⟩⟩
  rintro Ja ma ⟨t, h⟩ ⟨i, ea1, ea6, ea7, ea8, ⟨Ra, hha⟩, fa1, hma, hqa⟩ hJa
  simp only [] at ea1 ea6 ea7 ea8 hha
  subst hha
  simp [ea1, ea6, ea7, ea8]
  have hs : ∀ h : i < L.length, L[i].A.length < 2000000 ∧ L[i].B.length < 2000000 := fun h => hl _ (List.getElem_mem h)
  repeat' (first
    | simp (disch := omega) only [wrap_i64, wrap_i32]
    | (simp (disch := first | omega | assumption | (simp only [i64, i32]; omega) | (simp <;> omega) | fail) only [loadD_cpr, loadD_cprs, List.take_of_length_le, pc_gap_Is]; simp [*])
    | (with_reducible refine And.intro ?_ ?_; focus first | omega | decide)
    | (with_reducible refine split_ite (fun hp => ?_) (fun hp => ?_) <;> (try simp at hp) <;> simp [*])
    | (with_reducible refine split_ite1 (fun hp => ?_) (fun hp => ?_) <;> (try simp at hp) <;> simp [*])
    | (refine split_cond (by simp) (fun hp => ?_) (fun hp => ?_) <;> simp at hp <;> simp [*])
    | (refine split_ops (by simp) (fun hp => ?_) (fun hp => ?_) <;> simp at hp <;> simp [*])
    | (refine split_opsD (by simp) (fun hp => ?_) (fun hp => ?_) <;> simp at hp <;> simp [*])
    | (refine split_pick (by simp) (fun hp => ?_) (fun hp => ?_) <;> simp at hp <;> simp [*])
    | omega
    | decide
    | (simp [*]))
  · simp only [uIs, all_no (by assumption) hp, Bool.and_false]
  · exact hJa.out _ ⟨i + 1, by first | (simp [*]; done) | (simp [*]; omega) | rfl, by first | (simp [*]; done) | (simp [*]; omega) | rfl, by first | (simp [*]; done) | (simp [*]; omega) | rfl, by first | (simp [*]; done) | (simp [*]; omega) | rfl, ⟨_, rfl⟩, by first | omega | (simp; omega) | simp [*], by omega, ⟨by rw [hqa.out, all_at (by omega)]; simp [*]⟩⟩
  · have := hqa.out
    simp [uIs, *, drop_end]; omega




def uPush (L : List Gap) (g : Gap) : List Gap :=
  if uIs L = false ∨ gapIs g = false then L else
  if L ≠ [] ∧ (lastG L).A = g.A ∧ (lastG L).B = g.B then L else L.drop (L.length - 15) ++ [g]



def uPop (L : List Gap) : List Gap × Gap × Int := if uIs L = false then ([], g0, 1) else if L = [] then ([], g0, 6) else (L.take (L.length - 1), lastG L, 0)



end Go.Proofs.YtccinlhenkkpeaaDoor
