/- What the functions of layer 12 compute. -/
import Derived.Test.YtccinlhenkkpeaaDoorGapA
import Derived.Test.YtccinlhenkkpeaaDoorTyp
namespace Go.Proofs.YtccinlhenkkpeaaDoor
open Go E
set_option linter.unusedSimpArgs false
set_option linter.unusedVariables false

abbrev rrC : Cell (List Int) := rowC runeC

abbrev rrn (L : List (List Int)) : D := row rrC false L

abbrev kD (L : List (List Int)) : D := .agg [rrn L]

theorem nilRR (b : Bool) : D.arr 0 b [] = row rrC b [] := rfl

def kOne (l : List Int) : Bool := decide (0 < l.length) && decide (l.length ≤ 200) && allR l

def kIs (L : List (List Int)) : Bool := decide (L.length ≤ 8) && L.all kOne

def small (L : List (List Int)) : Prop := L.length < 2000000 ∧ ∀ l ∈ L, l.length < 2000000

theorem allR_no {l : List Int} {i : Nat} (h : i < l.length) (hp : isR l[i] = false) : allR l = false := all_no h hp

@[simp] theorem pc_kill_one (n : Nat) (l : List Int) (hl : l.length < 2000000) : (W (n + 3)).pc 48 [rn l] = some (.bool (kOne l)) := by
  apply runs c_kill_one
  simp [X_kill_one]
  refine aw_rounds (fun m st => ∃ i : Nat, st.t 0 = rn l ∧ st.t 5 = rn l ∧ st.t 6 = .int .i64 l.length ∧ st.t 7 = .int .i64 i ∧ st.h = [] ∧ i ≤ l.length ∧ m = l.length - i + 1 ∧ Keep (allR l = allR (l.drop i))) ?_ ?_ (n := l.length - (0) + 1) (by first | omega | (simp; omega)) ?_
  · rintro st ⟨i, hx⟩; omega
  rotate_left
  · exact ⟨0, by first | (simp [*]; done) | (simp [*]; omega) | rfl, by first | (simp [*]; done) | (simp [*]; omega) | rfl, by first | (simp [*]; done) | (simp [*]; omega) | rfl, by first | (simp [*]; done) | (simp [*]; omega) | rfl, by first | (simp [*]; done) | (simp [*]; omega) | rfl, by first | omega | (simp; omega) | simp [*], by first | rfl | (simp; done) | omega, ⟨by simp⟩⟩
  rintro Ja ma ⟨t, h⟩ ⟨i, ea0, ea5, ea6, ea7, hha, fa1, hma, hqa⟩ hJa
  simp only [] at ea0 ea5 ea6 ea7 hha
  subst hha
  simp [ea0, ea5, ea6, ea7]
  repeat' (first
    | simp (disch := omega) only [wrap_i64, wrap_i32]
    | (simp (disch := first | omega | assumption | (simp only [i64, i32]; omega) | (simp <;> omega) | fail) only [loadD_cpr, loadD_cprs, List.take_of_length_le]; simp [*])
    | (with_reducible refine And.intro ?_ ?_; focus first | omega | decide)
    | (with_reducible refine split_ite (fun hp => ?_) (fun hp => ?_) <;> (try simp at hp) <;> simp [*])
    | (with_reducible refine split_ite1 (fun hp => ?_) (fun hp => ?_) <;> (try simp at hp) <;> simp [*])
    | (refine split_cond (by simp) (fun hp => ?_) (fun hp => ?_) <;> simp at hp <;> simp [*])
    | (refine split_ops (by simp) (fun hp => ?_) (fun hp => ?_) <;> simp at hp <;> simp [*])
    | (refine split_opsD (by simp) (fun hp => ?_) (fun hp => ?_) <;> simp at hp <;> simp [*])
    | (refine split_pick (by simp) (fun hp => ?_) (fun hp => ?_) <;> simp at hp <;> simp [*])
    | omega
    | decide
    | (simp [*]))
  · simp [kOne, allR_no (by assumption) hp]
  · exact hJa.out _ ⟨i + 1, by first | (simp [*]; done) | (simp [*]; omega) | rfl, by first | (simp [*]; done) | (simp [*]; omega) | rfl, by first | (simp [*]; done) | (simp [*]; omega) | rfl, by first | (simp [*]; done) | (simp [*]; omega) | rfl, by first | (simp [*]; done) | (simp [*]; omega) | rfl, by first | omega | (simp; omega) | simp [*], by omega, ⟨by rw [hqa.out, allR_drop (by omega)]; simp [*]⟩⟩
  · have := hqa.out
    simp [kOne, *, drop_end]; omega


@[simp] theorem pc_kill_Is (n : Nat) (L : List (List Int)) (hL : small L) : (W (n + 4)).pc 37 [kD L] = some (.bool (kIs L)) := by
  apply runs c_kill_Is
  obtain ⟨hL, hl⟩ := hL
  simp [X_kill_Is]
  refine aw_rounds (fun m st => ∃ i : Nat, st.t 1 = .ptr 0 0 1 ∧ st.t 6 = rrn L ∧ st.t 7 = .int .i64 L.length ∧ st.t 8 = .int .i64 i ∧ st.h = [⟨[rrn L], 0, true⟩] ∧ i ≤ L.length ∧ m = L.length - i + 1 ∧ Keep (L.all kOne = (L.drop i).all kOne)) ?_ ?_ (n := L.length - (0) + 1) (by first | omega | (simp; omega)) ?_
  · rintro st ⟨i, hx⟩; omega
  rotate_left
  · exact ⟨0, by first | (simp [*]; done) | (simp [*]; omega) | rfl, by first | (simp [*]; done) | (simp [*]; omega) | rfl, by first | (simp [*]; done) | (simp [*]; omega) | rfl, by first | (simp [*]; done) | (simp [*]; omega) | rfl, by first | (simp [*]; done) | (simp [*]; omega) | rfl, by first | omega | (simp; omega) | simp [*], by first | rfl | (simp; done) | omega, ⟨by simp⟩⟩
  rintro Ja ma ⟨t, h⟩ ⟨i, ea1, ea6, ea7, ea8, hha, fa1, hma, hqa⟩ hJa
  simp only [] at ea1 ea6 ea7 ea8 hha
  subst hha
  simp [ea1, ea6, ea7, ea8]
  have hs : ∀ h : i < L.length, L[i].length < 2000000 := fun h => hl _ (List.getElem_mem h)
  repeat' (first
    | simp (disch := omega) only [wrap_i64, wrap_i32]
    | (simp (disch := first | omega | assumption | (simp only [i64, i32]; omega) | (simp <;> omega) | fail) only [loadD_cpr, loadD_cprs, List.take_of_length_le, pc_kill_one]; simp [*])
    | (with_reducible refine And.intro ?_ ?_; focus first | omega | decide)
    | (with_reducible refine split_ite (fun hp => ?_) (fun hp => ?_) <;> (try simp at hp) <;> simp [*])
    | (with_reducible refine split_ite1 (fun hp => ?_) (fun hp => ?_) <;> (try simp at hp) <;> simp [*])
    | (refine split_cond (by simp) (fun hp => ?_) (fun hp => ?_) <;> simp at hp <;> simp [*])
    | (refine split_ops (by simp) (fun hp => ?_) (fun hp => ?_) <;> simp at hp <;> simp [*])
    | (refine split_opsD (by simp) (fun hp => ?_) (fun hp => ?_) <;> simp at hp <;> simp [*])
    | (refine split_pick (by simp) (fun hp => ?_) (fun hp => ?_) <;> simp at hp <;> simp [*])
    | omega
    | decide
    | (simp [*]))
  · simp only [kIs, all_no (by assumption) hp, Bool.and_false]
  · exact hJa.out _ ⟨i + 1, by first | (simp [*]; done) | (simp [*]; omega) | rfl, by first | (simp [*]; done) | (simp [*]; omega) | rfl, by first | (simp [*]; done) | (simp [*]; omega) | rfl, by first | (simp [*]; done) | (simp [*]; omega) | rfl, by first | (simp [*]; done) | (simp [*]; omega) | rfl, by first | omega | (simp; omega) | simp [*], by omega, ⟨by rw [hqa.out, all_at (by omega)]; simp [*]⟩⟩
  · have := hqa.out
    simp [kIs, *, drop_end]; omega


end Go.Proofs.YtccinlhenkkpeaaDoor
