/- What the functions of layer 19 compute. -/
import Derived.Test.YtccinlhenkkpeaaDoorKillC
import Derived.Test.YtccinlhenkkpeaaDoorSlices
namespace Go.Proofs.YtccinlhenkkpeaaDoor
open Go E
set_option linter.unusedSimpArgs false
set_option linter.unusedVariables false

structure Past where
  room : Int
  dup : Int
  L : List (List Int)
  deriving DecidableEq

abbrev pD (p : Past) : D := .agg [.int .i64 p.room, .int .i64 p.dup, rrn p.L]

def pOk (room dup : Int) : Bool := decide (1 ≤ room ∧ room ≤ 16 ∧ 0 ≤ dup ∧ dup ≤ 2)

def pNew (room dup : Int) : Past × Int := if pOk room dup = true then (⟨room, dup, []⟩, 0) else (⟨0, 0, []⟩, 4)

def pIs (p : Past) : Bool := pOk p.room p.dup && decide ((p.L.length : Int) ≤ p.room) && p.L.all kOne

@[simp] theorem pc_past_New (n : Nat) (room dup : Int) : (W (n + 1)).pc 39 [.int .i64 room, .int .i64 dup] = some (.tup [pD (pNew room dup).1, eD (pNew room dup).2]) := by
  apply runs c_past_New
  simp [X_past_New, nilRR]
  repeat' (first
    | simp (disch := omega) only [wrap_i64, wrap_i32]
    | (simp (disch := first | omega | assumption | (simp only [i64, i32]; omega) | (simp <;> omega) | fail) only [loadD_cpr, loadD_cprs, List.take_of_length_le]; simp [*, nilRR])
    | (with_reducible refine And.intro ?_ ?_; focus first | omega | decide)
    | (with_reducible refine split_ite (fun hp => ?_) (fun hp => ?_) <;> (try simp at hp) <;> simp [*, nilRR])
    | (with_reducible refine split_ite1 (fun hp => ?_) (fun hp => ?_) <;> (try simp at hp) <;> simp [*, nilRR])
    | (refine split_cond (by simp) (fun hp => ?_) (fun hp => ?_) <;> simp at hp <;> simp [*, nilRR])
    | (refine split_ops (by simp) (fun hp => ?_) (fun hp => ?_) <;> simp at hp <;> simp [*, nilRR])
    | (refine split_opsD (by simp) (fun hp => ?_) (fun hp => ?_) <;> simp at hp <;> simp [*, nilRR])
    | (refine split_pick (by simp) (fun hp => ?_) (fun hp => ?_) <;> simp at hp <;> simp [*, nilRR])
    | omega
    | decide
    | (simp [*, nilRR]))
  all_goals grind [pNew, pOk]


/-- Where a sign that is none stands first; -1: nowhere. -/
def badAt (l : List Int) : Int := match l.findIdx? (fun r => !isR r) with
  | some i => i
  | none => -1

theorem badAt_pos (l : List Int) : decide (0 ≤ badAt l) = !allR l := by
  unfold badAt
  split
  · rename_i i h
    obtain ⟨h1, h2, _⟩ := List.findIdx?_eq_some_iff_getElem.1 h
    have : allR l = false := by
      simp only [allR]
      exact all_no h1 (by simpa using h2)
    simp [this]
  · rename_i h
    rw [List.findIdx?_eq_none_iff] at h
    simp [allR]
    intro x hx
    have := h x hx
    simpa using this

@[simp] theorem pc_line1 (n : Nat) (r : Int) : (W (n + 3)).pc 49 [.int .i32 r] = some (.bool (!isR r)) := by
  apply runs c_past_line_1
  simp [X_past_line_1]

@[simp] theorem pc_IndexFunc_bad (n : Nat) (l : List Int) (hl : l.length < 2000000) : (W (n + 4)).pc 53 [rn l, .fn (.func 49) [] []] = some (.int .i64 (badAt l)) := by
  apply runs c_slices_IndexFunc_S_rune_rune
  simp [X_slices_IndexFunc_S_rune_rune]
  refine aw_rounds (fun m st => ∃ i : Nat, st.t 0 = rn l ∧ st.t 1 = .fn (.func 49) [] [] ∧ st.t 7 = .int .i64 l.length ∧ st.t 8 = .int .i64 i ∧ st.h = [] ∧ i ≤ l.length ∧ m = l.length - i + 1 ∧ Keep (∀ r ∈ l.take i, isR r = true)) ?_ ?_ (n := l.length - (0) + 1) (by first | omega | (simp; omega)) ?_
  · rintro st ⟨i, hx⟩; omega
  rotate_left
  · exact ⟨0, by first | (simp [*]; done) | (simp [*]; omega) | rfl, by first | (simp [*]; done) | (simp [*]; omega) | rfl, by first | (simp [*]; done) | (simp [*]; omega) | rfl, by first | (simp [*]; done) | (simp [*]; omega) | rfl, by first | (simp [*]; done) | (simp [*]; omega) | rfl, by first | omega | (simp; omega) | simp [*], by first | rfl | (simp; done) | omega, ⟨by simp⟩⟩
  rintro Ja ma ⟨t, h⟩ ⟨i, ea0, ea1, ea7, ea8, hha, fa1, hma, hqa⟩ hJa
  simp only [] at ea0 ea1 ea7 ea8 hha
  subst hha
  simp [ea0, ea1, ea7, ea8]
  repeat' (first
    | simp (disch := omega) only [wrap_i64, wrap_i32]
    | (simp (disch := first | omega | assumption | (simp only [i64, i32]; omega) | (simp <;> omega) | fail) only [loadD_cpr, loadD_cprs, List.take_of_length_le]; simp [*])
    | (with_reducible refine And.intro ?_ ?_; focus first | omega | decide)
    | (with_reducible refine split_ite (fun hp => ?_) (fun hp => ?_) <;> (try simp at hp) <;> simp [*])
    | (with_reducible refine split_ite1 (fun hp => ?_) (fun hp => ?_) <;> (try simp at hp) <;> simp [*])
    | (refine split_cond (by simp) (fun hp => ?_) (fun hp => ?_) <;> simp at hp <;> simp [*])
    | (refine split_ops (by simp) (fun hp => ?_) (fun hp => ?_) <;> simp at hp <;> simp [*])
    | (refine split_opsD (by simp) (fun hp => ?_) (fun hp => ?_) <;> simp at hp <;> simp [*])
    | (refine split_pick (by simp) (fun hp => ?_) (fun hp => ?_) <;> simp at hp <;> simp [*])
    | omega
    | decide
    | (simp [*]))
  · have : l.findIdx? (fun r => !isR r) = some i := by
      rw [List.findIdx?_eq_some_iff_getElem]
      refine ⟨by assumption, by simpa using hp, fun j hj => ?_⟩
      have := hqa.out l[j] (by rw [List.mem_take_iff_getElem]; exact ⟨j, by omega, rfl⟩)
      simp [this]
    simp [badAt, this]
  · exact hJa.out _ ⟨i + 1, by first | (simp [*]; done) | (simp [*]; omega) | rfl, by first | (simp [*]; done) | (simp [*]; omega) | rfl, by first | (simp [*]; done) | (simp [*]; omega) | rfl, by first | (simp [*]; done) | (simp [*]; omega) | rfl, by first | (simp [*]; done) | (simp [*]; omega) | rfl, by first | omega | (simp; omega) | simp [*], by omega, ⟨by rw [List.take_succ_eq_append_getElem (by assumption)]; intro r hr; rcases List.mem_append.1 hr with (hr|hr); (exact hqa.out r hr); (obtain rfl := List.mem_singleton.1 hr; assumption)⟩⟩
  · have := hqa.out
    rw [List.take_of_length_le (by omega)] at this
    have h2 : l.findIdx? (fun r => !isR r) = none := by
      rw [List.findIdx?_eq_none_iff]
      intro r hr
      simp [this r hr]
    simp [badAt, h2]

@[simp] theorem pc_ContainsFunc_bad (n : Nat) (l : List Int) (hl : l.length < 2000000) : (W (n + 5)).pc 50 [rn l, .fn (.func 49) [] []] = some (.bool (!allR l)) := by
  apply runs c_slices_ContainsFunc_S_rune_rune
  simp [X_slices_ContainsFunc_S_rune_rune, hl, badAt_pos]

@[simp] theorem pc_past_line (n : Nat) (l : List Int) (hl : l.length < 2000000) : (W (n + 6)).pc 40 [rn l] = some (.bool (kOne l)) := by
  apply runs c_past_line
  simp [X_past_line]
  repeat' (first
    | simp (disch := omega) only [wrap_i64, wrap_i32]
    | (simp (disch := first | omega | assumption | (simp only [i64, i32]; omega) | (simp <;> omega) | fail) only [loadD_cpr, loadD_cprs, List.take_of_length_le, pc_ContainsFunc_bad]; simp [*])
    | (with_reducible refine And.intro ?_ ?_; focus first | omega | decide)
    | (with_reducible refine split_ite (fun hp => ?_) (fun hp => ?_) <;> (try simp at hp) <;> simp [*])
    | (with_reducible refine split_ite1 (fun hp => ?_) (fun hp => ?_) <;> (try simp at hp) <;> simp [*])
    | (refine split_cond (by simp) (fun hp => ?_) (fun hp => ?_) <;> simp at hp <;> simp [*])
    | (refine split_ops (by simp) (fun hp => ?_) (fun hp => ?_) <;> simp at hp <;> simp [*])
    | (refine split_opsD (by simp) (fun hp => ?_) (fun hp => ?_) <;> simp at hp <;> simp [*])
    | (refine split_pick (by simp) (fun hp => ?_) (fun hp => ?_) <;> simp at hp <;> simp [*])
    | omega
    | decide
    | (simp [*]))
  all_goals simp [kOne, *]
  all_goals omega

def smallP (p : Past) : Prop := small p.L

@[simp] theorem pc_past_Is (n : Nat) (p : Past) (hp : small p.L) : (W (n + 7)).pc 26 [pD p] = some (.bool (pIs p)) := by
  apply runs c_past_Is
  obtain ⟨hL, hl⟩ := hp
  cases hk : pOk p.room p.dup
  · simp [X_past_Is, nilRR, pNew, hk, pIs]
  simp [X_past_Is, nilRR, pNew, hk]
  repeat' (first
    | simp (disch := omega) only [wrap_i64, wrap_i32]
    | (simp (disch := first | omega | assumption | (simp only [i64, i32]; omega) | (simp <;> omega) | fail) only [loadD_cpr, loadD_cprs, List.take_of_length_le]; simp [*, nilRR])
    | (with_reducible refine And.intro ?_ ?_; focus first | omega | decide)
    | (with_reducible refine split_ite (fun hp => ?_) (fun hp => ?_) <;> (try simp at hp) <;> simp [*, nilRR])
    | (with_reducible refine split_ite1 (fun hp => ?_) (fun hp => ?_) <;> (try simp at hp) <;> simp [*, nilRR])
    | (refine split_cond (by simp) (fun hp => ?_) (fun hp => ?_) <;> simp at hp <;> simp [*, nilRR])
    | (refine split_ops (by simp) (fun hp => ?_) (fun hp => ?_) <;> simp at hp <;> simp [*, nilRR])
    | (refine split_opsD (by simp) (fun hp => ?_) (fun hp => ?_) <;> simp at hp <;> simp [*, nilRR])
    | (refine split_pick (by simp) (fun hp => ?_) (fun hp => ?_) <;> simp at hp <;> simp [*, nilRR])
    | omega
    | decide
    | (simp [*, nilRR]))
  · have : ¬ ((p.L.length : Int) ≤ p.room) := by omega
    simp [pIs, this]
  · refine aw_rounds (fun m st => ∃ i : Nat, ∃ R : List Blk, st = ⟨tab [(26, rrn p.L), (27, .int .i64 p.L.length), (28, .int .i64 i)], R⟩ ∧ i ≤ p.L.length ∧ m = p.L.length - i + 1 ∧ Keep (p.L.all kOne = (p.L.drop i).all kOne)) ?_ ?_ (n := p.L.length - (0) + 1) (by first | omega | (simp; omega)) ?_
    · rintro st ⟨i, hx⟩; omega
    rotate_left
    · exact ⟨0, _, by first | rfl | (simp [*, accS, accH]; done) | (simp only [*]; done) | (congr 1 <;> simp [*, accS, accH]; done) | (congr 1 <;> simp [*, accS, accH] <;> rfl) | (congr 1 <;> congr 1 <;> simp <;> omega), by first | omega | (simp; omega) | simp [*], by first | rfl | (simp; done) | omega, ⟨by simp⟩⟩
    rintro Ja ma _ ⟨i, Ra, rfl, fa1, hma, hqa⟩ hJa
    have hs : ∀ h : i < p.L.length, p.L[i].length < 2000000 := fun h => hl _ (List.getElem_mem h)
    simp
    repeat' (first
      | simp (disch := omega) only [wrap_i64, wrap_i32]
      | (simp (disch := first | omega | assumption | (simp only [i64, i32]; omega) | (simp <;> omega) | fail) only [loadD_cpr, loadD_cprs, List.take_of_length_le, pc_past_line]; simp [*])
      | (with_reducible refine And.intro ?_ ?_; focus first | omega | decide)
      | (with_reducible refine split_ite (fun hp => ?_) (fun hp => ?_) <;> (try simp at hp) <;> simp [*])
      | (with_reducible refine split_ite1 (fun hp => ?_) (fun hp => ?_) <;> (try simp at hp) <;> simp [*])
      | (refine split_cond (by simp) (fun hp => ?_) (fun hp => ?_) <;> simp at hp <;> simp [*])
      | (refine split_ops (by simp) (fun hp => ?_) (fun hp => ?_) <;> simp at hp <;> simp [*])
      | (refine split_opsD (by simp) (fun hp => ?_) (fun hp => ?_) <;> simp at hp <;> simp [*])
      | (refine split_pick (by simp) (fun hp => ?_) (fun hp => ?_) <;> simp at hp <;> simp [*])
      | omega
      | decide
      | (simp [*]))
    · simp only [pIs, all_no (by assumption) hp, Bool.and_false]
    · exact hJa.out _ ⟨i + 1, _, by first | rfl | (simp [*, accS, accH]; done) | (simp only [*]; done) | (congr 1 <;> simp [*, accS, accH]; done) | (congr 1 <;> simp [*, accS, accH] <;> rfl) | (congr 1 <;> congr 1 <;> simp <;> omega), by first | omega | (simp; omega) | simp [*], by omega, ⟨by rw [hqa.out, all_at (by omega)]; simp [*]⟩⟩
    · have := hqa.out
      simp [pIs, *, drop_end]


def pGet (p : Past) (i : Int) : List Int × Int := if pIs p = false then ([], 1) else if i < 0 ∨ p.L.length ≤ i then ([], 7) else (p.L.getD i.toNat [], 0)

theorem pGet_at {p : Past} {i : Int} (hp : pIs p = true) (h0 : 0 ≤ i) (h : i.toNat < p.L.length) : pGet p i = (p.L[i.toNat], 0) := by
  rw [pGet, if_neg (by simp [hp]), if_neg (by omega), getD_at h]

@[simp] theorem pc_past_Get (n : Nat) (p : Past) (i : Int) (hp : small p.L) : (W (n + 8)).pc 41 [pD p, .int .i64 i] = some (.tup [rn (pGet p i).1, eD (pGet p i).2]) := by
  apply runs c_past_Get
  cases hk : pIs p
  · simp [X_past_Get, nilR, hk, hp, pGet]
  by_cases h0 : i < 0
  · simp [X_past_Get, nilR, hk, hp, pGet, h0]
  by_cases h1 : (p.L.length : Int) ≤ i
  · simp [X_past_Get, nilR, hk, hp, pGet, h0, h1]
  have e := pGet_at hk (Int.not_lt.1 h0) (by omega)
  simp [X_past_Get, nilR, hk, hp, h0, h1]
  repeat' (first
    | simp (disch := omega) only [wrap_i64, wrap_i32]
    | (simp (disch := first | omega | assumption | (simp only [i64, i32]; omega) | (simp <;> omega) | fail) only [loadD_cpr, loadD_cprs, List.take_of_length_le]; simp [*, nilR])
    | (with_reducible refine And.intro ?_ ?_; focus first | omega | decide)
    | (with_reducible refine split_ite (fun hp => ?_) (fun hp => ?_) <;> (try simp at hp) <;> simp [*, nilR])
    | (with_reducible refine split_ite1 (fun hp => ?_) (fun hp => ?_) <;> (try simp at hp) <;> simp [*, nilR])
    | (refine split_cond (by simp) (fun hp => ?_) (fun hp => ?_) <;> simp at hp <;> simp [*, nilR])
    | (refine split_ops (by simp) (fun hp => ?_) (fun hp => ?_) <;> simp at hp <;> simp [*, nilR])
    | (refine split_opsD (by simp) (fun hp => ?_) (fun hp => ?_) <;> simp at hp <;> simp [*, nilR])
    | (refine split_pick (by simp) (fun hp => ?_) (fun hp => ?_) <;> simp at hp <;> simp [*, nilR])
    | omega
    | decide
    | (simp [*, nilR]))
  all_goals simp [e]


end Go.Proofs.YtccinlhenkkpeaaDoor
