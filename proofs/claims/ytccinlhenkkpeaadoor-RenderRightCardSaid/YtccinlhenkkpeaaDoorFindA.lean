/- What the functions of layer 21 compute: patterns, and the lines of a past one by one. -/
import Derived.Test.YtccinlhenkkpeaaDoorPastA
import Derived.Test.YtccinlhenkkpeaaDoorTextB
namespace Go.Proofs.YtccinlhenkkpeaaDoor
open Go E
set_option linter.unusedSimpArgs false
set_option linter.unusedVariables false

theorem nx_of {it : It} {caps : List D} {s : D} {h : List Blk} {R : Option (List D × D)} (hm : caps.length = it.m)
    (hh : oSat (it.head caps s h) fun s1 => oSat (evOps noC it.o1 s1) fun s2 => (it.c.ev s2.t = .bool false ∧ R = none) ∨ (it.c.ev s2.t = .bool true ∧ oSat (evOps noC it.o2 s2) fun s3 => ∃ q i, s3.t it.k = .int q i ∧ R = some (it.xs.map (XO.ev s3.t), .int q i))) :
    it.nx caps s h = some R := by
  unfold It.nx
  rw [if_pos hm]
  cases h1 : it.head caps s h with
  | none => rw [h1] at hh; exact hh.elim
  | some s1 =>
    rw [h1] at hh
    simp only [oSat_some] at hh
    simp only [It.next]
    cases h2 : evOps noC it.o1 s1 with
    | none => rw [h2] at hh; exact hh.elim
    | some s2 =>
      rw [h2] at hh
      simp only [oSat_some] at hh
      rcases hh with ⟨e, rfl⟩ | ⟨e, hh⟩
      · simp only [e]
      · simp only [e]
        cases h3 : evOps noC it.o2 s2 with
        | none => rw [h3] at hh; exact hh.elim
        | some s3 =>
          rw [h3] at hh
          obtain ⟨q, i, e3, rfl⟩ := hh
          simp only [e3]


/-- Does a pattern stand at a line's beginning? -/
def stL (l pat : List Int) : Bool := decide (pat.length ≤ l.length ∧ l.take pat.length = pat)

@[simp] theorem pc_stands (n : Nat) (l pat : List Int) (hl : l.length < 2000000) : (W (n + 2)).pc 51 [rn l, rn pat] = some (.bool (stL l pat)) := by
  apply runs c_find_stands
  simp [X_find_stands]
  repeat' (first
    | simp (disch := omega) only [wrap_i64, wrap_i32]
    | (simp (disch := first | omega | assumption | (simp only [i64, i32]; omega) | (simp <;> omega) | fail) only [loadD_cpr, loadD_cprs, List.take_of_length_le, pc_Equal_rune]; simp [*])
    | (with_reducible refine And.intro ?_ ?_; focus first | omega | decide)
    | (with_reducible refine split_ite (fun hp => ?_) (fun hp => ?_) <;> (try simp at hp) <;> simp [*])
    | (with_reducible refine split_ite1 (fun hp => ?_) (fun hp => ?_) <;> (try simp at hp) <;> simp [*])
    | (refine split_cond (by simp) (fun hp => ?_) (fun hp => ?_) <;> simp at hp <;> simp [*])
    | (refine split_ops (by simp) (fun hp => ?_) (fun hp => ?_) <;> simp at hp <;> simp [*])
    | (refine split_opsD (by simp) (fun hp => ?_) (fun hp => ?_) <;> simp at hp <;> simp [*])
    | (refine split_pick (by simp) (fun hp => ?_) (fun hp => ?_) <;> simp at hp <;> simp [*])
    | omega
    | decide
    | (simp [*]))
  all_goals simp [stL, *]
  all_goals omega

/-- Where a pattern stands first; -1: nowhere. -/
def plL (l pat : List Int) : Int := if pat = [] then -1 else match (List.range l.length).find? (fun i => stL (l.drop i) pat) with
  | some i => i
  | none => -1

theorem lt_next {q : Nat → Prop} {i : Nat} (h0 : ∀ j, j < i → q j) (h1 : q i) : ∀ j, j < i + 1 → q j := by
  intro j hj
  rcases Nat.lt_succ_iff_lt_or_eq.1 hj with h | rfl
  · exact h0 j h
  · exact h1

theorem plL_hit {l pat : List Int} {i : Nat} (hp : pat ≠ []) (hi : i < l.length) (h1 : stL (l.drop i) pat = true) (h0 : ∀ j, j < i → stL (l.drop j) pat = false) : plL l pat = i := by
  have : (List.range l.length).find? (fun i => stL (l.drop i) pat) = some i := by
    rw [List.find?_range_eq_some]
    exact ⟨h1, by simpa using hi, fun j hj => by simp [h0 j hj]⟩
  simp [plL, hp, this]

theorem plL_miss {l pat : List Int} (h0 : ∀ j, j < l.length → stL (l.drop j) pat = false) : plL l pat = -1 := by
  unfold plL
  split
  · rfl
  · have : (List.range l.length).find? (fun i => stL (l.drop i) pat) = none := by
      rw [List.find?_eq_none]
      intro j hj
      simp [h0 j (by simpa using hj)]
    simp [this]

@[simp] theorem pc_Place (n : Nat) (l pat : List Int) (hl : l.length < 2000000) : (W (n + 3)).pc 42 [rn l, rn pat] = some (.int .i64 (plL l pat)) := by
  apply runs c_find_Place
  by_cases hp : pat = []
  · simp [X_find_Place, hp, plL]
  have hp0 : ¬ pat.length = 0 := by simpa using hp
  simp [X_find_Place, hp]
  refine aw_rounds (fun m st => ∃ i : Nat, st = ⟨tab [(0, rn l), (1, rn pat), (10, .int .i64 l.length), (11, .int .i64 i)], []⟩ ∧ i ≤ l.length ∧ m = l.length - i + 1 ∧ Keep (∀ j, j < i → stL (l.drop j) pat = false)) ?_ ?_ (n := l.length - (0) + 1) (by first | omega | (simp; omega)) ?_
  · rintro st ⟨i, hx⟩; omega
  rotate_left
  · exact ⟨0, by first | rfl | (simp [*, accS, accH]; done) | (simp only [*]; done) | (congr 1 <;> simp [*, accS, accH]; done) | (congr 1 <;> simp [*, accS, accH] <;> rfl) | (congr 1 <;> congr 1 <;> simp <;> omega), by first | omega | (simp; omega) | simp [*], by first | rfl | (simp; done) | omega, ⟨by simp⟩⟩
  rintro Ja ma _ ⟨i, rfl, fa1, hma, hqa⟩ hJa
  simp
  repeat' (first
    | simp (disch := omega) only [wrap_i64, wrap_i32]
    | (simp (disch := first | omega | assumption | (simp only [i64, i32]; omega) | (simp <;> omega) | fail) only [loadD_cpr, loadD_cprs, List.take_of_length_le, pc_stands]; simp [*])
    | (with_reducible refine And.intro ?_ ?_; focus first | omega | decide)
    | (with_reducible refine split_ite (fun hp => ?_) (fun hp => ?_) <;> (try simp at hp) <;> simp [*])
    | (with_reducible refine split_ite1 (fun hp => ?_) (fun hp => ?_) <;> (try simp at hp) <;> simp [*])
    | (refine split_cond (by simp) (fun hp => ?_) (fun hp => ?_) <;> simp at hp <;> simp [*])
    | (refine split_ops (by simp) (fun hp => ?_) (fun hp => ?_) <;> simp at hp <;> simp [*])
    | (refine split_opsD (by simp) (fun hp => ?_) (fun hp => ?_) <;> simp at hp <;> simp [*])
    | (refine split_pick (by simp) (fun hp => ?_) (fun hp => ?_) <;> simp at hp <;> simp [*])
    | omega
    | decide
    | (simp [*]))
  · rw [plL_hit (by assumption) (by assumption) (by assumption) hqa.out]
  · exact hJa.out _ ⟨i + 1, by first | rfl | (simp [*, accS, accH]; done) | (simp only [*]; done) | (congr 1 <;> simp [*, accS, accH]; done) | (congr 1 <;> simp [*, accS, accH] <;> rfl) | (congr 1 <;> congr 1 <;> simp <;> omega), by first | omega | (simp; omega) | simp [*], by omega, ⟨lt_next (q := fun j => stL (l.drop j) pat = false) hqa.out hp⟩⟩
  · rw [plL_miss fun j hj => hqa.out j (by omega)]



end Go.Proofs.YtccinlhenkkpeaaDoor
