/- What the functions of layer 20 compute. -/
import Derived.Test.YtccinlhenkkpeaaDoorPastA
import Derived.Test.YtccinlhenkkpeaaDoorTextB
namespace Go.Proofs.YtccinlhenkkpeaaDoor
open Go E
set_option linter.unusedSimpArgs false
set_option linter.unusedVariables false

/-- A line that was left, with its number. -/
def slotC : Cell (Int × Gap) := ⟨fun s => [.int .i64 s.1, rn s.2.A, rn s.2.B], 3, fun _ => rfl, fun a b h => by obtain ⟨i, x, y⟩ := a; obtain ⟨j, z, u⟩ := b; simpa using h, fun _ => by simp⟩

@[simp] theorem slotC_sz : slotC.sz = 3 := id rfl
@[simp] theorem slotC_enc (s : Int × Gap) : slotC.enc s = [.int .i64 s.1, rn s.2.A, rn s.2.B] := rfl

theorem nilS (b : Bool) : D.arr 0 b [] = row slotC b [] := rfl

abbrev srn (L : List (Int × Gap)) : D := row slotC false L

structure StashM where
  at_ : Int
  L : List (Int × Gap)

abbrev stD (s : StashM) : D := .agg [.int .i64 s.at_, srn s.L]

def smallS (L : List (Int × Gap)) : Prop := L.length < 2000000 ∧ ∀ x ∈ L, x.2.A.length < 2000000 ∧ x.2.B.length < 2000000

/-- Are the lines that were left right, from some number on? -/
def slotsOk (m : Int) : Int → List (Int × Gap) → Bool
  | _, [] => true
  | le, x :: r => decide (le ≤ x.1 ∧ x.1 ≤ m) && gapIs x.2 && slotsOk m (x.1 + 1) r

def sIs (s : StashM) (p : Past) : Bool := pIs p && decide (0 ≤ s.at_ ∧ s.at_ ≤ p.L.length) && slotsOk p.L.length 0 s.L

/-- The line that was left of a number. -/
def sFind (L : List (Int × Gap)) (i : Int) : Option Gap := (L.find? fun x => x.1 == i).map (·.2)

abbrev fD (o : Option Gap) : D := match o with
  | some g => .tup [gD g, .bool true]
  | none => .tup [gD g0S, .bool false]
where g0S : Gap := ⟨[], []⟩

theorem sFind_hit {L : List (Int × Gap)} {i : Int} {k : Nat} (h : k < L.length) (e : L[k].1 = i) : sFind (L.drop k) i = some L[k].2 := by
  rw [List.drop_eq_getElem_cons h, sFind, List.find?_cons_of_pos (by simpa using e)]
  rfl

theorem sFind_skip {L : List (Int × Gap)} {i : Int} {k : Nat} (h : k < L.length) (e : ¬ L[k].1 = i) : sFind (L.drop k) i = sFind (L.drop (k + 1)) i := by
  rw [List.drop_eq_getElem_cons h, sFind, List.find?_cons_of_neg (by simpa using e)]
  rfl

theorem sFind_end {L : List (Int × Gap)} {i : Int} {k : Nat} (h : L.length ≤ k) : sFind (L.drop k) i = none := by
  rw [List.drop_of_length_le h]; rfl





theorem slotsOk_at {m le : Int} {L : List (Int × Gap)} {k : Nat} (h : k < L.length) : slotsOk m le (L.drop k) = (decide (le ≤ L[k].1 ∧ L[k].1 ≤ m) && gapIs L[k].2 && slotsOk m (L[k].1 + 1) (L.drop (k + 1))) := by
  rw [List.drop_eq_getElem_cons h]
  rfl

theorem slotsOk_end {m le : Int} {L : List (Int × Gap)} {k : Nat} (h : L.length ≤ k) : slotsOk m le (L.drop k) = true := by
  rw [List.drop_of_length_le h]; rfl

theorem sIs_no {s : StashM} {p : Past} (h : slotsOk p.L.length 0 s.L = false) : sIs s p = false := by
  simp only [sIs, h, Bool.and_false]

theorem pc_stash_Is (n : Nat) (s : StashM) (p : Past) (hs : smallS s.L) (hp : small p.L) : (W (n + 8)).pc 27 [stD s, pD p] = some (.bool (sIs s p)) := by
  apply runs c_stash_Is
  have hpL := hp.1
  obtain ⟨hL, hl⟩ := hs
  cases hk : pIs p
  · simp [X_stash_Is, hp, hk, sIs]
  simp [X_stash_Is, hp, hk]
  repeat' (first
    | simp (disch := omega) only [wrap_i64, wrap_i32]
    | (simp (disch := first | omega | assumption | (simp only [i64, i32]; omega) | (simp <;> omega) | fail) only [loadD_cpr, loadD_cprs, List.take_of_length_le]; simp [*])
    | (with_reducible refine And.intro ?_ ?_; focus first | omega | decide)
    | (with_reducible refine split_ite (fun hp => ?_) (fun hp => ?_) <;> (try simp at hp) <;> simp [*])
    | (with_reducible refine split_ite1 (fun hp => ?_) (fun hp => ?_) <;> (try simp at hp) <;> simp [*])
    | (refine split_cond (by simp) (fun hp => ?_) (fun hp => ?_) <;> simp at hp <;> simp [*])
    | (refine split_ops (by simp) (fun hp => ?_) (fun hp => ?_) <;> simp at hp <;> simp [*])
    | (refine split_opsD (by simp) (fun hp => ?_) (fun hp => ?_) <;> simp at hp <;> simp [*])
    | (refine split_pick (by simp) (fun hp => ?_) (fun hp => ?_) <;> simp at hp <;> simp [*])
    | omega
    | decide
    | (simp [*]))
  · simp [sIs, hk]; omega
  · have : ¬ (0 ≤ s.at_ ∧ s.at_ ≤ p.L.length) := by omega
    simp only [sIs, this, decide_false, Bool.and_false, Bool.false_and]
  · have hat : 0 ≤ s.at_ ∧ s.at_ ≤ p.L.length := by omega
    refine aw_rounds (fun m st => ∃ k : Nat, ∃ le : Int, ∃ R : List Blk, st = ⟨tab [(3, .ptr 1 0 3), (5, .int .i64 le), (25, srn s.L), (26, .int .i64 s.L.length), (27, .int .i64 k)], ⟨[.int .i64 s.at_, srn s.L], 0, true⟩ :: ⟨[.int .i64 p.room, .int .i64 p.dup, rrn p.L], 0, true⟩ :: R⟩ ∧ k ≤ s.L.length ∧ 0 ≤ le ∧ le ≤ 2000001 ∧ m = s.L.length - k + 1 ∧ Keep (slotsOk p.L.length 0 s.L = slotsOk p.L.length le (s.L.drop k))) ?_ ?_ (n := s.L.length - (0) + 1) (by first | omega | (simp; omega)) ?_
    · rintro st ⟨k, le, hx⟩; omega
    rotate_left
    · exact ⟨0, 0, _, by first | rfl | (simp [*, accS, accH]; done) | (simp only [*]; done) | (congr 1 <;> simp [*, accS, accH]; done) | (congr 1 <;> simp [*, accS, accH] <;> rfl) | (congr 1 <;> congr 1 <;> simp <;> omega), by first | omega | (simp; omega) | simp [*], by first | omega | (simp; omega) | simp [*], by first | omega | (simp; omega) | simp [*], by first | rfl | (simp; done) | omega, ⟨by simp⟩⟩
    rintro Ja ma _ ⟨k, le, Ra, rfl, fa1, fa2, fa3, hma, hqa⟩ hJa
    have hs : ∀ h : k < s.L.length, s.L[k].2.A.length < 2000000 ∧ s.L[k].2.B.length < 2000000 := fun h => hl _ (List.getElem_mem h)
    simp
    repeat' (first
      | simp (disch := omega) only [wrap_i64, wrap_i32]
      | (simp (disch := first | omega | assumption | (simp only [i64, i32]; omega) | (simp <;> omega) | fail) only [loadD_cpr, loadD_cprs, List.take_of_length_le, pc_gap_Is]; simp [*])
      | (with_reducible refine And.intro ?_ ?_; focus first | omega | decide)
      | (with_reducible refine split_ite (fun hp => ?_) (fun hp => ?_) <;> (try simp at hp) <;> simp [*])
      | (with_reducible refine split_ite1 (fun hp => ?_) (fun hp => ?_) <;> (try simp at hp) <;> simp [*])
      | (refine split_cond (by simp) (fun hp => ?_) (fun hp => ?_) <;> simp at hp <;> simp [*])
      | (refine split_ops (by simp) (fun hp => ?_) (fun hp => ?_) <;> simp at hp <;> simp [*])
      | (refine split_opsD (by simp) (fun hp => ?_) (fun hp => ?_) <;> simp at hp <;> simp [*])
      | (refine split_pick (by simp) (fun hp => ?_) (fun hp => ?_) <;> simp at hp <;> simp [*])
      | omega
      | decide
      | (simp [*]))
    · refine sIs_no ?_
      rw [hqa.out, slotsOk_at (by assumption), decide_eq_false (by omega)]
      rfl
    · refine sIs_no ?_
      rw [hqa.out, slotsOk_at (by assumption), decide_eq_false (by omega)]
      rfl
    · refine sIs_no ?_
      rw [hqa.out, slotsOk_at (by assumption), hp, Bool.and_false, Bool.false_and]
    · have hpL2 := hpL
      exact hJa.out _ ⟨k + 1, s.L[k].1 + 1, _, by first | rfl | (simp [*, accS, accH]; done) | (simp only [*]; done) | (congr 1 <;> simp [*, accS, accH]; done) | (congr 1 <;> simp [*, accS, accH] <;> rfl) | (congr 1 <;> congr 1 <;> simp <;> omega), by first | omega | (simp; omega) | simp [*], by first | omega | (simp; omega) | simp [*], by first | omega | (simp; omega) | simp [*], by omega, ⟨by rw [hqa.out, slotsOk_at (by assumption), decide_eq_true (by omega), hp, Bool.true_and, Bool.true_and]⟩⟩
    · have h1 := hqa.out
      rw [slotsOk_end hp] at h1
      simp only [sIs, hk, h1, decide_eq_true hat, Bool.and_self]

/-- The number behind the one of the line ahead. -/
def prevN (L : List (Int × Gap)) (k : Nat) : Int := match k with
  | 0 => 0
  | j + 1 => match L[j]? with
    | some x => x.1 + 1
    | none => 0


end Go.Proofs.YtccinlhenkkpeaaDoor
