/- What the functions of layer 19 compute: a line is added. -/
import Derived.Test.YtngbfjnkfomcnaaPastA
namespace Go.Proofs.Ytngbfjnkfomcnaa
open Go E
set_option linter.unusedSimpArgs false
set_option linter.unusedVariables false

/-- A past with a line. -/
def pAdd (p : Past) (l : List Int) : Past :=
  if pIs p = false ∨ kOne l = false then p else
  if p.dup = 1 ∧ p.L ≠ [] ∧ p.L.getD (p.L.length - 1) [] = l then p else
  let R := (if p.dup = 2 then p.L.filter (fun x => decide (x ≠ l)) else p.L) ++ [l]
  ⟨p.room, p.dup, R.drop (R.length - p.room.toNat)⟩

@[simp] theorem pc_ref19_Same (n : Nat) (p q : Past) (hp : small p.L) : (W (n + 3)).pc 38 [pD p, pD q] = some (.bool (decide (p = q))) := by
  apply runs c_typebarref19_Same
  have e : (p = q) ↔ (p.room = q.room ∧ p.dup = q.dup ∧ p.L = q.L) := by cases p; cases q; simp
  simp only [e]
  simp [X_typebarref19_Same]
  repeat' (first
    | simp (disch := omega) only [wrap_i64, wrap_i32]
    | (simp (disch := first | omega | assumption | (simp only [i64, i32]; omega) | (simp <;> omega) | fail) only [loadD_cpr, loadD_cprs, List.take_of_length_le, pc_ref01_Sames]; simp [*])
    | (with_reducible refine And.intro ?_ ?_; focus first | omega | decide)
    | (with_reducible refine split_ite (fun hp => ?_) (fun hp => ?_) <;> (try simp at hp) <;> simp [*])
    | (with_reducible refine split_ite1 (fun hp => ?_) (fun hp => ?_) <;> (try simp at hp) <;> simp [*])
    | (refine split_cond (by simp) (fun hp => ?_) (fun hp => ?_) <;> simp at hp <;> simp [*])
    | (refine split_ops (by simp) (fun hp => ?_) (fun hp => ?_) <;> simp at hp <;> simp [*])
    | (refine split_opsD (by simp) (fun hp => ?_) (fun hp => ?_) <;> simp at hp <;> simp [*])
    | (refine split_pick (by simp) (fun hp => ?_) (fun hp => ?_) <;> simp at hp <;> simp [*])
    | omega
    | decide
    | (simp [*]))
  all_goals grind

theorem pc_passed (n : Nat) : (W (n + 16)).pc 37 [] = some (.bool true) := by kernel_rfl

def pBig (p : Past) (l : List Int) : Bool := decide (100 < p.L.length) || decide (1000 < l.length) || p.L.any fun x => decide (1000 < x.length)

theorem pc_pBig (n : Nat) (p : Past) (l : List Int) : (W (n + 1)).pc 36 [pD p, rn l] = some (.bool (pBig p l)) := by
  apply runs c_typebarlaw19_big
  simp [X_typebarlaw19_big]
  refine aw_rounds (fun m st => ∃ i : Nat, st.t 1 = rn l ∧ st.t 2 = .ptr 0 0 3 ∧ st.t 5 = .int .i64 i ∧ st.h = [⟨[.int .i64 p.room, .int .i64 p.dup, rrn p.L], 0, true⟩] ∧ i ≤ p.L.length ∧ i ≤ 100 ∧ m = 100 - i + 1 ∧ Keep ((p.L.take i).any (fun x => decide (1000 < x.length)) = false)) ?_ ?_ (n := 100 - (0) + 1) (by first | omega | (simp; omega)) ?_
  · rintro st ⟨i, hx⟩; omega
  rotate_left
  · exact ⟨0, by first | (simp [*]; done) | (simp [*]; omega) | rfl, by first | (simp [*]; done) | (simp [*]; omega) | rfl, by first | (simp [*]; done) | (simp [*]; omega) | rfl, by first | (simp [*]; done) | (simp [*]; omega) | rfl, by first | omega | (simp; omega) | simp [*], by first | omega | (simp; omega) | simp [*], by first | rfl | (simp; done) | omega, ⟨by simp⟩⟩
  rintro Ja ma ⟨t, h⟩ ⟨i, ea1, ea2, ea5, hha, fa1, fa2, hma, hqa⟩ hJa
  simp only [] at ea1 ea2 ea5 hha
  subst hha
  simp [ea1, ea2, ea5]
  repeat' (first
    | simp (disch := omega) only [wrap_i64, wrap_i32]
    | (simp (disch := first | omega | assumption | (simp only [i64, i32]; omega) | (simp <;> omega) | fail) only [loadD_cpr, loadD_cprs, List.take_of_length_le]; simp [*])
    | (with_reducible refine And.intro ?_ ?_; focus first | omega | decide)
    | (with_reducible refine split_ite (fun hp => ?_) (fun hp => ?_) <;> (try simp at hp) <;> simp [*])
    | (with_reducible refine split_ite1 (fun hp => ?_) (fun hp => ?_) <;> (try simp at hp) <;> simp [*])
    | (refine split_cond (by simp) (fun hp => ?_) (fun hp => ?_) <;> simp at hp <;> simp [*])
    | (refine split_ops (by simp) (fun hp => ?_) (fun hp => ?_) <;> simp at hp <;> simp [*])
    | (refine split_opsD (by simp) (fun hp => ?_) (fun hp => ?_) <;> simp at hp <;> simp [*])
    | (refine split_pick (by simp) (fun hp => ?_) (fun hp => ?_) <;> simp at hp <;> simp [*])
    | omega
    | decide
    | (simp [*]))
  · simp only [pBig, any_yes (p := fun x : List Int => decide (1000 < x.length)) (l := p.L) (i := i) (by assumption) (by simp; omega), Bool.or_true]
  · exact hJa.out _ ⟨i + 1, by first | (simp [*]; done) | (simp [*]; omega) | rfl, by first | (simp [*]; done) | (simp [*]; omega) | rfl, by first | (simp [*]; done) | (simp [*]; omega) | rfl, by first | (simp [*]; done) | (simp [*]; omega) | rfl, by first | omega | (simp; omega) | simp [*], by first | omega | (simp; omega) | simp [*], by omega, ⟨by rw [List.take_succ_eq_append_getElem (by assumption), List.any_append, hqa.out]; simp; omega⟩⟩
  · simp [pBig]; omega
  · have := hqa.out
    rw [List.take_of_length_le (by omega)] at this
    rw [Bool.eq_iff_iff]; simp only [pBig, this]; simp; omega

theorem pBig_small {p : Past} {l : List Int} (h : pBig p l = false) : small p.L ∧ l.length ≤ 1000 ∧ p.L.length ≤ 100 ∧ ∀ x ∈ p.L, x.length ≤ 1000 := by
  simp only [pBig, Bool.or_eq_false_iff, decide_eq_false_iff_not, List.any_eq_false, decide_eq_true_eq] at h
  refine ⟨⟨by omega, fun x hx => ?_⟩, by omega, by omega, fun x hx => ?_⟩
  · have := h.2 x hx; omega
  · have := h.2 x hx; omega

theorem pGet_len {p : Past} {m : Nat} (h : ∀ x ∈ p.L, x.length ≤ m) (i : Int) : (pGet p i).1.length ≤ m := by
  simp only [pGet]
  split
  · simp
  split
  · simp
  · rw [List.getD_eq_getElem?_getD]
    rcases Nat.lt_or_ge i.toNat p.L.length with h1 | h1
    · rw [List.getElem?_eq_getElem h1]; exact h _ (List.getElem_mem h1)
    · rw [List.getElem?_eq_none h1]; simp

theorem pNew_small (room dup : Int) : small (pNew room dup).1.L := by
  simp only [pNew]; split <;> simp [small]

theorem pc_PastGets (n : Nat) (p : Past) (i dup : Int) : (W (n + 18)).pc 11 [pD p, .int .i64 i, .int .i64 dup] = some (.bool true) := by
  apply runs c_typebarlaw19_PastGets
  cases hb : pBig p []
  · obtain ⟨hs, hl, hL, hx⟩ := pBig_small hb
    have h1 := pGet_len hx i
    have h2 := pNew_small i dup
    simp [X_typebarlaw19_PastGets, nilR, pc_pBig, pc_passed, hb]
    repeat' (first
      | simp (disch := omega) only [wrap_i64, wrap_i32]
      | (simp (disch := first | omega | assumption | (simp only [i64, i32]; omega) | (simp <;> omega) | fail) only [loadD_cpr, loadD_cprs, List.take_of_length_le, pc_past_Get, pc_ref19_Get, pc_ref01_Same, pc_ref19_Same]; simp [*, nilR, pc_pBig, pc_passed])
      | (with_reducible refine And.intro ?_ ?_; focus first | omega | decide)
      | (with_reducible refine split_ite (fun hp => ?_) (fun hp => ?_) <;> (try simp at hp) <;> simp [*, nilR, pc_pBig, pc_passed])
      | (with_reducible refine split_ite1 (fun hp => ?_) (fun hp => ?_) <;> (try simp at hp) <;> simp [*, nilR, pc_pBig, pc_passed])
      | (refine split_cond (by simp) (fun hp => ?_) (fun hp => ?_) <;> simp at hp <;> simp [*, nilR, pc_pBig, pc_passed])
      | (refine split_ops (by simp) (fun hp => ?_) (fun hp => ?_) <;> simp at hp <;> simp [*, nilR, pc_pBig, pc_passed])
      | (refine split_opsD (by simp) (fun hp => ?_) (fun hp => ?_) <;> simp at hp <;> simp [*, nilR, pc_pBig, pc_passed])
      | (refine split_pick (by simp) (fun hp => ?_) (fun hp => ?_) <;> simp at hp <;> simp [*, nilR, pc_pBig, pc_passed])
      | omega
      | decide
      | (simp [*, nilR, pc_pBig, pc_passed]))
    all_goals trace_state
  · simp [X_typebarlaw19_PastGets, nilR, pc_pBig, *]

end Go.Proofs.Ytngbfjnkfomcnaa
