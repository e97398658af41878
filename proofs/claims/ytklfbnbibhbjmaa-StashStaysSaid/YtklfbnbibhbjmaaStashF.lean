/- The statements of layer 20, as laws of contracts. -/
import Derived.Test.YtklfbnbibhbjmaaStashE
import Derived.Test.YtklfbnbibhbjmaaPastB
namespace Go.Proofs.Ytklfbnbibhbjmaa
open Go E
set_option linter.unusedSimpArgs false
set_option linter.unusedVariables false

theorem pc_stashed (n : Nat) : (W (n + 20)).pc 10 [] = some (.bool true) := by kernel_rfl

theorem pc_ref20_Same (n : Nat) (s t : StashM) (hs : smallS s.L) (h : s = t) : (W (n + 3)).pc 11 [stD s, stD t] = some (.bool true) := by
  subst h
  apply runs c_typebarref20_Same
  obtain ⟨hL, hl⟩ := hs
  simp [X_typebarref20_Same]
  refine aw_rounds (fun m st => ∃ i : Nat, st = ⟨tab [(2, .ptr 0 0 2), (3, .ptr 1 0 2), (5, .int .i64 i)], [⟨[.int .i64 s.at_, srn s.L], 0, true⟩, ⟨[.int .i64 s.at_, srn s.L], 0, true⟩]⟩ ∧ i ≤ s.L.length ∧ m = s.L.length - i + 1 ∧ Keep (True)) ?_ ?_ (n := s.L.length - (0) + 1) (by first | omega | (simp; omega)) ?_
  · rintro st ⟨i, hx⟩; omega
  rotate_left
  · exact ⟨0, by first | rfl | (simp [*, accS, accH]; done) | (simp only [*]; done) | (congr 1 <;> simp [*, accS, accH]; done) | (congr 1 <;> simp [*, accS, accH] <;> rfl) | (congr 1 <;> congr 1 <;> simp <;> omega), by first | omega | (simp; omega) | simp [*], by first | rfl | (simp; done) | omega, ⟨trivial⟩⟩
  rintro Ja ma _ ⟨i, rfl, fa1, hma, hqa⟩ hJa
  have hs : ∀ h : i < s.L.length, s.L[i].2.A.length < 2000000 ∧ s.L[i].2.B.length < 2000000 := fun h => hl _ (List.getElem_mem h)
  simp
  repeat' (first
    | simp (disch := omega) only [wrap_i64, wrap_i32]
    | (simp (disch := first | omega | assumption | (simp only [i64, i32]; omega) | (simp <;> omega) | fail) only [loadD_cpr, loadD_cprs, List.take_of_length_le, pc_ref10_Same]; simp [*])
    | (with_reducible refine And.intro ?_ ?_; focus first | omega | decide)
    | (with_reducible refine split_ite (fun hp => ?_) (fun hp => ?_) <;> (try simp at hp) <;> simp [*])
    | (with_reducible refine split_ite1 (fun hp => ?_) (fun hp => ?_) <;> (try simp at hp) <;> simp [*])
    | (refine split_cond (by simp) (fun hp => ?_) (fun hp => ?_) <;> simp at hp <;> simp [*])
    | (refine split_ops (by simp) (fun hp => ?_) (fun hp => ?_) <;> simp at hp <;> simp [*])
    | (refine split_opsD (by simp) (fun hp => ?_) (fun hp => ?_) <;> simp at hp <;> simp [*])
    | (refine split_pick (by simp) (fun hp => ?_) (fun hp => ?_) <;> simp at hp <;> simp [*])
    | omega
    | decide
    | (simp [*]))
  exact hJa.out _ ⟨i + 1, by first | rfl | (simp [*, accS, accH]; done) | (simp only [*]; done) | (congr 1 <;> simp [*, accS, accH]; done) | (congr 1 <;> simp [*, accS, accH] <;> rfl) | (congr 1 <;> congr 1 <;> simp <;> omega), by first | omega | (simp; omega) | simp [*], by omega, ⟨trivial⟩⟩

def gB (g : Gap) : Bool := decide (1000 < g.A.length) || decide (1000 < g.B.length)

def sBig (s : StashM) (p : Past) (g : Gap) : Bool := decide (100 < s.L.length) || decide (100 < p.L.length) || gB g || s.L.any (fun x => gB x.2) || p.L.any fun x => decide (1000 < x.length)

theorem pc_sBig (n : Nat) (s : StashM) (p : Past) (g : Gap) : (W (n + 1)).pc 7 [stD s, pD p, gD g] = some (.bool (sBig s p g)) := by
  apply runs c_typebarlaw20_big
  simp [X_typebarlaw20_big]
  repeat' (first
    | simp (disch := omega) only [wrap_i64, wrap_i32]
    | (simp (disch := first | omega | assumption | (simp only [i64, i32]; omega) | (simp <;> omega) | fail) only [loadD_cpr, loadD_cprs, List.take_of_length_le]; simp [*])
    | (with_reducible refine And.intro ?_ ?_; focus first | omega | decide)
    | (with_reducible refine split_ite (fun hp => ?_) (fun hp => ?_) <;> (try simp at hp) <;> simp [*])
    | (with_reducible refine split_ite1 (fun hp => ?_) (fun hp => ?_) <;> (try simp at hp) <;> simp [*])
    | (refine split_cond (by simp) (fun hp => ?_) (fun hp => ?_) <;> simp at hp <;> simp [*])
    | (refine split_ops (by simp) (fun hp => ?_) (fun hp => ?_) <;> simp at hp <;> simp [*])
    | (refine split_opsD (by simp) (fun hp => ?_) (fun hp => ?_) <;> simp at hp <;> simp [*])
    | (refine split_pick (by simp) (fun hp => ?_) (fun hp => ?_) <;> simp at hp <;> simp [*])
    | omega
    | decide
    | (simp [*]))
  · simp [sBig, gB]; omega
  · simp [sBig, gB]; omega
  · simp [sBig, gB]; omega
  · simp [sBig, gB]; omega
  refine aw_rounds (fun m st => ∃ i : Nat, ∃ R : List Blk, st = ⟨tab [(3, .ptr 0 0 2), (4, .ptr 1 0 3), (7, .int .i64 i)], ⟨[.int .i64 s.at_, srn s.L], 0, true⟩ :: ⟨[.int .i64 p.room, .int .i64 p.dup, rrn p.L], 0, true⟩ :: R⟩ ∧ i ≤ s.L.length ∧ i ≤ 100 ∧ m = 100 - i + 1 ∧ Keep ((s.L.take i).any (fun x => gB x.2) = false)) ?_ ?_ (n := 100 - (0) + 1) (by first | omega | (simp; omega)) ?_
  · rintro st ⟨i, hx⟩; omega
  rotate_left
  · exact ⟨0, _, by first | rfl | (simp [*, accS, accH]; done) | (simp only [*]; done) | (congr 1 <;> simp [*, accS, accH]; done) | (congr 1 <;> simp [*, accS, accH] <;> rfl) | (congr 1 <;> congr 1 <;> simp <;> omega), by first | omega | (simp; omega) | simp [*], by first | omega | (simp; omega) | simp [*], by first | rfl | (simp; done) | omega, ⟨by simp⟩⟩
  rintro Ja ma _ ⟨i, Ra, rfl, fa1, fa2, hma, hqa⟩ hJa
  simp
  repeat' (first
    | simp (disch := omega) only [wrap_i64, wrap_i32]
    | (simp (disch := first | omega | assumption | (simp only [i64, i32]; omega) | (simp <;> omega) | fail) only [loadD_cpr, loadD_cprs, List.take_of_length_le]; simp [*])
    | (with_reducible refine And.intro ?_ ?_; focus first | omega | decide)
    | (with_reducible refine split_ite (fun hp => ?_) (fun hp => ?_) <;> (try simp at hp) <;> simp [*])
    | (with_reducible refine split_ite1 (fun hp => ?_) (fun hp => ?_) <;> (try simp at hp) <;> simp [*])
    | (refine split_cond (by simp) (fun hp => ?_) (fun hp => ?_) <;> simp at hp <;> simp [*])
    | (refine split_ops (by simp) (fun hp => ?_) (fun hp => ?_) <;> simp at hp <;> simp [*])
    | (refine split_opsD (by simp) (fun hp => ?_) (fun hp => ?_) <;> simp at hp <;> simp [*])
    | (refine split_pick (by simp) (fun hp => ?_) (fun hp => ?_) <;> simp at hp <;> simp [*])
    | omega
    | decide
    | (simp [*]))
  · simp only [sBig, any_yes (p := fun x : Int × Gap => gB x.2) (l := s.L) (i := i) (by assumption) (by simp [gB]; omega), Bool.or_true, Bool.true_or]
  · simp only [sBig, any_yes (p := fun x : Int × Gap => gB x.2) (l := s.L) (i := i) (by assumption) (by simp [gB]; omega), Bool.or_true, Bool.true_or]
  · exact hJa.out _ ⟨i + 1, _, by first | rfl | (simp [*, accS, accH]; done) | (simp only [*]; done) | (congr 1 <;> simp [*, accS, accH]; done) | (congr 1 <;> simp [*, accS, accH] <;> rfl) | (congr 1 <;> congr 1 <;> simp <;> omega), by first | omega | (simp; omega) | simp [*], by first | omega | (simp; omega) | simp [*], by omega, ⟨by rw [List.take_succ_eq_append_getElem (by assumption), List.any_append, hqa.out]; simp [gB]; omega⟩⟩
  have hall : (s.L.any fun x => gB x.2) = false := by
    have := hqa.out
    rwa [List.take_of_length_le (by omega)] at this
  have hall : Keep _ := ⟨hall⟩
  refine aw_rounds (fun m st => ∃ j : Nat, ∃ R : List Blk, st = ⟨tab [(4, .ptr 1 0 3), (8, .int .i64 j)], ⟨[.int .i64 s.at_, srn s.L], 0, true⟩ :: ⟨[.int .i64 p.room, .int .i64 p.dup, rrn p.L], 0, true⟩ :: R⟩ ∧ j ≤ p.L.length ∧ j ≤ 100 ∧ m = 100 - j + 1 ∧ Keep ((p.L.take j).any (fun x => decide (1000 < x.length)) = false)) ?_ ?_ (n := 100 - (0) + 1) (by first | omega | (simp; omega)) ?_
  · rintro st ⟨j, hx⟩; omega
  rotate_left
  · exact ⟨0, _, by first | rfl | (simp [*, accS, accH]; done) | (simp only [*]; done) | (congr 1 <;> simp [*, accS, accH]; done) | (congr 1 <;> simp [*, accS, accH] <;> rfl) | (congr 1 <;> congr 1 <;> simp <;> omega), by first | omega | (simp; omega) | simp [*], by first | omega | (simp; omega) | simp [*], by first | rfl | (simp; done) | omega, ⟨by simp⟩⟩
  rintro Jb mb _ ⟨j, Rb, rfl, fb1, fb2, hmb, hqb⟩ hJb
  simp
  repeat' (first
    | simp (disch := omega) only [wrap_i64, wrap_i32]
    | (simp (disch := first | omega | assumption | (simp only [i64, i32]; omega) | (simp <;> omega) | fail) only [loadD_cpr, loadD_cprs, List.take_of_length_le]; simp [*])
    | (with_reducible refine And.intro ?_ ?_; focus first | omega | decide)
    | (with_reducible refine split_ite (fun hp => ?_) (fun hp => ?_) <;> (try simp at hp) <;> simp [*])
    | (with_reducible refine split_ite1 (fun hp => ?_) (fun hp => ?_) <;> (try simp at hp) <;> simp [*])
    | (refine split_cond (by simp) (fun hp => ?_) (fun hp => ?_) <;> simp at hp <;> simp [*])
    | (refine split_ops (by simp) (fun hp => ?_) (fun hp => ?_) <;> simp at hp <;> simp [*])
    | (refine split_opsD (by simp) (fun hp => ?_) (fun hp => ?_) <;> simp at hp <;> simp [*])
    | (refine split_pick (by simp) (fun hp => ?_) (fun hp => ?_) <;> simp at hp <;> simp [*])
    | omega
    | decide
    | (simp [*]))
  · simp only [sBig, any_yes (p := fun x : List Int => decide (1000 < x.length)) (l := p.L) (i := j) (by assumption) (by simp; omega), Bool.or_true]
  · exact hJb.out _ ⟨j + 1, _, by first | rfl | (simp [*, accS, accH]; done) | (simp only [*]; done) | (congr 1 <;> simp [*, accS, accH]; done) | (congr 1 <;> simp [*, accS, accH] <;> rfl) | (congr 1 <;> congr 1 <;> simp <;> omega), by first | omega | (simp; omega) | simp [*], by first | omega | (simp; omega) | simp [*], by omega, ⟨by rw [List.take_succ_eq_append_getElem (by assumption), List.any_append, hqb.out]; simp; omega⟩⟩
  · have := hqb.out
    rw [List.take_of_length_le (by omega)] at this
    rw [sBig, hall.out, this]
    simp [gB]; omega

theorem sBig_small {s : StashM} {p : Past} {g : Gap} (h : sBig s p g = false) : smallS s.L ∧ small p.L ∧ (g.A.length < 2000000 ∧ g.B.length < 2000000) := by
  simp only [sBig, gB, Bool.or_eq_false_iff, decide_eq_false_iff_not, List.any_eq_false, Bool.or_eq_true, decide_eq_true_eq, not_or] at h
  refine ⟨⟨by omega, fun x hx => ?_⟩, ⟨by omega, fun x hx => ?_⟩, by omega⟩
  · have := h.1.2 x hx; omega
  · have := h.2 x hx; omega

/-- A line that is handed out is no longer than those that lay there. -/
theorem sTake_small {s : StashM} {p : Past} (hs : smallS s.L) (hp : small p.L) (to : Int) : (sTake s p to).A.length < 2000000 ∧ (sTake s p to).B.length < 2000000 := by
  simp only [sTake]
  split
  · rename_i y hy
    simp only [sFind] at hy
    obtain ⟨x, hx, rfl⟩ := Option.map_eq_some_iff.1 hy
    exact hs.2 _ (List.mem_of_find?_eq_some hx)
  · split
    · simp only [pGet]
      split
      · simp
      split
      · simp
      · refine ⟨?_, by simp⟩
        rw [List.getD_eq_getElem?_getD]
        rcases Nat.lt_or_ge to.toNat p.L.length with h1 | h1
        · rw [List.getElem?_eq_getElem h1]; exact hp.2 _ (List.getElem_mem h1)
        · rw [List.getElem?_eq_none h1]; simp
    · simp

theorem sInto_small {L : List (Int × Gap)} {c : Nat} {x : Int × Gap} (hL : L.length ≤ 1000000) (hl : ∀ x ∈ L, x.2.A.length < 2000000 ∧ x.2.B.length < 2000000) (hx : x.2.A.length < 2000000 ∧ x.2.B.length < 2000000) : smallS (sInto L c x) := by
  have hm : ∀ y ∈ sInto L c x, y ∈ L ∨ y = x := by
    intro y hy
    simp only [sInto] at hy
    split at hy
    · exact List.mem_or_eq_of_mem_set hy
    · rcases List.mem_append.1 hy with h | h
      · exact .inl (List.mem_of_mem_take h)
      · rcases List.mem_cons.1 h with h | h
        · exact .inr h
        · exact .inl (List.mem_of_mem_drop h)
  refine ⟨?_, fun y hy => ?_⟩
  · simp only [sInto]
    split
    · simp; omega
    · simp; omega
  · rcases hm y hy with h | h
    · exact hl y h
    · rw [h]; exact hx

theorem sGo_small {s : StashM} {p : Past} {g : Gap} {to : Int} (hs : smallS s.L) (hs2 : s.L.length ≤ 1000000) (hp : small p.L) (hg : g.A.length < 2000000 ∧ g.B.length < 2000000) : smallS (sGo s p g to).1.L ∧ ((sGo s p g to).2.1.A.length < 2000000 ∧ (sGo s p g to).2.1.B.length < 2000000) := by
  simp only [sGo]
  split
  · split
    · exact ⟨sInto_small hs2 hs.2 hg, sTake_small hs hp to⟩
    · exact ⟨⟨by simp, by simp⟩, by simp⟩
  · exact ⟨⟨by simp, by simp⟩, by simp⟩

end Go.Proofs.Ytklfbnbibhbjmaa
