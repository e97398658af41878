/- What the document's answer for layer 11 computes. -/
import Derived.Test.YtcaglmjfphjpfaaGreatWordsC
namespace Go.Proofs.YtcaglmjfphjpfaaGreat
open Go E
set_option linter.unusedSimpArgs false
set_option linter.unusedVariables false

theorem pc_ref11_Begins (n : Nat) (l : List Int) (i : Nat) (hi : i < l.length) (h0 : 0 < i) (hl : l.length < 2000000) : (W (n + 3)).pc 109 [rn l, .int .i64 i] = some (.bool (beginsW l i)) := by
  apply runs c_typebarref11_Begins
  have h1 : i - 1 < l.length := by omega
  have e1 : ((i : Int) - 1).toNat = i - 1 := by omega
  have hn : ¬ (i : Int) = 0 := by omega
  have hb : beginsW l i = (decide (kindW l[i] ≠ 0) && decide (kindW l[i - 1] ≠ kindW l[i])) := by
    simp only [beginsW, List.getElem?_eq_getElem hi, List.getElem?_eq_getElem h1, show ¬ i = 0 by omega, decide_false, Bool.false_or]
  rw [hb]
  simp [X_typebarref11_Begins]
  repeat' (first
    | simp (disch := omega) only [wrap_i64, wrap_i32]
    | (simp (disch := first | omega | assumption | (simp only [i64, i32]; omega) | (simp <;> omega) | fail) only [loadD_cpr, loadD_cprs, List.take_of_length_le]; simp [*, e1, hn])
    | (with_reducible refine And.intro ?_ ?_; focus first | omega | decide)
    | (with_reducible refine split_ite (fun hp => ?_) (fun hp => ?_) <;> (try simp at hp) <;> simp [*, e1, hn])
    | (with_reducible refine split_ite1 (fun hp => ?_) (fun hp => ?_) <;> (try simp at hp) <;> simp [*, e1, hn])
    | (refine split_cond (by simp) (fun hp => ?_) (fun hp => ?_) <;> simp at hp <;> simp [*, e1, hn])
    | (refine split_ops (by simp) (fun hp => ?_) (fun hp => ?_) <;> simp at hp <;> simp [*, e1, hn])
    | (refine split_opsD (by simp) (fun hp => ?_) (fun hp => ?_) <;> simp at hp <;> simp [*, e1, hn])
    | (refine split_pick (by simp) (fun hp => ?_) (fun hp => ?_) <;> simp at hp <;> simp [*, e1, hn])
    | omega
    | decide
    | (simp [*, e1, hn]))
  all_goals trace_state

theorem pc_ref11_Next (n : Nat) (l : List Int) (i : Int) (hl : l.length < 2000000) : (W (n + 4)).pc 98 [rn l, .int .i64 i] = some (.int .i64 (nextW l (place l i))) := by
  have hpl := place_le l i
  apply runs c_typebarref11_Next
  have hs := Keep.mk (nextW_is l (place l i) hpl)
  simp [X_typebarref11_Next]
  generalize place l i = a at hpl hs ⊢
  simp (disch := omega) only [wrap_i64]
  refine aw_rounds (fun m st => ∃ k : Nat, st = ⟨tab [(0, rn l), (5, .int .i64 (a + 1 + k))], []⟩ ∧ a + k ≤ l.length ∧ m = l.length - a - k + 1 ∧ Keep (∀ j, a + 1 ≤ j → j < a + 1 + k → beginsW l j = false)) ?_ ?_ (n := l.length - a - (0) + 1) (by first | omega | (simp; omega)) ?_
  · rintro st ⟨k, hx⟩; omega
  rotate_left
  · exact ⟨0, by first | rfl | (simp [*, accS, accH]; done) | (simp only [*]; done) | (congr 1 <;> simp [*, accS, accH]; done) | (congr 1 <;> simp [*, accS, accH] <;> rfl) | (congr 1 <;> congr 1 <;> simp <;> omega), by first | omega | (simp; omega) | simp [*], by first | rfl | (simp; done) | omega, ⟨fun j h1 h2 => by omega⟩⟩
  rintro Ja ma _ ⟨k, rfl, fa1, hma, hqa⟩ hJa
  by_cases hk : a + 1 + k < l.length
  · have hbe : (W (n + 3)).pc 109 [rn l, .int .i64 ((a : Int) + 1 + k)] = some (.bool (beginsW l (a + 1 + k))) := by
      have := pc_ref11_Begins n l (a + 1 + k) hk (by omega) hl
      rwa [show ((a + 1 + k : Nat) : Int) = (a : Int) + 1 + k by omega] at this
    cases hpp : beginsW l (a + 1 + k)
    · rw [hpp] at hbe
      simp [hbe]
      repeat' (first
        | simp (disch := omega) only [wrap_i64, wrap_i32]
        | (simp (disch := first | omega | assumption | (simp only [i64, i32]; omega) | (simp <;> omega) | fail) only [loadD_cpr, loadD_cprs, List.take_of_length_le]; simp [*, hbe])
        | (with_reducible refine And.intro ?_ ?_; focus first | omega | decide)
        | (with_reducible refine split_ite (fun hp => ?_) (fun hp => ?_) <;> (try simp at hp) <;> simp [*, hbe])
        | (with_reducible refine split_ite1 (fun hp => ?_) (fun hp => ?_) <;> (try simp at hp) <;> simp [*, hbe])
        | (refine split_cond (by simp) (fun hp => ?_) (fun hp => ?_) <;> simp at hp <;> simp [*, hbe])
        | (refine split_ops (by simp) (fun hp => ?_) (fun hp => ?_) <;> simp at hp <;> simp [*, hbe])
        | (refine split_opsD (by simp) (fun hp => ?_) (fun hp => ?_) <;> simp at hp <;> simp [*, hbe])
        | (refine split_pick (by simp) (fun hp => ?_) (fun hp => ?_) <;> simp at hp <;> simp [*, hbe])
        | omega
        | decide
        | (simp [*, hbe]))
      exact hJa.out _ ⟨k + 1, by first | rfl | (simp [*, accS, accH]; done) | (simp only [*]; done) | (congr 1 <;> simp [*, accS, accH]; done) | (congr 1 <;> simp [*, accS, accH] <;> rfl) | (congr 1 <;> congr 1 <;> simp <;> omega), by first | omega | (simp; omega) | simp [*], by omega, ⟨fun j h1 h2 => by by_cases he : j = a + 1 + k; (subst he; exact hpp); (exact hqa.out j h1 (by omega))⟩⟩
    · rw [hpp] at hbe
      have hz : nextW l a = a + 1 + k := by rw [hs.out]; exact firstOf_is _ _ (by omega) hk (by omega) hpp fun j h1 h2 => hqa.out j h1 h2
      simp [hbe]
      repeat' (first
        | simp (disch := omega) only [wrap_i64, wrap_i32]
        | (simp (disch := first | omega | assumption | (simp only [i64, i32]; omega) | (simp <;> omega) | fail) only [loadD_cpr, loadD_cprs, List.take_of_length_le]; simp [*, hbe, hz])
        | (with_reducible refine And.intro ?_ ?_; focus first | omega | decide)
        | (with_reducible refine split_ite (fun hp => ?_) (fun hp => ?_) <;> (try simp at hp) <;> simp [*, hbe, hz])
        | (with_reducible refine split_ite1 (fun hp => ?_) (fun hp => ?_) <;> (try simp at hp) <;> simp [*, hbe, hz])
        | (refine split_cond (by simp) (fun hp => ?_) (fun hp => ?_) <;> simp at hp <;> simp [*, hbe, hz])
        | (refine split_ops (by simp) (fun hp => ?_) (fun hp => ?_) <;> simp at hp <;> simp [*, hbe, hz])
        | (refine split_opsD (by simp) (fun hp => ?_) (fun hp => ?_) <;> simp at hp <;> simp [*, hbe, hz])
        | (refine split_pick (by simp) (fun hp => ?_) (fun hp => ?_) <;> simp at hp <;> simp [*, hbe, hz])
        | omega
        | decide
        | (simp [*, hbe, hz]))
      all_goals omega
  · have hz : nextW l a = l.length := by rw [hs.out]; exact firstOf_none _ _ (by omega) fun j h1 h2 => hqa.out j h1 (by omega)
    simp
    repeat' (first
      | simp (disch := omega) only [wrap_i64, wrap_i32]
      | (simp (disch := first | omega | assumption | (simp only [i64, i32]; omega) | (simp <;> omega) | fail) only [loadD_cpr, loadD_cprs, List.take_of_length_le]; simp [*, hz])
      | (with_reducible refine And.intro ?_ ?_; focus first | omega | decide)
      | (with_reducible refine split_ite (fun hp => ?_) (fun hp => ?_) <;> (try simp at hp) <;> simp [*, hz])
      | (with_reducible refine split_ite1 (fun hp => ?_) (fun hp => ?_) <;> (try simp at hp) <;> simp [*, hz])
      | (refine split_cond (by simp) (fun hp => ?_) (fun hp => ?_) <;> simp at hp <;> simp [*, hz])
      | (refine split_ops (by simp) (fun hp => ?_) (fun hp => ?_) <;> simp at hp <;> simp [*, hz])
      | (refine split_opsD (by simp) (fun hp => ?_) (fun hp => ?_) <;> simp at hp <;> simp [*, hz])
      | (refine split_pick (by simp) (fun hp => ?_) (fun hp => ?_) <;> simp at hp <;> simp [*, hz])
      | omega
      | decide
      | (simp [*, hz]))

theorem pc_ref11_Prev (n : Nat) (l : List Int) (i : Int) (hl : l.length < 2000000) : (W (n + 4)).pc 99 [rn l, .int .i64 i] = some (.int .i64 (prevW l (place l i))) := by
  have hpl := place_le l i
  apply runs c_typebarref11_Prev
  have hs := Keep.mk (prevW_is l (place l i) hpl)
  simp [X_typebarref11_Prev]
  generalize place l i = a at hpl hs ⊢
  simp (disch := omega) only [wrap_i64]
  refine aw_rounds (fun m st => ∃ k : Nat, st = ⟨tab [(0, rn l), (5, .int .i64 (k - 1))], []⟩ ∧ k ≤ l.length ∧ m = k + 1 ∧ Keep (prevW l a = lastOf (beginsW l) k)) ?_ ?_ (n := (a) + 1) (by first | omega | (simp; omega)) ?_
  · rintro st ⟨k, hx⟩; omega
  rotate_left
  · exact ⟨a, by first | rfl | (simp [*, accS, accH]; done) | (simp only [*]; done) | (congr 1 <;> simp [*, accS, accH]; done) | (congr 1 <;> simp [*, accS, accH] <;> rfl) | (congr 1 <;> congr 1 <;> simp <;> omega), by first | omega | (simp; omega) | simp [*], by first | rfl | (simp; done) | omega, ⟨hs.out⟩⟩
  rintro Ja ma _ ⟨k, rfl, fa1, hma, hqa⟩ hJa
  obtain h0 | h1 | ⟨q, rfl⟩ : k = 0 ∨ k = 1 ∨ ∃ q, k = q + 2 := by
    rcases k with _ | _ | k
    · exact .inl rfl
    · exact .inr (.inl rfl)
    · exact .inr (.inr ⟨_, rfl⟩)
  · subst h0
    have hz : prevW l a = 0 := by rw [hqa.out]; rfl
    simp
    repeat' (first
      | simp (disch := omega) only [wrap_i64, wrap_i32]
      | (simp (disch := first | omega | assumption | (simp only [i64, i32]; omega) | (simp <;> omega) | fail) only [loadD_cpr, loadD_cprs, List.take_of_length_le]; simp [*, hz])
      | (with_reducible refine And.intro ?_ ?_; focus first | omega | decide)
      | (with_reducible refine split_ite (fun hp => ?_) (fun hp => ?_) <;> (try simp at hp) <;> simp [*, hz])
      | (with_reducible refine split_ite1 (fun hp => ?_) (fun hp => ?_) <;> (try simp at hp) <;> simp [*, hz])
      | (refine split_cond (by simp) (fun hp => ?_) (fun hp => ?_) <;> simp at hp <;> simp [*, hz])
      | (refine split_ops (by simp) (fun hp => ?_) (fun hp => ?_) <;> simp at hp <;> simp [*, hz])
      | (refine split_opsD (by simp) (fun hp => ?_) (fun hp => ?_) <;> simp at hp <;> simp [*, hz])
      | (refine split_pick (by simp) (fun hp => ?_) (fun hp => ?_) <;> simp at hp <;> simp [*, hz])
      | omega
      | decide
      | (simp [*, hz]))
  · subst h1
    have hz : prevW l a = 0 := by rw [hqa.out]; rfl
    simp
    repeat' (first
      | simp (disch := omega) only [wrap_i64, wrap_i32]
      | (simp (disch := first | omega | assumption | (simp only [i64, i32]; omega) | (simp <;> omega) | fail) only [loadD_cpr, loadD_cprs, List.take_of_length_le]; simp [*, hz])
      | (with_reducible refine And.intro ?_ ?_; focus first | omega | decide)
      | (with_reducible refine split_ite (fun hp => ?_) (fun hp => ?_) <;> (try simp at hp) <;> simp [*, hz])
      | (with_reducible refine split_ite1 (fun hp => ?_) (fun hp => ?_) <;> (try simp at hp) <;> simp [*, hz])
      | (refine split_cond (by simp) (fun hp => ?_) (fun hp => ?_) <;> simp at hp <;> simp [*, hz])
      | (refine split_ops (by simp) (fun hp => ?_) (fun hp => ?_) <;> simp at hp <;> simp [*, hz])
      | (refine split_opsD (by simp) (fun hp => ?_) (fun hp => ?_) <;> simp at hp <;> simp [*, hz])
      | (refine split_pick (by simp) (fun hp => ?_) (fun hp => ?_) <;> simp at hp <;> simp [*, hz])
      | omega
      | decide
      | (simp [*, hz]))
  · have hbe : (W (n + 3)).pc 109 [rn l, .int .i64 ((q : Int) + 1)] = some (.bool (beginsW l (q + 1))) := by
      have := pc_ref11_Begins n l (q + 1) (by omega) (by omega) hl
      rwa [show ((q + 1 : Nat) : Int) = (q : Int) + 1 by omega] at this
    have e2 : ((q + 2 : Nat) : Int) - 1 = (q : Int) + 1 := by omega
    cases hpp : beginsW l (q + 1)
    · rw [hpp] at hbe
      simp only [e2]
      simp [hbe]
      repeat' (first
        | simp (disch := omega) only [wrap_i64, wrap_i32]
        | (simp (disch := first | omega | assumption | (simp only [i64, i32]; omega) | (simp <;> omega) | fail) only [loadD_cpr, loadD_cprs, List.take_of_length_le]; simp [*, hbe])
        | (with_reducible refine And.intro ?_ ?_; focus first | omega | decide)
        | (with_reducible refine split_ite (fun hp => ?_) (fun hp => ?_) <;> (try simp at hp) <;> simp [*, hbe])
        | (with_reducible refine split_ite1 (fun hp => ?_) (fun hp => ?_) <;> (try simp at hp) <;> simp [*, hbe])
        | (refine split_cond (by simp) (fun hp => ?_) (fun hp => ?_) <;> simp at hp <;> simp [*, hbe])
        | (refine split_ops (by simp) (fun hp => ?_) (fun hp => ?_) <;> simp at hp <;> simp [*, hbe])
        | (refine split_opsD (by simp) (fun hp => ?_) (fun hp => ?_) <;> simp at hp <;> simp [*, hbe])
        | (refine split_pick (by simp) (fun hp => ?_) (fun hp => ?_) <;> simp at hp <;> simp [*, hbe])
        | omega
        | decide
        | (simp [*, hbe]))
      all_goals trace_state
      exact hJa.out _ ⟨q + 1, by first | rfl | (simp [*, accS, accH]; done) | (simp only [*]; done) | (congr 1 <;> simp [*, accS, accH]; done) | (congr 1 <;> simp [*, accS, accH] <;> rfl) | (congr 1 <;> congr 1 <;> simp <;> omega), by first | omega | (simp; omega) | simp [*], by omega, ⟨by rw [hqa.out, lastOf, if_neg (by omega), if_neg (by simp [hpp])]⟩⟩
    · rw [hpp] at hbe
      have hz : prevW l a = q + 1 := by rw [hqa.out, lastOf, if_neg (by omega), if_pos hpp]
      simp only [e2]
      simp [hbe]
      repeat' (first
        | simp (disch := omega) only [wrap_i64, wrap_i32]
        | (simp (disch := first | omega | assumption | (simp only [i64, i32]; omega) | (simp <;> omega) | fail) only [loadD_cpr, loadD_cprs, List.take_of_length_le]; simp [*, hbe, hz])
        | (with_reducible refine And.intro ?_ ?_; focus first | omega | decide)
        | (with_reducible refine split_ite (fun hp => ?_) (fun hp => ?_) <;> (try simp at hp) <;> simp [*, hbe, hz])
        | (with_reducible refine split_ite1 (fun hp => ?_) (fun hp => ?_) <;> (try simp at hp) <;> simp [*, hbe, hz])
        | (refine split_cond (by simp) (fun hp => ?_) (fun hp => ?_) <;> simp at hp <;> simp [*, hbe, hz])
        | (refine split_ops (by simp) (fun hp => ?_) (fun hp => ?_) <;> simp at hp <;> simp [*, hbe, hz])
        | (refine split_opsD (by simp) (fun hp => ?_) (fun hp => ?_) <;> simp at hp <;> simp [*, hbe, hz])
        | (refine split_pick (by simp) (fun hp => ?_) (fun hp => ?_) <;> simp at hp <;> simp [*, hbe, hz])
        | omega
        | decide
        | (simp [*, hbe, hz]))
      all_goals omega

end Go.Proofs.YtcaglmjfphjpfaaGreat
