/- What the laws of layer 14 on letters alone compute. -/
import Derived.Test.YtngbfjnkfomcnaaShapeC
namespace Go.Proofs.Ytngbfjnkfomcnaa
open Go E
set_option linter.unusedSimpArgs false
set_option linter.unusedVariables false

theorem inW_upR (r : Int) : inW (upR r) = inW r := by grind [inW, upR]
theorem inW_loR (r : Int) : inW (loR r) = inW r := by grind [inW, loR]
theorem upR_upR (r : Int) : upR (upR r) = upR r := by grind [upR]
theorem loR_loR (r : Int) : loR (loR r) = loR r := by grind [loR]
theorem loR_upR (r : Int) : loR (upR r) = loR r := by grind [loR, upR]

theorem inW_chR (l : List Int) (f : Nat) (how : Int) (i : Nat) (r : Int) : inW (chR l f how i r) = inW r := by
  rw [chR]; split
  · exact inW_upR r
  · exact inW_loR r

theorem loR_chR (l : List Int) (f : Nat) (how : Int) (i : Nat) (r : Int) : loR (chR l f how i r) = loR r := by
  rw [chR]; split
  · exact loR_upR r
  · exact loR_loR r

theorem inW_sCh (l : List Int) (f t : Nat) (how : Int) (i : Nat) : inW ((sCh l f t how).getD i 0) = inW (l.getD i 0) := by
  by_cases h : i < l.length
  · rw [getD_at (by simpa using h), getD_at h, sCh_at h]
    split
    · exact inW_chR ..
    · rfl
  · have h1 : (sCh l f t how)[i]? = none := List.getElem?_eq_none (by simpa using h)
    have h2 : l[i]? = none := List.getElem?_eq_none (by omega)
    rw [List.getD, List.getD, h1, h2]

theorem chR_idem (l : List Int) (f t : Nat) (how : Int) (i : Nat) (r : Int) : chR (sCh l f t how) f how i (chR l f how i r) = chR l f how i r := by
  have h1 := inW_sCh l f t how (i - 1)
  have h2 := inW_chR l f how i r
  rw [chR, h1, h2]
  simp only [chR]
  split
  · exact upR_upR r
  · exact loR_loR r

theorem sCh_idem (l : List Int) (f t : Nat) (how : Int) : sCh (sCh l f t how) f t how = sCh l f t how := by
  refine List.ext_getElem (by simp) fun i h1 h2 => ?_
  have hi : i < l.length := by simpa using h2
  rw [sCh_at h2, sCh_at hi]
  split
  · exact chR_idem ..
  · rfl

theorem change_bad {l : List Int} {f t how : Int} (h : (change l f t how).2 ≠ 0) : (change l f t how).1 = [] := by
  simp only [change] at *
  split at h
  · rename_i hc; rw [if_pos hc]
  · simp at h

theorem change_ok {l : List Int} {f t how : Int} (h : (change l f t how).2 = 0) : ∃ F T : Nat, f = F ∧ t = T ∧ T ≤ l.length ∧ change l f t how = (sCh l F T how, 0) ∧ change (sCh l F T how) f t how = (sCh l F T how, 0) := by
  by_cases hc : f < 0 ∨ t < f ∨ l.length < t ∨ how < 4 ∨ 6 < how
  · rw [change, if_pos hc] at h; simp at h
  · refine ⟨f.toNat, t.toNat, by omega, by omega, by omega, by rw [change, if_neg hc], ?_⟩
    rw [change, if_neg (by rw [sCh_length]; exact hc), sCh_idem]

set_option maxHeartbeats 4000000 in
theorem pc_ShapeOnly (n : Nat) (l : List Int) (f t how : Int) : (W (n + 16)).pc 9 [rn l, .int .i64 f, .int .i64 t, .int .i64 how] = some (.bool true) := by
  apply runs c_typebarlaw14_ShapeOnly
  by_cases hl : 1000 < l.length
  · simp [X_typebarlaw14_ShapeOnly, pc_shaped, hl]
    repeat' (first
      | simp (disch := omega) only [wrap_i64, wrap_i32]
      | (simp (disch := first | omega | assumption | (simp only [i64, i32]; omega) | (simp <;> omega) | fail) only [loadD_cpr, loadD_cprs, List.take_of_length_le]; simp [*, pc_shaped])
      | (with_reducible refine And.intro ?_ ?_; focus first | omega | decide)
      | (with_reducible refine split_ite (fun hp => ?_) (fun hp => ?_) <;> (try simp at hp) <;> simp [*, pc_shaped])
      | (with_reducible refine split_ite1 (fun hp => ?_) (fun hp => ?_) <;> (try simp at hp) <;> simp [*, pc_shaped])
      | (refine split_cond (by simp) (fun hp => ?_) (fun hp => ?_) <;> simp at hp <;> simp [*, pc_shaped])
      | (refine split_ops (by simp) (fun hp => ?_) (fun hp => ?_) <;> simp at hp <;> simp [*, pc_shaped])
      | (refine split_opsD (by simp) (fun hp => ?_) (fun hp => ?_) <;> simp at hp <;> simp [*, pc_shaped])
      | (refine split_pick (by simp) (fun hp => ?_) (fun hp => ?_) <;> simp at hp <;> simp [*, pc_shaped])
      | omega
      | decide
      | (simp [*, pc_shaped]))
  have hc := change_len l f t how
  by_cases h0 : l = []
  · subst h0
    by_cases he : (change [] f t how).2 = 0
    · obtain ⟨F, T, rfl, rfl, hT, e1, e2⟩ := change_ok he
      have e3 : sCh [] F T how = [] := rfl
      rw [e3] at e1 e2
      have hcc : (W (n + 15)).pc 31 [rn [], .int .i64 F, .int .i64 T, .int .i64 how] = some (.tup [rn [], eD 0]) := by
        have := pc_shape_Change (n + 13) [] F T how (by simp)
        rwa [e1] at this
      simp [X_typebarlaw14_ShapeOnly, pc_shaped, nilR, hcc]
      refine aw_rounds (fun m st => ∃ i : Nat, st.t 0 = .arr 0 false [] ∧ st.t 14 = .int .i64 0 ∧ st.h = [] ∧ True ∧ m = 0 + 1 ∧ Keep (True)) ?_ ?_ (n := 0 + 1) (by first | omega | (simp; omega)) ?_
      · rintro st ⟨i, hx⟩; omega
      rotate_left
      · exact ⟨0, by first | (simp [*]; done) | (simp [*]; omega) | rfl, by first | (simp [*]; done) | (simp [*]; omega) | rfl, by first | (simp [*]; done) | (simp [*]; omega) | rfl, by first | omega | (simp; omega) | simp [*], by first | rfl | (simp; done) | omega, ⟨trivial⟩⟩
      rintro Ja ma ⟨t, h⟩ ⟨i, ea0, ea14, hha, fa1, hma, hqa⟩ hJa
      simp only [] at ea0 ea14 hha
      subst hha
      simp [ea0, ea14]
      repeat' (first
        | simp (disch := omega) only [wrap_i64, wrap_i32]
        | (simp (disch := first | omega | assumption | (simp only [i64, i32]; omega) | (simp <;> omega) | fail) only [loadD_cpr, loadD_cprs, List.take_of_length_le]; simp [*, pc_shaped])
        | (with_reducible refine And.intro ?_ ?_; focus first | omega | decide)
        | (with_reducible refine split_ite (fun hp => ?_) (fun hp => ?_) <;> (try simp at hp) <;> simp [*, pc_shaped])
        | (with_reducible refine split_ite1 (fun hp => ?_) (fun hp => ?_) <;> (try simp at hp) <;> simp [*, pc_shaped])
        | (refine split_cond (by simp) (fun hp => ?_) (fun hp => ?_) <;> simp at hp <;> simp [*, pc_shaped])
        | (refine split_ops (by simp) (fun hp => ?_) (fun hp => ?_) <;> simp at hp <;> simp [*, pc_shaped])
        | (refine split_opsD (by simp) (fun hp => ?_) (fun hp => ?_) <;> simp at hp <;> simp [*, pc_shaped])
        | (refine split_pick (by simp) (fun hp => ?_) (fun hp => ?_) <;> simp at hp <;> simp [*, pc_shaped])
        | omega
        | decide
        | (simp [*, pc_shaped]))
    · have hb := change_bad he
      have hcc : (W (n + 15)).pc 31 [rn [], .int .i64 f, .int .i64 t, .int .i64 how] = some (.tup [rn [], eD (change [] f t how).2]) := by
        have := pc_shape_Change (n + 13) [] f t how (by simp)
        rwa [hb] at this
      simp [X_typebarlaw14_ShapeOnly, pc_shaped, nilR, hcc, he]
      all_goals rfl
  by_cases he : (change l f t how).2 = 0
  · obtain ⟨F, T, rfl, rfl, hT, e1, e2⟩ := change_ok he
    have hS := sCh_length l F T how
    have hcc : (W (n + 15)).pc 31 [rn l, .int .i64 F, .int .i64 T, .int .i64 how] = some (.tup [rn (sCh l F T how), eD 0]) := by
      have := pc_shape_Change (n + 13) l F T how (by omega)
      rwa [e1] at this
    have hcd : (W (n + 15)).pc 31 [rn (sCh l F T how), .int .i64 F, .int .i64 T, .int .i64 how] = some (.tup [rn (sCh l F T how), eD 0]) := by
      have := pc_shape_Change (n + 13) (sCh l F T how) F T how (by omega)
      rwa [e2] at this
    simp [X_typebarlaw14_ShapeOnly, pc_shaped, hcc, hcd, h0]
    repeat' (first
      | simp (disch := omega) only [wrap_i64, wrap_i32]
      | (simp (disch := first | omega | assumption | (simp only [i64, i32]; omega) | (simp <;> omega) | fail) only [loadD_cpr, loadD_cprs, List.take_of_length_le, pc_ref01_Same]; simp [*, pc_shaped, hcc, hcd])
      | (with_reducible refine And.intro ?_ ?_; focus first | omega | decide)
      | (with_reducible refine split_ite (fun hp => ?_) (fun hp => ?_) <;> (try simp at hp) <;> simp [*, pc_shaped, hcc, hcd])
      | (with_reducible refine split_ite1 (fun hp => ?_) (fun hp => ?_) <;> (try simp at hp) <;> simp [*, pc_shaped, hcc, hcd])
      | (refine split_cond (by simp) (fun hp => ?_) (fun hp => ?_) <;> simp at hp <;> simp [*, pc_shaped, hcc, hcd])
      | (refine split_ops (by simp) (fun hp => ?_) (fun hp => ?_) <;> simp at hp <;> simp [*, pc_shaped, hcc, hcd])
      | (refine split_opsD (by simp) (fun hp => ?_) (fun hp => ?_) <;> simp at hp <;> simp [*, pc_shaped, hcc, hcd])
      | (refine split_pick (by simp) (fun hp => ?_) (fun hp => ?_) <;> simp at hp <;> simp [*, pc_shaped, hcc, hcd])
      | omega
      | decide
      | (simp [*, pc_shaped, hcc, hcd]))
    refine aw_rounds (fun m st => ∃ i : Nat, st.t 0 = rn l ∧ st.t 1 = .int .i64 F ∧ st.t 2 = .int .i64 T ∧ st.t 3 = .int .i64 how ∧ st.t 10 = rn (sCh l F T how) ∧ st.t 14 = .int .i64 i ∧ st.h = [⟨cells runeC l, l.length, false⟩] ∧ i ≤ l.length ∧ m = l.length - i + 1 ∧ Keep (True)) ?_ ?_ (n := l.length - (0) + 1) (by first | omega | (simp; omega)) ?_
    · rintro st ⟨i, hx⟩; omega
    rotate_left
    · exact ⟨0, by first | (simp [*]; done) | (simp [*]; omega) | rfl, by first | (simp [*]; done) | (simp [*]; omega) | rfl, by first | (simp [*]; done) | (simp [*]; omega) | rfl, by first | (simp [*]; done) | (simp [*]; omega) | rfl, by first | (simp [*]; done) | (simp [*]; omega) | rfl, by first | (simp [*]; done) | (simp [*]; omega) | rfl, by first | (simp [*]; done) | (simp [*]; omega) | rfl, by first | omega | (simp; omega) | simp [*], by first | rfl | (simp; done) | omega, ⟨trivial⟩⟩
    rintro Ja ma ⟨t, h⟩ ⟨i, ea0, ea1, ea2, ea3, ea10, ea14, hha, fa1, hma, hqa⟩ hJa
    simp only [] at ea0 ea1 ea2 ea3 ea10 ea14 hha
    subst hha
    simp [ea0, ea1, ea2, ea3, ea10, ea14]
    by_cases hi : i < l.length
    · have hA := sCh_at (f := F) (t := T) (how := how) hi
      have hi2 : i < (sCh l F T how).length := by omega
      have hL : loR (sCh l F T how)[i] = loR l[i] := by
        rw [hA]; split
        · exact loR_chR ..
        · rfl
      have hC : (sCh l F T how)[i] = l[i] ∨ (F ≤ i ∧ i < T ∧ ((sCh l F T how)[i] = upR l[i] ∨ (sCh l F T how)[i] = loR l[i])) := by
        rw [hA]; split
        · rename_i h; refine .inr ⟨h.1, h.2, ?_⟩
          rw [chR]; split
          · exact .inl rfl
          · exact .inr rfl
        · exact .inl rfl
      clear hA
      generalize hx : (sCh l F T how)[i] = x at *
      rcases hC with hC | ⟨c1, c2, hC | hC⟩ <;> subst hC
      all_goals
        repeat' (first
          | simp (disch := omega) only [wrap_i64, wrap_i32]
          | (simp (disch := first | omega | assumption | (simp only [i64, i32]; omega) | (simp <;> omega) | fail) only [loadD_cpr, loadD_cprs, List.take_of_length_le]; simp [*, pc_shaped, loR_upR, loR_loR])
          | (with_reducible refine And.intro ?_ ?_; focus first | omega | decide)
          | (with_reducible refine split_ite (fun hp => ?_) (fun hp => ?_) <;> (try simp at hp) <;> simp [*, pc_shaped, loR_upR, loR_loR])
          | (with_reducible refine split_ite1 (fun hp => ?_) (fun hp => ?_) <;> (try simp at hp) <;> simp [*, pc_shaped, loR_upR, loR_loR])
          | (refine split_cond (by simp) (fun hp => ?_) (fun hp => ?_) <;> simp at hp <;> simp [*, pc_shaped, loR_upR, loR_loR])
          | (refine split_ops (by simp) (fun hp => ?_) (fun hp => ?_) <;> simp at hp <;> simp [*, pc_shaped, loR_upR, loR_loR])
          | (refine split_opsD (by simp) (fun hp => ?_) (fun hp => ?_) <;> simp at hp <;> simp [*, pc_shaped, loR_upR, loR_loR])
          | (refine split_pick (by simp) (fun hp => ?_) (fun hp => ?_) <;> simp at hp <;> simp [*, pc_shaped, loR_upR, loR_loR])
          | omega
          | decide
          | (simp [*, pc_shaped, loR_upR, loR_loR]))
      all_goals first | (exfalso; first | omega | contradiction) | skip
      all_goals
        exact hJa.out _ ⟨i + 1, by first | (simp [*]; done) | (simp [*]; omega) | rfl, by first | (simp [*]; done) | (simp [*]; omega) | rfl, by first | (simp [*]; done) | (simp [*]; omega) | rfl, by first | (simp [*]; done) | (simp [*]; omega) | rfl, by first | (simp [*]; done) | (simp [*]; omega) | rfl, by first | (simp [*]; done) | (simp [*]; omega) | rfl, by first | (simp [*]; done) | (simp [*]; omega) | rfl, by first | omega | (simp; omega) | simp [*], by omega, ⟨trivial⟩⟩
    · repeat' (first
        | simp (disch := omega) only [wrap_i64, wrap_i32]
        | (simp (disch := first | omega | assumption | (simp only [i64, i32]; omega) | (simp <;> omega) | fail) only [loadD_cpr, loadD_cprs, List.take_of_length_le]; simp [*, pc_shaped])
        | (with_reducible refine And.intro ?_ ?_; focus first | omega | decide)
        | (with_reducible refine split_ite (fun hp => ?_) (fun hp => ?_) <;> (try simp at hp) <;> simp [*, pc_shaped])
        | (with_reducible refine split_ite1 (fun hp => ?_) (fun hp => ?_) <;> (try simp at hp) <;> simp [*, pc_shaped])
        | (refine split_cond (by simp) (fun hp => ?_) (fun hp => ?_) <;> simp at hp <;> simp [*, pc_shaped])
        | (refine split_ops (by simp) (fun hp => ?_) (fun hp => ?_) <;> simp at hp <;> simp [*, pc_shaped])
        | (refine split_opsD (by simp) (fun hp => ?_) (fun hp => ?_) <;> simp at hp <;> simp [*, pc_shaped])
        | (refine split_pick (by simp) (fun hp => ?_) (fun hp => ?_) <;> simp at hp <;> simp [*, pc_shaped])
        | omega
        | decide
        | (simp [*, pc_shaped]))
  · have hb := change_bad he
    have hcc : (W (n + 15)).pc 31 [rn l, .int .i64 f, .int .i64 t, .int .i64 how] = some (.tup [rn [], eD (change l f t how).2]) := by
      have := pc_shape_Change (n + 13) l f t how (by omega)
      rwa [hb] at this
    simp [X_typebarlaw14_ShapeOnly, pc_shaped, hcc, he]
    repeat' (first
      | simp (disch := omega) only [wrap_i64, wrap_i32]
      | (simp (disch := first | omega | assumption | (simp only [i64, i32]; omega) | (simp <;> omega) | fail) only [loadD_cpr, loadD_cprs, List.take_of_length_le, pc_ref01_Same]; simp [*, pc_shaped, hcc])
      | (with_reducible refine And.intro ?_ ?_; focus first | omega | decide)
      | (with_reducible refine split_ite (fun hp => ?_) (fun hp => ?_) <;> (try simp at hp) <;> simp [*, pc_shaped, hcc])
      | (with_reducible refine split_ite1 (fun hp => ?_) (fun hp => ?_) <;> (try simp at hp) <;> simp [*, pc_shaped, hcc])
      | (refine split_cond (by simp) (fun hp => ?_) (fun hp => ?_) <;> simp at hp <;> simp [*, pc_shaped, hcc])
      | (refine split_ops (by simp) (fun hp => ?_) (fun hp => ?_) <;> simp at hp <;> simp [*, pc_shaped, hcc])
      | (refine split_opsD (by simp) (fun hp => ?_) (fun hp => ?_) <;> simp at hp <;> simp [*, pc_shaped, hcc])
      | (refine split_pick (by simp) (fun hp => ?_) (fun hp => ?_) <;> simp at hp <;> simp [*, pc_shaped, hcc])
      | omega
      | decide
      | (simp [*, pc_shaped, hcc]))

end Go.Proofs.Ytngbfjnkfomcnaa
