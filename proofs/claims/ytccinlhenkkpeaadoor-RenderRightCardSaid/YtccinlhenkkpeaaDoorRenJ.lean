/- The statement RenderPoint. -/
import Derived.Test.YtccinlhenkkpeaaDoorRenI
namespace Go.Proofs.YtccinlhenkkpeaaDoor
open Go E
set_option linter.unusedSimpArgs false
set_option linter.unusedVariables false
set_option maxRecDepth 100000

theorem placesF_append (w : Nat) : ∀ (x y : List Int) (a : Nat), placesF w a (x ++ y) = placesF w a x ++ placesF w (endF w a x) y
  | [], y, a => rfl
  | r :: x, y, a => by simp only [List.cons_append, placesF, endF, placesF_append w x y]

theorem cellsF_append (w : Nat) : ∀ (x y : List Int) (a : Nat), cellsF w a (x ++ y) = cellsF w a x ++ cellsF w (endF w a x) y
  | [], y, a => rfl
  | r :: x, y, a => by simp only [List.cons_append, cellsF, endF, cellsF_append w x y, List.append_assoc]

theorem endF_le {w : Nat} (hw : 2 ≤ w) : ∀ (l : List Int) (a : Nat), endF w a l ≤ a + 3 * l.length
  | [], a => by simp [endF]
  | r :: l, a => by
    have := endF_le hw l (nextF w a r)
    have := next_le (a := a) hw r
    simp only [endF, List.length_cons]; omega

theorem from_mod {w a : Nat} (hw : 2 ≤ w) (r : Int) : fromF w a r % w + widthR r ≤ w := by
  have := width_12 r
  have := Nat.mod_lt a (show 0 < w by omega)
  simp only [fromF]
  split
  · have e : a + (w - a % w) = w * (a / w + 1) := by
      have := Nat.div_add_mod a w
      rw [Nat.mul_add]; omega
    rw [e, Nat.mul_mod_right]; omega
  · omega

/-- Where the sign at the point is. -/
theorem point_in {w : Nat} (hw : 2 ≤ w) (pre : List Int) (r : Int) (post : List Int) : ∃ p : Nat, atF w (pre ++ r :: post) (r :: post).length = (p : Int) ∧ p + (cellsR r).length ≤ (cellsF w 0 (pre ++ r :: post)).length ∧
    p % w + (cellsR r).length ≤ w ∧ ((cellsF w 0 (pre ++ r :: post)).drop p).take (cellsR r).length = cellsR r := by
  refine ⟨fromF w (endF w 0 pre) r, ?_, ?_, ?_, ?_⟩
  · have hl : (placesF w 0 pre).length = pre.length := placesF_length ..
    rw [atF, if_neg (by simp), placesF_append, placesF, show (pre ++ r :: post).length - (r :: post).length = pre.length by simp]
    simp [List.getD_eq_getElem?_getD, List.getElem?_append_right, hl]
  · have h1 := cellsF_length hw pre 0
    have h2 := from_le (a := endF w 0 pre) hw r
    rw [cellsF_append, cellsF]
    simp
    omega
  · rw [cellsR_length]; exact from_mod hw r
  · have h1 := cellsF_length hw pre 0
    have h2 := from_le (a := endF w 0 pre) hw r
    rw [cellsF_append, cellsF, ← List.append_assoc, ← List.append_assoc, List.append_assoc _ (cellsR r), List.drop_left' (by simp; omega), List.take_left]

theorem pc_RenderPoint (n : Nat) (e : EditorM) (w : Int) : (W (n + 24)).pc 3 [edrD e, .int .i64 w] = some (.bool true) := by
  apply runs c_typebarlaw26_RenderPoint
  have hB := pc_ref24_Big (n + 21) e
  have hR := pc_rendered (n + 3)
  cases hb : rBig e <;> rw [hb] at hB
  · have hs := rBig_small hb
    have hL := pc_render_Lay (n + 11) e w hs
    have hS := pc_editor_Shown (n + 12) e hs
    obtain ⟨s1, s2, s3⟩ := eShown_small hs
    by_cases he : (rLay e w).2.2 = 0
    · have hw : edrIs e = true ∧ ¬ (w < 2 ∨ 80 < w) ∧ ¬ 500 < (lText e).length := by
        simp only [rLay] at he
        split at he
        · split at he
          · exact absurd he (by decide)
          split at he
          · exact absurd he (by decide)
          · exact ⟨by assumption, by assumption, by assumption⟩
        · exact absurd he (by decide)
      obtain ⟨h1, h2, h3⟩ := hw
      have hr : rLay e w = (cellsF w.toNat 0 (lText e), atF w.toNat (lText e) (eShown e).2.B.length, 0) := by rw [rLay, if_pos h1, if_neg h2, if_neg h3]
      have hlt : lText e = (eShown e).1 ++ ((eShown e).2.A ++ (eShown e).2.B) := rfl
      rw [hr] at hL
      rw [hlt] at hL h3
      clear hr hlt he
      generalize eShown e = S at *
      obtain ⟨ah, A, B⟩ := S
      simp only at *
      obtain ⟨v, rfl⟩ : ∃ v : Nat, w = v := ⟨w.toNat, by omega⟩
      simp only [Int.toNat_natCast] at hL
      have hv : 2 ≤ v ∧ v ≤ 80 := by omega
      cases B with
      | nil =>
        have hc := cellsF_length hv.1 (ah ++ (A ++ [])) 0
        simp only [Nat.zero_add] at hc
        simp only [atF, List.length_nil, if_true, ← hc] at hL
        simp [X_typebarlaw26_RenderPoint, hB, hL, hS, hR]
      | cons r post =>
        obtain ⟨p, p1, p2, p3, p4⟩ := point_in hv.1 (ah ++ A) r post
        rw [List.append_assoc] at p1 p2 p4
        rw [p1] at hL
        have hne : ¬ ((post.length : Int) + 1 = 0) := by omega
        have hcs := pc_wide_Cells (n + 19) r
        have hc3 := cellsF_length hv.1 (ah ++ (A ++ r :: post)) 0
        have hc4 := endF_le hv.1 (ah ++ (A ++ r :: post)) 0
        have hw12 := width_12 r
        have hdl := cellsR_length r
        generalize cellsF v 0 (ah ++ (A ++ r :: post)) = C at *
        generalize cellsR r = d at *
        have hCl : C.length < 10000000 := by omega
        have hSm := pc_ref02_Same (n + 22) d d (by omega)
        simp only [decide_true] at hSm
        have e1 : (p : Int).tmod v = (p : Int) % v := Int.tmod_eq_emod_of_nonneg (by omega)
        have e2 : (p : Int) % v + d.length ≤ v := by omega
        have e3 : IntKind.i64.wrap ((p : Int) + d.length) = (p + d.length : Nat) := by rw [wrap_i64 (by omega)]; omega
        have e4 : IntKind.i64.wrap ((p : Int) % v + d.length) = (p : Int) % v + d.length := wrap_i64 (by omega)
        have e5 : ((p + d.length : Nat) : Int) ≤ C.length := by omega
        have hv0 : ¬ v = 0 := by omega
        simp [X_typebarlaw26_RenderPoint, hB, hL, hS, hR, hne, hcs, e1, e2, e3, e4, e5, hv0]
        rw [hdl] at p4
        repeat' (first
          | simp (disch := omega) only [wrap_i64, wrap_i32]
          | (simp (disch := first | omega | assumption | (simp only [i64, i32]; omega) | (simp <;> omega) | fail) only [loadD_cpr, loadD_cprs, List.take_of_length_le]; simp [*, hcs, hR, e1, e2, e3, e4, e5, hv0, p4, hSm])
          | (with_reducible refine And.intro ?_ ?_; focus first | omega | decide)
          | (with_reducible refine split_ite (fun hp => ?_) (fun hp => ?_) <;> (try simp at hp) <;> simp [*, hcs, hR, e1, e2, e3, e4, e5, hv0, p4, hSm])
          | (with_reducible refine split_ite1 (fun hp => ?_) (fun hp => ?_) <;> (try simp at hp) <;> simp [*, hcs, hR, e1, e2, e3, e4, e5, hv0, p4, hSm])
          | (refine split_cond (by simp) (fun hp => ?_) (fun hp => ?_) <;> simp at hp <;> simp [*, hcs, hR, e1, e2, e3, e4, e5, hv0, p4, hSm])
          | (refine split_ops (by simp) (fun hp => ?_) (fun hp => ?_) <;> simp at hp <;> simp [*, hcs, hR, e1, e2, e3, e4, e5, hv0, p4, hSm])
          | (refine split_opsD (by simp) (fun hp => ?_) (fun hp => ?_) <;> simp at hp <;> simp [*, hcs, hR, e1, e2, e3, e4, e5, hv0, p4, hSm])
          | (refine split_pick (by simp) (fun hp => ?_) (fun hp => ?_) <;> simp at hp <;> simp [*, hcs, hR, e1, e2, e3, e4, e5, hv0, p4, hSm])
          | omega
          | decide
          | (simp [*, hcs, hR, e1, e2, e3, e4, e5, hv0, p4, hSm]))
    · have hr : (rLay e w).1 = [] ∧ (rLay e w).2.1 = 0 := by
        simp only [rLay] at he ⊢
        split
        · split
          · exact ⟨rfl, rfl⟩
          split
          · exact ⟨rfl, rfl⟩
          · rename_i q1 q2 q3
            exact absurd (by rw [if_pos q1, if_neg q2, if_neg q3]) he
        · exact ⟨rfl, rfl⟩
      rw [hr.1, hr.2] at hL
      simp [X_typebarlaw26_RenderPoint, hB, hL, hS, hR, he]
  · simp [X_typebarlaw26_RenderPoint, hB]

end Go.Proofs.YtccinlhenkkpeaaDoor
