/- What the functions of layer 19 compute: a line is added. -/
import Derived.Test.YtngbfjnkfomcnaaPastB
import Derived.Test.YtngbfjnkfomcnaaPastC
namespace Go.Proofs.Ytngbfjnkfomcnaa
open Go E
set_option linter.unusedSimpArgs false
set_option linter.unusedVariables false

theorem oc_Clone_lines (n : Nat) (l : List (List Int)) (hl : l.length < 1000000) : (W (n + 1)).oc 64 [rrn l] = some (freshD rrC l, freshH rrC l) := by
  apply owns c_slices_Clone_S_S_rune_S_rune
  by_cases h0 : l = []
  · subst h0
    simp [X_slices_Clone_S_S_rune_S_rune]
    refine guardK_u (by simp) (by simp) (by simp) (by simp [freshD, freshH])
  · simp [X_slices_Clone_S_S_rune_S_rune, h0, freshD, freshH]
    omega

theorem pAdd_skip {p : Past} {l : List Int} (h : pIs p = false ∨ kOne l = false) : pAdd p l = p := by rw [pAdd, if_pos h]

theorem zerosR_len (k : Nat) : (zeros [D.arr 0 true []] k).length = k := by rw [zeros_len]; simp

theorem delH_len (L : List (List Int)) (l : List Int) : (delH L l).length = L.length := by
  have := others_len L l
  rw [delH]; split
  · simp
  · simp [zerosR_len]; omega

theorem delH_short {L : List (List Int)} {l : List Int} (h : (others L l).length < L.length) : delH L l = cells rrC (others L l) ++ zeros [.arr 0 true []] (L.length - (others L l).length) := by
  rw [delH, if_neg]
  intro h1
  obtain ⟨_, h2⟩ | ⟨k, hk, h3, _⟩ := lineAt_cases L l
  · rw [others_all h2] at h; omega
  · omega

theorem delH_put {L : List (List Int)} {l : List Int} (h : (others L l).length < L.length) : putAt (delH L l) (others L l).length [rn l] = cells rrC (others L l ++ [l]) ++ zeros [.arr 0 true []] (L.length - (others L l).length - 1) := by
  rw [delH_short h]
  obtain ⟨k, hk⟩ : ∃ k, L.length - (others L l).length = k + 1 := ⟨L.length - (others L l).length - 1, by omega⟩
  rw [hk]
  have e : (cells rrC (others L l)).length = (others L l).length := by simp
  simp only [putAt, zeros, List.length_singleton, Nat.add_sub_cancel]
  rw [List.take_append_of_le_length (by omega), List.take_of_length_le (by omega), List.drop_append, e, List.drop_of_length_le (by omega)]
  simp

theorem delH_full {L : List (List Int)} {l : List Int} (h : ¬ (others L l).length < L.length) : others L l = L ∧ delH L l = cells rrC L := by
  have h1 : others L l = L := by
    rw [others, List.filter_eq_self, ← List.length_filter_eq_length_iff]
    have := others_len L l
    simp only [others] at h this
    omega
  refine ⟨h1, ?_⟩
  rw [delH]; split
  · rfl
  · rw [h1]; simp [zeros]

theorem pAdd_eq {p : Past} {l : List Int} (hk : pIs p = true) (ho : kOne l = true) (h : ¬ (p.dup = 1 ∧ p.L ≠ [] ∧ p.L.getD (p.L.length - 1) [] = l)) :
    pAdd p l = ⟨p.room, p.dup, ((if p.dup = 2 then others p.L l else p.L) ++ [l]).drop ((if p.dup = 2 then others p.L l else p.L).length + 1 - p.room.toNat)⟩ := by
  rw [pAdd, if_neg (by simp [hk, ho]), if_neg h]
  simp [others]

theorem pAdd_same {p : Past} {l : List Int} (h : p.dup = 1 ∧ p.L ≠ [] ∧ p.L.getD (p.L.length - 1) [] = l) : pAdd p l = p := by
  unfold pAdd
  split
  · rfl
  · first | rfl | rw [if_pos h]

theorem lines_end (L : List (List Int)) (l : List Int) (k : Nat) : (cells rrC L ++ [row runeC false l]).drop k = cells rrC ((L ++ [l]).drop k) := by
  rw [← cells_drop1 rfl, cells_append]; rfl

theorem lines_mid (F : List (List Int)) (l : List Int) (Z : List D) (k : Nat) (h : k ≤ F.length + 1) : ((cells rrC F ++ row runeC false l :: Z).drop k).take (F.length + 1 - k) = cells rrC ((F ++ [l]).drop k) := by
  have e : cells rrC F ++ row runeC false l :: Z = cells rrC (F ++ [l]) ++ Z := by rw [cells_append]; simp
  rw [e, List.drop_append_of_le_length (by simp; omega), List.take_append_of_le_length (by simp), List.take_of_length_le (by simp), cells_drop1 rfl]

theorem fc_IndexFunc_nil (n : Nat) (h : List Blk) : (W (n + 1)).fc 72 [.arr 0 true [], sameF] h = some (.int .i64 (-1), h) := by
  have : oSat ((W (n + 1)).fc 72 [.arr 0 true [], sameF] h) (fun r => r = (.int .i64 (-1), h)) := by
    apply inline c_slices_IndexFunc_S_S_rune_S_rune
    simp [X_slices_IndexFunc_S_S_rune_S_rune]
    refine aw_rounds (fun m st => ∃ i : Nat, st.t 7 = .int .i64 0 ∧ st.t 8 = .int .i64 0 ∧ st.h = h ∧ i = 0 ∧ m = 0 + 1 ∧ Keep (True)) ?_ ?_ (n := 0 + 1) (by first | omega | (simp; omega)) ?_
    · rintro st ⟨i, hx⟩; omega
    rotate_left
    · exact ⟨0, by first | (simp [*]; done) | (simp [*]; omega) | rfl, by first | (simp [*]; done) | (simp [*]; omega) | rfl, by first | (simp [*]; done) | (simp [*]; omega) | rfl, by first | omega | (simp; omega) | simp [*], by first | rfl | (simp; done) | omega, ⟨trivial⟩⟩
    rintro Ja ma ⟨t, h⟩ ⟨i, ea7, ea8, hha, fa1, hma, hqa⟩ hJa
    simp only [] at ea7 ea8 hha
    subst hha
    simp [ea7, ea8]
    repeat' (first
      | simp (disch := omega) only [wrap_i64, wrap_i32]
      | (simp (disch := first | omega | assumption | (simp only [i64, i32]; omega) | (simp <;> omega) | fail) only [loadD_cpr, loadD_cprs, List.take_of_length_le]; simp [*])
      | (with_reducible refine And.intro ?_ ?_; focus first | omega | decide)
      | (with_reducible refine split_ite (fun hp => ?_) (fun hp => ?_) <;> (try simp at hp) <;> simp [*])
      | (with_reducible refine split_ite1 (fun hp => ?_) (fun hp => ?_) <;> (try simp at hp) <;> simp [*])
      | (refine split_cond (by simp) (fun hp => ?_) (fun hp => ?_) <;> simp at hp <;> simp [*])
      | (refine split_ops (by simp) (fun hp => ?_) (fun hp => ?_) <;> simp at hp <;> simp [*])
      | (refine split_opsD (by simp) (fun hp => ?_) (fun hp => ?_) <;> simp at hp <;> simp [*])
      | (refine split_pick (by simp) (fun hp => ?_) (fun hp => ?_) <;> simp at hp <;> simp [*])
      | omega
      | decide
      | (simp [*]))
  revert this
  cases (W (n + 1)).fc 72 [.arr 0 true [], sameF] h with
  | none => simp
  | some r => simp

theorem fc_DeleteFunc_nil (n : Nat) (h : List Blk) : (W (n + 2)).fc 65 [.arr 0 true [], sameF] h = some (.arr 0 true [], h) := by
  have : oSat ((W (n + 2)).fc 65 [.arr 0 true [], sameF] h) (fun r => r = (.arr 0 true [], h)) := by
    apply inline c_slices_DeleteFunc_S_S_rune_S_rune
    have hm2 : modes 65 72 = 0 := id rfl
    simp [X_slices_DeleteFunc_S_S_rune_S_rune, hm2, callW_tied, tie_fn1, fc_IndexFunc_nil]
  revert this
  cases (W (n + 2)).fc 65 [.arr 0 true [], sameF] h with
  | none => simp
  | some r => simp

@[simp] theorem pc_past_Add (n : Nat) (p : Past) (l : List Int) (hp : small p.L) (hl : l.length < 1000000) : (W (n + 8)).pc 39 [pD p, rn l] = some (pD (pAdd p l)) := by
  apply runsM c_past_Add
  have hm1 : modes 39 64 = 1 := id rfl
  have hm2 : modes 39 41 = 0 := id rfl
  have hm3 : modes 39 62 = 0 := id rfl
  have hm4 : modes 39 65 = 0 := id rfl
  have hm5 : modes 39 63 = 0 := id rfl
  cases hk : pIs p
  · simp [X_past_Add, hm1, hm2, hm3, hm4, hm5, hp, hl, hk, pAdd_skip]
    repeat' (first
      | simp (disch := omega) only [wrap_i64, wrap_i32]
      | (simp (disch := first | omega | assumption | (simp only [i64, i32]; omega) | (simp <;> omega) | fail) only [loadD_cpr, loadD_cprs, List.take_of_length_le]; simp [*, nilRR])
      | (with_reducible refine And.intro ?_ ?_; focus first | omega | decide)
      | (with_reducible refine split_ite (fun hp => ?_) (fun hp => ?_) <;> (try simp at hp) <;> simp [*, nilRR])
      | (with_reducible refine split_ite1 (fun hp => ?_) (fun hp => ?_) <;> (try simp at hp) <;> simp [*, nilRR])
      | (refine split_cond (by simp) (fun hp => ?_) (fun hp => ?_) <;> simp at hp <;> simp [*, nilRR])
      | (refine split_ops (by simp) (fun hp => ?_) (fun hp => ?_) <;> simp at hp <;> simp [*, nilRR])
      | (refine split_opsD (by simp) (fun hp => ?_) (fun hp => ?_) <;> simp at hp <;> simp [*, nilRR])
      | (refine split_pick (by simp) (fun hp => ?_) (fun hp => ?_) <;> simp at hp <;> simp [*, nilRR])
      | omega
      | decide
      | (simp [*, nilRR]))
  cases ho : kOne l
  · simp [X_past_Add, hm1, hm2, hm3, hm4, hm5, hp, hl, hk, ho, pAdd_skip]
    repeat' (first
      | simp (disch := omega) only [wrap_i64, wrap_i32]
      | (simp (disch := first | omega | assumption | (simp only [i64, i32]; omega) | (simp <;> omega) | fail) only [loadD_cpr, loadD_cprs, List.take_of_length_le]; simp [*, nilRR])
      | (with_reducible refine And.intro ?_ ?_; focus first | omega | decide)
      | (with_reducible refine split_ite (fun hp => ?_) (fun hp => ?_) <;> (try simp at hp) <;> simp [*, nilRR])
      | (with_reducible refine split_ite1 (fun hp => ?_) (fun hp => ?_) <;> (try simp at hp) <;> simp [*, nilRR])
      | (refine split_cond (by simp) (fun hp => ?_) (fun hp => ?_) <;> simp at hp <;> simp [*, nilRR])
      | (refine split_ops (by simp) (fun hp => ?_) (fun hp => ?_) <;> simp at hp <;> simp [*, nilRR])
      | (refine split_opsD (by simp) (fun hp => ?_) (fun hp => ?_) <;> simp at hp <;> simp [*, nilRR])
      | (refine split_pick (by simp) (fun hp => ?_) (fun hp => ?_) <;> simp at hp <;> simp [*, nilRR])
      | omega
      | decide
      | (simp [*, nilRR]))
  obtain ⟨room, dup, L⟩ := p
  simp only [] at *
  obtain ⟨⟨hr1, hr2, _, _⟩, hr3⟩ : (1 ≤ room ∧ room ≤ 16 ∧ 0 ≤ dup ∧ dup ≤ 2) ∧ (L.length : Int) ≤ room := by
    simp only [pIs, pOk, Bool.and_eq_true, decide_eq_true_eq] at hk
    exact hk.1
  obtain ⟨ro, rfl⟩ := Int.eq_ofNat_of_zero_le (show 0 ≤ room by omega)
  have hkk := Keep.mk hk
  have hp' := hp
  obtain ⟨hL1, hL2⟩ := hp'
  by_cases h0 : L = []
  · subst h0
    have hIs : (W (n + 7)).pc 41 [.agg [.int .i64 (ro : Int), .int .i64 dup, rrn []]] = some (.bool true) := by
      have := pc_past_Is n ⟨ro, dup, []⟩ hp
      rwa [hk] at this
    have e : pAdd ⟨ro, dup, []⟩ l = ⟨ro, dup, [l]⟩ := by
      rw [pAdd_eq hkk.out ho (by rintro ⟨_, h3, _⟩; exact h3 rfl)]
      have h1 : 1 - ro = 0 := by omega
      simp [others, h1]
    rw [e]
    have hdn : ∀ h, (W (n + 7)).fc 65 [row rrC true [], .fn (.func 63) [] [.ptr 1 0 1]] h = some (row rrC true [], h) := fun h => fc_DeleteFunc_nil (n + 5) h
    have hr0 : max 0 (1 - (ro : Int)) = 0 := by omega
    simp [X_past_Add, hm1, hm2, hm3, hm4, hm5, hIs, hl, ho]
    repeat' (first
      | simp (disch := omega) only [wrap_i64, wrap_i32]
      | (simp (disch := first | omega | assumption | (simp only [i64, i32]; omega) | (simp <;> omega) | fail) only [loadD_cpr, loadD_cprs, List.take_of_length_le, oc_Clone_lines]; simp [*, nilRR, own1_fresh, callW_tied, tie_ptr, tie_fn1, hIs, hdn, hr0])
      | (with_reducible refine And.intro ?_ ?_; focus first | omega | decide)
      | (with_reducible refine split_ite (fun hp => ?_) (fun hp => ?_) <;> (try simp at hp) <;> simp [*, nilRR, own1_fresh, callW_tied, tie_ptr, tie_fn1, hIs, hdn, hr0])
      | (with_reducible refine split_ite1 (fun hp => ?_) (fun hp => ?_) <;> (try simp at hp) <;> simp [*, nilRR, own1_fresh, callW_tied, tie_ptr, tie_fn1, hIs, hdn, hr0])
      | (refine split_cond (by simp) (fun hp => ?_) (fun hp => ?_) <;> simp at hp <;> simp [*, nilRR, own1_fresh, callW_tied, tie_ptr, tie_fn1, hIs, hdn, hr0])
      | (refine split_ops (by simp) (fun hp => ?_) (fun hp => ?_) <;> simp at hp <;> simp [*, nilRR, own1_fresh, callW_tied, tie_ptr, tie_fn1, hIs, hdn, hr0])
      | (refine split_opsD (by simp) (fun hp => ?_) (fun hp => ?_) <;> simp at hp <;> simp [*, nilRR, own1_fresh, callW_tied, tie_ptr, tie_fn1, hIs, hdn, hr0])
      | (refine split_pick (by simp) (fun hp => ?_) (fun hp => ?_) <;> simp at hp <;> simp [*, nilRR, own1_fresh, callW_tied, tie_ptr, tie_fn1, hIs, hdn, hr0])
      | omega
      | decide
      | (simp [*, nilRR, own1_fresh, callW_tied, tie_ptr, tie_fn1, hIs, hdn, hr0]))
    all_goals rfl
  have hn := List.length_pos_iff.2 h0
  have hn1 : L.length - 1 < L.length := by omega
  have en : ((L.length : Int) - 1).toNat = L.length - 1 := by omega
  have hsame : ∀ h0 h2, (W (n + 7)).fc 63 [row runeC false L[L.length - 1], .ptr 1 0 1] (h0 :: ⟨[rn l], 0, true⟩ :: h2) = some (.bool (decide (L[L.length - 1] = l)), h0 :: ⟨[rn l], 0, true⟩ :: h2) := fun h0 h2 => fc_same (n + 5) _ l h0 h2 (hL2 _ (List.getElem_mem hn1))
  have hdel := fun b0 b2 => fc_DeleteFunc (n + 3) L l b0 b2 hp
  have hIs : (W (n + 7)).pc 41 [.agg [.int .i64 (ro : Int), .int .i64 dup, rrn L]] = some (.bool true) := by
    have := pc_past_Is n ⟨ro, dup, L⟩ hp
    rwa [hk] at this
  have hdl := delH_len L l
  have hml := others_len L l
  have hpu := delH_put (L := L) (l := l)
  have hz : ∀ k, (zeros [row rrC true []] k).length = k := zerosR_len
  have hq1 : (others L l).length < L.length → (others L l).length + (L.length - (others L l).length - 1 + 1) = L.length := fun h => by omega
  have hq2 : (others L l).length < L.length → ((others L l).length + 1 ≤ L.length) = True := fun h => by simp only [eq_iff_iff, iff_true]; omega
  have hq3 : L.length ≤ (others L l).length → (L.length = (others L l).length) = True := fun h => by simp only [eq_iff_iff, iff_true]; omega
  have em : ∀ k : Nat, (max 0 ((k : Int) + 1 - (ro : Int))).toNat = k + 1 - ro := fun k => by omega
  simp [X_past_Add, hm1, hm2, hm3, hm4, hm5, hIs, hl, ho, h0]
  repeat' (first
    | simp (disch := omega) only [wrap_i64, wrap_i32]
    | (simp (disch := first | omega | assumption | (simp only [i64, i32]; omega) | (simp <;> omega) | fail) only [loadD_cpr, loadD_cprs, List.take_of_length_le, oc_Clone_lines]; simp [*, nilRR, own1_fresh, en, callW_tied, tie_ptr, tie_fn1, em, hIs, hsame, hdel, cells_row_get])
    | (with_reducible refine And.intro ?_ ?_; focus first | omega | decide)
    | (with_reducible refine split_ite (fun hp => ?_) (fun hp => ?_) <;> (try simp at hp) <;> simp [*, nilRR, own1_fresh, en, callW_tied, tie_ptr, tie_fn1, em, hIs, hsame, hdel, cells_row_get])
    | (with_reducible refine split_ite1 (fun hp => ?_) (fun hp => ?_) <;> (try simp at hp) <;> simp [*, nilRR, own1_fresh, en, callW_tied, tie_ptr, tie_fn1, em, hIs, hsame, hdel, cells_row_get])
    | (refine split_cond (by simp) (fun hp => ?_) (fun hp => ?_) <;> simp at hp <;> simp [*, nilRR, own1_fresh, en, callW_tied, tie_ptr, tie_fn1, em, hIs, hsame, hdel, cells_row_get])
    | (refine split_ops (by simp) (fun hp => ?_) (fun hp => ?_) <;> simp at hp <;> simp [*, nilRR, own1_fresh, en, callW_tied, tie_ptr, tie_fn1, em, hIs, hsame, hdel, cells_row_get])
    | (refine split_opsD (by simp) (fun hp => ?_) (fun hp => ?_) <;> simp at hp <;> simp [*, nilRR, own1_fresh, en, callW_tied, tie_ptr, tie_fn1, em, hIs, hsame, hdel, cells_row_get])
    | (refine split_pick (by simp) (fun hp => ?_) (fun hp => ?_) <;> simp at hp <;> simp [*, nilRR, own1_fresh, en, callW_tied, tie_ptr, tie_fn1, em, hIs, hsame, hdel, cells_row_get])
    | omega
    | decide
    | (simp [*, nilRR, own1_fresh, en, callW_tied, tie_ptr, tie_fn1, em, hIs, hsame, hdel, cells_row_get]))
  · obtain rfl : dup = 1 := by assumption
    rw [pAdd_same ⟨rfl, h0, by rw [getD_at hn1]; assumption⟩]; exact ⟨rfl, rfl, rfl⟩
  · obtain rfl : dup = 1 := by assumption
    rw [pAdd_eq hkk.out ho (by rintro ⟨_, _, h3⟩; rw [getD_at hn1] at h3; contradiction)]
    exact ⟨rfl, rfl, row_is (by simp) (by rw [lines_end]; rfl)⟩
  · obtain rfl : dup = 2 := by assumption
    rw [pAdd_eq hkk.out ho (by rintro ⟨h3, _⟩; simp at h3)]
    exact ⟨rfl, rfl, row_is (by simp) (by rw [lines_mid _ _ _ _ (by omega)]; rfl)⟩
  · obtain rfl : dup = 2 := by assumption
    obtain ⟨g1, g2⟩ := delH_full (L := L) (l := l) (by omega)
    rw [pAdd_eq hkk.out ho (by rintro ⟨h3, _⟩; simp at h3), g2]
    simp only [g1]
    exact ⟨trivial, trivial, row_is (by simp) (by rw [lines_end]; rfl)⟩
  · have hd2 : ¬ dup = 2 := by assumption
    rw [pAdd_eq hkk.out ho (by rintro ⟨h3, _⟩; contradiction)]
    simp only [hd2, if_false]
    exact ⟨trivial, trivial, row_is (by simp) (by rw [lines_end]; rfl)⟩

end Go.Proofs.Ytngbfjnkfomcnaa
