/- What the functions that look through lines compute. -/
import Derived.Test.YtngbfjnkfomcnaaPastA
namespace Go.Proofs.Ytngbfjnkfomcnaa
open Go E
set_option linter.unusedSimpArgs false
set_option linter.unusedVariables false

theorem cells_row_get {α : Type} {E : Cell α} (L : List (List α)) (i : Nat) (h : i < (cells (rowC E) L).length) : (cells (rowC E) L)[i] = row E false (L[i]'(by simpa using h)) := by
  have hi : i < L.length := by simpa using h
  have h1 := cells_at (E := rowC E) (l := L) (k := i) hi
  have h3 : (cells (rowC E) L)[i]? = ((cells (rowC E) L).drop i)[0]? := by rw [List.getElem?_drop]; rfl
  rw [cells_drop1 rfl, h1, List.getElem?_eq_getElem h] at h3
  simpa using h3

theorem tie_ptr (b o g : Nat) : (D.ptr b o g).tied = true := id rfl
theorem tie_fn1 (f : Fn) (x : D) : (D.fn f [] [x]).tied = true := id rfl

abbrev sameF : D := .fn (.func 63) [] [.ptr 1 0 1]

theorem fc_same (n : Nat) (x l : List Int) (b0 : Blk) (hs : List Blk) (hx : x.length < 1000000) : (W (n + 2)).fc 63 [rn x, .ptr 1 0 1] (b0 :: ⟨[rn l], 0, true⟩ :: hs) = some (.bool (decide (x = l)), b0 :: ⟨[rn l], 0, true⟩ :: hs) := by
  have : oSat ((W (n + 2)).fc 63 [rn x, .ptr 1 0 1] (b0 :: ⟨[rn l], 0, true⟩ :: hs)) (fun r => r = (.bool (decide (x = l)), b0 :: ⟨[rn l], 0, true⟩ :: hs)) := by
    apply inline c_past_Add_1
    have hm : modes 63 51 = 0 := id rfl
    simp [X_past_Add_1, hm]
    repeat' (first
      | simp (disch := omega) only [wrap_i64, wrap_i32]
      | (simp (disch := first | omega | assumption | (simp only [i64, i32]; omega) | (simp <;> omega) | fail) only [loadD_cpr, loadD_cprs, List.take_of_length_le, pc_Equal_rune]; simp [*, hm])
      | (with_reducible refine And.intro ?_ ?_; focus first | omega | decide)
      | (with_reducible refine split_ite (fun hp => ?_) (fun hp => ?_) <;> (try simp at hp) <;> simp [*, hm])
      | (with_reducible refine split_ite1 (fun hp => ?_) (fun hp => ?_) <;> (try simp at hp) <;> simp [*, hm])
      | (refine split_cond (by simp) (fun hp => ?_) (fun hp => ?_) <;> simp at hp <;> simp [*, hm])
      | (refine split_ops (by simp) (fun hp => ?_) (fun hp => ?_) <;> simp at hp <;> simp [*, hm])
      | (refine split_opsD (by simp) (fun hp => ?_) (fun hp => ?_) <;> simp at hp <;> simp [*, hm])
      | (refine split_pick (by simp) (fun hp => ?_) (fun hp => ?_) <;> simp at hp <;> simp [*, hm])
      | omega
      | decide
      | (simp [*, hm]))
  revert this
  cases (W (n + 2)).fc 63 [rn x, .ptr 1 0 1] (b0 :: ⟨[rn l], 0, true⟩ :: hs) with
  | none => simp
  | some r => simp

/-- Where a line stands first; -1: nowhere. -/
def lineAt (L : List (List Int)) (l : List Int) : Int := match L.findIdx? (fun x => decide (x = l)) with
  | some i => i
  | none => -1

theorem lineAt_first {L : List (List Int)} {l : List Int} {i : Nat} (h : i < L.length) (h1 : L[i] = l) (h2 : ∀ x ∈ L.take i, x ≠ l) : lineAt L l = i := by
  have : L.findIdx? (fun x => decide (x = l)) = some i := by
    rw [List.findIdx?_eq_some_iff_getElem]
    refine ⟨h, by simpa using h1, fun j hj => ?_⟩
    have := h2 L[j] (by rw [List.mem_take_iff_getElem]; exact ⟨j, by omega, rfl⟩)
    simpa using this
  simp [lineAt, this]

theorem lineAt_none {L : List (List Int)} {l : List Int} (h2 : ∀ x ∈ L, x ≠ l) : lineAt L l = -1 := by
  have : L.findIdx? (fun x => decide (x = l)) = none := by
    rw [List.findIdx?_eq_none_iff]
    intro x hx
    simpa using h2 x hx
  simp [lineAt, this]

theorem fc_IndexFunc (n : Nat) (L : List (List Int)) (l : List Int) (b0 b2 : Blk) (hL : small L) : (W (n + 3)).fc 72 [.ref 3 0 L.length 1 L.length false, sameF] [b0, ⟨[rn l], 0, true⟩, b2, ⟨cells rrC L, 0, false⟩] =
    some (.int .i64 (lineAt L l), [b0, ⟨[rn l], 0, true⟩, b2, ⟨cells rrC L, 0, false⟩]) := by
  have : oSat ((W (n + 3)).fc 72 [.ref 3 0 L.length 1 L.length false, sameF] [b0, ⟨[rn l], 0, true⟩, b2, ⟨cells rrC L, 0, false⟩]) (fun r => r = (.int .i64 (lineAt L l), [b0, ⟨[rn l], 0, true⟩, b2, ⟨cells rrC L, 0, false⟩])) := by
    apply inline c_slices_IndexFunc_S_S_rune_S_rune
    obtain ⟨hL, hl⟩ := hL
    have hm : modes 72 63 = 0 := id rfl
    simp [X_slices_IndexFunc_S_S_rune_S_rune, hm]
    refine aw_rounds (fun m st => ∃ i : Nat, st.t 0 = .ref 3 0 L.length 1 L.length false ∧ st.t 1 = sameF ∧ st.t 7 = .int .i64 L.length ∧ st.t 8 = .int .i64 i ∧ st.h = [b0, ⟨[rn l], 0, true⟩, b2, ⟨cells rrC L, 0, false⟩] ∧ i ≤ L.length ∧ m = L.length - i + 1 ∧ Keep (∀ x ∈ L.take i, x ≠ l)) ?_ ?_ (n := L.length - (0) + 1) (by first | omega | (simp; omega)) ?_
    · rintro st ⟨i, hx⟩; omega
    rotate_left
    · exact ⟨0, by first | (simp [*]; done) | (simp [*]; omega) | rfl, by first | (simp [*]; done) | (simp [*]; omega) | rfl, by first | (simp [*]; done) | (simp [*]; omega) | rfl, by first | (simp [*]; done) | (simp [*]; omega) | rfl, by first | (simp [*]; done) | (simp [*]; omega) | rfl, by first | omega | (simp; omega) | simp [*], by first | rfl | (simp; done) | omega, ⟨by simp⟩⟩
    rintro Ja ma ⟨t, h⟩ ⟨i, ea0, ea1, ea7, ea8, hha, fa1, hma, hqa⟩ hJa
    simp only [] at ea0 ea1 ea7 ea8 hha
    subst hha
    simp [ea0, ea1, ea7, ea8]
    have hs : ∀ (h : i < L.length) h0 h2, (W (n + 2)).fc 63 [row runeC false L[i], .ptr 1 0 1] (h0 :: ⟨[rn l], 0, true⟩ :: h2) = some (.bool (decide (L[i] = l)), h0 :: ⟨[rn l], 0, true⟩ :: h2) := fun h h0 h2 => fc_same n _ l h0 h2 (hl _ (List.getElem_mem h))
    repeat' (first
      | simp (disch := omega) only [wrap_i64, wrap_i32]
      | (simp (disch := first | omega | assumption | (simp only [i64, i32]; omega) | (simp <;> omega) | fail) only [loadD_cpr, loadD_cprs, List.take_of_length_le]; simp [*, hm, cells_row_get, callW_tied, tie_ptr])
      | (with_reducible refine And.intro ?_ ?_; focus first | omega | decide)
      | (with_reducible refine split_ite (fun hp => ?_) (fun hp => ?_) <;> (try simp at hp) <;> simp [*, hm, cells_row_get, callW_tied, tie_ptr])
      | (with_reducible refine split_ite1 (fun hp => ?_) (fun hp => ?_) <;> (try simp at hp) <;> simp [*, hm, cells_row_get, callW_tied, tie_ptr])
      | (refine split_cond (by simp) (fun hp => ?_) (fun hp => ?_) <;> simp at hp <;> simp [*, hm, cells_row_get, callW_tied, tie_ptr])
      | (refine split_ops (by simp) (fun hp => ?_) (fun hp => ?_) <;> simp at hp <;> simp [*, hm, cells_row_get, callW_tied, tie_ptr])
      | (refine split_opsD (by simp) (fun hp => ?_) (fun hp => ?_) <;> simp at hp <;> simp [*, hm, cells_row_get, callW_tied, tie_ptr])
      | (refine split_pick (by simp) (fun hp => ?_) (fun hp => ?_) <;> simp at hp <;> simp [*, hm, cells_row_get, callW_tied, tie_ptr])
      | omega
      | decide
      | (simp [*, hm, cells_row_get, callW_tied, tie_ptr]))
    · exact (lineAt_first (by assumption) hp hqa.out).symm
    · exact hJa.out _ ⟨i + 1, by first | (simp [*]; done) | (simp [*]; omega) | rfl, by first | (simp [*]; done) | (simp [*]; omega) | rfl, by first | (simp [*]; done) | (simp [*]; omega) | rfl, by first | (simp [*]; done) | (simp [*]; omega) | rfl, by first | (simp [*]; done) | (simp [*]; omega) | rfl, by first | omega | (simp; omega) | simp [*], by omega, ⟨by rw [List.take_succ_eq_append_getElem (by assumption)]; intro x hx; rcases List.mem_append.1 hx with (hx|hx); (exact hqa.out x hx); (obtain rfl := List.mem_singleton.1 hx; assumption)⟩⟩
    · have := hqa.out
      rw [List.take_of_length_le (by omega)] at this
      exact (lineAt_none this).symm
  revert this
  cases (W (n + 3)).fc 72 [.ref 3 0 L.length 1 L.length false, sameF] [b0, ⟨[rn l], 0, true⟩, b2, ⟨cells rrC L, 0, false⟩] with
  | none => simp
  | some r => simp

/-- The lines but those that are l. -/
def others (L : List (List Int)) (l : List Int) : List (List Int) := L.filter fun x => decide (x ≠ l)

theorem others_len (L : List (List Int)) (l : List Int) : (others L l).length ≤ L.length := List.length_filter_le _ _

theorem others_all {L : List (List Int)} {l : List Int} (h : ∀ x ∈ L, x ≠ l) : others L l = L := by
  rw [others, List.filter_eq_self]
  intro x hx
  simpa using h x hx

/-- The store behind DeleteFunc. -/
def delH (L : List (List Int)) (l : List Int) : List D := if lineAt L l = -1 then cells rrC L else cells rrC (others L l) ++ zeros [.arr 0 true []] (L.length - (others L l).length)

theorem lineAt_cases (L : List (List Int)) (l : List Int) : (lineAt L l = -1 ∧ ∀ x ∈ L, x ≠ l) ∨ ∃ k : Nat, ∃ h : k < L.length, lineAt L l = k ∧ L[k] = l ∧ ∀ x ∈ L.take k, x ≠ l := by
  cases hf : L.findIdx? (fun x => decide (x = l)) with
  | none =>
    refine .inl ⟨by simp [lineAt, hf], fun x hx => ?_⟩
    rw [List.findIdx?_eq_none_iff] at hf
    simpa using hf x hx
  | some k =>
    obtain ⟨h1, h2, h3⟩ := List.findIdx?_eq_some_iff_getElem.1 hf
    refine .inr ⟨k, h1, by simp [lineAt, hf], by simpa using h2, fun x hx => ?_⟩
    obtain ⟨j, hj, rfl⟩ := List.mem_take_iff_getElem.1 hx
    simpa using h3 j (by omega)

theorem others_take {L : List (List Int)} {l : List Int} {j : Nat} (h : j < L.length) : others (L.take (j + 1)) l = if L[j] = l then others (L.take j) l else others (L.take j) l ++ [L[j]] := by
  rw [others, List.take_succ_eq_append_getElem h, List.filter_append]
  by_cases hl : L[j] = l
  · simp [hl, others]
  · simp [hl, others]

theorem del_get {L X : List (List Int)} {j : Nat} (h2 : X.drop j = L.drop j) (h : j < X.length) (h' : j < L.length) : X[j] = L[j] := by
  have := congrArg (fun y => y[0]?) h2
  simp only [List.getElem?_drop, Nat.add_zero] at this
  rw [List.getElem?_eq_getElem h, List.getElem?_eq_getElem h'] at this
  simpa using this

theorem del_drop {L X : List (List Int)} {j : Nat} (h2 : X.drop j = L.drop j) : X.drop (j + 1) = L.drop (j + 1) := by
  have := congrArg (List.drop 1) h2
  simpa [List.drop_drop, Nat.add_comm] using this

theorem del_set {X : List (List Int)} {i : Nat} {v : List Int} (h : i < X.length) : (X.set i v).take (i + 1) = X.take i ++ [v] := by
  rw [List.take_succ_eq_append_getElem (by simpa using h), List.getElem_set_self, List.take_set_of_le (Nat.le_refl i)]

theorem fc_DeleteFunc (n : Nat) (L : List (List Int)) (l : List Int) (b0 b2 : Blk) (hL : small L) : (W (n + 4)).fc 65 [.ref 3 0 L.length 1 L.length false, sameF] [b0, ⟨[rn l], 0, true⟩, b2, ⟨cells rrC L, 0, false⟩] =
    some (.ref 3 0 (others L l).length 1 L.length false, [b0, ⟨[rn l], 0, true⟩, b2, ⟨delH L l, 0, false⟩]) := by
  have : oSat ((W (n + 4)).fc 65 [.ref 3 0 L.length 1 L.length false, sameF] [b0, ⟨[rn l], 0, true⟩, b2, ⟨cells rrC L, 0, false⟩])
      (fun r => r = (.ref 3 0 (others L l).length 1 L.length false, [b0, ⟨[rn l], 0, true⟩, b2, ⟨delH L l, 0, false⟩])) := by
    apply inline c_slices_DeleteFunc_S_S_rune_S_rune
    have hm1 : modes 65 63 = 0 := id rfl
    have hm2 : modes 65 72 = 0 := id rfl
    have hI := fc_IndexFunc n L l b0 b2 hL
    simp [X_slices_DeleteFunc_S_S_rune_S_rune, hm1, hm2, callW_tied, tie_fn1, hI]
    repeat' (first
      | simp (disch := omega) only [wrap_i64, wrap_i32]
      | (simp (disch := first | omega | assumption | (simp only [i64, i32]; omega) | (simp <;> omega) | fail) only [loadD_cpr, loadD_cprs, List.take_of_length_le]; simp [*, hm1, hm2, cells_row_get, callW_tied, tie_ptr, tie_fn1, hI])
      | (with_reducible refine And.intro ?_ ?_; focus first | omega | decide)
      | (with_reducible refine split_ite (fun hp => ?_) (fun hp => ?_) <;> (try simp at hp) <;> simp [*, hm1, hm2, cells_row_get, callW_tied, tie_ptr, tie_fn1, hI])
      | (with_reducible refine split_ite1 (fun hp => ?_) (fun hp => ?_) <;> (try simp at hp) <;> simp [*, hm1, hm2, cells_row_get, callW_tied, tie_ptr, tie_fn1, hI])
      | (refine split_cond (by simp) (fun hp => ?_) (fun hp => ?_) <;> simp at hp <;> simp [*, hm1, hm2, cells_row_get, callW_tied, tie_ptr, tie_fn1, hI])
      | (refine split_ops (by simp) (fun hp => ?_) (fun hp => ?_) <;> simp at hp <;> simp [*, hm1, hm2, cells_row_get, callW_tied, tie_ptr, tie_fn1, hI])
      | (refine split_opsD (by simp) (fun hp => ?_) (fun hp => ?_) <;> simp at hp <;> simp [*, hm1, hm2, cells_row_get, callW_tied, tie_ptr, tie_fn1, hI])
      | (refine split_pick (by simp) (fun hp => ?_) (fun hp => ?_) <;> simp at hp <;> simp [*, hm1, hm2, cells_row_get, callW_tied, tie_ptr, tie_fn1, hI])
      | omega
      | decide
      | (simp [*, hm1, hm2, cells_row_get, callW_tied, tie_ptr, tie_fn1, hI]))
    · obtain ⟨h1, h2⟩ | ⟨k, h, h1, _⟩ := lineAt_cases L l
      · rw [others_all h2, delH, if_pos h1]; exact ⟨rfl, rfl⟩
      · omega
    · obtain ⟨h1, h2⟩ | ⟨k, hk, h1, hkl, hkt⟩ := lineAt_cases L l
      · omega
      have ht1 : L.take k = others (L.take k) l := (others_all hkt).symm
      have ht2 : L.take k = others (L.take (k + 1)) l := by rw [others_take hk, if_pos hkl]; exact ht1
      have hne : ¬ lineAt L l = -1 := by omega
      have hdel : delH L l = cells rrC (others L l) ++ zeros [.arr 0 true []] (L.length - (others L l).length) := by rw [delH, if_neg hne]
      obtain ⟨hL1, hL2⟩ := hL
      clear ht1 hkt hkl
      simp only [h1]
      clear h1 hI hp
      have hu := Keep.mk ht2
      have hdel := Keep.mk hdel
      clear ht2
      simp (disch := omega) only [wrap_i64]
      refine aw_rounds (fun m st => ∃ i : Nat, ∃ j : Nat, ∃ X : List (List Int), st = ⟨tab [(0, .ref 3 0 L.length 1 L.length false), (1, sameF), (5, .int .i64 i), (6, .int .i64 j)], [b0, ⟨[rn l], 0, true⟩, b2, ⟨cells rrC X, 0, false⟩]⟩ ∧ i < j ∧ j ≤ L.length ∧ X.length = L.length ∧ m = L.length - j + 1 ∧ Keep (X.take i = others (L.take j) l ∧ X.drop j = L.drop j)) ?_ ?_ (n := L.length - (k + 1) + 1) (by first | omega | (simp; omega)) ?_
      · rintro st ⟨i, j, X, hx⟩; omega
      rotate_left
      · exact ⟨k, k + 1, L, by first | rfl | (simp [*]; done) | (simp only [*]; done) | (congr 1 <;> simp [*]; done), by first | omega | (simp; omega) | simp [*], by first | omega | (simp; omega) | simp [*], by first | omega | (simp; omega) | simp [*], by first | rfl | (simp; done) | omega, ⟨⟨hu.out, rfl⟩⟩⟩
      rintro Ja ma _ ⟨i, j, X, rfl, fa1, fa2, fa3, hma, hqa⟩ hJa
      obtain ⟨hq1, hq2⟩ := hqa.out
      by_cases hj : j < L.length
      · have hjX : j < X.length := by omega
        have hget := del_get hq2 hjX hj
        have hs : ∀ h0 h2, (W (n + 3)).fc 63 [row runeC false L[j], .ptr 1 0 1] (h0 :: ⟨[rn l], 0, true⟩ :: h2) = some (.bool (decide (L[j] = l)), h0 :: ⟨[rn l], 0, true⟩ :: h2) := fun h0 h2 => fc_same (n + 1) _ l h0 h2 (hL2 _ (List.getElem_mem hj))
        have hset : ∀ v, putAt (cells rrC X) i [row runeC false v] = cells rrC (X.set i v) := fun v => putAt_row X i v (by omega)
        have hot := others_take (l := l) hj
        repeat' (first
          | simp (disch := omega) only [wrap_i64, wrap_i32]
          | (simp (disch := first | omega | assumption | (simp only [i64, i32]; omega) | (simp <;> omega) | fail) only [loadD_cpr, loadD_cprs, List.take_of_length_le]; simp [*, hm1, hm2, cells_row_get, callW_tied, tie_ptr, tie_fn1, hs, hget, hset])
          | (with_reducible refine And.intro ?_ ?_; focus first | omega | decide)
          | (with_reducible refine split_ite (fun hp => ?_) (fun hp => ?_) <;> (try simp at hp) <;> simp [*, hm1, hm2, cells_row_get, callW_tied, tie_ptr, tie_fn1, hs, hget, hset])
          | (with_reducible refine split_ite1 (fun hp => ?_) (fun hp => ?_) <;> (try simp at hp) <;> simp [*, hm1, hm2, cells_row_get, callW_tied, tie_ptr, tie_fn1, hs, hget, hset])
          | (refine split_cond (by simp) (fun hp => ?_) (fun hp => ?_) <;> simp at hp <;> simp [*, hm1, hm2, cells_row_get, callW_tied, tie_ptr, tie_fn1, hs, hget, hset])
          | (refine split_ops (by simp) (fun hp => ?_) (fun hp => ?_) <;> simp at hp <;> simp [*, hm1, hm2, cells_row_get, callW_tied, tie_ptr, tie_fn1, hs, hget, hset])
          | (refine split_opsD (by simp) (fun hp => ?_) (fun hp => ?_) <;> simp at hp <;> simp [*, hm1, hm2, cells_row_get, callW_tied, tie_ptr, tie_fn1, hs, hget, hset])
          | (refine split_pick (by simp) (fun hp => ?_) (fun hp => ?_) <;> simp at hp <;> simp [*, hm1, hm2, cells_row_get, callW_tied, tie_ptr, tie_fn1, hs, hget, hset])
          | omega
          | decide
          | (simp [*, hm1, hm2, cells_row_get, callW_tied, tie_ptr, tie_fn1, hs, hget, hset]))
        · exact hJa.out _ ⟨i + 1, j + 1, X.set i L[j], by first | rfl | (simp [*]; done) | (simp only [*]; done) | (congr 1 <;> simp [*]; done), by first | omega | (simp; omega) | simp [*], by first | omega | (simp; omega) | simp [*], by first | omega | (simp; omega) | simp [*], by omega, ⟨⟨by rw [del_set (by omega), hq1, hot, if_neg (by assumption)], by rw [List.drop_set_of_lt (by omega)]; exact del_drop hq2⟩⟩⟩
        · exact hJa.out _ ⟨i, j + 1, X, by first | rfl | (simp [*]; done) | (simp only [*]; done) | (congr 1 <;> simp [*]; done), by first | omega | (simp; omega) | simp [*], by first | omega | (simp; omega) | simp [*], by first | omega | (simp; omega) | simp [*], by omega, ⟨⟨by rw [hq1, hot, if_pos (by assumption)], del_drop hq2⟩⟩⟩
      · repeat' (first
          | simp (disch := omega) only [wrap_i64, wrap_i32]
          | (simp (disch := first | omega | assumption | (simp only [i64, i32]; omega) | (simp <;> omega) | fail) only [loadD_cpr, loadD_cprs, List.take_of_length_le]; simp [*, hm1, hm2, cells_row_get, callW_tied, tie_ptr, tie_fn1])
          | (with_reducible refine And.intro ?_ ?_; focus first | omega | decide)
          | (with_reducible refine split_ite (fun hp => ?_) (fun hp => ?_) <;> (try simp at hp) <;> simp [*, hm1, hm2, cells_row_get, callW_tied, tie_ptr, tie_fn1])
          | (with_reducible refine split_ite1 (fun hp => ?_) (fun hp => ?_) <;> (try simp at hp) <;> simp [*, hm1, hm2, cells_row_get, callW_tied, tie_ptr, tie_fn1])
          | (refine split_cond (by simp) (fun hp => ?_) (fun hp => ?_) <;> simp at hp <;> simp [*, hm1, hm2, cells_row_get, callW_tied, tie_ptr, tie_fn1])
          | (refine split_ops (by simp) (fun hp => ?_) (fun hp => ?_) <;> simp at hp <;> simp [*, hm1, hm2, cells_row_get, callW_tied, tie_ptr, tie_fn1])
          | (refine split_opsD (by simp) (fun hp => ?_) (fun hp => ?_) <;> simp at hp <;> simp [*, hm1, hm2, cells_row_get, callW_tied, tie_ptr, tie_fn1])
          | (refine split_pick (by simp) (fun hp => ?_) (fun hp => ?_) <;> simp at hp <;> simp [*, hm1, hm2, cells_row_get, callW_tied, tie_ptr, tie_fn1])
          | omega
          | decide
          | (simp [*, hm1, hm2, cells_row_get, callW_tied, tie_ptr, tie_fn1]))
        have hq3 : L.take j = L := List.take_of_length_le (by omega)
        rw [hq3] at hq1
        have hi : (others L l).length = i := by
          rw [← hq1, List.length_take]; omega
        refine ⟨hi.symm, ?_⟩
        rw [hi]
        have hz : (zeros [D.arr 0 true []] (L.length - i)).length = L.length - i := by rw [zeros_len]; simp
        simp only [putAt, hz]
        rw [List.drop_of_length_le (by simp; omega), List.append_nil, cells_take1 rfl, hq1]
  revert this
  cases (W (n + 4)).fc 65 [.ref 3 0 L.length 1 L.length false, sameF] [b0, ⟨[rn l], 0, true⟩, b2, ⟨cells rrC L, 0, false⟩] with
  | none => simp
  | some r => simp

end Go.Proofs.Ytngbfjnkfomcnaa
