/- Where layer 20 lays a line: the search for its place. -/
import Derived.Test.YtklfbnbibhbjmaaStashA
import Derived.Test.YtklfbnbibhbjmaaSlices
namespace Go.Proofs.Ytklfbnbibhbjmaa
open Go E
set_option linter.unusedSimpArgs false
set_option linter.unusedVariables false

theorem oc_Clone_Slot (n : Nat) (l : List (Int × Gap)) (hl : l.length < 2000000) : (W (n + 1)).oc 30 [srn l] = some (freshD slotC l, freshH slotC l) := by
  apply owns c_slices_Clone_S_api_Slot_api_Slot
  by_cases h0 : l = []
  · subst h0
    simp [X_slices_Clone_S_api_Slot_api_Slot]
    refine guardK_u (by simp) (by simp) (by simp) (by simp [freshD, freshH])
  · simp [X_slices_Clone_S_api_Slot_api_Slot, h0, freshD, freshH]
    omega

abbrev slD (x : Int × Gap) : D := .agg [.int .i64 x.1, rn x.2.A, rn x.2.B]

@[simp] theorem pc_stash_Go_1 (n : Nat) (x : Int × Gap) : (W (n + 1)).pc 21 [slD x] = some (.int .i64 x.1) := by
  apply runs c_stash_Go_1
  simp [X_stash_Go_1]

abbrev ownB : Blk := ⟨[.fn (.func 21) [] []], 0, true⟩

theorem ls_into_1 (n : Nat) (x : Int × Gap) (k : Int) (hx : 0 ≤ x.1 ∧ x.1 ≤ 2000000) (hk : 0 ≤ k ∧ k ≤ 2000000) :
    lendS (W (n + 2)) 29 [slD x, .int .i64 k, .ptr 0 0 1] [ownB] = some (.int .i64 (x.1 - k), [ownB]) := by
  apply lends c_stash_into_api_Slot_1
  have hm : modes 29 21 = 0 := id rfl
  simp [X_stash_into_api_Slot_1, hm]
  repeat' (first
    | simp (disch := omega) only [wrap_i64, wrap_i32]
    | (simp (disch := first | omega | assumption | (simp only [i64, i32]; omega) | (simp <;> omega) | fail) only [loadD_cpr, loadD_cprs, List.take_of_length_le]; simp [*, settleF_def, settle_def])
    | (with_reducible refine And.intro ?_ ?_; focus first | omega | decide)
    | (with_reducible refine split_ite (fun hp => ?_) (fun hp => ?_) <;> (try simp at hp) <;> simp [*, settleF_def, settle_def])
    | (with_reducible refine split_ite1 (fun hp => ?_) (fun hp => ?_) <;> (try simp at hp) <;> simp [*, settleF_def, settle_def])
    | (refine split_cond (by simp) (fun hp => ?_) (fun hp => ?_) <;> simp at hp <;> simp [*, settleF_def, settle_def])
    | (refine split_ops (by simp) (fun hp => ?_) (fun hp => ?_) <;> simp at hp <;> simp [*, settleF_def, settle_def])
    | (refine split_opsD (by simp) (fun hp => ?_) (fun hp => ?_) <;> simp at hp <;> simp [*, settleF_def, settle_def])
    | (refine split_pick (by simp) (fun hp => ?_) (fun hp => ?_) <;> simp at hp <;> simp [*, settleF_def, settle_def])
    | omega
    | decide
    | (simp [*, settleF_def, settle_def]))

theorem ls_Binary (n : Nat) (L : List (Int × Gap)) (k : Int) (c : Nat) (hL : L.length < 2000000) (hk : 0 ≤ k ∧ k ≤ 2000000) (hl : ∀ x ∈ L, 0 ≤ x.1 ∧ x.1 ≤ 2000000)
    (hc : c ≤ L.length) (hr : ∀ (h : Nat) (hh : h < L.length), L[h].1 < k ↔ h < c) :
    lendS (W (n + 3)) 28 [srn L, .int .i64 k, .fn (.func 29) [] [.ptr 0 0 1]] [ownB] =
    some (.tup [.int .i64 c, .bool (decide (∃ hh : c < L.length, L[c].1 = k))], [ownB]) := by
  apply lends c_slices_BinarySearchFunc_S_api_Slot_api_Slot_int
  have hm : modes 28 29 = 3 := id rfl
  simp [X_slices_BinarySearchFunc_S_api_Slot_api_Slot_int, hm]
  refine aw_rounds (fun m st => ∃ lo : Nat, ∃ hi : Nat, ∃ f : Nat, st = ⟨tab [(0, srn L), (1, .int .i64 k), (2, .fn (.func 29) [] [.ptr 0 0 1]), (8, .int .i64 L.length), (9, .int .i64 lo), (10, .int .i64 hi)], [ownB]⟩ ∧ lo ≤ c ∧ c ≤ hi ∧ hi ≤ L.length ∧ hi - lo ≤ f ∧ m = f + 1 ∧ Keep (True)) ?_ ?_ (n := (L.length) + 1) (by first | omega | (simp; omega)) ?_
  · rintro st ⟨lo, hi, f, hx⟩; omega
  rotate_left
  · exact ⟨0, L.length, L.length, by first | rfl | (simp [*, accS, accH]; done) | (simp only [*]; done) | (congr 1 <;> simp [*, accS, accH]; done) | (congr 1 <;> simp [*, accS, accH] <;> rfl) | (congr 1 <;> congr 1 <;> simp <;> omega), by first | omega | (simp; omega) | simp [*], by first | omega | (simp; omega) | simp [*], by first | omega | (simp; omega) | simp [*], by first | omega | (simp; omega) | simp [*], by first | rfl | (simp; done) | omega, ⟨trivial⟩⟩
  rintro Ja ma _ ⟨lo, hi, f, rfl, fa1, fa2, fa3, fa4, hma, hqa⟩ hJa
  obtain ⟨M, hM1, hM2⟩ : ∃ M, 2 * M ≤ lo + hi ∧ lo + hi < 2 * M + 2 := ⟨(lo + hi) / 2, by omega, by omega⟩
  have hmid : IntKind.i64.wrap ((IntKind.u64.wrap ((lo : Int) + hi)).fdiv (2 ^ min 1 IntKind.u64.bits)) = (M : Int) := by
    rw [IntWalk.u64_in _ (by omega), show (2 : Int) ^ min 1 IntKind.u64.bits = 2 from rfl, Int.fdiv_eq_ediv_of_nonneg _ (by omega), wrap_i64 (by omega)]
    omega
  by_cases hlh : lo < hi
  · have hML : M < L.length := by omega
    have hx := hl _ (List.getElem_mem hML)
    have u := ls_into_1 n L[M] k hx hk
    simp [hm, hlh, hmid, hML]
    repeat' (first
      | simp (disch := omega) only [wrap_i64, wrap_i32]
      | (simp (disch := first | omega | assumption | (simp only [i64, i32]; omega) | (simp <;> omega) | fail) only [loadD_cpr, loadD_cprs, List.take_of_length_le]; simp [*, hm, hmid, lendW_def, back_def, u, hML])
      | (with_reducible refine And.intro ?_ ?_; focus first | omega | decide)
      | (with_reducible refine split_ite (fun hp => ?_) (fun hp => ?_) <;> (try simp at hp) <;> simp [*, hm, hmid, lendW_def, back_def, u, hML])
      | (with_reducible refine split_ite1 (fun hp => ?_) (fun hp => ?_) <;> (try simp at hp) <;> simp [*, hm, hmid, lendW_def, back_def, u, hML])
      | (refine split_cond (by simp) (fun hp => ?_) (fun hp => ?_) <;> simp at hp <;> simp [*, hm, hmid, lendW_def, back_def, u, hML])
      | (refine split_ops (by simp) (fun hp => ?_) (fun hp => ?_) <;> simp at hp <;> simp [*, hm, hmid, lendW_def, back_def, u, hML])
      | (refine split_opsD (by simp) (fun hp => ?_) (fun hp => ?_) <;> simp at hp <;> simp [*, hm, hmid, lendW_def, back_def, u, hML])
      | (refine split_pick (by simp) (fun hp => ?_) (fun hp => ?_) <;> simp at hp <;> simp [*, hm, hmid, lendW_def, back_def, u, hML])
      | omega
      | decide
      | (simp [*, hm, hmid, lendW_def, back_def, u, hML]))

    · have hMc := (hr M hML).1 (by omega)
      exact hJa.out _ ⟨M + 1, hi, f - 1, by first | rfl | (simp [*, accS, accH]; done) | (simp only [*]; done) | (congr 1 <;> simp [*, accS, accH]; done) | (congr 1 <;> simp [*, accS, accH] <;> rfl) | (congr 1 <;> congr 1 <;> simp <;> omega), by first | omega | (simp; omega) | simp [*], by first | omega | (simp; omega) | simp [*], by first | omega | (simp; omega) | simp [*], by first | omega | (simp; omega) | simp [*], by omega, ⟨trivial⟩⟩
    · have hMc : ¬ M < c := fun h => absurd ((hr M hML).2 h) (by omega)
      exact hJa.out _ ⟨lo, M, f - 1, by first | rfl | (simp [*, accS, accH]; done) | (simp only [*]; done) | (congr 1 <;> simp [*, accS, accH]; done) | (congr 1 <;> simp [*, accS, accH] <;> rfl) | (congr 1 <;> congr 1 <;> simp <;> omega), by first | omega | (simp; omega) | simp [*], by first | omega | (simp; omega) | simp [*], by first | omega | (simp; omega) | simp [*], by first | omega | (simp; omega) | simp [*], by omega, ⟨trivial⟩⟩
  · have hlo : lo = c := by omega
    subst hlo
    by_cases hlL : lo < L.length
    · have hx := hl _ (List.getElem_mem hlL)
      have u := ls_into_1 n L[lo] k hx hk
      have he : (IntKind.i64.wrap (L[lo].1 - k) = 0) = (L[lo].1 = k) := by rw [wrap_i64 (by omega)]; apply propext; omega
      simp [hm, hlh, hlL]
      repeat' (first
        | simp (disch := omega) only [wrap_i64, wrap_i32]
        | (simp (disch := first | omega | assumption | (simp only [i64, i32]; omega) | (simp <;> omega) | fail) only [loadD_cpr, loadD_cprs, List.take_of_length_le]; simp [*, hm, lendW_def, back_def, u, hlL, settleF_def, settle_def, he])
        | (with_reducible refine And.intro ?_ ?_; focus first | omega | decide)
        | (with_reducible refine split_ite (fun hp => ?_) (fun hp => ?_) <;> (try simp at hp) <;> simp [*, hm, lendW_def, back_def, u, hlL, settleF_def, settle_def, he])
        | (with_reducible refine split_ite1 (fun hp => ?_) (fun hp => ?_) <;> (try simp at hp) <;> simp [*, hm, lendW_def, back_def, u, hlL, settleF_def, settle_def, he])
        | (refine split_cond (by simp) (fun hp => ?_) (fun hp => ?_) <;> simp at hp <;> simp [*, hm, lendW_def, back_def, u, hlL, settleF_def, settle_def, he])
        | (refine split_ops (by simp) (fun hp => ?_) (fun hp => ?_) <;> simp at hp <;> simp [*, hm, lendW_def, back_def, u, hlL, settleF_def, settle_def, he])
        | (refine split_opsD (by simp) (fun hp => ?_) (fun hp => ?_) <;> simp at hp <;> simp [*, hm, lendW_def, back_def, u, hlL, settleF_def, settle_def, he])
        | (refine split_pick (by simp) (fun hp => ?_) (fun hp => ?_) <;> simp at hp <;> simp [*, hm, lendW_def, back_def, u, hlL, settleF_def, settle_def, he])
        | omega
        | decide
        | (simp [*, hm, lendW_def, back_def, u, hlL, settleF_def, settle_def, he]))
    · have hx : (∃ hh : lo < L.length, L[lo].1 = k) = False := by apply propext; constructor; exact fun ⟨h, _⟩ => hlL h; exact False.elim
      simp [hm, hlh, hlL]
      repeat' (first
        | simp (disch := omega) only [wrap_i64, wrap_i32]
        | (simp (disch := first | omega | assumption | (simp only [i64, i32]; omega) | (simp <;> omega) | fail) only [loadD_cpr, loadD_cprs, List.take_of_length_le]; simp [*, hm, settleF_def, settle_def])
        | (with_reducible refine And.intro ?_ ?_; focus first | omega | decide)
        | (with_reducible refine split_ite (fun hp => ?_) (fun hp => ?_) <;> (try simp at hp) <;> simp [*, hm, settleF_def, settle_def])
        | (with_reducible refine split_ite1 (fun hp => ?_) (fun hp => ?_) <;> (try simp at hp) <;> simp [*, hm, settleF_def, settle_def])
        | (refine split_cond (by simp) (fun hp => ?_) (fun hp => ?_) <;> simp at hp <;> simp [*, hm, settleF_def, settle_def])
        | (refine split_ops (by simp) (fun hp => ?_) (fun hp => ?_) <;> simp at hp <;> simp [*, hm, settleF_def, settle_def])
        | (refine split_opsD (by simp) (fun hp => ?_) (fun hp => ?_) <;> simp at hp <;> simp [*, hm, settleF_def, settle_def])
        | (refine split_pick (by simp) (fun hp => ?_) (fun hp => ?_) <;> simp at hp <;> simp [*, hm, settleF_def, settle_def])
        | omega
        | decide
        | (simp [*, hm, settleF_def, settle_def]))

/-- A list with a slot where its number tells it. -/
def sInto (L : List (Int × Gap)) (c : Nat) (x : Int × Gap) : List (Int × Gap) :=
  if (∃ hh : c < L.length, L[c].1 = x.1) then L.set c x else L.take c ++ x :: L.drop c

theorem putAt_slot (l : List (Int × Gap)) (k : Nat) (x : Int × Gap) (h : k < l.length) : putAt (cells slotC l) (k * 3) [.int .i64 x.1, rn x.2.A, rn x.2.B] = cells slotC (l.set k x) := by
  have e : [D.int .i64 x.1, rn x.2.A, rn x.2.B] = cells slotC [x] := rfl
  have e1 := cells_take (E := slotC) l k
  have e2 := cells_drop (E := slotC) l (k + 1)
  simp only [slotC_sz] at e1 e2
  rw [e, putAt, e1, cells_length, slotC_sz, show k * 3 + [x].length * 3 = (k + 1) * 3 by simp; omega, e2, ← cells_append, ← cells_append, List.set_eq_take_append_cons_drop, if_pos h]
  simp

theorem slice0 : sliceD 3 (.arr 0 true []) (some (.int .i64 0)) none none = some (.arr 0 true []) := by
  exact (sliceD_row_lo (E := slotC) (sz := 3) rfl true [] 0 .i64).trans rfl

theorem pc_into (n : Nat) (L : List (Int × Gap)) (x : Int × Gap) (c : Nat) (hL : L.length < 2000000) (hk : 0 ≤ x.1 ∧ x.1 ≤ 2000000) (hl : ∀ x ∈ L, 0 ≤ x.1 ∧ x.1 ≤ 2000000)
    (hc : c ≤ L.length) (hr : ∀ (h : Nat) (hh : h < L.length), L[h].1 < x.1 ↔ h < c) :
    (W (n + 4)).pc 22 [srn L, slD x, .fn (.func 21) [] []] = some (srn (sInto L c x)) := by
  apply runsM c_stash_into_api_Slot
  have m1 : modes 22 28 = 3 := id rfl
  have m2 : modes 22 30 = 1 := id rfl
  have m3 : modes 22 31 = 2 := id rfl
  have m4 : modes 22 21 = 0 := id rfl
  have u := ls_Binary n L x.1 c hL hk hl hc hr
  have uc := oc_Clone_Slot (n + 2) L hL
  by_cases h0 : L = []
  · subst h0
    simp [X_stash_into_api_Slot, m1, m2, m3, m4, lendW_def, back_def, u, uc, freshD, freshH]
    have hc0 : c = 0 := by simpa using hc
    subst hc0
    refine inline c_slices_Insert_S_api_Slot_api_Slot (ha := ?_)
    simp [X_slices_Insert_S_api_Slot_api_Slot]
    repeat' (first
      | simp (disch := omega) only [wrap_i64, wrap_i32]
      | (simp (disch := first | omega | assumption | (simp only [i64, i32]; omega) | (simp <;> omega) | fail) only [loadD_cpr, loadD_cprs, List.take_of_length_le]; simp [*, slice0, appD, contents])
      | (with_reducible refine And.intro ?_ ?_; focus first | omega | decide)
      | (with_reducible refine split_ite (fun hp => ?_) (fun hp => ?_) <;> (try simp at hp) <;> simp [*, slice0, appD, contents])
      | (with_reducible refine split_ite1 (fun hp => ?_) (fun hp => ?_) <;> (try simp at hp) <;> simp [*, slice0, appD, contents])
      | (refine split_cond (by simp) (fun hp => ?_) (fun hp => ?_) <;> simp at hp <;> simp [*, slice0, appD, contents])
      | (refine split_ops (by simp) (fun hp => ?_) (fun hp => ?_) <;> simp at hp <;> simp [*, slice0, appD, contents])
      | (refine split_opsD (by simp) (fun hp => ?_) (fun hp => ?_) <;> simp at hp <;> simp [*, slice0, appD, contents])
      | (refine split_pick (by simp) (fun hp => ?_) (fun hp => ?_) <;> simp at hp <;> simp [*, slice0, appD, contents])
      | omega
      | decide
      | (simp [*, slice0, appD, contents]))
    have hs : sInto [] 0 x = [x] := by simp [sInto]
    rw [hs]
    rfl
  · by_cases hf : ∃ hh : c < L.length, L[c].1 = x.1
    · obtain ⟨hf1, hf2⟩ := id hf
      simp [X_stash_into_api_Slot, m1, m2, m3, m4, lendW_def, back_def, u, uc, freshD, freshH, h0, hf]
      have hz := putAt_slot L c x hf1
      refine ⟨hf1, by omega, ?_, ?_⟩
      · rw [hz]; simp
      · rw [hz, sInto, if_pos hf]
        exact row_is (by simp) (List.take_of_length_le (by simp))
    · simp [X_stash_into_api_Slot, m1, m2, m3, m4, lendW_def, back_def, u, uc, freshD, freshH, h0, hf]
      by_cases hn : c < L.length
      · have ei : orfs 31 [.ref 2 0 L.length 3 (L.length * 3) false, .int .i64 c, .ref 3 0 1 3 3 true] [⟨[.int .i64 x.1, rn x.2.A, rn x.2.B], 0, true⟩, ownB, ⟨cells slotC L, 0, false⟩, ⟨[.int .i64 x.1, rn x.2.A, rn x.2.B], 0, false⟩] =
            some (.ref 2 0 (L.length + 1) 3 ((L.length + 1) * 3) false, [⟨[.int .i64 x.1, rn x.2.A, rn x.2.B], 0, true⟩, ownB, ⟨cells slotC (L.take c ++ x :: L.drop c), 0, false⟩, ⟨[.int .i64 x.1, rn x.2.A, rn x.2.B], 0, false⟩]) := by
          have e1 := cells_take (E := slotC) L c
          have e2 := cells_drop (E := slotC) L c
          simp only [slotC_sz] at e1 e2
          simp [orfs, insD, hn, e1, e2]
          omega
        rw [W_orf ei]
        simp
        refine ⟨by omega, ?_⟩
        rw [sInto, if_neg hf]
        exact row_is (by simp; omega) (by rw [List.take_of_length_le (by simp; omega)]; simp)
      · have hcn : c = L.length := by omega
        subst hcn
        refine inline c_slices_Insert_S_api_Slot_api_Slot (by simp [orfs, insD]) ?_
        simp [X_slices_Insert_S_api_Slot_api_Slot]
        repeat' (first
          | simp (disch := omega) only [wrap_i64, wrap_i32]
          | (simp (disch := first | omega | assumption | (simp only [i64, i32]; omega) | (simp <;> omega) | fail) only [loadD_cpr, loadD_cprs, List.take_of_length_le]; simp [*, appD, contents])
          | (with_reducible refine And.intro ?_ ?_; focus first | omega | decide)
          | (with_reducible refine split_ite (fun hp => ?_) (fun hp => ?_) <;> (try simp at hp) <;> simp [*, appD, contents])
          | (with_reducible refine split_ite1 (fun hp => ?_) (fun hp => ?_) <;> (try simp at hp) <;> simp [*, appD, contents])
          | (refine split_cond (by simp) (fun hp => ?_) (fun hp => ?_) <;> simp at hp <;> simp [*, appD, contents])
          | (refine split_ops (by simp) (fun hp => ?_) (fun hp => ?_) <;> simp at hp <;> simp [*, appD, contents])
          | (refine split_opsD (by simp) (fun hp => ?_) (fun hp => ?_) <;> simp at hp <;> simp [*, appD, contents])
          | (refine split_pick (by simp) (fun hp => ?_) (fun hp => ?_) <;> simp at hp <;> simp [*, appD, contents])
          | omega
          | decide
          | (simp [*, appD, contents]))
        rw [sInto, if_neg hf]
        exact row_is (by simp) (by rw [List.take_of_length_le (by simp; omega)]; simp)

end Go.Proofs.Ytklfbnbibhbjmaa
