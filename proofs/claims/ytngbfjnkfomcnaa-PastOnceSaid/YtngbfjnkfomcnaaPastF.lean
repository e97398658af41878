/- The laws of layer 19. -/
import Derived.Test.YtngbfjnkfomcnaaPastE
namespace Go.Proofs.Ytngbfjnkfomcnaa
open Go E
set_option linter.unusedSimpArgs false
set_option linter.unusedVariables false

theorem kept_all (dup : Int) (L : List (List Int)) (l : List Int) (k : Nat) : ∃ R, kept dup L l L.length = kept dup L l k ++ R ∧ R.length ≤ L.length - k := by
  simp only [kept, List.take_length]
  by_cases h : dup = 2
  · simp only [h, if_true, others]
    exact ⟨(L.drop k).filter fun x => decide (x ≠ l), by rw [← List.filter_append, List.take_append_drop], Nat.le_trans (List.length_filter_le _ _) (by simp)⟩
  · simp only [h, if_false]
    exact ⟨L.drop k, (List.take_append_drop _ _).symm, by simp⟩

theorem kept_mem {dup : Int} {L : List (List Int)} {l x : List Int} {k : Nat} (h : x ∈ kept dup L l k) : x ∈ L := by
  simp only [kept, others] at h
  split at h
  · exact List.mem_of_mem_take (List.mem_filter.1 h).1
  · exact List.mem_of_mem_take h

theorem pIs_spec {p : Past} (h : pIs p = true) : 1 ≤ p.room ∧ p.room ≤ 16 ∧ 0 ≤ p.dup ∧ p.dup ≤ 2 ∧ (p.L.length : Int) ≤ p.room ∧ ∀ x ∈ p.L, kOne x = true := by
  simp only [pIs, pOk, Bool.and_eq_true, decide_eq_true_eq, List.all_eq_true] at h
  obtain ⟨⟨⟨h1, h2, h3, h4⟩, h5⟩, h6⟩ := h
  exact ⟨h1, h2, h3, h4, h5, h6⟩

theorem pIs_mk {p : Past} (h1 : 1 ≤ p.room ∧ p.room ≤ 16 ∧ 0 ≤ p.dup ∧ p.dup ≤ 2) (h5 : (p.L.length : Int) ≤ p.room) (h6 : ∀ x ∈ p.L, kOne x = true) : pIs p = true := by
  simp only [pIs, pOk, Bool.and_eq_true, decide_eq_true_eq, List.all_eq_true]
  exact ⟨⟨h1, h5⟩, h6⟩

/-- The lines behind 'Add', where it does something. -/
theorem pAdd_lines {p : Past} {l : List Int} (hk : pIs p = true) (ho : kOne l = true) (h : ¬ (p.dup = 1 ∧ p.L ≠ [] ∧ p.L.getD (p.L.length - 1) [] = l)) :
    pAdd p l = ⟨p.room, p.dup, (kept p.dup p.L l p.L.length ++ [l]).drop ((kept p.dup p.L l p.L.length).length + 1 - p.room.toNat)⟩ := by
  rw [pAdd_eq hk ho h, kept_full]

theorem pAdd_room (p : Past) (l : List Int) : (pAdd p l).room = p.room ∧ (pAdd p l).dup = p.dup := by
  simp only [pAdd]; split
  · exact ⟨rfl, rfl⟩
  · split <;> exact ⟨rfl, rfl⟩

theorem pAdd_is {p : Past} (l : List Int) (hk : pIs p = true) : pIs (pAdd p l) = true := by
  cases ho : kOne l
  · rw [pAdd_skip (.inr ho)]; exact hk
  by_cases h : p.dup = 1 ∧ p.L ≠ [] ∧ p.L.getD (p.L.length - 1) [] = l
  · rw [pAdd_same h]; exact hk
  obtain ⟨h1, h2, h3, h4, h5, h6⟩ := pIs_spec hk
  rw [pAdd_lines hk ho h]
  refine pIs_mk ⟨h1, h2, h3, h4⟩ ?_ fun x hx => ?_
  · simp only [List.length_drop, List.length_append, List.length_singleton]
    omega
  · rcases List.mem_append.1 (List.mem_of_mem_drop hx) with hx | hx
    · exact h6 x (kept_mem hx)
    · rw [List.mem_singleton.1 hx]; exact ho

theorem pAdd_newest {p : Past} {l : List Int} (hk : pIs p = true) (ho : kOne l = true) : pGet (pAdd p l) (((pAdd p l).L.length : Int) - 1) = (l, 0) := by
  have hA := pAdd_is l hk
  have key : ∃ h : (pAdd p l).L.length - 1 < (pAdd p l).L.length, (pAdd p l).L[(pAdd p l).L.length - 1] = l := by
    by_cases h : p.dup = 1 ∧ p.L ≠ [] ∧ p.L.getD (p.L.length - 1) [] = l
    · rw [pAdd_same h]
      have hn := List.length_pos_iff.2 h.2.1
      exact ⟨by omega, by rw [← getD_at (by omega) []]; exact h.2.2⟩
    · obtain ⟨h1, h2, h3, h4, h5, h6⟩ := pIs_spec hk
      have hr : 1 ≤ p.room.toNat := by omega
      rw [pAdd_lines hk ho h]
      refine ⟨by simp; omega, ?_⟩
      simp only [List.getElem_drop, List.length_drop, List.length_append, List.length_singleton]
      rw [List.getElem_append_right (by omega)]
      simp
  obtain ⟨h1, h2⟩ := key
  have e : (((pAdd p l).L.length : Int) - 1).toNat = (pAdd p l).L.length - 1 := by omega
  rw [pGet_at hA (by omega) (by omega)]
  simp only [e, h2]

theorem pAdd_small {p : Past} {l : List Int} (hL : p.L.length ≤ 100) (hx : ∀ x ∈ p.L, x.length ≤ 1000) (hl : l.length ≤ 1000) : (pAdd p l).L.length ≤ 101 ∧ ∀ x ∈ (pAdd p l).L, x.length ≤ 1000 := by
  cases hk : pIs p
  · rw [pAdd_skip (.inl hk)]; exact ⟨by omega, hx⟩
  cases ho : kOne l
  · rw [pAdd_skip (.inr ho)]; exact ⟨by omega, hx⟩
  by_cases h : p.dup = 1 ∧ p.L ≠ [] ∧ p.L.getD (p.L.length - 1) [] = l
  · rw [pAdd_same h]; exact ⟨by omega, hx⟩
  rw [pAdd_lines hk ho h]
  have := kept_len p.dup p.L l p.L.length
  refine ⟨by simp; omega, fun x hm => ?_⟩
  rcases List.mem_append.1 (List.mem_of_mem_drop hm) with hm | hm
  · exact hx x (kept_mem hm)
  · rw [List.mem_singleton.1 hm]; exact hl

theorem pc_PastAdds (n : Nat) (p : Past) (l : List Int) : (W (n + 18)).pc 10 [pD p, rn l] = some (.bool true) := by
  apply runs c_typebarlaw19_PastAdds
  cases hb : pBig p l
  · obtain ⟨hs, hl, hL, hx⟩ := pBig_small hb
    obtain ⟨hA1, hA2⟩ := pAdd_small hL hx hl
    have hA : small (pAdd p l).L := ⟨by omega, fun x hm => by have := hA2 x hm; omega⟩
    have hl' : l.length < 1000000 := by omega
    simp [X_typebarlaw19_PastAdds, nilR, pc_pBig, pc_passed, hb]
    repeat' (first
      | simp (disch := omega) only [wrap_i64, wrap_i32]
      | (simp (disch := first | omega | assumption | (simp only [i64, i32]; omega) | (simp <;> omega) | fail) only [loadD_cpr, loadD_cprs, List.take_of_length_le, pc_past_Add, pc_ref19_Add, pc_ref19_Same, pc_past_Is, pc_ref19_Is]; simp [*, nilR, pc_pBig, pc_passed])
      | (with_reducible refine And.intro ?_ ?_; focus first | omega | decide)
      | (with_reducible refine split_ite (fun hp => ?_) (fun hp => ?_) <;> (try simp at hp) <;> simp [*, nilR, pc_pBig, pc_passed])
      | (with_reducible refine split_ite1 (fun hp => ?_) (fun hp => ?_) <;> (try simp at hp) <;> simp [*, nilR, pc_pBig, pc_passed])
      | (refine split_cond (by simp) (fun hp => ?_) (fun hp => ?_) <;> simp at hp <;> simp [*, nilR, pc_pBig, pc_passed])
      | (refine split_ops (by simp) (fun hp => ?_) (fun hp => ?_) <;> simp at hp <;> simp [*, nilR, pc_pBig, pc_passed])
      | (refine split_opsD (by simp) (fun hp => ?_) (fun hp => ?_) <;> simp at hp <;> simp [*, nilR, pc_pBig, pc_passed])
      | (refine split_pick (by simp) (fun hp => ?_) (fun hp => ?_) <;> simp at hp <;> simp [*, nilR, pc_pBig, pc_passed])
      | omega
      | decide
      | (simp [*, nilR, pc_pBig, pc_passed]))
  · simp [X_typebarlaw19_PastAdds, nilR, pc_pBig, *]

set_option maxHeartbeats 1600000 in
theorem pc_PastStays (n : Nat) (p : Past) (l : List Int) : (W (n + 18)).pc 12 [pD p, rn l] = some (.bool true) := by
  apply runs c_typebarlaw19_PastStays
  cases hb : pBig p l
  · obtain ⟨hs, hl, hL, hx⟩ := pBig_small hb
    cases hk : pIs p
    · simp [X_typebarlaw19_PastStays, nilR, pc_pBig, pc_passed, hb, hs, hk]
    obtain ⟨hA1, hA2⟩ := pAdd_small hL hx hl
    have hA : small (pAdd p l).L := ⟨by omega, fun x hm => by have := hA2 x hm; omega⟩
    have hl' : l.length < 1000000 := by omega
    have hAi := pAdd_is l hk
    obtain ⟨hr, hd⟩ := pAdd_room p l
    cases ho : kOne l
    · have e := pAdd_skip (p := p) (.inr ho)
      simp [X_typebarlaw19_PastStays, nilR, pc_pBig, pc_passed, hb, hs, hk, e, ho, hl']
    have hnew := pAdd_newest hk ho
    by_cases hsame : p.dup = 1 ∧ p.L ≠ [] ∧ p.L.getD (p.L.length - 1) [] = l
    · have e := pAdd_same hsame
      obtain ⟨s1, s2, s3⟩ := hsame
      have hn := List.length_pos_iff.2 s2
      have hn1 : p.L.length - 1 < p.L.length := by omega
      rw [getD_at hn1] at s3
      rw [e] at hnew
      have s1' : (p.dup = 1) = True := by simp [s1]
      have e1 : ((p.L.length : Int) - 1).toNat = p.L.length - 1 := by omega
      clear s1
      simp [X_typebarlaw19_PastStays, nilR, pc_pBig, pc_passed, hb, hs, hk, e, ho, hl', s1', s2]
      repeat' (first
        | simp (disch := omega) only [wrap_i64, wrap_i32]
        | (simp (disch := first | omega | assumption | (simp only [i64, i32]; omega) | (simp <;> omega) | fail) only [loadD_cpr, loadD_cprs, List.take_of_length_le, pc_past_Add, pc_past_Get, pc_ref01_Same, pc_ref19_Same]; simp [*, nilR, pc_pBig, pc_passed, hnew, s3, e1])
        | (with_reducible refine And.intro ?_ ?_; focus first | omega | decide)
        | (with_reducible refine split_ite (fun hp => ?_) (fun hp => ?_) <;> (try simp at hp) <;> simp [*, nilR, pc_pBig, pc_passed, hnew, s3, e1])
        | (with_reducible refine split_ite1 (fun hp => ?_) (fun hp => ?_) <;> (try simp at hp) <;> simp [*, nilR, pc_pBig, pc_passed, hnew, s3, e1])
        | (refine split_cond (by simp) (fun hp => ?_) (fun hp => ?_) <;> simp at hp <;> simp [*, nilR, pc_pBig, pc_passed, hnew, s3, e1])
        | (refine split_ops (by simp) (fun hp => ?_) (fun hp => ?_) <;> simp at hp <;> simp [*, nilR, pc_pBig, pc_passed, hnew, s3, e1])
        | (refine split_opsD (by simp) (fun hp => ?_) (fun hp => ?_) <;> simp at hp <;> simp [*, nilR, pc_pBig, pc_passed, hnew, s3, e1])
        | (refine split_pick (by simp) (fun hp => ?_) (fun hp => ?_) <;> simp at hp <;> simp [*, nilR, pc_pBig, pc_passed, hnew, s3, e1])
        | omega
        | decide
        | (simp [*, nilR, pc_pBig, pc_passed, hnew, s3, e1]))
    have hlines := Keep.mk (congrArg Past.L (pAdd_lines hk ho hsame))
    simp only [] at hlines
    generalize hAA : pAdd p l = A at *
    replace hr : (A.room = p.room) = True := by simp [hr]
    replace hd : (A.dup = p.dup) = True := by simp [hd]
    obtain ⟨r1, r2, r3, r4, r5, r6⟩ := pIs_spec hk
    obtain ⟨d0, hd0⟩ : ∃ d0, Keep (d0 = (kept p.dup p.L l p.L.length).length + 1 - p.room.toNat) := ⟨_, ⟨rfl⟩⟩
    have hkl := kept_len p.dup p.L l p.L.length
    have hlines := Keep.mk (show A.L = (kept p.dup p.L l p.L.length ++ [l]).drop d0 by rw [hd0.out]; exact hlines.out)
    have hAl := Keep.mk (show (A.L.length : Int) = (kept p.dup p.L l p.L.length).length + 1 - d0 by
      have := hd0.out
      rw [hlines.out]; simp; omega)
    by_cases hz : p.L = []
    · have hA1 : (A.L.length : Int) = 1 := by
        have h1 := hAl.out
        have h2 := hd0.out
        have h3 : (kept p.dup p.L l p.L.length).length = 0 := by simp [hz, kept, others]
        omega
      have hz0 : p.L.length = 0 := by simp [hz]
      clear hz
      have hnew0 : pGet A 0 = (l, 0) := by rw [hA1] at hnew; simpa using hnew
      clear hnew
      simp [X_typebarlaw19_PastStays, nilR, pc_pBig, pc_passed, hb, hs, hk, hAA, ho, hl', hAi, hr, hd, hA1, hnew0]
      repeat' (first
        | simp (disch := omega) only [wrap_i64, wrap_i32]
        | (simp (disch := first | omega | assumption | (simp only [i64, i32]; omega) | (simp <;> omega) | fail) only [loadD_cpr, loadD_cprs, List.take_of_length_le, hnew0, pc_past_Add, pc_past_Get, pc_ref01_Same, pc_ref19_Same]; simp [*, nilR, pc_pBig, pc_passed, hz0, hA1, hnew0])
        | (with_reducible refine And.intro ?_ ?_; focus first | omega | decide)
        | (with_reducible refine split_ite (fun hp => ?_) (fun hp => ?_) <;> (try simp at hp) <;> simp [*, nilR, pc_pBig, pc_passed, hz0, hA1, hnew0])
        | (with_reducible refine split_ite1 (fun hp => ?_) (fun hp => ?_) <;> (try simp at hp) <;> simp [*, nilR, pc_pBig, pc_passed, hz0, hA1, hnew0])
        | (refine split_cond (by simp) (fun hp => ?_) (fun hp => ?_) <;> simp at hp <;> simp [*, nilR, pc_pBig, pc_passed, hz0, hA1, hnew0])
        | (refine split_ops (by simp) (fun hp => ?_) (fun hp => ?_) <;> simp at hp <;> simp [*, nilR, pc_pBig, pc_passed, hz0, hA1, hnew0])
        | (refine split_opsD (by simp) (fun hp => ?_) (fun hp => ?_) <;> simp at hp <;> simp [*, nilR, pc_pBig, pc_passed, hz0, hA1, hnew0])
        | (refine split_pick (by simp) (fun hp => ?_) (fun hp => ?_) <;> simp at hp <;> simp [*, nilR, pc_pBig, pc_passed, hz0, hA1, hnew0])
        | omega
        | decide
        | (simp [*, nilR, pc_pBig, pc_passed, hz0, hA1, hnew0]))
      all_goals
        refine aw_rounds (fun m st => ∃ i : Nat, ∃ R : List Blk, st = ⟨tab [(1, rn l), (2, .ptr 0 0 3), (5, .ptr 1 0 3), (8, .int .i64 (-1)), (9, .int .i64 (-1))], R⟩ ∧ i = 0 ∧ m = 0 + 1 ∧ Keep (True)) ?_ ?_ (n := 0 + 1) (by first | omega | (simp; omega)) ?_
        · rintro st ⟨i, hx⟩; omega
        rotate_left
        · exact ⟨0, _, by first | rfl | (simp [*, accS, accH]; done) | (simp only [*]; done) | (congr 1 <;> simp [*, accS, accH]; done) | (congr 1 <;> simp [*, accS, accH] <;> rfl) | (congr 1 <;> congr 1 <;> simp <;> omega), by first | omega | (simp; omega) | simp [*], by first | rfl | (simp; done) | omega, ⟨trivial⟩⟩
        rintro Ja ma _ ⟨i, Ra, rfl, fa1, hma, hqa⟩ hJa
        simp [pc_passed]
    have hn := List.length_pos_iff.2 hz
    have hn1 : p.L.length - 1 < p.L.length := by omega
    have e1 : ((p.L.length : Int) - 1).toNat = p.L.length - 1 := by omega
    have hls := hs.2 _ (List.getElem_mem hn1)
    have hne : (p.dup = 1) = True → ¬ p.L[p.L.length - 1] = l := by
      intro h hh
      exact hsame ⟨by simpa using h, hz, by rw [getD_at hn1]; exact hh⟩
    have hdc := Keep.mk (show (A.dup = 1) = (p.dup = 1) by have : A.dup = p.dup := by simpa using hd
                                                           rw [this])
    have hdc2 := Keep.mk (show (A.dup = 2) = (p.dup = 2) by have : A.dup = p.dup := by simpa using hd
                                                            rw [this])
    replace hz := Keep.mk hz
    have hAl2 : (A.L.length : Int) - 2 = (kept p.dup p.L l p.L.length).length - 1 - d0 := by have := hAl.out; omega
    by_cases h1 : p.dup = 1
    · replace hne := hne (by simp [h1])
      replace h1 : (A.dup = 1) = True := by rw [hdc.out]; simp [h1]
      simp [X_typebarlaw19_PastStays, nilR, pc_pBig, pc_passed, hb, hs, hk, hAA, ho, hl', hAi, hr, hd, h1, hn, e1, hnew]
      repeat' (first
        | simp (disch := omega) only [wrap_i64, wrap_i32]
        | (simp (disch := first | omega | assumption | (simp only [i64, i32]; omega) | (simp <;> omega) | fail) only [loadD_cpr, loadD_cprs, List.take_of_length_le, hnew, pc_past_Add, pc_past_Get, pc_ref01_Same, pc_ref19_Same]; simp [*, nilR, pc_pBig, pc_passed, hnew, e1, h1])
        | (with_reducible refine And.intro ?_ ?_; focus first | omega | decide)
        | (with_reducible refine split_ite (fun hp => ?_) (fun hp => ?_) <;> (try simp at hp) <;> simp [*, nilR, pc_pBig, pc_passed, hnew, e1, h1])
        | (with_reducible refine split_ite1 (fun hp => ?_) (fun hp => ?_) <;> (try simp at hp) <;> simp [*, nilR, pc_pBig, pc_passed, hnew, e1, h1])
        | (refine split_cond (by simp) (fun hp => ?_) (fun hp => ?_) <;> simp at hp <;> simp [*, nilR, pc_pBig, pc_passed, hnew, e1, h1])
        | (refine split_ops (by simp) (fun hp => ?_) (fun hp => ?_) <;> simp at hp <;> simp [*, nilR, pc_pBig, pc_passed, hnew, e1, h1])
        | (refine split_opsD (by simp) (fun hp => ?_) (fun hp => ?_) <;> simp at hp <;> simp [*, nilR, pc_pBig, pc_passed, hnew, e1, h1])
        | (refine split_pick (by simp) (fun hp => ?_) (fun hp => ?_) <;> simp at hp <;> simp [*, nilR, pc_pBig, pc_passed, hnew, e1, h1])
        | omega
        | decide
        | (simp [*, nilR, pc_pBig, pc_passed, hnew, e1, h1]))
      refine aw_rounds (fun m st => ∃ k : Nat, st = ⟨tab [(1, rn l), (2, .ptr 0 0 3), (5, .ptr 1 0 3), (8, .int .i64 ((kept p.dup p.L l k).length - 1 - d0)), (9, .int .i64 (k - 1))], ⟨[.int .i64 p.room, .int .i64 p.dup, rrn p.L], 0, true⟩ :: ⟨[.int .i64 A.room, .int .i64 A.dup, rrn A.L], 0, true⟩ :: []⟩ ∧ k ≤ p.L.length ∧ m = k + 1 ∧ Keep (True)) ?_ ?_ (n := (p.L.length) + 1) (by first | omega | (simp; omega)) ?_
      · rintro st ⟨k, hx⟩; omega
      rotate_left
      · exact ⟨p.L.length, by first | rfl | (simp [*, accS, accH]; done) | (simp only [*]; done) | (congr 1 <;> simp [*, accS, accH]; done) | (congr 1 <;> simp [*, accS, accH] <;> rfl) | (congr 1 <;> congr 1 <;> simp <;> omega), by first | omega | (simp; omega) | simp [*], by first | rfl | (simp; done) | omega, ⟨trivial⟩⟩
      rintro Ja ma _ ⟨k, rfl, fa1, hma, hqa⟩ hJa
      obtain hk0 | ⟨m, rfl⟩ : k = 0 ∨ ∃ m, k = m + 1 := by cases k; exact .inl rfl; exact .inr ⟨_, rfl⟩
      · subst hk0
        simp [pc_passed, kept, others]
        omega
      have hm : m < p.L.length := by omega
      have hks := kept_step (dup := p.dup) (l := l) hm
      have hms := hs.2 _ (List.getElem_mem hm)
      have htail : ¬ (p.dup = 2 ∧ p.L[m] = l) → (kept p.dup p.L l (m + 1)).length = (kept p.dup p.L l m).length + 1 ∧ ((kept p.dup p.L l m).length < d0 → m = 0 ∧ (p.L.length : Int) = p.room ∧ (A.L.length : Int) = p.room) ∧
          (d0 ≤ (kept p.dup p.L l m).length → (kept p.dup p.L l m).length - d0 < A.L.length ∧ ∀ h : (kept p.dup p.L l m).length - d0 < A.L.length, A.L[(kept p.dup p.L l m).length - d0] = p.L[m]) := by
        intro hc
        rw [if_neg hc] at hks
        obtain ⟨R, hR, hRl⟩ := kept_all p.dup p.L l m
        obtain ⟨R2, hR2, hRl2⟩ := kept_all p.dup p.L l (m + 1)
        have q1 := hd0.out
        have q2 := hAl.out
        have q3 := congrArg List.length hR
        have q4 := congrArg List.length hR2
        have q5 := kept_len p.dup p.L l m
        simp only [hks, List.length_append, List.length_singleton] at q3 q4
        refine ⟨by rw [hks]; simp, fun h => ⟨by omega, by omega, by omega⟩, fun h => ⟨by omega, fun h' => ?_⟩⟩
        have e : A.L[(kept p.dup p.L l m).length - d0]? = some p.L[m] := by
          rw [hlines.out, List.getElem?_drop, show d0 + ((kept p.dup p.L l m).length - d0) = (kept p.dup p.L l m).length by omega, hR2, hks]
          simp
        rw [List.getElem?_eq_getElem h'] at e
        simpa using e
      have hA2' : ∀ h : (kept p.dup p.L l m).length - d0 < A.L.length, A.L[(kept p.dup p.L l m).length - d0].length < 1000000 := fun h => hA.2 _ (List.getElem_mem h)
      by_cases hc : p.dup = 2 ∧ p.L[m] = l
      · rw [if_pos hc] at hks
        rw [hks]
        obtain ⟨c1, c2⟩ := hc
        replace c1 : (A.dup = 2) = True := by rw [hdc2.out]; simp [c1]
        clear htail
        simp [c1, c2]
        repeat' (first
          | simp (disch := omega) only [wrap_i64, wrap_i32]
          | (simp (disch := first | omega | assumption | (simp only [i64, i32]; omega) | (simp <;> omega) | fail) only [loadD_cpr, loadD_cprs, List.take_of_length_le, pc_ref01_Same]; simp [*, c1, c2])
          | (with_reducible refine And.intro ?_ ?_; focus first | omega | decide)
          | (with_reducible refine split_ite (fun hp => ?_) (fun hp => ?_) <;> (try simp at hp) <;> simp [*, c1, c2])
          | (with_reducible refine split_ite1 (fun hp => ?_) (fun hp => ?_) <;> (try simp at hp) <;> simp [*, c1, c2])
          | (refine split_cond (by simp) (fun hp => ?_) (fun hp => ?_) <;> simp at hp <;> simp [*, c1, c2])
          | (refine split_ops (by simp) (fun hp => ?_) (fun hp => ?_) <;> simp at hp <;> simp [*, c1, c2])
          | (refine split_opsD (by simp) (fun hp => ?_) (fun hp => ?_) <;> simp at hp <;> simp [*, c1, c2])
          | (refine split_pick (by simp) (fun hp => ?_) (fun hp => ?_) <;> simp at hp <;> simp [*, c1, c2])
          | omega
          | decide
          | (simp [*, c1, c2]))
        exact hJa.out _ ⟨m, by first | rfl | (simp [*, accS, accH]; done) | (simp only [*]; done) | (congr 1 <;> simp [*, accS, accH]; done) | (congr 1 <;> simp [*, accS, accH] <;> rfl) | (congr 1 <;> congr 1 <;> simp <;> omega), by first | omega | (simp; omega) | simp [*], by omega, ⟨trivial⟩⟩
      · obtain ⟨t1, t2, t3⟩ := htail hc
        have hcc : (A.dup = 2) = True → (p.L[m] = l) = False := by
          intro h; simp only [eq_iff_iff, iff_false]; intro hh; exact hc ⟨by rw [← hdc2.out]; simp [h], hh⟩
        rw [t1]
        clear hks
        by_cases hat : (kept p.dup p.L l m).length < d0
        · have hu := Keep.mk (t2 hat)
          by_cases h2 : A.dup = 2
          · have h3 := hcc (by simp [h2])
            replace h2 : (A.dup = 2) = True := by simp [h2]
            clear t2 t3 hcc
            simp [h2, h3]
            repeat' (first
              | simp (disch := omega) only [wrap_i64, wrap_i32]
              | (simp (disch := first | omega | assumption | (simp only [i64, i32]; omega) | (simp <;> omega) | fail) only [loadD_cpr, loadD_cprs, List.take_of_length_le, pc_ref01_Same]; simp [*, h2, h3, pc_passed])
              | (with_reducible refine And.intro ?_ ?_; focus first | omega | decide)
              | (with_reducible refine split_ite (fun hp => ?_) (fun hp => ?_) <;> (try simp at hp) <;> simp [*, h2, h3, pc_passed])
              | (with_reducible refine split_ite1 (fun hp => ?_) (fun hp => ?_) <;> (try simp at hp) <;> simp [*, h2, h3, pc_passed])
              | (refine split_cond (by simp) (fun hp => ?_) (fun hp => ?_) <;> simp at hp <;> simp [*, h2, h3, pc_passed])
              | (refine split_ops (by simp) (fun hp => ?_) (fun hp => ?_) <;> simp at hp <;> simp [*, h2, h3, pc_passed])
              | (refine split_opsD (by simp) (fun hp => ?_) (fun hp => ?_) <;> simp at hp <;> simp [*, h2, h3, pc_passed])
              | (refine split_pick (by simp) (fun hp => ?_) (fun hp => ?_) <;> simp at hp <;> simp [*, h2, h3, pc_passed])
              | omega
              | decide
              | (simp [*, h2, h3, pc_passed]))
            all_goals obtain ⟨u1, u2, u3⟩ := hu.out
            all_goals first | contradiction | (simp [u1, u2, u3]; done)
          · replace h2 : (A.dup = 2) = False := by simp [h2]
            clear t2 t3 hcc
            simp [h2]
            repeat' (first
              | simp (disch := omega) only [wrap_i64, wrap_i32]
              | (simp (disch := first | omega | assumption | (simp only [i64, i32]; omega) | (simp <;> omega) | fail) only [loadD_cpr, loadD_cprs, List.take_of_length_le, pc_ref01_Same]; simp [*, h2, pc_passed])
              | (with_reducible refine And.intro ?_ ?_; focus first | omega | decide)
              | (with_reducible refine split_ite (fun hp => ?_) (fun hp => ?_) <;> (try simp at hp) <;> simp [*, h2, pc_passed])
              | (with_reducible refine split_ite1 (fun hp => ?_) (fun hp => ?_) <;> (try simp at hp) <;> simp [*, h2, pc_passed])
              | (refine split_cond (by simp) (fun hp => ?_) (fun hp => ?_) <;> simp at hp <;> simp [*, h2, pc_passed])
              | (refine split_ops (by simp) (fun hp => ?_) (fun hp => ?_) <;> simp at hp <;> simp [*, h2, pc_passed])
              | (refine split_opsD (by simp) (fun hp => ?_) (fun hp => ?_) <;> simp at hp <;> simp [*, h2, pc_passed])
              | (refine split_pick (by simp) (fun hp => ?_) (fun hp => ?_) <;> simp at hp <;> simp [*, h2, pc_passed])
              | omega
              | decide
              | (simp [*, h2, pc_passed]))
            all_goals obtain ⟨u1, u2, u3⟩ := hu.out
            all_goals first | contradiction | (simp [u1, u2, u3]; done)
        · obtain ⟨u1, u2⟩ := t3 (by omega)
          have et : (((kept p.dup p.L l m).length : Int) - d0).toNat = (kept p.dup p.L l m).length - d0 := by omega
          by_cases h2 : A.dup = 2
          · have h3 := hcc (by simp [h2])
            replace h2 : (A.dup = 2) = True := by simp [h2]
            clear t2 t3 hcc
            simp [h2, h3]
            repeat' (first
              | simp (disch := omega) only [wrap_i64, wrap_i32]
              | (simp (disch := first | omega | assumption | (simp only [i64, i32]; omega) | (simp <;> omega) | fail) only [loadD_cpr, loadD_cprs, List.take_of_length_le, pc_ref01_Same]; simp [*, h2, h3, et, u2])
              | (with_reducible refine And.intro ?_ ?_; focus first | omega | decide)
              | (with_reducible refine split_ite (fun hp => ?_) (fun hp => ?_) <;> (try simp at hp) <;> simp [*, h2, h3, et, u2])
              | (with_reducible refine split_ite1 (fun hp => ?_) (fun hp => ?_) <;> (try simp at hp) <;> simp [*, h2, h3, et, u2])
              | (refine split_cond (by simp) (fun hp => ?_) (fun hp => ?_) <;> simp at hp <;> simp [*, h2, h3, et, u2])
              | (refine split_ops (by simp) (fun hp => ?_) (fun hp => ?_) <;> simp at hp <;> simp [*, h2, h3, et, u2])
              | (refine split_opsD (by simp) (fun hp => ?_) (fun hp => ?_) <;> simp at hp <;> simp [*, h2, h3, et, u2])
              | (refine split_pick (by simp) (fun hp => ?_) (fun hp => ?_) <;> simp at hp <;> simp [*, h2, h3, et, u2])
              | omega
              | decide
              | (simp [*, h2, h3, et, u2]))
            exact hJa.out _ ⟨m, by first | rfl | (simp [*, accS, accH]; done) | (simp only [*]; done) | (congr 1 <;> simp [*, accS, accH]; done) | (congr 1 <;> simp [*, accS, accH] <;> rfl) | (congr 1 <;> congr 1 <;> simp <;> omega), by first | omega | (simp; omega) | simp [*], by omega, ⟨trivial⟩⟩
          · replace h2 : (A.dup = 2) = False := by simp [h2]
            clear t2 t3 hcc
            simp [h2]
            repeat' (first
              | simp (disch := omega) only [wrap_i64, wrap_i32]
              | (simp (disch := first | omega | assumption | (simp only [i64, i32]; omega) | (simp <;> omega) | fail) only [loadD_cpr, loadD_cprs, List.take_of_length_le, pc_ref01_Same]; simp [*, h2, et, u2])
              | (with_reducible refine And.intro ?_ ?_; focus first | omega | decide)
              | (with_reducible refine split_ite (fun hp => ?_) (fun hp => ?_) <;> (try simp at hp) <;> simp [*, h2, et, u2])
              | (with_reducible refine split_ite1 (fun hp => ?_) (fun hp => ?_) <;> (try simp at hp) <;> simp [*, h2, et, u2])
              | (refine split_cond (by simp) (fun hp => ?_) (fun hp => ?_) <;> simp at hp <;> simp [*, h2, et, u2])
              | (refine split_ops (by simp) (fun hp => ?_) (fun hp => ?_) <;> simp at hp <;> simp [*, h2, et, u2])
              | (refine split_opsD (by simp) (fun hp => ?_) (fun hp => ?_) <;> simp at hp <;> simp [*, h2, et, u2])
              | (refine split_pick (by simp) (fun hp => ?_) (fun hp => ?_) <;> simp at hp <;> simp [*, h2, et, u2])
              | omega
              | decide
              | (simp [*, h2, et, u2]))
            exact hJa.out _ ⟨m, by first | rfl | (simp [*, accS, accH]; done) | (simp only [*]; done) | (congr 1 <;> simp [*, accS, accH]; done) | (congr 1 <;> simp [*, accS, accH] <;> rfl) | (congr 1 <;> congr 1 <;> simp <;> omega), by first | omega | (simp; omega) | simp [*], by omega, ⟨trivial⟩⟩
    · replace h1 : (A.dup = 1) = False := by rw [hdc.out]; simp [h1]
      clear hne
      simp [X_typebarlaw19_PastStays, nilR, pc_pBig, pc_passed, hb, hs, hk, hAA, ho, hl', hAi, hr, hd, h1, hn, e1, hnew]
      repeat' (first
        | simp (disch := omega) only [wrap_i64, wrap_i32]
        | (simp (disch := first | omega | assumption | (simp only [i64, i32]; omega) | (simp <;> omega) | fail) only [loadD_cpr, loadD_cprs, List.take_of_length_le, hnew, pc_past_Add, pc_past_Get, pc_ref01_Same, pc_ref19_Same]; simp [*, nilR, pc_pBig, pc_passed, hnew, e1, h1])
        | (with_reducible refine And.intro ?_ ?_; focus first | omega | decide)
        | (with_reducible refine split_ite (fun hp => ?_) (fun hp => ?_) <;> (try simp at hp) <;> simp [*, nilR, pc_pBig, pc_passed, hnew, e1, h1])
        | (with_reducible refine split_ite1 (fun hp => ?_) (fun hp => ?_) <;> (try simp at hp) <;> simp [*, nilR, pc_pBig, pc_passed, hnew, e1, h1])
        | (refine split_cond (by simp) (fun hp => ?_) (fun hp => ?_) <;> simp at hp <;> simp [*, nilR, pc_pBig, pc_passed, hnew, e1, h1])
        | (refine split_ops (by simp) (fun hp => ?_) (fun hp => ?_) <;> simp at hp <;> simp [*, nilR, pc_pBig, pc_passed, hnew, e1, h1])
        | (refine split_opsD (by simp) (fun hp => ?_) (fun hp => ?_) <;> simp at hp <;> simp [*, nilR, pc_pBig, pc_passed, hnew, e1, h1])
        | (refine split_pick (by simp) (fun hp => ?_) (fun hp => ?_) <;> simp at hp <;> simp [*, nilR, pc_pBig, pc_passed, hnew, e1, h1])
        | omega
        | decide
        | (simp [*, nilR, pc_pBig, pc_passed, hnew, e1, h1]))
      refine aw_rounds (fun m st => ∃ k : Nat, st = ⟨tab [(1, rn l), (2, .ptr 0 0 3), (5, .ptr 1 0 3), (8, .int .i64 ((kept p.dup p.L l k).length - 1 - d0)), (9, .int .i64 (k - 1))], ⟨[.int .i64 p.room, .int .i64 p.dup, rrn p.L], 0, true⟩ :: ⟨[.int .i64 A.room, .int .i64 A.dup, rrn A.L], 0, true⟩ :: []⟩ ∧ k ≤ p.L.length ∧ m = k + 1 ∧ Keep (True)) ?_ ?_ (n := (p.L.length) + 1) (by first | omega | (simp; omega)) ?_
      · rintro st ⟨k, hx⟩; omega
      rotate_left
      · exact ⟨p.L.length, by first | rfl | (simp [*, accS, accH]; done) | (simp only [*]; done) | (congr 1 <;> simp [*, accS, accH]; done) | (congr 1 <;> simp [*, accS, accH] <;> rfl) | (congr 1 <;> congr 1 <;> simp <;> omega), by first | omega | (simp; omega) | simp [*], by first | rfl | (simp; done) | omega, ⟨trivial⟩⟩
      rintro Ja ma _ ⟨k, rfl, fa1, hma, hqa⟩ hJa
      obtain hk0 | ⟨m, rfl⟩ : k = 0 ∨ ∃ m, k = m + 1 := by cases k; exact .inl rfl; exact .inr ⟨_, rfl⟩
      · subst hk0
        simp [pc_passed, kept, others]
        omega
      have hm : m < p.L.length := by omega
      have hks := kept_step (dup := p.dup) (l := l) hm
      have hms := hs.2 _ (List.getElem_mem hm)
      have htail : ¬ (p.dup = 2 ∧ p.L[m] = l) → (kept p.dup p.L l (m + 1)).length = (kept p.dup p.L l m).length + 1 ∧ ((kept p.dup p.L l m).length < d0 → m = 0 ∧ (p.L.length : Int) = p.room ∧ (A.L.length : Int) = p.room) ∧
          (d0 ≤ (kept p.dup p.L l m).length → (kept p.dup p.L l m).length - d0 < A.L.length ∧ ∀ h : (kept p.dup p.L l m).length - d0 < A.L.length, A.L[(kept p.dup p.L l m).length - d0] = p.L[m]) := by
        intro hc
        rw [if_neg hc] at hks
        obtain ⟨R, hR, hRl⟩ := kept_all p.dup p.L l m
        obtain ⟨R2, hR2, hRl2⟩ := kept_all p.dup p.L l (m + 1)
        have q1 := hd0.out
        have q2 := hAl.out
        have q3 := congrArg List.length hR
        have q4 := congrArg List.length hR2
        have q5 := kept_len p.dup p.L l m
        simp only [hks, List.length_append, List.length_singleton] at q3 q4
        refine ⟨by rw [hks]; simp, fun h => ⟨by omega, by omega, by omega⟩, fun h => ⟨by omega, fun h' => ?_⟩⟩
        have e : A.L[(kept p.dup p.L l m).length - d0]? = some p.L[m] := by
          rw [hlines.out, List.getElem?_drop, show d0 + ((kept p.dup p.L l m).length - d0) = (kept p.dup p.L l m).length by omega, hR2, hks]
          simp
        rw [List.getElem?_eq_getElem h'] at e
        simpa using e
      have hA2' : ∀ h : (kept p.dup p.L l m).length - d0 < A.L.length, A.L[(kept p.dup p.L l m).length - d0].length < 1000000 := fun h => hA.2 _ (List.getElem_mem h)
      by_cases hc : p.dup = 2 ∧ p.L[m] = l
      · rw [if_pos hc] at hks
        rw [hks]
        obtain ⟨c1, c2⟩ := hc
        replace c1 : (A.dup = 2) = True := by rw [hdc2.out]; simp [c1]
        clear htail
        simp [c1, c2]
        repeat' (first
          | simp (disch := omega) only [wrap_i64, wrap_i32]
          | (simp (disch := first | omega | assumption | (simp only [i64, i32]; omega) | (simp <;> omega) | fail) only [loadD_cpr, loadD_cprs, List.take_of_length_le, pc_ref01_Same]; simp [*, c1, c2])
          | (with_reducible refine And.intro ?_ ?_; focus first | omega | decide)
          | (with_reducible refine split_ite (fun hp => ?_) (fun hp => ?_) <;> (try simp at hp) <;> simp [*, c1, c2])
          | (with_reducible refine split_ite1 (fun hp => ?_) (fun hp => ?_) <;> (try simp at hp) <;> simp [*, c1, c2])
          | (refine split_cond (by simp) (fun hp => ?_) (fun hp => ?_) <;> simp at hp <;> simp [*, c1, c2])
          | (refine split_ops (by simp) (fun hp => ?_) (fun hp => ?_) <;> simp at hp <;> simp [*, c1, c2])
          | (refine split_opsD (by simp) (fun hp => ?_) (fun hp => ?_) <;> simp at hp <;> simp [*, c1, c2])
          | (refine split_pick (by simp) (fun hp => ?_) (fun hp => ?_) <;> simp at hp <;> simp [*, c1, c2])
          | omega
          | decide
          | (simp [*, c1, c2]))
        exact hJa.out _ ⟨m, by first | rfl | (simp [*, accS, accH]; done) | (simp only [*]; done) | (congr 1 <;> simp [*, accS, accH]; done) | (congr 1 <;> simp [*, accS, accH] <;> rfl) | (congr 1 <;> congr 1 <;> simp <;> omega), by first | omega | (simp; omega) | simp [*], by omega, ⟨trivial⟩⟩
      · obtain ⟨t1, t2, t3⟩ := htail hc
        have hcc : (A.dup = 2) = True → (p.L[m] = l) = False := by
          intro h; simp only [eq_iff_iff, iff_false]; intro hh; exact hc ⟨by rw [← hdc2.out]; simp [h], hh⟩
        rw [t1]
        clear hks
        by_cases hat : (kept p.dup p.L l m).length < d0
        · have hu := Keep.mk (t2 hat)
          by_cases h2 : A.dup = 2
          · have h3 := hcc (by simp [h2])
            replace h2 : (A.dup = 2) = True := by simp [h2]
            clear t2 t3 hcc
            simp [h2, h3]
            repeat' (first
              | simp (disch := omega) only [wrap_i64, wrap_i32]
              | (simp (disch := first | omega | assumption | (simp only [i64, i32]; omega) | (simp <;> omega) | fail) only [loadD_cpr, loadD_cprs, List.take_of_length_le, pc_ref01_Same]; simp [*, h2, h3, pc_passed])
              | (with_reducible refine And.intro ?_ ?_; focus first | omega | decide)
              | (with_reducible refine split_ite (fun hp => ?_) (fun hp => ?_) <;> (try simp at hp) <;> simp [*, h2, h3, pc_passed])
              | (with_reducible refine split_ite1 (fun hp => ?_) (fun hp => ?_) <;> (try simp at hp) <;> simp [*, h2, h3, pc_passed])
              | (refine split_cond (by simp) (fun hp => ?_) (fun hp => ?_) <;> simp at hp <;> simp [*, h2, h3, pc_passed])
              | (refine split_ops (by simp) (fun hp => ?_) (fun hp => ?_) <;> simp at hp <;> simp [*, h2, h3, pc_passed])
              | (refine split_opsD (by simp) (fun hp => ?_) (fun hp => ?_) <;> simp at hp <;> simp [*, h2, h3, pc_passed])
              | (refine split_pick (by simp) (fun hp => ?_) (fun hp => ?_) <;> simp at hp <;> simp [*, h2, h3, pc_passed])
              | omega
              | decide
              | (simp [*, h2, h3, pc_passed]))
            all_goals obtain ⟨u1, u2, u3⟩ := hu.out
            all_goals first | contradiction | (simp [u1, u2, u3]; done)
          · replace h2 : (A.dup = 2) = False := by simp [h2]
            clear t2 t3 hcc
            simp [h2]
            repeat' (first
              | simp (disch := omega) only [wrap_i64, wrap_i32]
              | (simp (disch := first | omega | assumption | (simp only [i64, i32]; omega) | (simp <;> omega) | fail) only [loadD_cpr, loadD_cprs, List.take_of_length_le, pc_ref01_Same]; simp [*, h2, pc_passed])
              | (with_reducible refine And.intro ?_ ?_; focus first | omega | decide)
              | (with_reducible refine split_ite (fun hp => ?_) (fun hp => ?_) <;> (try simp at hp) <;> simp [*, h2, pc_passed])
              | (with_reducible refine split_ite1 (fun hp => ?_) (fun hp => ?_) <;> (try simp at hp) <;> simp [*, h2, pc_passed])
              | (refine split_cond (by simp) (fun hp => ?_) (fun hp => ?_) <;> simp at hp <;> simp [*, h2, pc_passed])
              | (refine split_ops (by simp) (fun hp => ?_) (fun hp => ?_) <;> simp at hp <;> simp [*, h2, pc_passed])
              | (refine split_opsD (by simp) (fun hp => ?_) (fun hp => ?_) <;> simp at hp <;> simp [*, h2, pc_passed])
              | (refine split_pick (by simp) (fun hp => ?_) (fun hp => ?_) <;> simp at hp <;> simp [*, h2, pc_passed])
              | omega
              | decide
              | (simp [*, h2, pc_passed]))
            all_goals obtain ⟨u1, u2, u3⟩ := hu.out
            all_goals first | contradiction | (simp [u1, u2, u3]; done)
        · obtain ⟨u1, u2⟩ := t3 (by omega)
          have et : (((kept p.dup p.L l m).length : Int) - d0).toNat = (kept p.dup p.L l m).length - d0 := by omega
          by_cases h2 : A.dup = 2
          · have h3 := hcc (by simp [h2])
            replace h2 : (A.dup = 2) = True := by simp [h2]
            clear t2 t3 hcc
            simp [h2, h3]
            repeat' (first
              | simp (disch := omega) only [wrap_i64, wrap_i32]
              | (simp (disch := first | omega | assumption | (simp only [i64, i32]; omega) | (simp <;> omega) | fail) only [loadD_cpr, loadD_cprs, List.take_of_length_le, pc_ref01_Same]; simp [*, h2, h3, et, u2])
              | (with_reducible refine And.intro ?_ ?_; focus first | omega | decide)
              | (with_reducible refine split_ite (fun hp => ?_) (fun hp => ?_) <;> (try simp at hp) <;> simp [*, h2, h3, et, u2])
              | (with_reducible refine split_ite1 (fun hp => ?_) (fun hp => ?_) <;> (try simp at hp) <;> simp [*, h2, h3, et, u2])
              | (refine split_cond (by simp) (fun hp => ?_) (fun hp => ?_) <;> simp at hp <;> simp [*, h2, h3, et, u2])
              | (refine split_ops (by simp) (fun hp => ?_) (fun hp => ?_) <;> simp at hp <;> simp [*, h2, h3, et, u2])
              | (refine split_opsD (by simp) (fun hp => ?_) (fun hp => ?_) <;> simp at hp <;> simp [*, h2, h3, et, u2])
              | (refine split_pick (by simp) (fun hp => ?_) (fun hp => ?_) <;> simp at hp <;> simp [*, h2, h3, et, u2])
              | omega
              | decide
              | (simp [*, h2, h3, et, u2]))
            exact hJa.out _ ⟨m, by first | rfl | (simp [*, accS, accH]; done) | (simp only [*]; done) | (congr 1 <;> simp [*, accS, accH]; done) | (congr 1 <;> simp [*, accS, accH] <;> rfl) | (congr 1 <;> congr 1 <;> simp <;> omega), by first | omega | (simp; omega) | simp [*], by omega, ⟨trivial⟩⟩
          · replace h2 : (A.dup = 2) = False := by simp [h2]
            clear t2 t3 hcc
            simp [h2]
            repeat' (first
              | simp (disch := omega) only [wrap_i64, wrap_i32]
              | (simp (disch := first | omega | assumption | (simp only [i64, i32]; omega) | (simp <;> omega) | fail) only [loadD_cpr, loadD_cprs, List.take_of_length_le, pc_ref01_Same]; simp [*, h2, et, u2])
              | (with_reducible refine And.intro ?_ ?_; focus first | omega | decide)
              | (with_reducible refine split_ite (fun hp => ?_) (fun hp => ?_) <;> (try simp at hp) <;> simp [*, h2, et, u2])
              | (with_reducible refine split_ite1 (fun hp => ?_) (fun hp => ?_) <;> (try simp at hp) <;> simp [*, h2, et, u2])
              | (refine split_cond (by simp) (fun hp => ?_) (fun hp => ?_) <;> simp at hp <;> simp [*, h2, et, u2])
              | (refine split_ops (by simp) (fun hp => ?_) (fun hp => ?_) <;> simp at hp <;> simp [*, h2, et, u2])
              | (refine split_opsD (by simp) (fun hp => ?_) (fun hp => ?_) <;> simp at hp <;> simp [*, h2, et, u2])
              | (refine split_pick (by simp) (fun hp => ?_) (fun hp => ?_) <;> simp at hp <;> simp [*, h2, et, u2])
              | omega
              | decide
              | (simp [*, h2, et, u2]))
            exact hJa.out _ ⟨m, by first | rfl | (simp [*, accS, accH]; done) | (simp only [*]; done) | (congr 1 <;> simp [*, accS, accH]; done) | (congr 1 <;> simp [*, accS, accH] <;> rfl) | (congr 1 <;> congr 1 <;> simp <;> omega), by first | omega | (simp; omega) | simp [*], by omega, ⟨trivial⟩⟩
  · simp [X_typebarlaw19_PastStays, nilR, pc_pBig, pc_passed, hb]

/-- No line is there twice. -/
def onceP (room : Int) (p : Past) : Prop := pIs p = true ∧ p.room = room ∧ p.dup = 2 ∧ (∀ x ∈ p.L, x.length ≤ 1000) ∧ ∀ (i j : Nat) (hi : i < p.L.length) (hj : j < i), p.L[i] ≠ p.L[j]

/-- None twice running. -/
def onceQ (room : Int) (p : Past) : Prop := pIs p = true ∧ p.room = room ∧ p.dup = 1 ∧ (∀ x ∈ p.L, x.length ≤ 1000) ∧ ∀ (i : Nat) (hi : i + 1 < p.L.length), p.L[i + 1] ≠ p.L[i]

theorem pair_iff (L : List (List Int)) : (∀ (i j : Nat) (hi : i < L.length) (hj : j < i), L[i] ≠ L[j]) ↔ L.Pairwise (fun a b => b ≠ a) := by
  rw [List.pairwise_iff_getElem]
  exact ⟨fun h i j hi hj hlt => h j i hj hlt, fun h i j hi hj => h j i (by omega) hi hj⟩

theorem onceP_add {room : Int} {p : Past} (l : List Int) (h : onceP room p) (hl : l.length ≤ 1000) : onceP room (pAdd p l) := by
  obtain ⟨h1, h2, h3, h4, h5⟩ := h
  cases ho : kOne l
  · rw [pAdd_skip (.inr ho)]; exact ⟨h1, h2, h3, h4, h5⟩
  obtain ⟨q1, q2, _, _, q5, _⟩ := pIs_spec h1
  obtain ⟨r1, r2⟩ := pAdd_room p l
  have hne : ¬ (p.dup = 1 ∧ p.L ≠ [] ∧ p.L.getD (p.L.length - 1) [] = l) := by rintro ⟨h, _⟩; omega
  refine ⟨pAdd_is l h1, r1.trans h2, r2.trans h3, (pAdd_small (by omega) h4 hl).2, ?_⟩
  rw [pair_iff] at h5 ⊢
  rw [pAdd_lines h1 ho hne, kept_full, if_pos h3]
  refine List.Pairwise.sublist (List.drop_sublist _ _) ?_
  rw [List.pairwise_append]
  refine ⟨h5.filter _, by simp, fun a ha b hb => ?_⟩
  rw [List.mem_singleton.1 hb]
  have := (List.mem_filter.1 ha).2
  exact fun hh => (by simpa using this : ¬ a = l) hh.symm

theorem onceQ_add {room : Int} {p : Past} (l : List Int) (h : onceQ room p) (hl : l.length ≤ 1000) : onceQ room (pAdd p l) := by
  obtain ⟨h1, h2, h3, h4, h5⟩ := h
  cases ho : kOne l
  · rw [pAdd_skip (.inr ho)]; exact ⟨h1, h2, h3, h4, h5⟩
  obtain ⟨q1, q2, _, _, q5, _⟩ := pIs_spec h1
  obtain ⟨r1, r2⟩ := pAdd_room p l
  by_cases hs : p.dup = 1 ∧ p.L ≠ [] ∧ p.L.getD (p.L.length - 1) [] = l
  · rw [pAdd_same hs]; exact ⟨h1, h2, h3, h4, h5⟩
  refine ⟨pAdd_is l h1, r1.trans h2, r2.trans h3, (pAdd_small (by omega) h4 hl).2, ?_⟩
  rw [pAdd_lines h1 ho hs, kept_full, if_neg (by omega)]
  intro i hi
  simp only [List.length_drop, List.length_append, List.length_singleton] at hi
  simp only [List.getElem_drop]
  generalize hd : p.L.length + 1 - p.room.toNat = d at *
  by_cases he : d + i + 1 < p.L.length
  · have e1 : (p.L ++ [l])[d + (i + 1)]'(by simp; omega) = p.L[d + i + 1] := by
      rw [List.getElem_append_left (by omega)]; rfl
    have e2 : (p.L ++ [l])[d + i]'(by simp; omega) = p.L[d + i] := by
      rw [List.getElem_append_left (by omega)]
    rw [e1, e2]
    exact h5 (d + i) he
  · have e1 : (p.L ++ [l])[d + (i + 1)]'(by simp; omega) = l := by
      rw [List.getElem_append_right (by omega)]; simp
    have e2 : (p.L ++ [l])[d + i]'(by simp; omega) = p.L[p.L.length - 1]'(by omega) := by
      rw [List.getElem_append_left (by omega)]; congr 1; omega
    rw [e1, e2]
    intro hh
    exact hs ⟨h3, by intro h0; simp [h0] at he hi; omega, by rw [getD_at (by omega)]; exact hh.symm⟩

theorem once_small {p : Past} (h : pIs p = true) (h4 : ∀ x ∈ p.L, x.length ≤ 1000) : small p.L := by
  obtain ⟨q1, q2, _, _, q5, _⟩ := pIs_spec h
  exact ⟨by omega, fun x hx => by have := h4 x hx; omega⟩

set_option maxHeartbeats 1600000 in
theorem pc_PastOnce (n : Nat) (room : Int) (l : List (List Int)) : (W (n + 18)).pc 13 [.int .i64 room, rrn l] = some (.bool true) := by
  apply runs c_typebarlaw19_PastOnce
  have hbig : (W (n + 17)).pc 36 [.agg [.int .i64 0, .int .i64 0, rrn l], rn []] = some (.bool (pBig ⟨0, 0, l⟩ [])) := pc_pBig (n + 16) ⟨0, 0, l⟩ []
  cases hb : pBig ⟨0, 0, l⟩ []
  · obtain ⟨hs, hl, hL, hx⟩ := pBig_small hb
    simp only [] at hs hL hx
    rw [hb] at hbig
    have hr12 : pOk room 1 = pOk room 2 := by simp [pOk]
    cases hr : pOk room 2
    · rw [hr] at hr12
      have e1 : pNew room 1 = (⟨0, 0, []⟩, 4) := by simp [pNew, hr12]
      have e2 : pNew room 2 = (⟨0, 0, []⟩, 4) := by simp [pNew, hr]
      simp [X_typebarlaw19_PastOnce, nilR, nilRR, pc_passed, hbig, e1, e2]
    rw [hr] at hr12
    have e1 : pNew room 1 = (⟨room, 1, []⟩, 0) := by simp [pNew, hr12]
    have e2 : pNew room 2 = (⟨room, 2, []⟩, 0) := by simp [pNew, hr]
    have hP0 : onceP room ⟨room, 2, []⟩ := ⟨by simp [pIs, hr]; simp [pOk] at hr; omega, rfl, rfl, by simp, by simp⟩
    have hQ0 : onceQ room ⟨room, 1, []⟩ := ⟨by simp [pIs, hr12]; simp [pOk] at hr; omega, rfl, rfl, by simp, by simp⟩
    simp [X_typebarlaw19_PastOnce, nilR, nilRR, pc_passed, hbig, e1, e2]
    clear e1 e2 hbig hb hr hr12
    refine aw_rounds (fun m st => ∃ i : Nat, ∃ P : Past, ∃ Q : Past, st = ⟨tab [(0, .int .i64 room), (1, rrn l), (5, .ptr 0 0 3), (7, .ptr 1 0 3), (9, .int .i64 i)], ⟨[.int .i64 P.room, .int .i64 P.dup, rrn P.L], 0, true⟩ :: ⟨[.int .i64 Q.room, .int .i64 Q.dup, rrn Q.L], 0, true⟩ :: []⟩ ∧ i ≤ l.length ∧ m = l.length - i + 1 ∧ Keep (onceP room P ∧ onceQ room Q)) ?_ ?_ (n := l.length - (0) + 1) (by first | omega | (simp; omega)) ?_
    · rintro st ⟨i, P, Q, hx⟩; omega
    rotate_left
    · exact ⟨0, ⟨room, 2, []⟩, ⟨room, 1, []⟩, by first | rfl | (simp [*, accS, accH]; done) | (simp only [*]; done) | (congr 1 <;> simp [*, accS, accH]; done) | (congr 1 <;> simp [*, accS, accH] <;> rfl) | (congr 1 <;> congr 1 <;> simp <;> omega), by first | omega | (simp; omega) | simp [*], by first | rfl | (simp; done) | omega, ⟨⟨hP0, hQ0⟩⟩⟩
    rintro Ja ma _ ⟨i, P, Q, rfl, fa1, hma, hqa⟩ hJa
    obtain ⟨hP, hQ⟩ := hqa.out
    have hPs := once_small hP.1 hP.2.2.2.1
    have hQs := once_small hQ.1 hQ.2.2.2.1
    by_cases hi : i < l.length
    · have hli := hx _ (List.getElem_mem hi)
      have hli' : l[i].length < 1000000 := by omega
      have hP1 := Keep.mk (onceP_add l[i] hP hli)
      have hQ1 := Keep.mk (onceQ_add l[i] hQ hli)
      clear hP hQ hP0 hQ0
      generalize hPA : pAdd P l[i] = P1 at *
      generalize hQA : pAdd Q l[i] = Q1 at *
      simp
      repeat' (first
        | simp (disch := omega) only [wrap_i64, wrap_i32]
        | (simp (disch := first | omega | assumption | (simp only [i64, i32]; omega) | (simp <;> omega) | fail) only [loadD_cpr, loadD_cprs, List.take_of_length_le, pc_past_Add]; simp [*, hPA, hQA, cells_row_get])
        | (with_reducible refine And.intro ?_ ?_; focus first | omega | decide)
        | (with_reducible refine split_ite (fun hp => ?_) (fun hp => ?_) <;> (try simp at hp) <;> simp [*, hPA, hQA, cells_row_get])
        | (with_reducible refine split_ite1 (fun hp => ?_) (fun hp => ?_) <;> (try simp at hp) <;> simp [*, hPA, hQA, cells_row_get])
        | (refine split_cond (by simp) (fun hp => ?_) (fun hp => ?_) <;> simp at hp <;> simp [*, hPA, hQA, cells_row_get])
        | (refine split_ops (by simp) (fun hp => ?_) (fun hp => ?_) <;> simp at hp <;> simp [*, hPA, hQA, cells_row_get])
        | (refine split_opsD (by simp) (fun hp => ?_) (fun hp => ?_) <;> simp at hp <;> simp [*, hPA, hQA, cells_row_get])
        | (refine split_pick (by simp) (fun hp => ?_) (fun hp => ?_) <;> simp at hp <;> simp [*, hPA, hQA, cells_row_get])
        | omega
        | decide
        | (simp [*, hPA, hQA, cells_row_get]))
      clear hPA hQA
      have hPs1 := once_small hP1.out.1 hP1.out.2.2.2.1
      have hQs1 := once_small hQ1.out.1 hQ1.out.2.2.2.1
      have hPn : P1.L.length ≤ 16 := by have := pIs_spec hP1.out.1; omega
      have hQn : Q1.L.length ≤ 16 := by have := pIs_spec hQ1.out.1; omega
      refine aw_rounds (fun m st => ∃ k : Nat, st = ⟨tab [(0, .int .i64 room), (1, rrn l), (5, .ptr 0 0 3), (7, .ptr 1 0 3), (9, .int .i64 i), (10, .int .i64 k)], ⟨[.int .i64 P1.room, .int .i64 P1.dup, rrn P1.L], 0, true⟩ :: ⟨[.int .i64 Q1.room, .int .i64 Q1.dup, rrn Q1.L], 0, true⟩ :: []⟩ ∧ k ≤ P1.L.length ∧ m = P1.L.length - k + 1 ∧ Keep (True)) ?_ ?_ (n := P1.L.length - (0) + 1) (by first | omega | (simp; omega)) ?_
      · rintro st ⟨k, hx⟩; omega
      rotate_left
      · exact ⟨0, by first | rfl | (simp [*, accS, accH]; done) | (simp only [*]; done) | (congr 1 <;> simp [*, accS, accH]; done) | (congr 1 <;> simp [*, accS, accH] <;> rfl) | (congr 1 <;> congr 1 <;> simp <;> omega), by first | omega | (simp; omega) | simp [*], by first | rfl | (simp; done) | omega, ⟨trivial⟩⟩
      rintro Jb mb _ ⟨k, rfl, fb1, hmb, hqb⟩ hJb
      by_cases hk : k < P1.L.length
      · have hks := hPs1.2 _ (List.getElem_mem hk)
        simp
        repeat' (first
          | simp (disch := omega) only [wrap_i64, wrap_i32]
          | (simp (disch := first | omega | assumption | (simp only [i64, i32]; omega) | (simp <;> omega) | fail) only [loadD_cpr, loadD_cprs, List.take_of_length_le]; simp [*])
          | (with_reducible refine And.intro ?_ ?_; focus first | omega | decide)
          | (with_reducible refine split_ite (fun hp => ?_) (fun hp => ?_) <;> (try simp at hp) <;> simp [*])
          | (with_reducible refine split_ite1 (fun hp => ?_) (fun hp => ?_) <;> (try simp at hp) <;> simp [*])
          | (refine split_cond (by simp) (fun hp => ?_) (fun hp => ?_) <;> simp at hp <;> simp [*])
          | (refine split_ops (by simp) (fun hp => ?_) (fun hp => ?_) <;> simp at hp <;> simp [*])
          | (refine split_opsD (by simp) (fun hp => ?_) (fun hp => ?_) <;> simp at hp <;> simp [*])
          | (refine split_pick (by simp) (fun hp => ?_) (fun hp => ?_) <;> simp at hp <;> simp [*])
          | omega
          | decide
          | (simp [*]))
        refine aw_rounds (fun m st => ∃ q : Nat, st = ⟨tab [(0, .int .i64 room), (1, rrn l), (5, .ptr 0 0 3), (7, .ptr 1 0 3), (9, .int .i64 i), (10, .int .i64 k), (11, .int .i64 q)], ⟨[.int .i64 P1.room, .int .i64 P1.dup, rrn P1.L], 0, true⟩ :: ⟨[.int .i64 Q1.room, .int .i64 Q1.dup, rrn Q1.L], 0, true⟩ :: []⟩ ∧ q ≤ k ∧ m = k - q + 1 ∧ Keep (True)) ?_ ?_ (n := k - (0) + 1) (by first | omega | (simp; omega)) ?_
        · rintro st ⟨q, hx⟩; omega
        rotate_left
        · exact ⟨0, by first | rfl | (simp [*, accS, accH]; done) | (simp only [*]; done) | (congr 1 <;> simp [*, accS, accH]; done) | (congr 1 <;> simp [*, accS, accH] <;> rfl) | (congr 1 <;> congr 1 <;> simp <;> omega), by first | omega | (simp; omega) | simp [*], by first | rfl | (simp; done) | omega, ⟨trivial⟩⟩
        rintro Jc mc _ ⟨q, rfl, fc1, hmc, hqc⟩ hJc
        by_cases hm : q < k
        · have hmL : q < P1.L.length := by omega
          have hne : (P1.L[k] = P1.L[q]) = False := by simp only [eq_iff_iff, iff_false]; exact hP1.out.2.2.2.2 k q hk hm
          simp
          repeat' (first
            | simp (disch := omega) only [wrap_i64, wrap_i32]
            | (simp (disch := first | omega | assumption | (simp only [i64, i32]; omega) | (simp <;> omega) | fail) only [loadD_cpr, loadD_cprs, List.take_of_length_le, pc_ref01_Same]; simp [*, hne, cells_row_get])
            | (with_reducible refine And.intro ?_ ?_; focus first | omega | decide)
            | (with_reducible refine split_ite (fun hp => ?_) (fun hp => ?_) <;> (try simp at hp) <;> simp [*, hne, cells_row_get])
            | (with_reducible refine split_ite1 (fun hp => ?_) (fun hp => ?_) <;> (try simp at hp) <;> simp [*, hne, cells_row_get])
            | (refine split_cond (by simp) (fun hp => ?_) (fun hp => ?_) <;> simp at hp <;> simp [*, hne, cells_row_get])
            | (refine split_ops (by simp) (fun hp => ?_) (fun hp => ?_) <;> simp at hp <;> simp [*, hne, cells_row_get])
            | (refine split_opsD (by simp) (fun hp => ?_) (fun hp => ?_) <;> simp at hp <;> simp [*, hne, cells_row_get])
            | (refine split_pick (by simp) (fun hp => ?_) (fun hp => ?_) <;> simp at hp <;> simp [*, hne, cells_row_get])
            | omega
            | decide
            | (simp [*, hne, cells_row_get]))
          exact hJc.out _ ⟨q + 1, by first | rfl | (simp [*, accS, accH]; done) | (simp only [*]; done) | (congr 1 <;> simp [*, accS, accH]; done) | (congr 1 <;> simp [*, accS, accH] <;> rfl) | (congr 1 <;> congr 1 <;> simp <;> omega), by first | omega | (simp; omega) | simp [*], by omega, ⟨trivial⟩⟩
        · have hm' : q = k := by omega
          subst hm'
          clear hks hPs1 hQs1 hPs hQs hP1 hQ1 hx hs
          simp
          simp (disch := omega) only [wrap_i64]
          exact hJb.out _ ⟨q + 1, by first | rfl | (simp [*, accS, accH]; done) | (simp only [*]; done) | (congr 1 <;> simp [*, accS, accH]; done) | (congr 1 <;> simp [*, accS, accH] <;> rfl) | (congr 1 <;> congr 1 <;> simp <;> omega), by first | omega | (simp; omega) | simp [*], by omega, ⟨trivial⟩⟩
      · simp
        repeat' (first
          | simp (disch := omega) only [wrap_i64, wrap_i32]
          | (simp (disch := first | omega | assumption | (simp only [i64, i32]; omega) | (simp <;> omega) | fail) only [loadD_cpr, loadD_cprs, List.take_of_length_le]; simp [*])
          | (with_reducible refine And.intro ?_ ?_; focus first | omega | decide)
          | (with_reducible refine split_ite (fun hp => ?_) (fun hp => ?_) <;> (try simp at hp) <;> simp [*])
          | (with_reducible refine split_ite1 (fun hp => ?_) (fun hp => ?_) <;> (try simp at hp) <;> simp [*])
          | (refine split_cond (by simp) (fun hp => ?_) (fun hp => ?_) <;> simp at hp <;> simp [*])
          | (refine split_ops (by simp) (fun hp => ?_) (fun hp => ?_) <;> simp at hp <;> simp [*])
          | (refine split_opsD (by simp) (fun hp => ?_) (fun hp => ?_) <;> simp at hp <;> simp [*])
          | (refine split_pick (by simp) (fun hp => ?_) (fun hp => ?_) <;> simp at hp <;> simp [*])
          | omega
          | decide
          | (simp [*]))
        refine aw_rounds (fun m st => ∃ k : Nat, st = ⟨tab [(0, .int .i64 room), (1, rrn l), (5, .ptr 0 0 3), (7, .ptr 1 0 3), (9, .int .i64 i), (12, .int .i64 (k + 1))], ⟨[.int .i64 P1.room, .int .i64 P1.dup, rrn P1.L], 0, true⟩ :: ⟨[.int .i64 Q1.room, .int .i64 Q1.dup, rrn Q1.L], 0, true⟩ :: []⟩ ∧ k ≤ Q1.L.length ∧ m = Q1.L.length - k + 1 ∧ Keep (True)) ?_ ?_ (n := Q1.L.length - (0) + 1) (by first | omega | (simp; omega)) ?_
        · rintro st ⟨k, hx⟩; omega
        rotate_left
        · exact ⟨0, by first | rfl | (simp [*, accS, accH]; done) | (simp only [*]; done) | (congr 1 <;> simp [*, accS, accH]; done) | (congr 1 <;> simp [*, accS, accH] <;> rfl) | (congr 1 <;> congr 1 <;> simp <;> omega), by first | omega | (simp; omega) | simp [*], by first | rfl | (simp; done) | omega, ⟨trivial⟩⟩
        rintro Jd md _ ⟨k, rfl, fd1, hmd, hqd⟩ hJd
        by_cases hk1 : k + 1 < Q1.L.length
        · have hk0 : k < Q1.L.length := by omega
          have hks := hQs1.2 _ (List.getElem_mem hk1)
          have hne : (Q1.L[k + 1] = Q1.L[k]) = False := by simp only [eq_iff_iff, iff_false]; exact hQ1.out.2.2.2.2 k hk1
          simp
          have e1 : ((k : Int) + 1).toNat = k + 1 := by omega
          repeat' (first
            | simp (disch := omega) only [wrap_i64, wrap_i32]
            | (simp (disch := first | omega | assumption | (simp only [i64, i32]; omega) | (simp <;> omega) | fail) only [loadD_cpr, loadD_cprs, List.take_of_length_le, pc_ref01_Same]; simp [*, hne, cells_row_get, e1])
            | (with_reducible refine And.intro ?_ ?_; focus first | omega | decide)
            | (with_reducible refine split_ite (fun hp => ?_) (fun hp => ?_) <;> (try simp at hp) <;> simp [*, hne, cells_row_get, e1])
            | (with_reducible refine split_ite1 (fun hp => ?_) (fun hp => ?_) <;> (try simp at hp) <;> simp [*, hne, cells_row_get, e1])
            | (refine split_cond (by simp) (fun hp => ?_) (fun hp => ?_) <;> simp at hp <;> simp [*, hne, cells_row_get, e1])
            | (refine split_ops (by simp) (fun hp => ?_) (fun hp => ?_) <;> simp at hp <;> simp [*, hne, cells_row_get, e1])
            | (refine split_opsD (by simp) (fun hp => ?_) (fun hp => ?_) <;> simp at hp <;> simp [*, hne, cells_row_get, e1])
            | (refine split_pick (by simp) (fun hp => ?_) (fun hp => ?_) <;> simp at hp <;> simp [*, hne, cells_row_get, e1])
            | omega
            | decide
            | (simp [*, hne, cells_row_get, e1]))
          exact hJd.out _ ⟨k + 1, by first | rfl | (simp [*, accS, accH]; done) | (simp only [*]; done) | (congr 1 <;> simp [*, accS, accH]; done) | (congr 1 <;> simp [*, accS, accH] <;> rfl) | (congr 1 <;> congr 1 <;> simp <;> omega), by first | omega | (simp; omega) | simp [*], by omega, ⟨trivial⟩⟩
        · have hk2 : ¬ ((k : Int) + 1 < Q1.L.length) := by omega
          clear hPs1 hQs1 hPs hQs hx hs
          simp [hk2]
          simp (disch := omega) only [wrap_i64]
          exact hJa.out _ ⟨i + 1, P1, Q1, by first | rfl | (simp [*, accS, accH]; done) | (simp only [*]; done) | (congr 1 <;> simp [*, accS, accH]; done) | (congr 1 <;> simp [*, accS, accH] <;> rfl) | (congr 1 <;> congr 1 <;> simp <;> omega), by first | omega | (simp; omega) | simp [*], by omega, ⟨⟨hP1.out, hQ1.out⟩⟩⟩
    · have hP5 := pIs_spec hP.1
      have hQ5 := pIs_spec hQ.1
      rw [hP.2.1] at hP5
      rw [hQ.2.1] at hQ5
      simp
      repeat' (first
        | simp (disch := omega) only [wrap_i64, wrap_i32]
        | (simp (disch := first | omega | assumption | (simp only [i64, i32]; omega) | (simp <;> omega) | fail) only [loadD_cpr, loadD_cprs, List.take_of_length_le]; simp [*, pc_passed])
        | (with_reducible refine And.intro ?_ ?_; focus first | omega | decide)
        | (with_reducible refine split_ite (fun hp => ?_) (fun hp => ?_) <;> (try simp at hp) <;> simp [*, pc_passed])
        | (with_reducible refine split_ite1 (fun hp => ?_) (fun hp => ?_) <;> (try simp at hp) <;> simp [*, pc_passed])
        | (refine split_cond (by simp) (fun hp => ?_) (fun hp => ?_) <;> simp at hp <;> simp [*, pc_passed])
        | (refine split_ops (by simp) (fun hp => ?_) (fun hp => ?_) <;> simp at hp <;> simp [*, pc_passed])
        | (refine split_opsD (by simp) (fun hp => ?_) (fun hp => ?_) <;> simp at hp <;> simp [*, pc_passed])
        | (refine split_pick (by simp) (fun hp => ?_) (fun hp => ?_) <;> simp at hp <;> simp [*, pc_passed])
        | omega
        | decide
        | (simp [*, pc_passed]))
      all_goals omega
  · rw [hb] at hbig
    simp [X_typebarlaw19_PastOnce, nilR, nilRR, pc_passed, hbig, pNew]
    repeat' (first
      | simp (disch := omega) only [wrap_i64, wrap_i32]
      | (simp (disch := first | omega | assumption | (simp only [i64, i32]; omega) | (simp <;> omega) | fail) only [loadD_cpr, loadD_cprs, List.take_of_length_le]; simp [*, nilR, nilRR, pc_passed, hbig])
      | (with_reducible refine And.intro ?_ ?_; focus first | omega | decide)
      | (with_reducible refine split_ite (fun hp => ?_) (fun hp => ?_) <;> (try simp at hp) <;> simp [*, nilR, nilRR, pc_passed, hbig])
      | (with_reducible refine split_ite1 (fun hp => ?_) (fun hp => ?_) <;> (try simp at hp) <;> simp [*, nilR, nilRR, pc_passed, hbig])
      | (refine split_cond (by simp) (fun hp => ?_) (fun hp => ?_) <;> simp at hp <;> simp [*, nilR, nilRR, pc_passed, hbig])
      | (refine split_ops (by simp) (fun hp => ?_) (fun hp => ?_) <;> simp at hp <;> simp [*, nilR, nilRR, pc_passed, hbig])
      | (refine split_opsD (by simp) (fun hp => ?_) (fun hp => ?_) <;> simp at hp <;> simp [*, nilR, nilRR, pc_passed, hbig])
      | (refine split_pick (by simp) (fun hp => ?_) (fun hp => ?_) <;> simp at hp <;> simp [*, nilR, nilRR, pc_passed, hbig])
      | omega
      | decide
      | (simp [*, nilR, nilRR, pc_passed, hbig]))
    all_goals trace_state

end Go.Proofs.Ytngbfjnkfomcnaa
