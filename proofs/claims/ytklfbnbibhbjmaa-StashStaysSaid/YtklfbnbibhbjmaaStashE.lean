/- The document's Go. -/
import Derived.Test.YtklfbnbibhbjmaaStashD
namespace Go.Proofs.Ytklfbnbibhbjmaa
open Go E
set_option linter.unusedSimpArgs false
set_option linter.unusedVariables false

theorem pc_ref20_Go (n : Nat) (s : StashM) (p : Past) (g : Gap) (to : Int) (hs : smallS s.L) (hp : small p.L) (hg : g.A.length < 2000000 ∧ g.B.length < 2000000) : (W (n + 9)).pc 9 [stD s, pD p, gD g, .int .i64 to] =
    some (.tup [stD (sGo s p g to).1, gD (sGo s p g to).2.1, eD (sGo s p g to).2.2]) := by
  apply runs c_typebarref20_Go
  obtain ⟨hA, hB⟩ := hg
  have hs1 := hs
  have hp1 := hp.1
  obtain ⟨hL, hl⟩ := hs
  cases h1 : sIs s p
  · simp [X_typebarref20_Go, hs1, hp, pc_ref20_Is, h1, sGo]
    exact ⟨rfl, rfl⟩
  cases h2 : gapIs g
  · simp [X_typebarref20_Go, hs1, hp, pc_ref20_Is, h1, h2, sGo, hA, hB]
    exact ⟨rfl, rfl⟩
  by_cases h3 : 0 ≤ to ∧ to ≤ p.L.length ∧ to ≠ s.at_
  · have h1' : (0 ≤ s.at_ ∧ s.at_ ≤ p.L.length) ∧ slotsOk p.L.length 0 s.L = true := by
      simp only [sIs, Bool.and_eq_true, decide_eq_true_eq] at h1
      exact ⟨h1.1.2, h1.2⟩
    have hk : pIs p = true := by
      simp only [sIs, Bool.and_eq_true] at h1
      exact h1.1.1
    obtain ⟨h3a, h3b, h3c⟩ := h3
    have h4 : ¬ to < 0 := by omega
    have h5 : ¬ (p.L.length : Int) < to := by omega
    have hU := sUp_into (g := g) (p.L.length + 1) 0 s.L h1'.2 (by omega) h1'.1.1 h1'.1.2
    simp [X_typebarref20_Go, hs1, hp, pc_ref20_Is, h1, h2, hA, hB, h3a, h3b, h3c, h4, h5]
    refine aw_rounds (fun m st => ∃ k : Nat, ∃ acc : List (Int × Gap), ∃ j : Nat, ∃ G : List Blk, st = ⟨tab [(3, .int .i64 to), (4, .ptr 0 0 2), (5, .ptr 1 0 3), (6, .ptr 2 0 2), (8, .ptr 3 0 2), (9, .ptr 4 0 2), (11, .ptr 5 0 2), (12, .int .i64 k)], ⟨[.int .i64 s.at_, srn s.L], 0, true⟩ :: ⟨[.int .i64 p.room, .int .i64 p.dup, rrn p.L], 0, true⟩ :: ⟨[rn g.A, rn g.B], 0, true⟩ :: ⟨[.int .i64 0, .arr 0 true []], 0, true⟩ :: ⟨[.arr 0 true [], .arr 0 true []], 0, true⟩ :: ⟨[.int .i64 to, accS slotC (j + 6) acc], 0, true⟩ :: G⟩ ∧ k ≤ p.L.length + 1 ∧ acc.length ≤ k ∧ m = p.L.length + 1 - k + 1 ∧ Keep (sUp s.L s.at_ g (p.L.length + 1) 0 = acc ++ sUp s.L s.at_ g (p.L.length + 1 - k) k ∧ (acc = [] ∨ G[j]? = some ⟨cells slotC acc, 0, false⟩))) ?_ ?_ (n := p.L.length + 1 - (0) + 1) (by first | omega | (simp; omega)) ?_
    · rintro st ⟨k, acc, j, G, hx⟩; omega
    rotate_left
    · exact ⟨0, [], 0, [], by first | rfl | (simp [*, accS, accH]; done) | (simp only [*]; done) | (congr 1 <;> simp [*, accS, accH]; done) | (congr 1 <;> simp [*, accS, accH] <;> rfl) | (congr 1 <;> congr 1 <;> simp <;> omega), by first | omega | (simp; omega) | simp [*], by first | omega | (simp; omega) | simp [*], by first | rfl | (simp; done) | omega, ⟨⟨by simp, .inl rfl⟩⟩⟩
    rintro Ja ma _ ⟨k, acc, j, G, rfl, fa1, fa2, hma, hqa⟩ hJa
    by_cases hkl : k ≤ p.L.length
    · have hkl' : (k : Int) ≤ p.L.length := by omega
      have hw : IntKind.i64.wrap ((k : Int) + 1) = k + 1 := wrap_i64 (by omega)
      have hstep : sUp s.L s.at_ g (p.L.length + 1 - k) k = sPick s.L s.at_ g k ++ sUp s.L s.at_ g (p.L.length + 1 - (k + 1)) ((k + 1 : Nat) : Int) := by
        rw [show p.L.length + 1 - k = (p.L.length + 1 - (k + 1)) + 1 by omega, sUp]
        congr 2
      have hU2 := hqa.out.1
      rw [hstep, ← List.append_assoc] at hU2
      have hU2 : Keep _ := ⟨hU2⟩
      by_cases hka : (k : Int) = s.at_
      · have hpk : sPick s.L s.at_ g k = [((k : Int), g)] := by rw [sPick, if_pos hka]
        have hka' : ((k : Int) = s.at_) = True := eq_true hka
        cases h6 : sFind s.L k
        all_goals
          by_cases ha0 : acc = []
          · subst ha0
            simp [hkl', hw, hs1, pc_ref20_Find, h6, hka', accS, appD, contents]
            exact hJa.out _ ⟨k + 1, [] ++ [((k : Int), g)], G.length + 2, _, by first | rfl | (simp [*, accS, accH]; done) | (simp only [*]; done) | (congr 1 <;> simp [*, accS, accH]; done) | (congr 1 <;> simp [*, accS, accH] <;> rfl) | (congr 1 <;> congr 1 <;> simp <;> omega), by first | omega | (simp; omega) | simp [*], by first | omega | (simp; omega) | simp [*], by omega, ⟨⟨by have := hU2.out; rw [hpk] at this; exact this, .inr (by simp)⟩⟩⟩
          · have hG : G[j]? = some ⟨cells slotC acc, 0, false⟩ := (hqa.out.2).resolve_left ha0
            obtain ⟨hj, -⟩ := List.getElem?_eq_some_iff.1 hG
            have hG2 : ∀ t, (G ++ t)[j]? = some ⟨cells slotC acc, 0, false⟩ := fun t => by rw [List.getElem?_append_left hj]; exact hG
            have hG3 : ∀ t b, (G ++ t).set j b = G.set j b ++ t := fun t b => by rw [List.set_append_left _ _ hj]
            have hG2 : Keep _ := ⟨hG2⟩
            have hG4 : ∀ b t, (G.set j b ++ t)[j]? = some b := fun b t => by rw [List.getElem?_append_left (by simpa using hj)]; simp [hj]
            simp [hkl', hw, hs1, pc_ref20_Find, h6, hka', accS, appD, contents, ha0, hG2.out, hG3]
            refine ⟨by omega, ?_⟩
            exact hJa.out _ ⟨k + 1, acc ++ [((k : Int), g)], j, _, by first | rfl | (simp [*, accS, accH]; done) | (simp only [*]; done) | (congr 1 <;> simp [*, accS, accH]; done) | (congr 1 <;> simp [*, accS, accH] <;> rfl) | (congr 1 <;> congr 1 <;> simp <;> omega), by first | omega | (simp; omega) | simp [*], by first | omega | (simp; omega) | simp [*], by omega, ⟨⟨by have := hU2.out; rw [hpk] at this; exact this, .inr (by rw [hG4, cells_append, hka]; rfl)⟩⟩⟩
      · cases h6 : sFind s.L k
        · have hpk : sPick s.L s.at_ g k = [] := by rw [sPick, if_neg hka, h6]
          simp [hkl', hw, hs1, pc_ref20_Find, h6, hka]
          exact hJa.out _ ⟨k + 1, acc, j, _, by first | rfl | (simp [*, accS, accH]; done) | (simp only [*]; done) | (congr 1 <;> simp [*, accS, accH]; done) | (congr 1 <;> simp [*, accS, accH] <;> rfl) | (congr 1 <;> congr 1 <;> simp <;> omega), by first | omega | (simp; omega) | simp [*], by first | omega | (simp; omega) | simp [*], by omega, ⟨⟨by have := hU2.out; rw [hpk, List.append_nil] at this; exact this, (hqa.out.2).imp id (fun e => by rw [List.getElem?_append_left (List.getElem?_eq_some_iff.1 e).1]; exact e)⟩⟩⟩
        · rename_i y
          have hpk : sPick s.L s.at_ g k = [((k : Int), y)] := by rw [sPick, if_neg hka, h6]
          by_cases ha0 : acc = []
          · subst ha0
            simp [hkl', hw, hs1, pc_ref20_Find, h6, hka, accS, appD, contents]
            exact hJa.out _ ⟨k + 1, [] ++ [((k : Int), y)], G.length + 2, _, by first | rfl | (simp [*, accS, accH]; done) | (simp only [*]; done) | (congr 1 <;> simp [*, accS, accH]; done) | (congr 1 <;> simp [*, accS, accH] <;> rfl) | (congr 1 <;> congr 1 <;> simp <;> omega), by first | omega | (simp; omega) | simp [*], by first | omega | (simp; omega) | simp [*], by omega, ⟨⟨by have := hU2.out; rw [hpk] at this; exact this, .inr (by simp)⟩⟩⟩
          · have hG : G[j]? = some ⟨cells slotC acc, 0, false⟩ := (hqa.out.2).resolve_left ha0
            obtain ⟨hj, -⟩ := List.getElem?_eq_some_iff.1 hG
            have hG2 : ∀ t, (G ++ t)[j]? = some ⟨cells slotC acc, 0, false⟩ := fun t => by rw [List.getElem?_append_left hj]; exact hG
            have hG3 : ∀ t b, (G ++ t).set j b = G.set j b ++ t := fun t b => by rw [List.set_append_left _ _ hj]
            have hG2 : Keep _ := ⟨hG2⟩
            have hG4 : ∀ b t, (G.set j b ++ t)[j]? = some b := fun b t => by rw [List.getElem?_append_left (by simpa using hj)]; simp [hj]
            simp [hkl', hw, hs1, pc_ref20_Find, h6, hka, accS, appD, contents, ha0, hG2.out, hG3]
            refine ⟨by omega, ?_⟩
            exact hJa.out _ ⟨k + 1, acc ++ [((k : Int), y)], j, _, by first | rfl | (simp [*, accS, accH]; done) | (simp only [*]; done) | (congr 1 <;> simp [*, accS, accH]; done) | (congr 1 <;> simp [*, accS, accH] <;> rfl) | (congr 1 <;> congr 1 <;> simp <;> omega), by first | omega | (simp; omega) | simp [*], by first | omega | (simp; omega) | simp [*], by omega, ⟨⟨by have := hU2.out; rw [hpk] at this; exact this, .inr (by rw [hG4, cells_append]; rfl)⟩⟩⟩
    · have hkl' : ¬ (k : Int) ≤ p.L.length := by omega
      have hTot : acc = sInto s.L (sCnt s.L s.at_) (s.at_, g) := by
        have := hqa.out.1
        rw [hU, show p.L.length + 1 - k = 0 by omega, sUp, List.append_nil] at this
        exact this.symm
      have hne : ¬ acc = [] := by
        rw [hTot, sInto]
        split
        · rename_i hx; obtain ⟨hx, -⟩ := hx
          intro hc
          have := congrArg List.length hc
          simp at this
          rw [this] at hx
          simp at hx
        · simp
      replace hTot : Keep _ := ⟨hTot⟩
      have hG : G[j]? = some ⟨cells slotC acc, 0, false⟩ := (hqa.out.2).resolve_left hne
      obtain ⟨hj, -⟩ := List.getElem?_eq_some_iff.1 hG
      have hG2 : Keep (∀ t, (G ++ t)[j]? = some ⟨cells slotC acc, 0, false⟩) := ⟨fun t => by rw [List.getElem?_append_left hj]; exact hG⟩
      have hG3 : ∀ t b, (G ++ t).set j b = G.set j b ++ t := fun t b => by rw [List.set_append_left _ _ hj]
      have hGo : sGo s p g to = (⟨to, sInto s.L (sCnt s.L s.at_) (s.at_, g)⟩, sTake s p to, 0) := by rw [sGo, if_pos ⟨h1, h2⟩, if_pos ⟨h3a, h3b, h3c⟩]
      replace hGo : Keep _ := ⟨hGo⟩
      cases h6 : sFind s.L to
      · by_cases hlt : to < p.L.length
        · have hlt2 : to.toNat < p.L.length := by omega
          simp [hkl', hs1, pc_ref20_Find, h6, hlt, hlt2, h3a, accS, hne, hG2.out, hG3]
          repeat' (first
            | simp (disch := omega) only [wrap_i64, wrap_i32]
            | (simp (disch := first | omega | assumption | (simp only [i64, i32]; omega) | (simp <;> omega) | fail) only [loadD_cpr, loadD_cprs, List.take_of_length_le]; simp [*, accS, hne, hG2.out, hG3])
            | (with_reducible refine And.intro ?_ ?_; focus first | omega | decide)
            | (with_reducible refine split_ite (fun hp => ?_) (fun hp => ?_) <;> (try simp at hp) <;> simp [*, accS, hne, hG2.out, hG3])
            | (with_reducible refine split_ite1 (fun hp => ?_) (fun hp => ?_) <;> (try simp at hp) <;> simp [*, accS, hne, hG2.out, hG3])
            | (refine split_cond (by simp) (fun hp => ?_) (fun hp => ?_) <;> simp at hp <;> simp [*, accS, hne, hG2.out, hG3])
            | (refine split_ops (by simp) (fun hp => ?_) (fun hp => ?_) <;> simp at hp <;> simp [*, accS, hne, hG2.out, hG3])
            | (refine split_opsD (by simp) (fun hp => ?_) (fun hp => ?_) <;> simp at hp <;> simp [*, accS, hne, hG2.out, hG3])
            | (refine split_pick (by simp) (fun hp => ?_) (fun hp => ?_) <;> simp at hp <;> simp [*, accS, hne, hG2.out, hG3])
            | omega
            | decide
            | (simp [*, accS, hne, hG2.out, hG3]))
          rw [hGo.out]
          have ht : sTake s p to = ⟨p.L[to.toNat], []⟩ := by simp only [sTake, h6, pGet_at hk h3a hlt2, if_true]
          rw [ht]
          exact ⟨⟨rfl, hTot.out⟩, ⟨rfl, rfl⟩, rfl⟩
        · simp [hkl', hs1, pc_ref20_Find, h6, hlt, h3a, accS, hne, hG2.out, hG3]
          repeat' (first
            | simp (disch := omega) only [wrap_i64, wrap_i32]
            | (simp (disch := first | omega | assumption | (simp only [i64, i32]; omega) | (simp <;> omega) | fail) only [loadD_cpr, loadD_cprs, List.take_of_length_le]; simp [*, accS, hne, hG2.out, hG3])
            | (with_reducible refine And.intro ?_ ?_; focus first | omega | decide)
            | (with_reducible refine split_ite (fun hp => ?_) (fun hp => ?_) <;> (try simp at hp) <;> simp [*, accS, hne, hG2.out, hG3])
            | (with_reducible refine split_ite1 (fun hp => ?_) (fun hp => ?_) <;> (try simp at hp) <;> simp [*, accS, hne, hG2.out, hG3])
            | (refine split_cond (by simp) (fun hp => ?_) (fun hp => ?_) <;> simp at hp <;> simp [*, accS, hne, hG2.out, hG3])
            | (refine split_ops (by simp) (fun hp => ?_) (fun hp => ?_) <;> simp at hp <;> simp [*, accS, hne, hG2.out, hG3])
            | (refine split_opsD (by simp) (fun hp => ?_) (fun hp => ?_) <;> simp at hp <;> simp [*, accS, hne, hG2.out, hG3])
            | (refine split_pick (by simp) (fun hp => ?_) (fun hp => ?_) <;> simp at hp <;> simp [*, accS, hne, hG2.out, hG3])
            | omega
            | decide
            | (simp [*, accS, hne, hG2.out, hG3]))
          rw [hGo.out]
          have hpg : pGet p to = ([], 7) := by rw [pGet, if_neg (by simp [hk]), if_pos (by omega)]
          have ht : sTake s p to = ⟨[], []⟩ := by simp only [sTake, h6, hpg]; rfl
          rw [ht]
          exact ⟨⟨rfl, hTot.out⟩, ⟨rfl, rfl⟩, rfl⟩
      · simp [hkl', hs1, pc_ref20_Find, h6, h3a, accS, hne, hG2.out, hG3]
        repeat' (first
          | simp (disch := omega) only [wrap_i64, wrap_i32]
          | (simp (disch := first | omega | assumption | (simp only [i64, i32]; omega) | (simp <;> omega) | fail) only [loadD_cpr, loadD_cprs, List.take_of_length_le]; simp [*, accS, hne, hG2.out, hG3])
          | (with_reducible refine And.intro ?_ ?_; focus first | omega | decide)
          | (with_reducible refine split_ite (fun hp => ?_) (fun hp => ?_) <;> (try simp at hp) <;> simp [*, accS, hne, hG2.out, hG3])
          | (with_reducible refine split_ite1 (fun hp => ?_) (fun hp => ?_) <;> (try simp at hp) <;> simp [*, accS, hne, hG2.out, hG3])
          | (refine split_cond (by simp) (fun hp => ?_) (fun hp => ?_) <;> simp at hp <;> simp [*, accS, hne, hG2.out, hG3])
          | (refine split_ops (by simp) (fun hp => ?_) (fun hp => ?_) <;> simp at hp <;> simp [*, accS, hne, hG2.out, hG3])
          | (refine split_opsD (by simp) (fun hp => ?_) (fun hp => ?_) <;> simp at hp <;> simp [*, accS, hne, hG2.out, hG3])
          | (refine split_pick (by simp) (fun hp => ?_) (fun hp => ?_) <;> simp at hp <;> simp [*, accS, hne, hG2.out, hG3])
          | omega
          | decide
          | (simp [*, accS, hne, hG2.out, hG3]))
        rw [hGo.out]
        rename_i y
        have ht : sTake s p to = y := by simp only [sTake, h6]
        rw [ht]
        exact ⟨⟨rfl, hTot.out⟩, ⟨rfl, rfl⟩, rfl⟩
  · simp [X_typebarref20_Go, hs1, hp, pc_ref20_Is, h1, h2, sGo, hA, hB, h3]
    repeat' (first
      | simp (disch := omega) only [wrap_i64, wrap_i32]
      | (simp (disch := first | omega | assumption | (simp only [i64, i32]; omega) | (simp <;> omega) | fail) only [loadD_cpr, loadD_cprs, List.take_of_length_le]; simp [*])
      | (with_reducible refine And.intro ?_ ?_; focus first | omega | decide)
      | (with_reducible refine split_ite (fun hp => ?_) (fun hp => ?_) <;> (try simp at hp) <;> simp [*])
      | (with_reducible refine split_ite1 (fun hp => ?_) (fun hp => ?_) <;> (try simp at hp) <;> simp [*])
      | (refine split_cond (by simp) (fun hp => ?_) (fun hp => ?_) <;> simp at hp <;> simp [*])
      | (refine split_ops (by simp) (fun hp => ?_) (fun hp => ?_) <;> simp at hp <;> simp [*])
      | (refine split_opsD (by simp) (fun hp => ?_) (fun hp => ?_) <;> simp at hp <;> simp [*])
      | (refine split_pick (by simp) (fun hp => ?_) (fun hp => ?_) <;> simp at hp <;> simp [*])
      | omega
      | decide
      | (simp [*]))
    all_goals exact ⟨rfl, rfl⟩

end Go.Proofs.Ytklfbnbibhbjmaa
