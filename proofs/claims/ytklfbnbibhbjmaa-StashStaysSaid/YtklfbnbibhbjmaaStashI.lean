/- The statements StashBack and StashStays. -/
import Derived.Test.YtklfbnbibhbjmaaStashH
namespace Go.Proofs.Ytklfbnbibhbjmaa
open Go E
set_option linter.unusedSimpArgs false
set_option linter.unusedVariables false

theorem sBig_100 {s : StashM} {p : Past} {g : Gap} (h : sBig s p g = false) : s.L.length ≤ 100 := by
  simp only [sBig, Bool.or_eq_false_iff, decide_eq_false_iff_not] at h
  omega

theorem sFind_small {L : List (Int × Gap)} {i : Int} {y : Gap} (hs : smallS L) (h : sFind L i = some y) : y.A.length < 2000000 ∧ y.B.length < 2000000 := by
  simp only [sFind] at h
  obtain ⟨x, hx, rfl⟩ := Option.map_eq_some_iff.1 h
  exact hs.2 _ (List.mem_of_find?_eq_some hx)

theorem sGo_bad {s : StashM} {p : Past} {g : Gap} {to : Int} (h : (sGo s p g to).2.2 ≠ 0) : (sGo s p g to).1 = ⟨0, []⟩ ∧ (sGo s p g to).2.1 = ⟨[], []⟩ := by
  simp only [sGo] at h ⊢
  split
  · split
    · rename_i h1 h2
      exact absurd (by rw [if_pos h1, if_pos h2]) h
    · exact ⟨rfl, rfl⟩
  · exact ⟨rfl, rfl⟩

theorem pc_StashBack (n : Nat) (s : StashM) (p : Past) (g h : Gap) (to : Int) : (W (n + 24)).pc 5 [stD s, pD p, gD g, gD h, .int .i64 to] = some (.bool true) := by
  apply runs c_typebarlaw20_StashBack
  cases hb : sBig s p g
  · obtain ⟨hs, hp, hg⟩ := sBig_small hb
    have hl := sBig_100 hb
    by_cases hA : (1000 : Int) < h.A.length
    · simp [X_typebarlaw20_StashBack, pc_sBig, hb, hA]
    by_cases hB : (1000 : Int) < h.B.length
    · simp [X_typebarlaw20_StashBack, pc_sBig, hb, hA, hB]
    have hh : h.A.length < 2000000 ∧ h.B.length < 2000000 := by omega
    obtain ⟨q1, q2, q3⟩ := sGo_small (to := to) hs (by omega) hp hg
    have hb1 : ∀ {t : StashM} {w : Gap} {k : Int}, (t.L.length ≤ 1000000 → (sGo t p w k).1.L.length ≤ t.L.length + 1) := by
      intro t w k hk
      by_cases hz : (sGo t p w k).2.2 = 0
      · rw [(sGo_ok hz).2.2.2]; exact sPut_len ..
      · rw [(sGo_bad hz).1]; simp
    have l1 := hb1 (t := s) (w := g) (k := to) (by omega)
    obtain ⟨r1, r2, r3⟩ := sGo_small (s := (sGo s p g to).1) (to := s.at_) q1 (by omega) hp hh
    have l2 := hb1 (t := (sGo s p g to).1) (w := h) (k := s.at_) (by omega)
    obtain ⟨t1, t2, t3⟩ := sGo_small (s := (sGo (sGo s p g to).1 p h s.at_).1) (to := to) r1 (by omega) hp hg
    by_cases he : (sGo s p g to).2.2 = 0
    · by_cases hf : (sGo (sGo s p g to).1 p h s.at_).2.2 = 0
      · obtain ⟨w1, w2, w3, w4, w5⟩ := sGo_back he hf
        have G1 := pc_stash_Go (n + 14) s p g to hs hp hg
        have G2 := pc_stash_Go (n + 14) _ p h s.at_ q1 hp hh
        have G3 := pc_stash_Go (n + 14) _ p g to r1 hp hg
        simp only [stD, w1, w2, w3, w4, w5, he, hf] at G1 G2 G3
        simp [X_typebarlaw20_StashBack, pc_sBig, pc_stashed, hb, hA, hB, hs, hp, hg, hh, q1, q2, q3, r1, r2, r3, G1, G2, G3]
      · simp [X_typebarlaw20_StashBack, pc_sBig, pc_stashed, hb, hA, hB, hs, hp, hg, hh, pc_stash_Go, q1, q2, q3, he, hf]
    · simp [X_typebarlaw20_StashBack, pc_sBig, pc_stashed, hb, hA, hB, hs, hp, hg, hh, pc_stash_Go, q1, q2, q3, he]
  · simp [X_typebarlaw20_StashBack, pc_sBig, hb]

theorem pc_StashStays (n : Nat) (s : StashM) (p : Past) (g : Gap) (to : Int) : (W (n + 24)).pc 6 [stD s, pD p, gD g, .int .i64 to] = some (.bool true) := by
  apply runs c_typebarlaw20_StashStays
  cases hb : sBig s p g
  · obtain ⟨hs, hp, hg⟩ := sBig_small hb
    have hl := sBig_100 hb
    cases h1 : sIs s p
    · simp [X_typebarlaw20_StashStays, pc_sBig, pc_stashed, hb, hs, hp, pc_stash_Is, h1]
    by_cases he : (sGo s p g to).2.2 = 0
    · obtain ⟨L, y, hgo, hF, hok, hsm⟩ : ∃ L y, sGo s p g to = (⟨to, L⟩, y, 0) ∧ (∀ i, sFind L i = if i = s.at_ then some g else sFind s.L i) ∧ sIs ⟨to, L⟩ p = true ∧ smallS L := by
        obtain ⟨a1, a2, a3, a4⟩ := sGo_ok he
        exact ⟨_, _, a4, fun i => sPut_find _ _ _ _, sGo_is a1 a2 ⟨a3.1, a3.2.1⟩, (sPut_small hl (by omega) hs hg).1⟩
      have hO : sIs ⟨p.L.length, []⟩ p = true := by
        simp only [sIs, slotsOk, Bool.and_eq_true, decide_eq_true_eq] at h1 ⊢
        exact ⟨⟨h1.1.1, by omega, by omega⟩, trivial⟩
      have hI : (W (n + 23)).pc 15 [.agg [.int .i64 to, srn L], pD p] = some (.bool true) := by
        have := pc_stash_Is (n + 15) ⟨to, L⟩ p hsm hp
        rwa [hok] at this
      have hFi : ∀ i : Int, (W (n + 23)).pc 13 [.agg [.int .i64 to, srn L], .int .i64 i] = some (fD (sFind L i)) := fun i => pc_stash_Find (n + 22) ⟨to, L⟩ i hsm
      have hOI : (W (n + 23)).pc 15 [.agg [.int .i64 p.L.length, srn []], pD p] = some (.bool true) := by
        have := pc_stash_Is (n + 15) ⟨p.L.length, []⟩ p (by simp [smallS]) hp
        rwa [hO] at this
      have hF : Keep _ := ⟨hF⟩
      have hp1 := hp.1
      have hg1 := hg
      have hz : fD.g0S.A.length < 2000000 ∧ fD.g0S.B.length < 2000000 := by decide
      simp [X_typebarlaw20_StashStays, pc_sBig, pc_stashed, hb, hs, hp, hg, pc_stash_Is, h1, pc_stash_Go, hgo]
      refine aw_rounds (fun m st => ∃ i : Nat, ∃ R : List Blk, st = ⟨tab [(4, .ptr 0 0 2), (5, .ptr 1 0 3), (6, .ptr 2 0 2), (9, .ptr 3 0 2), (12, .int .i64 i)], ⟨[.int .i64 s.at_, srn s.L], 0, true⟩ :: ⟨[.int .i64 p.room, .int .i64 p.dup, rrn p.L], 0, true⟩ :: ⟨[rn g.A, rn g.B], 0, true⟩ :: ⟨[.int .i64 to, srn L], 0, true⟩ :: R⟩ ∧ i ≤ p.L.length + 1 ∧ m = p.L.length + 1 - i + 1 ∧ Keep (True)) ?_ ?_ (n := p.L.length + 1 - (0) + 1) (by first | omega | (simp; omega)) ?_
      · rintro st ⟨i, hx⟩; omega
      rotate_left
      · exact ⟨0, _, by first | rfl | (simp [*, accS, accH]; done) | (simp only [*]; done) | (congr 1 <;> simp [*, accS, accH]; done) | (congr 1 <;> simp [*, accS, accH] <;> rfl) | (congr 1 <;> congr 1 <;> simp <;> omega), by first | omega | (simp; omega) | simp [*], by first | rfl | (simp; done) | omega, ⟨trivial⟩⟩
      rintro Ja ma _ ⟨i, Ra, rfl, fa1, hma, hqa⟩ hJa
      have hw : IntKind.i64.wrap ((i : Int) + 1) = i + 1 := wrap_i64 (by omega)
      have hfi := hF.out i
      by_cases hi : (i : Int) ≤ p.L.length
      · by_cases hat : (i : Int) = s.at_
        · rw [if_pos hat] at hfi
          replace hat := eq_true hat
          cases hfs : sFind s.L i
          · simp [hi, hat, pc_stash_Find, hs, hsm, hFi, hw, hfi, hfs, hg]
            exact hJa.out _ ⟨i + 1, _, by first | rfl | (simp [*, accS, accH]; done) | (simp only [*]; done) | (congr 1 <;> simp [*, accS, accH]; done) | (congr 1 <;> simp [*, accS, accH] <;> rfl) | (congr 1 <;> congr 1 <;> simp <;> omega), by first | omega | (simp; omega) | simp [*], by omega, ⟨trivial⟩⟩
          · have hy := sFind_small hs hfs
            simp [hi, hat, pc_stash_Find, hs, hsm, hFi, hw, hfi, hfs, hg, hy]
            exact hJa.out _ ⟨i + 1, _, by first | rfl | (simp [*, accS, accH]; done) | (simp only [*]; done) | (congr 1 <;> simp [*, accS, accH]; done) | (congr 1 <;> simp [*, accS, accH] <;> rfl) | (congr 1 <;> congr 1 <;> simp <;> omega), by first | omega | (simp; omega) | simp [*], by omega, ⟨trivial⟩⟩
        · rw [if_neg hat] at hfi
          cases hfs : sFind s.L i
          · simp [hi, hat, pc_stash_Find, hs, hsm, hFi, hw, hfi, hfs, hz]
            exact hJa.out _ ⟨i + 1, _, by first | rfl | (simp [*, accS, accH]; done) | (simp only [*]; done) | (congr 1 <;> simp [*, accS, accH]; done) | (congr 1 <;> simp [*, accS, accH] <;> rfl) | (congr 1 <;> congr 1 <;> simp <;> omega), by first | omega | (simp; omega) | simp [*], by omega, ⟨trivial⟩⟩
          · have hy := sFind_small hs hfs
            simp [hi, hat, pc_stash_Find, hs, hsm, hFi, hw, hfi, hfs, hy]
            exact hJa.out _ ⟨i + 1, _, by first | rfl | (simp [*, accS, accH]; done) | (simp only [*]; done) | (congr 1 <;> simp [*, accS, accH]; done) | (congr 1 <;> simp [*, accS, accH] <;> rfl) | (congr 1 <;> congr 1 <;> simp <;> omega), by first | omega | (simp; omega) | simp [*], by omega, ⟨trivial⟩⟩
      · simp [hi, pc_stashed, pc_stash_Open, hI, hOI]
    · simp [X_typebarlaw20_StashStays, pc_sBig, pc_stashed, hb, hs, hp, hg, pc_stash_Is, h1, pc_stash_Go, he]
  · simp [X_typebarlaw20_StashStays, pc_sBig, pc_stashed, hb]

end Go.Proofs.Ytklfbnbibhbjmaa
