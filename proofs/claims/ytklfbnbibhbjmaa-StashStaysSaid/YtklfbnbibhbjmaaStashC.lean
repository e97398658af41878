/- What layer 20's Go computes. -/
import Derived.Test.YtklfbnbibhbjmaaStashB
namespace Go.Proofs.Ytklfbnbibhbjmaa
open Go E
set_option linter.unusedSimpArgs false
set_option linter.unusedVariables false

/-- How many lines have a number below k. -/
def sCnt (L : List (Int × Gap)) (k : Int) : Nat := L.countP (fun x => decide (x.1 < k))

theorem slotsOk_ge {m : Int} : ∀ {L : List (Int × Gap)} {le : Int}, slotsOk m le L = true → ∀ x ∈ L, le ≤ x.1 ∧ x.1 ≤ m ∧ gapIs x.2 = true
  | [], _, _, x, hx => absurd hx (by simp)
  | y :: r, le, h, x, hx => by
    simp only [slotsOk, Bool.and_eq_true, decide_eq_true_eq] at h
    rcases List.mem_cons.1 hx with rfl | hx
    · exact ⟨h.1.1.1, h.1.1.2, h.1.2⟩
    · have := slotsOk_ge h.2 x hx
      exact ⟨by omega, this.2⟩

theorem sCnt_zero {m le k : Int} {L : List (Int × Gap)} (h : slotsOk m le L = true) (hk : k ≤ le) : sCnt L k = 0 := by
  simp only [sCnt, List.countP_eq_zero, decide_eq_true_eq]
  intro x hx
  have := slotsOk_ge h x hx
  omega

theorem sCnt_le (L : List (Int × Gap)) (k : Int) : sCnt L k ≤ L.length := List.countP_le_length

theorem sCnt_at {m k : Int} : ∀ {L : List (Int × Gap)} {le : Int}, slotsOk m le L = true → ∀ (h : Nat) (hh : h < L.length), L[h].1 < k ↔ h < sCnt L k
  | [], _, _, h, hh => absurd hh (by simp)
  | y :: r, le, ho, h, hh => by
    simp only [slotsOk, Bool.and_eq_true, decide_eq_true_eq] at ho
    by_cases hy : y.1 < k
    · have hc : sCnt (y :: r) k = sCnt r k + 1 := by simp [sCnt, hy]
      rw [hc]
      cases h with
      | zero => simp [hy]
      | succ h =>
        have := sCnt_at (k := k) ho.2 h (by simpa using hh)
        simp only [List.getElem_cons_succ]
        omega
    · have hz := sCnt_zero ho.2 (k := k) (by omega)
      have hc : sCnt (y :: r) k = 0 := by simpa [sCnt, hy] using hz
      rw [hc]
      cases h with
      | zero => simpa using hy
      | succ h =>
        have := slotsOk_ge ho.2 _ (List.getElem_mem (show h < r.length by simpa using hh))
        simp only [List.getElem_cons_succ]
        omega

/-- The line that is handed out for a number. -/
def sTake (s : StashM) (p : Past) (to : Int) : Gap := match sFind s.L to with
  | some g => g
  | none => if (pGet p to).2 = 0 then ⟨(pGet p to).1, []⟩ else ⟨[], []⟩

def sGo (s : StashM) (p : Past) (g : Gap) (to : Int) : StashM × Gap × Int :=
  if sIs s p = true ∧ gapIs g = true then
    if 0 ≤ to ∧ to ≤ p.L.length ∧ to ≠ s.at_ then (⟨to, sInto s.L (sCnt s.L s.at_) (s.at_, g)⟩, sTake s p to, 0)
    else (⟨0, []⟩, ⟨[], []⟩, 7)
  else (⟨0, []⟩, ⟨[], []⟩, 1)

theorem pc_stash_Go (n : Nat) (s : StashM) (p : Past) (g : Gap) (to : Int) (hs : smallS s.L) (hp : small p.L) (hg : g.A.length < 2000000 ∧ g.B.length < 2000000) : (W (n + 9)).pc 8 [stD s, pD p, gD g, .int .i64 to] =
    some (.tup [stD (sGo s p g to).1, gD (sGo s p g to).2.1, eD (sGo s p g to).2.2]) := by
  apply runs c_stash_Go
  obtain ⟨hA, hB⟩ := hg
  have hs1 := hs
  have hp1 := hp.1
  obtain ⟨hL, hl⟩ := hs
  cases h1 : sIs s p
  · simp [X_stash_Go, hs1, hp, pc_stash_Is, h1, sGo]
    exact ⟨rfl, rfl⟩
  cases h2 : gapIs g
  · simp [X_stash_Go, hs1, hp, pc_stash_Is, h1, h2, sGo, hA, hB]
    exact ⟨rfl, rfl⟩
  by_cases h3 : 0 ≤ to ∧ to ≤ p.L.length ∧ to ≠ s.at_
  · have h1' : (0 ≤ s.at_ ∧ s.at_ ≤ p.L.length) ∧ slotsOk p.L.length 0 s.L = true := by
      simp only [sIs, Bool.and_eq_true, decide_eq_true_eq] at h1
      exact ⟨h1.1.2, h1.2⟩
    have hi := pc_into (n + 4) s.L (s.at_, g) (sCnt s.L s.at_) hL (by constructor <;> simp <;> omega) (fun x hx => by have := slotsOk_ge h1'.2 x hx; omega) (sCnt_le _ _) (sCnt_at h1'.2)
    obtain ⟨h3a, h3b, h3c⟩ := h3
    have h4 : ¬ to < 0 := by omega
    have h5 : ¬ (p.L.length : Int) < to := by omega
    simp [X_stash_Go, hs1, hp, pc_stash_Is, pc_stash_Find, h1, h2, sGo, hA, hB, h3a, h3b, h3c, h4, h5, hi]
    cases h6 : sFind s.L to
    · by_cases h7 : (pGet p to).2 = 0
      · have h7' : ((pGet p to).2 = 0) = True := eq_true h7
        simp [h6, hp, hi, h7']
        exact ⟨by decide, by simp [sTake, h6, h7], by simp [sTake, h6, h7]; rfl⟩
      · simp [h6, hp, hi, h7]
        exact ⟨by decide, by simp [sTake, h6, h7]; rfl, by simp [sTake, h6, h7]; rfl⟩
    · simp [h6, hp, hi]
      exact ⟨by decide, by simp [sTake, h6], by simp [sTake, h6]⟩
  · simp [X_stash_Go, hs1, hp, pc_stash_Is, h1, h2, sGo, hA, hB, h3]
    repeat' (first
      | simp (disch := omega) only [wrap_i64, wrap_i32]
      | (simp (disch := first | omega | assumption | (simp only [i64, i32]; omega) | (simp <;> omega) | fail) only [loadD_cpr, loadD_cprs, List.take_of_length_le]; simp [*])
      | (with_reducible refine And.intro ?_ ?_; focus first | omega | decide)
      | (with_reducible refine split_ite (fun hp => ?_) (fun hp => ?_) <;> (try simp at hp) <;> simp [*])
      | (with_reducible refine split_ite1 (fun hp => ?_) (fun hp => ?_) <;> (try simp at hp) <;> simp [*])
      | (refine split_cond (by simp) (fun hp => ?_) (fun hp => ?_) <;> simp at hp <;> simp [*])
      | (refine split_ops (by simp) (fun hp => ?_) (fun hp => ?_) <;> simp at hp <;> simp [*])
      | (refine split_opsD (by simp) (fun hp => ?_) (fun hp => ?_) <;> simp at hp <;> simp [*])
      | (refine split_pick (by simp) (fun hp => ?_) (fun hp => ?_) <;> simp at hp <;> simp [*])
      | omega
      | decide
      | (simp [*]))
    all_goals exact ⟨rfl, rfl⟩

end Go.Proofs.Ytklfbnbibhbjmaa
