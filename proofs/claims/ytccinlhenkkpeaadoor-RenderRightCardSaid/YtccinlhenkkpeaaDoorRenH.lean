/- What a law lets go, and what layer 26's Lay computes. -/
import Derived.Test.YtccinlhenkkpeaaDoorRenG
namespace Go.Proofs.YtccinlhenkkpeaaDoor
open Go E
set_option linter.unusedSimpArgs false
set_option linter.unusedVariables false
set_option maxRecDepth 100000

def plBig (e : EditorM) : Bool := e.P.L.any fun x => decide (1000 < x.length)

def slBig (e : EditorM) : Bool := e.S.L.any fun x => gBig x.2

/-- Is there too much to be looked at? -/
def rBig (e : EditorM) : Bool := edBig e.E || decide (50 < e.P.L.length) || decide (50 < e.S.L.length) || decide (1000 < e.F.pat.length) || plBig e || slBig e

theorem rBig_small {e : EditorM} (h : rBig e = false) : EdrSmall e := by
  simp only [rBig, plBig, slBig, gBig, Bool.or_eq_false_iff, decide_eq_false_iff_not, List.any_eq_false, Bool.or_eq_true, decide_eq_true_eq, not_or] at h
  obtain ⟨⟨⟨⟨⟨h1, h2⟩, h3⟩, h4⟩, h5⟩, h6⟩ := h
  obtain ⟨k, u, a, b⟩ := edBig_small h1
  exact ⟨a, b, k, u, ⟨by omega, fun x hx => by have := h5 x hx; omega⟩, ⟨by omega, fun x hx => by have := h6 x hx; omega⟩, by omega⟩

theorem pc_ref24_Big (n : Nat) (e : EditorM) : (W (n + 2)).pc 5 [edrD e] = some (.bool (rBig e)) := by
  apply runs c_typebarref24_Big
  have hB := pc_Big n e.E
  cases h0 : edBig e.E <;> rw [h0] at hB
  rotate_left
  · have hE : rBig e = true := by simp [rBig, h0]
    simp [X_typebarref24_Big, hB, hE]
  by_cases h1 : 50 < e.P.L.length
  · have hE : rBig e = true := by simp [rBig, h1]
    have h1' : (50 : Int) < e.P.L.length := by omega
    simp [X_typebarref24_Big, hB, hE, h1']
  by_cases h2 : 50 < e.S.L.length
  · have hE : rBig e = true := by simp [rBig, h2]
    have h1' : ¬ (50 : Int) < e.P.L.length := by omega
    have h2' : (50 : Int) < e.S.L.length := by omega
    simp [X_typebarref24_Big, hB, hE, h1', h2']
  by_cases h3 : 1000 < e.F.pat.length
  · have hE : rBig e = true := by simp [rBig, h3]
    have h1' : ¬ (50 : Int) < e.P.L.length := by omega
    have h2' : ¬ (50 : Int) < e.S.L.length := by omega
    have h3' : (1000 : Int) < e.F.pat.length := by omega
    simp [X_typebarref24_Big, hB, hE, h1', h2', h3']
  have h1' : ¬ (50 : Int) < e.P.L.length := by omega
  have h2' : ¬ (50 : Int) < e.S.L.length := by omega
  have h3' : ¬ (1000 : Int) < e.F.pat.length := by omega
  have hE : Keep (rBig e = (plBig e || slBig e)) := ⟨by simp [rBig, h0, h1, h2, h3]⟩
  simp [X_typebarref24_Big, hB, h1', h2', h3']
  refine aw_rounds (fun m st => ∃ i : Nat, st = ⟨tab [(1, .ptr 0 0 27), (3, .int .i64 i)], [⟨edrL e, 0, true⟩]⟩ ∧ i ≤ e.P.L.length ∧ m = e.P.L.length - i + 1 ∧ Keep ((e.P.L.take i).any (fun x => decide (1000 < x.length)) = false)) ?_ ?_ (n := e.P.L.length - (0) + 1) (by first | omega | (simp; omega)) ?_
  · rintro st ⟨i, hx⟩; omega
  rotate_left
  · exact ⟨0, by first | rfl | (simp [*, accS, accH]; done) | (simp only [*]; done) | (congr 1 <;> simp [*, accS, accH]; done) | (congr 1 <;> simp [*, accS, accH] <;> rfl) | (congr 1 <;> congr 1 <;> simp <;> omega), by first | omega | (simp; omega) | simp [*], by first | rfl | (simp; done) | omega, ⟨by simp⟩⟩
  rintro Ja ma _ ⟨i, rfl, fa1, hma, hqa⟩ hJa
  by_cases hi : i < e.P.L.length
  · have hi' : (i : Int) < e.P.L.length := by omega
    by_cases hx : 1000 < (e.P.L[i]).length
    · have hE2 : rBig e = true := by
        rw [hE.out, plBig, any_yes (p := fun x : List Int => decide (1000 < x.length)) (l := e.P.L) hi (by simpa using hx)]; rfl
      have hx' : (1000 : Int) < (e.P.L[i]).length := by omega
      simp [hi, hi', hE2]
      repeat' (first
        | simp (disch := omega) only [wrap_i64, wrap_i32]
        | (simp (disch := first | omega | assumption | (simp only [i64, i32]; omega) | (simp <;> omega) | fail) only [loadD_cpr, loadD_cprs, List.take_of_length_le]; simp [*, hx, hx'])
        | (with_reducible refine And.intro ?_ ?_; focus first | omega | decide)
        | (with_reducible refine split_ite (fun hp => ?_) (fun hp => ?_) <;> (try simp at hp) <;> simp [*, hx, hx'])
        | (with_reducible refine split_ite1 (fun hp => ?_) (fun hp => ?_) <;> (try simp at hp) <;> simp [*, hx, hx'])
        | (refine split_cond (by simp) (fun hp => ?_) (fun hp => ?_) <;> simp at hp <;> simp [*, hx, hx'])
        | (refine split_ops (by simp) (fun hp => ?_) (fun hp => ?_) <;> simp at hp <;> simp [*, hx, hx'])
        | (refine split_opsD (by simp) (fun hp => ?_) (fun hp => ?_) <;> simp at hp <;> simp [*, hx, hx'])
        | (refine split_pick (by simp) (fun hp => ?_) (fun hp => ?_) <;> simp at hp <;> simp [*, hx, hx'])
        | omega
        | decide
        | (simp [*, hx, hx']))
    · have hx' : ¬ (1000 : Int) < (e.P.L[i]).length := by omega
      simp [hi, hi']
      repeat' (first
        | simp (disch := omega) only [wrap_i64, wrap_i32]
        | (simp (disch := first | omega | assumption | (simp only [i64, i32]; omega) | (simp <;> omega) | fail) only [loadD_cpr, loadD_cprs, List.take_of_length_le]; simp [*, hx, hx'])
        | (with_reducible refine And.intro ?_ ?_; focus first | omega | decide)
        | (with_reducible refine split_ite (fun hp => ?_) (fun hp => ?_) <;> (try simp at hp) <;> simp [*, hx, hx'])
        | (with_reducible refine split_ite1 (fun hp => ?_) (fun hp => ?_) <;> (try simp at hp) <;> simp [*, hx, hx'])
        | (refine split_cond (by simp) (fun hp => ?_) (fun hp => ?_) <;> simp at hp <;> simp [*, hx, hx'])
        | (refine split_ops (by simp) (fun hp => ?_) (fun hp => ?_) <;> simp at hp <;> simp [*, hx, hx'])
        | (refine split_opsD (by simp) (fun hp => ?_) (fun hp => ?_) <;> simp at hp <;> simp [*, hx, hx'])
        | (refine split_pick (by simp) (fun hp => ?_) (fun hp => ?_) <;> simp at hp <;> simp [*, hx, hx'])
        | omega
        | decide
        | (simp [*, hx, hx']))
      exact hJa.out _ ⟨i + 1, by first | rfl | (simp [*, accS, accH]; done) | (simp only [*]; done) | (congr 1 <;> simp [*, accS, accH]; done) | (congr 1 <;> simp [*, accS, accH] <;> rfl) | (congr 1 <;> congr 1 <;> simp <;> omega), by first | omega | (simp; omega) | simp [*], by omega, ⟨by rw [List.take_succ_eq_append_getElem hi, List.any_append, hqa.out]; simp; omega⟩⟩
  · have hi' : ¬ (i : Int) < e.P.L.length := by omega
    have hK : plBig e = false := by
      have := hqa.out
      rwa [List.take_of_length_le (by omega)] at this
    have hE3 := Keep.mk (show rBig e = slBig e by rw [hE.out, hK]; simp)
    simp [hi, hi']
    clear hE hK hi hi' hqa fa1
    refine aw_rounds (fun m st => ∃ j : Nat, st = ⟨tab [(1, .ptr 0 0 27), (4, .int .i64 j)], [⟨edrL e, 0, true⟩]⟩ ∧ j ≤ e.S.L.length ∧ m = e.S.L.length - j + 1 ∧ Keep ((e.S.L.take j).any (fun x => gBig x.2) = false)) ?_ ?_ (n := e.S.L.length - (0) + 1) (by first | omega | (simp; omega)) ?_
    · rintro st ⟨j, hx⟩; omega
    rotate_left
    · exact ⟨0, by first | rfl | (simp [*, accS, accH]; done) | (simp only [*]; done) | (congr 1 <;> simp [*, accS, accH]; done) | (congr 1 <;> simp [*, accS, accH] <;> rfl) | (congr 1 <;> congr 1 <;> simp <;> omega), by first | omega | (simp; omega) | simp [*], by first | rfl | (simp; done) | omega, ⟨by simp⟩⟩
    rintro Jb mb _ ⟨j, rfl, fb1, hmb, hqb⟩ hJb
    by_cases hj : j < e.S.L.length
    · have hj' : (j : Int) < e.S.L.length := by omega
      cases hx : gBig e.S.L[j].2
      · have hq : ¬ 1000 < e.S.L[j].2.A.length ∧ ¬ 1000 < e.S.L[j].2.B.length := by simpa [gBig] using hx
        obtain ⟨q1, q2⟩ := hq
        have q1' : ¬ (1000 : Int) < e.S.L[j].2.A.length := by omega
        have q2' : ¬ (1000 : Int) < e.S.L[j].2.B.length := by omega
        simp [hj, hj']
        repeat' (first
          | simp (disch := omega) only [wrap_i64, wrap_i32]
          | (simp (disch := first | omega | assumption | (simp only [i64, i32]; omega) | (simp <;> omega) | fail) only [loadD_cpr, loadD_cprs, List.take_of_length_le]; simp [*, q1', q2'])
          | (with_reducible refine And.intro ?_ ?_; focus first | omega | decide)
          | (with_reducible refine split_ite (fun hp => ?_) (fun hp => ?_) <;> (try simp at hp) <;> simp [*, q1', q2'])
          | (with_reducible refine split_ite1 (fun hp => ?_) (fun hp => ?_) <;> (try simp at hp) <;> simp [*, q1', q2'])
          | (refine split_cond (by simp) (fun hp => ?_) (fun hp => ?_) <;> simp at hp <;> simp [*, q1', q2'])
          | (refine split_ops (by simp) (fun hp => ?_) (fun hp => ?_) <;> simp at hp <;> simp [*, q1', q2'])
          | (refine split_opsD (by simp) (fun hp => ?_) (fun hp => ?_) <;> simp at hp <;> simp [*, q1', q2'])
          | (refine split_pick (by simp) (fun hp => ?_) (fun hp => ?_) <;> simp at hp <;> simp [*, q1', q2'])
          | omega
          | decide
          | (simp [*, q1', q2']))
        exact hJb.out _ ⟨j + 1, by first | rfl | (simp [*, accS, accH]; done) | (simp only [*]; done) | (congr 1 <;> simp [*, accS, accH]; done) | (congr 1 <;> simp [*, accS, accH] <;> rfl) | (congr 1 <;> congr 1 <;> simp <;> omega), by first | omega | (simp; omega) | simp [*], by omega, ⟨by rw [List.take_succ_eq_append_getElem hj, List.any_append, hqb.out]; simp [hx]⟩⟩
      · have hE2 : rBig e = true := by rw [hE3.out, slBig, any_yes (p := fun x : Int × Gap => gBig x.2) (l := e.S.L) hj hx]
        simp only [gBig, Bool.or_eq_true, decide_eq_true_eq] at hx
        by_cases q1 : 1000 < e.S.L[j].2.A.length
        · have q1' : (1000 : Int) < e.S.L[j].2.A.length := by omega
          clear hx
          simp [hj, hj', hE2]
          repeat' (first
            | simp (disch := omega) only [wrap_i64, wrap_i32]
            | (simp (disch := first | omega | assumption | (simp only [i64, i32]; omega) | (simp <;> omega) | fail) only [loadD_cpr, loadD_cprs, List.take_of_length_le]; simp [*, q1', hE2])
            | (with_reducible refine And.intro ?_ ?_; focus first | omega | decide)
            | (with_reducible refine split_ite (fun hp => ?_) (fun hp => ?_) <;> (try simp at hp) <;> simp [*, q1', hE2])
            | (with_reducible refine split_ite1 (fun hp => ?_) (fun hp => ?_) <;> (try simp at hp) <;> simp [*, q1', hE2])
            | (refine split_cond (by simp) (fun hp => ?_) (fun hp => ?_) <;> simp at hp <;> simp [*, q1', hE2])
            | (refine split_ops (by simp) (fun hp => ?_) (fun hp => ?_) <;> simp at hp <;> simp [*, q1', hE2])
            | (refine split_opsD (by simp) (fun hp => ?_) (fun hp => ?_) <;> simp at hp <;> simp [*, q1', hE2])
            | (refine split_pick (by simp) (fun hp => ?_) (fun hp => ?_) <;> simp at hp <;> simp [*, q1', hE2])
            | omega
            | decide
            | (simp [*, q1', hE2]))
        · have q2 : 1000 < e.S.L[j].2.B.length := by omega
          have q1' : ¬ (1000 : Int) < e.S.L[j].2.A.length := by omega
          have q2' : (1000 : Int) < e.S.L[j].2.B.length := by omega
          clear hx
          simp [hj, hj', hE2]
          repeat' (first
            | simp (disch := omega) only [wrap_i64, wrap_i32]
            | (simp (disch := first | omega | assumption | (simp only [i64, i32]; omega) | (simp <;> omega) | fail) only [loadD_cpr, loadD_cprs, List.take_of_length_le]; simp [*, q1', q2', hE2])
            | (with_reducible refine And.intro ?_ ?_; focus first | omega | decide)
            | (with_reducible refine split_ite (fun hp => ?_) (fun hp => ?_) <;> (try simp at hp) <;> simp [*, q1', q2', hE2])
            | (with_reducible refine split_ite1 (fun hp => ?_) (fun hp => ?_) <;> (try simp at hp) <;> simp [*, q1', q2', hE2])
            | (refine split_cond (by simp) (fun hp => ?_) (fun hp => ?_) <;> simp at hp <;> simp [*, q1', q2', hE2])
            | (refine split_ops (by simp) (fun hp => ?_) (fun hp => ?_) <;> simp at hp <;> simp [*, q1', q2', hE2])
            | (refine split_opsD (by simp) (fun hp => ?_) (fun hp => ?_) <;> simp at hp <;> simp [*, q1', q2', hE2])
            | (refine split_pick (by simp) (fun hp => ?_) (fun hp => ?_) <;> simp at hp <;> simp [*, q1', q2', hE2])
            | omega
            | decide
            | (simp [*, q1', q2', hE2]))
    · have hj' : ¬ (j : Int) < e.S.L.length := by omega
      have hE2 : rBig e = false := by
        have := hqb.out
        rw [List.take_of_length_le (by omega)] at this
        rw [hE3.out, slBig, this]
      simp [hj, hj', hE2]

theorem pc_ref02_Same (n : Nat) (x y : List (Int × Int)) (hx : x.length < 2000000) : (W (n + 1)).pc 10 [crn x, crn y] = some (.bool (decide (x = y))) := by
  apply runs c_typebarref02_Same
  by_cases hl : x.length = y.length
  · have hl' : (x.length : Int) = y.length := by omega
    simp [X_typebarref02_Same, hl]
    refine aw_rounds (fun m st => ∃ i : Nat, st = ⟨tab [(0, crn x), (1, crn y), (5, .int .i64 i)], []⟩ ∧ i ≤ x.length ∧ m = x.length - i + 1 ∧ Keep (x.take i = y.take i)) ?_ ?_ (n := x.length - (0) + 1) (by first | omega | (simp; omega)) ?_
    · rintro st ⟨i, hx⟩; omega
    rotate_left
    · exact ⟨0, by first | rfl | (simp [*, accS, accH]; done) | (simp only [*]; done) | (congr 1 <;> simp [*, accS, accH]; done) | (congr 1 <;> simp [*, accS, accH] <;> rfl) | (congr 1 <;> congr 1 <;> simp <;> omega), by first | omega | (simp; omega) | simp [*], by first | rfl | (simp; done) | omega, ⟨by simp⟩⟩
    rintro Ja ma _ ⟨i, rfl, fa1, hma, hqa⟩ hJa
    by_cases hi : i < x.length
    · have hi2 : i < y.length := by omega
      have hi' : (i : Int) < x.length := by omega
      have hi2' : (i : Int) < y.length := by omega
      by_cases hq : x[i].1 = y[i].1 ∧ x[i].2 = y[i].2
      · have hqe : x[i] = y[i] := Prod.ext hq.1 hq.2
        simp [hi, hi', hi2, hi2', hl]
        repeat' (first
          | simp (disch := omega) only [wrap_i64, wrap_i32]
          | (simp (disch := first | omega | assumption | (simp only [i64, i32]; omega) | (simp <;> omega) | fail) only [loadD_cpr, loadD_cprs, List.take_of_length_le]; simp [*, eqCells_ii, hl, hi2, hq])
          | (with_reducible refine And.intro ?_ ?_; focus first | omega | decide)
          | (with_reducible refine split_ite (fun hp => ?_) (fun hp => ?_) <;> (try simp at hp) <;> simp [*, eqCells_ii, hl, hi2, hq])
          | (with_reducible refine split_ite1 (fun hp => ?_) (fun hp => ?_) <;> (try simp at hp) <;> simp [*, eqCells_ii, hl, hi2, hq])
          | (refine split_cond (by simp) (fun hp => ?_) (fun hp => ?_) <;> simp at hp <;> simp [*, eqCells_ii, hl, hi2, hq])
          | (refine split_ops (by simp) (fun hp => ?_) (fun hp => ?_) <;> simp at hp <;> simp [*, eqCells_ii, hl, hi2, hq])
          | (refine split_opsD (by simp) (fun hp => ?_) (fun hp => ?_) <;> simp at hp <;> simp [*, eqCells_ii, hl, hi2, hq])
          | (refine split_pick (by simp) (fun hp => ?_) (fun hp => ?_) <;> simp at hp <;> simp [*, eqCells_ii, hl, hi2, hq])
          | omega
          | decide
          | (simp [*, eqCells_ii, hl, hi2, hq]))
        exact hJa.out _ ⟨i + 1, by first | rfl | (simp [*, accS, accH]; done) | (simp only [*]; done) | (congr 1 <;> simp [*, accS, accH]; done) | (congr 1 <;> simp [*, accS, accH] <;> rfl) | (congr 1 <;> congr 1 <;> simp <;> omega), by first | omega | (simp; omega) | simp [*], by omega, ⟨by rw [List.take_succ_eq_append_getElem hi, List.take_succ_eq_append_getElem hi2, hqa.out, hqe]⟩⟩
      · have hne : ¬ x = y := by
          intro e
          subst e
          exact hq ⟨rfl, rfl⟩
        simp [hi, hi', hi2, hi2', hl]
        repeat' (first
          | simp (disch := omega) only [wrap_i64, wrap_i32]
          | (simp (disch := first | omega | assumption | (simp only [i64, i32]; omega) | (simp <;> omega) | fail) only [loadD_cpr, loadD_cprs, List.take_of_length_le]; simp [*, eqCells_ii, hl, hi2, hne])
          | (with_reducible refine And.intro ?_ ?_; focus first | omega | decide)
          | (with_reducible refine split_ite (fun hp => ?_) (fun hp => ?_) <;> (try simp at hp) <;> simp [*, eqCells_ii, hl, hi2, hne])
          | (with_reducible refine split_ite1 (fun hp => ?_) (fun hp => ?_) <;> (try simp at hp) <;> simp [*, eqCells_ii, hl, hi2, hne])
          | (refine split_cond (by simp) (fun hp => ?_) (fun hp => ?_) <;> simp at hp <;> simp [*, eqCells_ii, hl, hi2, hne])
          | (refine split_ops (by simp) (fun hp => ?_) (fun hp => ?_) <;> simp at hp <;> simp [*, eqCells_ii, hl, hi2, hne])
          | (refine split_opsD (by simp) (fun hp => ?_) (fun hp => ?_) <;> simp at hp <;> simp [*, eqCells_ii, hl, hi2, hne])
          | (refine split_pick (by simp) (fun hp => ?_) (fun hp => ?_) <;> simp at hp <;> simp [*, eqCells_ii, hl, hi2, hne])
          | omega
          | decide
          | (simp [*, eqCells_ii, hl, hi2, hne]))
    · have he : x = y := by
        have := hqa.out
        rwa [List.take_of_length_le (by omega), List.take_of_length_le (by omega)] at this
      have hi2 : ¬ i < y.length := by omega
      simp [hi2, he]
  · have hne : ¬ x = y := fun h => hl (by rw [h])
    have hl' : ¬ (x.length : Int) = y.length := by omega
    simp [X_typebarref02_Same, hl, hl', hne]

/-- What layer 26's Lay computes. -/
def lText (e : EditorM) : List Int := (eShown e).1 ++ ((eShown e).2.A ++ (eShown e).2.B)

def atF (w : Nat) (l : List Int) (k : Nat) : Int := if k = 0 then endF w 0 l else (placesF w 0 l).getD (l.length - k) 0

def rLay (e : EditorM) (w : Int) : List (Int × Int) × Int × Int :=
  if edrIs e = true then
    (if w < 2 ∨ 80 < w then ([], 0, 4) else if 500 < (lText e).length then ([], 0, 5)
     else (cellsF w.toNat 0 (lText e), atF w.toNat (lText e) (eShown e).2.B.length, 0))
  else ([], 0, 1)

theorem gapOf_small {l : List Int} (h : l.length < 2000000) (x : Int) : (gapOf l x).1.A.length < 2000000 ∧ (gapOf l x).1.B.length < 2000000 := by
  simp only [gapOf]
  split
  · simp
  split
  · simp
  · simp only [gapSplit, List.length_take, List.length_drop]
    omega

theorem eShown_small {e : EditorM} (h : EdrSmall e) : (eShown e).1.length < 2000000 ∧ ((eShown e).2.A.length < 2000000 ∧ (eShown e).2.B.length < 2000000) := by
  have h1 := h.a
  have h2 := h.b
  have h3 := h.f
  simp only [eShown]
  split
  · split
    · refine ⟨by simp [aheadS]; omega, ?_⟩
      cases e.F.hit
      · simp only [Bool.false_eq_true, if_false]; omega
      · simp only [if_true]
        refine gapOf_small ?_ _
        rw [List.getD_eq_getElem?_getD]
        rcases Nat.lt_or_ge e.F.i.toNat e.P.L.length with q | q
        · rw [List.getElem?_eq_getElem q]; exact h.p.2 _ (List.getElem_mem q)
        · rw [List.getElem?_eq_none q]; simp
    · exact ⟨by split <;> simp, by simp only []; omega, by simp only []; omega⟩
  · simp

theorem eShown_ahead {e : EditorM} (h : edrIs e = true) : (eShown e).1 ≠ [] := by
  simp only [eShown, h, if_true]
  split
  · simp [aheadS]
  · split <;> simp

theorem pc_render_Lay (n : Nat) (e : EditorM) (w : Int) (h : EdrSmall e) : (W (n + 12)).pc 6 [edrD e, .int .i64 w] = some (.tup [crn (rLay e w).1, .int .i64 (rLay e w).2.1, eD (rLay e w).2.2]) := by
  apply runs c_render_Lay
  have hI := pc_editor_Is (n + 1) e h
  have hS := pc_editor_Shown n e h
  obtain ⟨s1, s2, s3⟩ := eShown_small h
  cases hi : edrIs e
  · rw [hi] at hI
    have hr : rLay e w = ([], 0, 1) := by simp [rLay, hi]
    rw [hr]
    simp [X_render_Lay, hI]
    rfl
  rw [hi] at hI
  have hah := eShown_ahead hi
  have hT := pc_gap_Text (n + 10) (eShown e).2 s2 s3
  have hlt : lText e = (eShown e).1 ++ ((eShown e).2.A ++ (eShown e).2.B) := rfl
  have hr0 : rLay e w = (if w < 2 ∨ 80 < w then ([], 0, 4) else if 500 < (lText e).length then ([], 0, 5)
     else (cellsF w.toNat 0 (lText e), atF w.toNat (lText e) (eShown e).2.B.length, 0)) := by simp [rLay, hi]
  rw [hr0, hlt]
  clear hr0 hlt
  generalize eShown e = S at *
  obtain ⟨ah, A, B⟩ := S
  simp only at *
  have hrow : D.arr (ah.length + (A.length + B.length)) false (List.take (ah.length + (A.length + B.length)) (cells runeC ah ++ (cells runeC A ++ cells runeC B))) = rn (ah ++ (A ++ B)) := row_is (by simp) (by simp [List.take_of_length_le])
  have hsz : (ah.length + (A.length + B.length)) * 4 ≤ 140737488355328 ∧ ah.length + (A.length + B.length) ≤ 1099511627776 := by omega
  by_cases hw : w < 2 ∨ 80 < w
  · have hL := fun l => pc_flow_Lay_bad (n + 6) w l hw
    rw [if_pos hw]
    by_cases hb : A = [] ∧ B = []
    · obtain ⟨rfl, rfl⟩ := hb
      simp [X_render_Lay, hI, hS, hT, hL]
      rfl
    · simp [X_render_Lay, hI, hS, hT, hL, hb, hsz, hrow]
      rfl
  rw [if_neg hw]
  obtain ⟨v, rfl⟩ : ∃ v : Nat, w = v := ⟨w.toNat, by omega⟩
  simp only [Int.toNat_natCast]
  have hv : 2 ≤ v ∧ v ≤ 80 := by omega
  by_cases hf : 500 < (ah ++ (A ++ B)).length
  · have hL := pc_flow_Lay_full (n + 6) v (ah ++ (A ++ B)) hv hf
    rw [if_pos hf]
    by_cases hb : A = [] ∧ B = []
    · obtain ⟨rfl, rfl⟩ := hb
      simp only [List.append_nil] at hL
      simp [X_render_Lay, hI, hS, hT, hL]
      rfl
    · simp [X_render_Lay, hI, hS, hT, hL, hb, hsz, hrow]
      rfl
  rw [if_neg hf]
  have hL := pc_flow_Lay (n + 6) v (ah ++ (A ++ B)) hv (by omega)
  have hC := pc_flow_Cells (n + 5) v (ah ++ (A ++ B)) hv (by omega)
  by_cases hB : B = []
  · subst hB
    by_cases hA : A = []
    · subst hA
      simp only [List.append_nil] at hL hC
      simp [X_render_Lay, hI, hS, hT, hL, hC, atF]
    · simp only [List.append_nil] at hL hC hrow hT
      simp [X_render_Lay, hI, hS, hT, hL, hC, hA, hsz, hrow, atF]
      omega
  · have hB0 : 0 < B.length := List.length_pos_iff.2 hB
    obtain ⟨k, hk⟩ : ∃ k, k = ah.length + A.length := ⟨_, rfl⟩
    have hi : k < (placesF v 0 (ah ++ (A ++ B))).length := by rw [placesF_length]; simp; omega
    have hsub : IntKind.i64.wrap ((ah.length : Int) + ((A.length : Int) + (B.length : Int)) - (B.length : Int)) = (k : Int) := by
      rw [show ((ah.length : Int) + ((A.length : Int) + (B.length : Int)) - (B.length : Int)) = (k : Int) by omega]
      exact wrap_i64 (by omega)
    have hat : atF v (ah ++ (A ++ B)) B.length = (placesF v 0 (ah ++ (A ++ B)))[k] := by
      rw [atF, if_neg (by omega), show (ah ++ (A ++ B)).length - B.length = k by simp; omega, getD_at hi]
    rw [hat]
    clear hat hk
    simp [X_render_Lay, hI, hS, hT, hL, hC, hB, hB0, hsz, hrow, hsub, hi]
    repeat' (first
      | simp (disch := omega) only [wrap_i64, wrap_i32]
      | (simp (disch := first | omega | assumption | (simp only [i64, i32]; omega) | (simp <;> omega) | fail) only [loadD_cpr, loadD_cprs, List.take_of_length_le]; simp [*, hrow, hC, hi])
      | (with_reducible refine And.intro ?_ ?_; focus first | omega | decide)
      | (with_reducible refine split_ite (fun hp => ?_) (fun hp => ?_) <;> (try simp at hp) <;> simp [*, hrow, hC, hi])
      | (with_reducible refine split_ite1 (fun hp => ?_) (fun hp => ?_) <;> (try simp at hp) <;> simp [*, hrow, hC, hi])
      | (refine split_cond (by simp) (fun hp => ?_) (fun hp => ?_) <;> simp at hp <;> simp [*, hrow, hC, hi])
      | (refine split_ops (by simp) (fun hp => ?_) (fun hp => ?_) <;> simp at hp <;> simp [*, hrow, hC, hi])
      | (refine split_opsD (by simp) (fun hp => ?_) (fun hp => ?_) <;> simp at hp <;> simp [*, hrow, hC, hi])
      | (refine split_pick (by simp) (fun hp => ?_) (fun hp => ?_) <;> simp at hp <;> simp [*, hrow, hC, hi])
      | omega
      | decide
      | (simp [*, hrow, hC, hi]))

end Go.Proofs.YtccinlhenkkpeaaDoor
