/- The statement RenderRight. -/
import Derived.Test.YtccinlhenkkpeaaDoorRenN
namespace Go.Proofs.YtccinlhenkkpeaaDoor
open Go E
set_option linter.unusedSimpArgs false
set_option linter.unusedVariables false
set_option maxRecDepth 100000

theorem scrL_eq (c : List (Int × Int)) (m N : Nat) : scrL c m N = ((c ++ List.replicate (m + N) (32, 0)).drop m).take N := by
  apply List.ext_getElem?
  intro k
  simp only [scrL, List.getElem?_take, List.getElem?_drop, List.getElem?_append, List.length_take, List.length_drop, List.getElem?_replicate]
  grind

theorem scrL_rows {w h : Nat} (hw : 2 ≤ w) {c : List (Int × Int)} (hc : Rows_ w c) (T y : Nat) (hy : y < h) : rowS (0, 0) (((scrL c (T * w) (w * h)).drop (y * w)).take w) = true := by
  have h1 : y * w + w ≤ w * h := by
    have : (y + 1) * w ≤ h * w := Nat.mul_le_mul_right _ hy
    rw [Nat.succ_mul, Nat.mul_comm h] at this
    exact this
  have h2 := rows_blanks (by omega) hc (T * w + w * h) (T + y)
  rw [scrL_eq, List.drop_take, List.take_take, List.drop_drop, Nat.min_eq_left (by omega), ← Nat.add_mul]
  exact h2

theorem scrL_at {c : List (Int × Int)} {m N i : Nat} (h : i < N) : (scrL c m N)[i]? = some (if hh : m + i < c.length then c[m + i] else (32, 0)) := by
  simp only [scrL, List.getElem?_append, List.length_take, List.length_drop, List.getElem?_take, List.getElem?_drop, List.getElem?_replicate]
  grind

theorem pc_RenderRight (n : Nat) (e : EditorM) (w h : Int) : (W (n + 24)).pc 4 [edrD e, .int .i64 w, .int .i64 h] = some (.bool true) := by
  apply runs c_typebarlaw26_RenderRight
  have hB := pc_ref24_Big (n + 21) e
  have hR := pc_rendered (n + 3)
  cases hb : rBig e <;> rw [hb] at hB
  rotate_left
  · simp [X_typebarlaw26_RenderRight, hB]
  have hs := rBig_small hb
  have hI := pc_editor_Is (n + 13) e hs
  cases hi : edrIs e <;> rw [hi] at hI
  · have hS := pc_Screen_not (n + 10) e w h hs hi
    simp [X_typebarlaw26_RenderRight, hB, hS, hR, hI, putAt]
  by_cases hb2 : w < 2 ∨ 80 < w ∨ h < 1 ∨ 24 < h
  · have hS := pc_Screen_bad (n + 10) e w h hs hi hb2
    simp [X_typebarlaw26_RenderRight, hB, hS, hR, hI, putAt]
  obtain ⟨v, rfl⟩ : ∃ v : Nat, w = v := ⟨w.toNat, by omega⟩
  obtain ⟨u, rfl⟩ : ∃ u : Nat, h = u := ⟨h.toNat, by omega⟩
  have hw : 2 ≤ v ∧ v ≤ 80 := by omega
  have hh : 1 ≤ u ∧ u ≤ 24 := by omega
  by_cases hl : 500 < (lText e).length
  · have hS := pc_Screen_full (n + 10) e v u hs hi hw hh hl
    simp [X_typebarlaw26_RenderRight, hB, hS, hR, hI, putAt]
  have hr : rLay e v = (cellsF v 0 (lText e), atF v (lText e) (eShown e).2.B.length, 0) := by
    rw [rLay, if_pos hi, if_neg (by omega), if_neg hl]; simp
  have hlen := cellsF_length hw.1 (lText e) 0
  have hle := endF_le hw.1 (lText e) 0
  obtain ⟨p, hp1, hp2⟩ : ∃ p : Nat, atF v (lText e) (eShown e).2.B.length = p ∧ p ≤ (cellsF v 0 (lText e)).length := by
    have hlt : lText e = (eShown e).1 ++ ((eShown e).2.A ++ (eShown e).2.B) := rfl
    rw [hlt] at hlen ⊢
    cases hBB : (eShown e).2.B with
    | nil =>
      rw [hBB] at hlen
      exact ⟨endF v 0 ((eShown e).1 ++ ((eShown e).2.A ++ [])), by simp [atF], by omega⟩
    | cons r post =>
      obtain ⟨p, p1, p2, _, _⟩ := point_in hw.1 ((eShown e).1 ++ (eShown e).2.A) r post
      rw [List.append_assoc] at p1 p2
      exact ⟨p, p1, by omega⟩
  rw [hp1] at hr
  have hrows := rows_lay hw.1 (lText e)
  generalize cellsF v 0 (lText e) = c at *
  have hc : c.length < 10000 := by omega
  have hS := pc_Screen_ok (n + 10) e v u p hs hi hw hh (by omega) c hr hp2 hc
  have hL := pc_render_Lay (n + 11) e v hs
  rw [hr] at hL
  have hm : v * u ≤ 80 * 24 := Nat.mul_le_mul hw.2 hh.2
  have hTI : ∀ y, y < u → rowS (0, 0) (((scrL c ((p / v + 1 - u) * v) (v * u)).drop (y * v)).take v) = true := fun y hy => scrL_rows hw.1 hrows _ y hy
  have hxv : p % v < v := Nat.mod_lt _ (by omega)
  have hTe := pc_term_Is (n + 16) v u (p % v) (p / v - (p / v + 1 - u)) (scrL c ((p / v + 1 - u) * v) (v * u)) hw hh scrL_length hTI hxv (by omega)
  have hat : ∀ i, i < v * u → (scrL c ((p / v + 1 - u) * v) (v * u))[i]? = some (if hh : (p / v + 1 - u) * v + i < c.length then c[(p / v + 1 - u) * v + i] else (32, 0)) := fun i hi => scrL_at hi
  have hsl : (scrL c ((p / v + 1 - u) * v) (v * u)).length = v * u := scrL_length
  obtain ⟨q, hq⟩ : ∃ q, q = p / v := ⟨_, rfl⟩
  obtain ⟨x, hx⟩ : ∃ x, x = p % v := ⟨_, rfl⟩
  obtain ⟨T, hT⟩ : ∃ T, T = q + 1 - u := ⟨_, rfl⟩
  obtain ⟨M, hM⟩ : ∃ M, M = T * v := ⟨_, rfl⟩
  obtain ⟨Y, hY⟩ : ∃ Y, Y = q - T := ⟨_, rfl⟩
  obtain ⟨N, hNN⟩ : ∃ N, N = v * u := ⟨_, rfl⟩
  have hqw : q * v ≤ p := by rw [hq, Nat.mul_comm]; exact Nat.mul_div_le p v
  have hMp : M ≤ p := by
    have : T * v ≤ q * v := Nat.mul_le_mul_right _ (by omega)
    omega
  rw [← hq, ← hx, ← hT, ← hM, ← hY, ← hNN] at hS hTe
  rw [← hq, ← hT, ← hM, ← hNN] at hat hsl
  generalize scrL c M N = S at *
  have hqp : q ≤ p := hq ▸ Nat.div_le_self p v
  have d1 : (p : Int).tdiv v = (q : Int) := by rw [Int.tdiv_eq_ediv_of_nonneg (by omega), hq]; simp
  have d2 : (p : Int).tmod v = (x : Int) := by rw [Int.tmod_eq_emod_of_nonneg (by omega), hx]; simp
  have d3 : ¬ v = 0 := by omega
  have s0 : IntKind.i64.wrap (q : Int) = q := wrap_i64 (by omega)
  have s1 : IntKind.i64.wrap ((q : Int) - Y) = (T : Int) := by rw [wrap_i64 (by omega)]; omega
  have s4 : IntKind.i64.wrap ((T : Int) * v) = (M : Int) := by
    rw [hM, show ((T : Int) * v) = ((T * v : Nat) : Int) by simp]
    exact wrap_i64 (by omega)
  have s5 : IntKind.i64.wrap ((v : Int) * u) = (N : Int) := by
    rw [hNN, show ((v : Int) * u) = ((v * u : Nat) : Int) by simp]
    exact wrap_i64 (by omega)
  have s6 : ¬ (q : Int) < Y := by omega
  have s7 : ¬ (c.length : Int) < p := by omega
  have s8 : IntKind.i64.wrap ((u : Int) - 1) = (u : Int) - 1 := wrap_i64 (by omega)
  have s9 : (T : Int) = 0 ∨ (Y : Int) = (u : Int) - 1 := by omega
  rw [← hNN] at hm
  clear hq hx hT hM hY hNN hqw hTI hrows
  simp [X_typebarlaw26_RenderRight, hB, hS, hL, hTe, putAt, d1, d2, d3, s0, s1, s4, s5, s6, s7]
  refine aw_rounds (fun m st => ∃ i : Nat, ∃ R : List Blk, st = ⟨tab [(1, .int .i64 v), (2, .int .i64 u), (7, .ptr 1 0 6), (9, crn c), (12, .int .i64 T), (13, .int .i64 i)], ⟨edrL e, 0, true⟩ :: ⟨[.int .i64 v, .int .i64 u, crn S, .int .i64 x, .int .i64 Y, .bool false], 0, true⟩ :: R⟩ ∧ i ≤ N ∧ m = N - i + 1 ∧ Keep (True)) ?_ ?_ (n := N - (0) + 1) (by first | omega | (simp; omega)) ?_
  · rintro st ⟨i, hx⟩; omega
  rotate_left
  · exact ⟨0, _, by first | rfl | (simp [*, accS, accH]; done) | (simp only [*]; done) | (congr 1 <;> simp [*, accS, accH]; done) | (congr 1 <;> simp [*, accS, accH] <;> rfl) | (congr 1 <;> congr 1 <;> simp <;> omega), by first | omega | (simp; omega) | simp [*], by first | rfl | (simp; done) | omega, ⟨trivial⟩⟩
  rintro Ja ma _ ⟨i, Ra, rfl, fa1, hma, hqa⟩ hJa
  by_cases hi : i < N
  · have hi' : (i : Int) < N := by omega
    obtain ⟨K, hK⟩ : ∃ K, K = M + i := ⟨_, rfl⟩
    have t1 : IntKind.i64.wrap ((M : Int) + i) = (K : Int) := by rw [wrap_i64 (by omega)]; omega
    have t2 := hat i hi
    rw [← hK] at t2
    have hiS : i < S.length := by omega
    clear hK hat
    by_cases hk : K < c.length
    · have hk' : (K : Int) < c.length := by omega
      have t3 : S[i] = c[K] := by
        rw [List.getElem?_eq_getElem hiS, dif_pos hk] at t2
        exact Option.some.inj t2
      simp [s4, s5, hi, hi', t1, hk, hk', putAt]
      repeat' (first
        | simp (disch := omega) only [wrap_i64, wrap_i32]
        | (simp (disch := first | omega | assumption | (simp only [i64, i32]; omega) | (simp <;> omega) | fail) only [loadD_cpr, loadD_cprs, List.take_of_length_le]; simp [*, s4, s5, t1, hk, hk', hiS, t3, eqCells_ii, putAt])
        | (with_reducible refine And.intro ?_ ?_; focus first | omega | decide)
        | (with_reducible refine split_ite (fun hp => ?_) (fun hp => ?_) <;> (try simp at hp) <;> simp [*, s4, s5, t1, hk, hk', hiS, t3, eqCells_ii, putAt])
        | (with_reducible refine split_ite1 (fun hp => ?_) (fun hp => ?_) <;> (try simp at hp) <;> simp [*, s4, s5, t1, hk, hk', hiS, t3, eqCells_ii, putAt])
        | (refine split_cond (by simp) (fun hp => ?_) (fun hp => ?_) <;> simp at hp <;> simp [*, s4, s5, t1, hk, hk', hiS, t3, eqCells_ii, putAt])
        | (refine split_ops (by simp) (fun hp => ?_) (fun hp => ?_) <;> simp at hp <;> simp [*, s4, s5, t1, hk, hk', hiS, t3, eqCells_ii, putAt])
        | (refine split_opsD (by simp) (fun hp => ?_) (fun hp => ?_) <;> simp at hp <;> simp [*, s4, s5, t1, hk, hk', hiS, t3, eqCells_ii, putAt])
        | (refine split_pick (by simp) (fun hp => ?_) (fun hp => ?_) <;> simp at hp <;> simp [*, s4, s5, t1, hk, hk', hiS, t3, eqCells_ii, putAt])
        | omega
        | decide
        | (simp [*, s4, s5, t1, hk, hk', hiS, t3, eqCells_ii, putAt]))
      exact hJa.out _ ⟨i + 1, _, by first | rfl | (simp [*, accS, accH]; done) | (simp only [*]; done) | (congr 1 <;> simp [*, accS, accH]; done) | (congr 1 <;> simp [*, accS, accH] <;> rfl) | (congr 1 <;> congr 1 <;> simp <;> omega), by first | omega | (simp; omega) | simp [*], by omega, ⟨trivial⟩⟩
    · have hk' : ¬ (K : Int) < c.length := by omega
      have t3 : S[i] = (32, 0) := by
        rw [List.getElem?_eq_getElem hiS, dif_neg hk] at t2
        exact Option.some.inj t2
      simp [s4, s5, hi, hi', t1, hk, hk', putAt]
      repeat' (first
        | simp (disch := omega) only [wrap_i64, wrap_i32]
        | (simp (disch := first | omega | assumption | (simp only [i64, i32]; omega) | (simp <;> omega) | fail) only [loadD_cpr, loadD_cprs, List.take_of_length_le]; simp [*, s4, s5, t1, hk, hk', hiS, t3, eqCells_ii, putAt])
        | (with_reducible refine And.intro ?_ ?_; focus first | omega | decide)
        | (with_reducible refine split_ite (fun hp => ?_) (fun hp => ?_) <;> (try simp at hp) <;> simp [*, s4, s5, t1, hk, hk', hiS, t3, eqCells_ii, putAt])
        | (with_reducible refine split_ite1 (fun hp => ?_) (fun hp => ?_) <;> (try simp at hp) <;> simp [*, s4, s5, t1, hk, hk', hiS, t3, eqCells_ii, putAt])
        | (refine split_cond (by simp) (fun hp => ?_) (fun hp => ?_) <;> simp at hp <;> simp [*, s4, s5, t1, hk, hk', hiS, t3, eqCells_ii, putAt])
        | (refine split_ops (by simp) (fun hp => ?_) (fun hp => ?_) <;> simp at hp <;> simp [*, s4, s5, t1, hk, hk', hiS, t3, eqCells_ii, putAt])
        | (refine split_opsD (by simp) (fun hp => ?_) (fun hp => ?_) <;> simp at hp <;> simp [*, s4, s5, t1, hk, hk', hiS, t3, eqCells_ii, putAt])
        | (refine split_pick (by simp) (fun hp => ?_) (fun hp => ?_) <;> simp at hp <;> simp [*, s4, s5, t1, hk, hk', hiS, t3, eqCells_ii, putAt])
        | omega
        | decide
        | (simp [*, s4, s5, t1, hk, hk', hiS, t3, eqCells_ii, putAt]))
      exact hJa.out _ ⟨i + 1, _, by first | rfl | (simp [*, accS, accH]; done) | (simp only [*]; done) | (congr 1 <;> simp [*, accS, accH]; done) | (congr 1 <;> simp [*, accS, accH] <;> rfl) | (congr 1 <;> congr 1 <;> simp <;> omega), by first | omega | (simp; omega) | simp [*], by omega, ⟨trivial⟩⟩
  · have hi' : ¬ (i : Int) < N := by omega
    by_cases hT0 : T = 0
    · simp [s4, s5, hi, hi', hR, hT0]
    · have s10 : ((Y : Int) = (u : Int) - 1) = True := eq_true (by omega)
      simp [s4, s5, hi, hi', hR, s8, s10, hT0]

end Go.Proofs.YtccinlhenkkpeaaDoor
