/- What layer 26's Screen computes. -/
import Derived.Test.YtccinlhenkkpeaaDoorRenM
namespace Go.Proofs.YtccinlhenkkpeaaDoor
open Go E
set_option linter.unusedSimpArgs false
set_option linter.unusedVariables false
set_option maxRecDepth 100000

/-- The cells of a screen: from some row on, and blanks. -/
def scrL (c : List (Int × Int)) (m N : Nat) : List (Int × Int) := (c.drop m).take N ++ List.replicate (N - (c.length - m)) (32, 0)

theorem putAt_scr (c : List (Int × Int)) (m N : Nat) : putAt (cells celC (List.replicate N (32, 0))) 0 ((cells celC (c.drop m)).take (min (c.length - m) N * 2)) = cells celC (scrL c m N) := by
  have e1 := cells_take (E := celC) (c.drop m) (min (c.length - m) N)
  simp only [celC_sz] at e1
  rw [e1, putAt, List.take_zero, List.nil_append, cells_length, celC_sz, Nat.zero_add]
  have e2 := cells_drop (E := celC) (List.replicate N ((32, 0) : Int × Int)) ((c.drop m).take (min (c.length - m) N)).length
  simp only [celC_sz] at e2
  rw [e2, ← cells_append, List.drop_replicate, scrL]
  congr 1
  have hl : ((c.drop m).take (min (c.length - m) N)).length = min (c.length - m) N := by simp
  rw [hl]
  congr 1
  · rcases Nat.le_total (c.length - m) N with h | h
    · rw [Nat.min_eq_left h, List.take_of_length_le (by simp), List.take_of_length_le (by simp; omega)]
    · rw [Nat.min_eq_right h]
  · congr 1; omega

theorem scrL_length {c : List (Int × Int)} {m N : Nat} : (scrL c m N).length = N := by
  simp only [scrL, List.length_append, List.length_take, List.length_drop, List.length_replicate]; omega

theorem pc_Screen_not (n : Nat) (e : EditorM) (w h : Int) (hs : EdrSmall e) (hi : edrIs e = false) : (W (n + 13)).pc 11 [edrD e, .int .i64 w, .int .i64 h] =
    some (.tup [.agg [.int .i64 0, .int .i64 0, crn [], .int .i64 0, .int .i64 0, .bool false], eD 1]) := by
  apply runsM c_render_Screen
  have m1 : modes 11 12 = 0 := id rfl
  have hI := pc_editor_Is (n + 2) e hs
  rw [hi] at hI
  simp [X_render_Screen, m1, hI, putAt]
  rfl

theorem pc_Screen_bad (n : Nat) (e : EditorM) (w h : Int) (hs : EdrSmall e) (hi : edrIs e = true) (hb : w < 2 ∨ 80 < w ∨ h < 1 ∨ 24 < h) : (W (n + 13)).pc 11 [edrD e, .int .i64 w, .int .i64 h] =
    some (.tup [.agg [.int .i64 0, .int .i64 0, crn [], .int .i64 0, .int .i64 0, .bool false], eD 4]) := by
  apply runsM c_render_Screen
  have m1 : modes 11 12 = 0 := id rfl
  have m2 : modes 11 22 = 4 := id rfl
  have hI := pc_editor_Is (n + 2) e hs
  rw [hi] at hI
  have hN := lk_grid_New_bad (n + 9) w h hb
  simp [X_render_Screen, m1, m2, hI, hN, lendW_def, back_def, putAt]
  rfl

theorem pc_Screen_full (n : Nat) (e : EditorM) (w h : Nat) (hs : EdrSmall e) (hi : edrIs e = true) (hw : 2 ≤ w ∧ w ≤ 80) (hh : 1 ≤ h ∧ h ≤ 24) (hl : 500 < (lText e).length) : (W (n + 13)).pc 11 [edrD e, .int .i64 w, .int .i64 h] =
    some (.tup [.agg [.int .i64 0, .int .i64 0, crn [], .int .i64 0, .int .i64 0, .bool false], eD 5]) := by
  apply runsM c_render_Screen
  have m1 : modes 11 12 = 0 := id rfl
  have m2 : modes 11 22 = 4 := id rfl
  have m3 : modes 11 6 = 0 := id rfl
  have hI := pc_editor_Is (n + 2) e hs
  rw [hi] at hI
  have hN := lk_grid_New (n + 9) w h hw hh
  have hL := pc_render_Lay n e w hs
  have hr : rLay e w = ([], 0, 5) := by rw [rLay, if_pos hi, if_neg (by omega), if_pos hl]
  rw [hr] at hL
  simp [X_render_Screen, m1, m2, m3, hI, hN, hL, lendW_def, back_def, putAt]
  rfl

theorem pc_Screen_ok (n : Nat) (e : EditorM) (w h p : Nat) (hs : EdrSmall e) (hi : edrIs e = true) (hw : 2 ≤ w ∧ w ≤ 80) (hh : 1 ≤ h ∧ h ≤ 24) (hl : (lText e).length ≤ 500) (c : List (Int × Int))
    (hr : rLay e w = (c, (p : Int), 0)) (hp : p ≤ c.length) (hc : c.length < 10000) : (W (n + 13)).pc 11 [edrD e, .int .i64 w, .int .i64 h] =
    some (.tup [.agg [.int .i64 w, .int .i64 h, crn (scrL c ((p / w + 1 - h) * w) (w * h)), .int .i64 (p % w : Nat), .int .i64 (p / w - (p / w + 1 - h) : Nat), .bool false], eD 0]) := by
  apply runsM c_render_Screen
  have m1 : modes 11 12 = 0 := id rfl
  have m2 : modes 11 22 = 4 := id rfl
  have m3 : modes 11 6 = 0 := id rfl
  have hI := pc_editor_Is (n + 2) e hs
  rw [hi] at hI
  have hN := lk_grid_New (n + 9) w h hw hh
  have hL := pc_render_Lay n e w hs
  rw [hr] at hL
  have hm : w * h ≤ 80 * 24 := Nat.mul_le_mul hw.2 hh.2
  obtain ⟨q, hq⟩ : ∃ q, q = p / w := ⟨_, rfl⟩
  obtain ⟨x, hx⟩ : ∃ x, x = p % w := ⟨_, rfl⟩
  obtain ⟨T, hT⟩ : ∃ T, T = q + 1 - h := ⟨_, rfl⟩
  obtain ⟨M, hM⟩ : ∃ M, M = T * w := ⟨_, rfl⟩
  obtain ⟨Y, hY⟩ : ∃ Y, Y = q - T := ⟨_, rfl⟩
  obtain ⟨N, hNN⟩ : ∃ N, N = w * h := ⟨_, rfl⟩
  have hqw : q * w ≤ p := by rw [hq, Nat.mul_comm]; exact Nat.mul_div_le p w
  have hMp : M ≤ p := by
    have : T * w ≤ q * w := Nat.mul_le_mul_right _ (by omega)
    omega
  rw [← hq, ← hx, ← hT, ← hM, ← hY, ← hNN]
  have d1 : (p : Int).tdiv w = (q : Int) := by rw [Int.tdiv_eq_ediv_of_nonneg (by omega), hq]; simp
  have d2 : (p : Int).tmod w = (x : Int) := by rw [Int.tmod_eq_emod_of_nonneg (by omega), hx]; simp
  have hqp : q ≤ p := hq ▸ Nat.div_le_self p w
  have d3 : ¬ w = 0 := by omega
  have s0 : IntKind.i64.wrap (q : Int) = q := wrap_i64 (by omega)
  have s1 : IntKind.i64.wrap ((q : Int) - h) = (q : Int) - h := wrap_i64 (by omega)
  have s2 : IntKind.i64.wrap ((q : Int) - h + 1) = (q : Int) - h + 1 := wrap_i64 (by omega)
  have s3 : max 0 ((q : Int) - h + 1) = (T : Int) := by omega
  have s4 : IntKind.i64.wrap ((T : Int) * w) = (M : Int) := by
    rw [hM, show ((T : Int) * w) = ((T * w : Nat) : Int) by simp]
    exact wrap_i64 (by omega)
  have s5 : min (M : Int) (c.length : Int) = (M : Int) := by omega
  have s6 : IntKind.i64.wrap ((q : Int) - T) = (Y : Int) := by rw [wrap_i64 (by omega)]; omega
  have s7 : M ≤ c.length := by omega
  have hcp := putAt_scr c M N
  have hsl : (scrL c M N).length = N := scrL_length
  have hA : D.arr N false (List.take (N * 2) (cells celC (scrL c M N))) = crn (scrL c M N) := row_is hsl.symm (List.take_of_length_le (by simp [hsl]))
  have hA2 : D.arr N false (cells celC (scrL c M N)) = crn (scrL c M N) := row_is hsl.symm rfl
  rw [← hNN] at hN hm
  clear hq hx hT hM hY hNN hMp hqw
  simp [X_render_Screen, m1, m2, m3, hI, hN, hL, lendW_def, back_def, d1, d2, d3, s0, s1, s2, s3, s4, s5, s6, s7, hcp, hsl, hA, hA2]

end Go.Proofs.YtccinlhenkkpeaaDoor
