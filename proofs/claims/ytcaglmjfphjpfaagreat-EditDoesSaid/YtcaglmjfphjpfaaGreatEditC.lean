/- A line that is edited, as data; what its methods compute. -/
import Derived.Test.YtcaglmjfphjpfaaGreatEditA
import Derived.Test.YtcaglmjfphjpfaaGreatGapB
import Derived.Test.YtcaglmjfphjpfaaGreatKillB
import Derived.Test.YtcaglmjfphjpfaaGreatKillC
import Derived.Test.YtcaglmjfphjpfaaGreatUndoB
import Derived.Test.YtcaglmjfphjpfaaGreatGapE
import Derived.Test.YtcaglmjfphjpfaaGreatKillD
import Derived.Test.YtcaglmjfphjpfaaGreatShapeD
import Derived.Test.YtcaglmjfphjpfaaGreatShapeE
import Derived.Test.YtcaglmjfphjpfaaGreatShapeB
import Derived.Test.YtcaglmjfphjpfaaGreatConcat
namespace Go.Proofs.YtcaglmjfphjpfaaGreat
open Go E
set_option linter.unusedSimpArgs false
set_option linter.unusedVariables false
set_option maxRecDepth 100000

structure ActM where
  k : Int
  m : Int
  o : Int
  r : Int

structure EditM where
  G : Gap
  K : List (List Int)
  U : List Gap
  La : Int
  Tu : Int
  Si : Int

abbrev edL (e : EditM) : List D := [rn e.G.A, rn e.G.B, rrn e.K, grn e.U, .int .i64 e.La, .int .i64 e.Tu, .int .i64 e.Si]

abbrev edD (e : EditM) : D := .agg [rn e.G.A, rn e.G.B, rrn e.K, grn e.U, .int .i64 e.La, .int .i64 e.Tu, .int .i64 e.Si]

abbrev acD (a : ActM) : D := .agg [.int .i64 a.k, .int .i64 a.m, .int .i64 a.o, .int .i32 a.r]

/-- The cells of 'work'. -/
abbrev wkL (e x : EditM) (a : ActM) (n : Int) : List D := [rn e.G.A, rn e.G.B, rrn e.K, grn e.U, .int .i64 e.La, .int .i64 e.Tu, .int .i64 e.Si, rn x.G.A, rn x.G.B, rrn x.K, grn x.U, .int .i64 x.La, .int .i64 x.Tu, .int .i64 x.Si,
  .int .i64 a.k, .int .i64 a.m, .int .i64 a.o, .int .i32 a.r, .int .i64 n]

def edZ : EditM := ⟨⟨[], []⟩, [], [], 0, 0, 0⟩

def edIs (e : EditM) : Bool := gapIs e.G && kIs e.K && uIs e.U && decide (0 ≤ e.La ∧ e.La ≤ 3) &&
  (if e.La = 3 then decide (0 ≤ e.Tu ∧ e.Tu < e.K.length ∧ 1 ≤ e.Si ∧ e.Si ≤ e.G.A.length) else decide (e.Tu = 0 ∧ e.Si = 0))

/-- What is right is small. -/
structure EdOk (e : EditM) : Prop where
  g : gapIs e.G = true
  k : kIs e.K = true
  u : uIs e.U = true
  la : 0 ≤ e.La ∧ e.La ≤ 3
  tu : e.La = 3 → 0 ≤ e.Tu ∧ e.Tu < e.K.length ∧ 1 ≤ e.Si ∧ e.Si ≤ e.G.A.length
  ntu : e.La ≠ 3 → e.Tu = 0 ∧ e.Si = 0

theorem edIs_ok {e : EditM} : edIs e = true ↔ EdOk e := by
  simp only [edIs, Bool.and_eq_true, decide_eq_true_eq]
  constructor
  · rintro ⟨⟨⟨⟨h1, h2⟩, h3⟩, h4⟩, h5⟩
    refine ⟨h1, h2, h3, h4, fun hl => ?_, fun hl => ?_⟩
    · rw [if_pos hl] at h5; simpa using h5
    · rw [if_neg hl] at h5; simpa using h5
  · rintro ⟨h1, h2, h3, h4, h5, h6⟩
    refine ⟨⟨⟨⟨h1, h2⟩, h3⟩, h4⟩, ?_⟩
    by_cases hl : e.La = 3
    · rw [if_pos hl]; simpa using h5 hl
    · rw [if_neg hl]; simpa using h6 hl

theorem gapIs_ln {g : Gap} (h : gapIs g = true) : g.A.length + g.B.length ≤ 200 ∧ allR g.A = true ∧ allR g.B = true := by
  simp only [gapIs, Bool.and_eq_true, decide_eq_true_eq] at h
  exact ⟨h.1.1, h.1.2, h.2⟩

theorem kIs_small {K : List (List Int)} (h : kIs K = true) : small K := by
  obtain ⟨h1, h2⟩ := kIs_len h
  exact ⟨by omega, fun l hl => by have := (kOne_len (h2 l hl)).2.1; omega⟩

theorem uIs_small {U : List Gap} (h : uIs U = true) : smallU U := by
  obtain ⟨h1, h2⟩ := uIs_len h
  exact ⟨by omega, fun l hl => by have := (gapIs_ln (h2 l hl)).1; omega⟩

/-- What the line is, but for the last act. -/
def nowE (e : EditM) : EditM := ⟨e.G, e.K, e.U, 0, 0, 0⟩

def putS (e : EditM) (g : Gap) (t : Int) (u : List Gap) : EditM × Int := (⟨(gapInsert g (kGet e.K t).1).1, e.K, u, 3, t, (kGet e.K t).1.length⟩, (gapInsert g (kGet e.K t).1).2)

def insS (e : EditM) (r n : Int) : EditM × Int :=
  if n < 1 then (nowE e, 7) else (⟨(gapInsert e.G (List.replicate n.toNat r)).1, e.K, if e.La = 1 then e.U else uPush e.U e.G, 1, 0, 0⟩, (gapInsert e.G (List.replicate n.toNat r)).2)

def yankS (e : EditM) : EditM × Int := if e.K.length = 0 then (nowE e, 7) else putS e e.G 0 (uPush e.U e.G)

def popS (e : EditM) : EditM × Int := if e.La ≠ 3 then (nowE e, 7) else putS e (gapCut e.G (-e.Si)).1 ((e.Tu + 1).tmod e.K.length) e.U

def backS (e : EditM) : EditM × Int := if (uPop e.U).2.2 ≠ 0 then (nowE e, 7) else (⟨(uPop e.U).2.1, e.K, (uPop e.U).1, 0, 0, 0⟩, 0)

def swapS (e : EditM) : EditM × Int := (⟨(gSwap e.G).1, e.K, uPush e.U e.G, 0, 0, 0⟩, (gSwap e.G).2)

/-- What is done with what is passed: from a place to another one. -/
def passE (e : EditM) (o : Int) (lo hi : Nat) (on : Bool) : EditM :=
  if o = 3 then ⟨gapSplit (e.G.A ++ e.G.B) lo, kAdd e.K (((e.G.A ++ e.G.B).drop lo).take (hi - lo)) 0, e.U, 0, 0, 0⟩
  else if 4 ≤ o then ⟨(gapOf (change (e.G.A ++ e.G.B) lo hi o).1 hi).1, e.K, uPush e.U e.G, 0, 0, 0⟩
  else ⟨⟨(e.G.A ++ e.G.B).take lo, (e.G.A ++ e.G.B).drop hi⟩, if o = 2 then kAdd e.K (((e.G.A ++ e.G.B).drop lo).take (hi - lo)) (if e.La = 2 then if on then 1 else -1 else 0) else e.K, uPush e.U e.G, if o = 2 then 2 else 0, 0, 0⟩

def toE (e : EditM) (a : ActM) (n : Int) : Int := (tgtE (e.G.A ++ e.G.B) e.G.A.length a.m n).1
def loE (e : EditM) (a : ActM) (n : Int) : Int := if a.m = 10 then 0 else min e.G.A.length (toE e a n)
def hiE (e : EditM) (a : ActM) (n : Int) : Int :=
  if a.m = 10 then (e.G.A ++ e.G.B).length else if a.m = 9 ∧ e.G.A.length < toE e a n then min (toE e a n + 1) (e.G.A ++ e.G.B).length else max e.G.A.length (toE e a n)

def moveS (e : EditM) (a : ActM) (n : Int) : EditM × Int :=
  if a.o = 0 then if toE e a n = e.G.A.length then (nowE e, 7) else (⟨gapGo e.G (toE e a n), e.K, e.U, 0, 0, 0⟩, 0)
  else if loE e a n = hiE e a n then (nowE e, 7) else (passE e a.o (loE e a n).toNat (hiE e a n).toNat (decide ((e.G.A.length : Int) < toE e a n) || decide (a.m = 10)), 0)

def actOk (a : ActM) : Bool := decide (1 ≤ a.k ∧ a.k ≤ 6) && (decide (a.k ≠ 1) || decide (1 ≤ a.m ∧ a.m ≤ 10 ∧ 0 ≤ a.o ∧ a.o ≤ 6)) && (decide (a.k ≠ 2) || isR a.r)

def actS (e : EditM) (a : ActM) (n : Int) : EditM × Int :=
  if a.k = 1 then moveS e a n else if a.k = 2 then insS e a.r n else if a.k = 3 then yankS e else if a.k = 4 then popS e else if a.k = 5 then backS e else swapS e

def doE (e : EditM) (a : ActM) (n : Int) : EditM × Int :=
  if edIs e = false ∨ n < -9999 ∨ 9999 < n ∨ actOk a = false then (edZ, 1) else if (actS e a n).2 ≠ 0 then (edZ, (actS e a n).2) else actS e a n

theorem ls_remember (n : Nat) (e x : EditM) (a : ActM) (c : Int) (h : EdOk e) : lendS (W (n + 7)) 42 [.ptr 0 0 19] [⟨wkL e x a c, 0, true⟩] =
    some (.tup [], [⟨wkL e { x with U := uPush e.U e.G } a c, 0, true⟩]) := by
  apply lends c_edit_work_remember
  have h1 := gapIs_ln h.g
  have h2 := uIs_small h.u
  have hp := pc_undo_Push n e.U e.G h2 (by omega) (by omega)
  have m1 : modes 42 69 = 0 := id rfl
  simp [X_edit_work_remember, m1, hp, settleF_def, settle_def, putAt, Nat.testBit]

theorem ls_lay (n : Nat) (e x : EditM) (a : ActM) (c : Int) (l : List Int) (k : Int) (hl : l.length < 2000000) : lendS (W (n + 7)) 66 [.ptr 0 0 19, rn l, .int .i64 k] [⟨wkL e x a c, 0, true⟩] =
    some (.tup [], [⟨wkL e { x with G := (gapOf l k).1 } a c, 0, true⟩]) := by
  apply lends c_edit_work_lay
  have hp := pc_gap_Of (n + 2) l k hl
  have m1 : modes 66 74 = 0 := id rfl
  simp [X_edit_work_lay, m1, hp, settleF_def, settle_def, putAt]

theorem ls_put (n : Nat) (e x : EditM) (a : ActM) (c : Int) (g : Gap) (l : List Int) (hA : g.A.length < 2000000) (hB : g.B.length < 2000000) (hl : l.length < 2000000) : lendS (W (n + 7)) 43 [.ptr 0 0 19, gD g, rn l] [⟨wkL e x a c, 0, true⟩] =
    some (eD (gapInsert g l).2, [⟨wkL e { x with G := (gapInsert g l).1 } a c, 0, true⟩]) := by
  apply lends c_edit_work_put
  have hp := pc_gap_Insert (n + 1) g l hA hB hl
  have m1 : modes 43 70 = 0 := id rfl
  simp [X_edit_work_put, m1, hp, settleF_def, settle_def, putAt]

theorem kGet_lt {K : List (List Int)} (h : small K) (t : Int) : (kGet K t).1.length < 2000000 := by
  rw [kGet]
  split
  · simp
  · split
    · simp
    · simp only []
      by_cases hq : K.length - 1 - t.toNat % K.length < K.length
      · rw [getD_at hq]; exact h.2 _ (List.getElem_mem hq)
      · rw [List.getD_eq_getElem?_getD, List.getElem?_eq_none (by omega)]; simp

theorem ls_text (n : Nat) (e x : EditM) (a : ActM) (c : Int) (g : Gap) (t : Int) (h : EdOk e) (hA : g.A.length < 2000000) (hB : g.B.length < 2000000) (ht : i64 t) : lendS (W (n + 8)) 45 [.ptr 0 0 19, gD g, .int .i64 t] [⟨wkL e x a c, 0, true⟩] =
    some (eD (gapInsert g (kGet e.K t).1).2, [⟨wkL e { x with G := (gapInsert g (kGet e.K t).1).1, La := 3, Tu := t, Si := (kGet e.K t).1.length } a c, 0, true⟩]) := by
  apply lends c_edit_work_text
  have hk := kIs_small h.k
  have hg := pc_kill_Get (n + 2) e.K t hk ht
  have hl : (kGet e.K t).1.length < 2000000 := kGet_lt hk t
  have hp := ls_put n e { x with La := 3, Tu := t, Si := (kGet e.K t).1.length } a c g (kGet e.K t).1 hA hB hl
  have m1 : modes 45 72 = 0 := id rfl
  have m2 : modes 45 43 = 3 := id rfl
  simp only [] at hp
  simp [X_edit_work_text, m1, m2, hg, putAt, lendW_def, back_def, hp, settleF_def, settle_def]

theorem ls_yank (n : Nat) (e : EditM) (a : ActM) (c : Int) (h : EdOk e) : lendS (W (n + 9)) 15 [.ptr 0 0 19] [⟨wkL e (nowE e) a c, 0, true⟩] =
    some (eD (yankS e).2, [⟨wkL e (yankS e).1 a c, 0, true⟩]) := by
  apply lends c_edit_work_yank
  have h1 := gapIs_ln h.g
  have hr := ls_remember (n + 1) e (nowE e) a c h
  have ht := ls_text n e ⟨e.G, e.K, uPush e.U e.G, 0, 0, 0⟩ a c e.G 0 h (by omega) (by omega) (by simp [i64])
  simp only [nowE] at hr ht ⊢
  have m1 : modes 15 42 = 3 := id rfl
  have m2 : modes 15 45 = 3 := id rfl
  by_cases h0 : e.K.length = 0
  · simp [X_edit_work_yank, yankS, nowE, h0, settleF_def, settle_def]
  · simp [X_edit_work_yank, yankS, putS, h0, m1, m2, lendW_def, back_def, hr, ht, settleF_def, settle_def]

theorem ls_pop (n : Nat) (e : EditM) (a : ActM) (c : Int) (h : EdOk e) : lendS (W (n + 9)) 16 [.ptr 0 0 19] [⟨wkL e (nowE e) a c, 0, true⟩] =
    some (eD (popS e).2, [⟨wkL e (popS e).1 a c, 0, true⟩]) := by
  apply lends c_edit_work_pop
  have h1 := gapIs_ln h.g
  have m1 : modes 16 46 = 0 := id rfl
  have m2 : modes 16 45 = 3 := id rfl
  simp only [nowE]
  by_cases h0 : e.La = 3
  · obtain ⟨t1, t2, t3, t4⟩ := h.tu h0
    have hk := kIs_len h.k
    have hc := pc_gap_Cut (n + 3) e.G (-e.Si) (by omega) (by omega) (by omega)
    have hcl := gapCut_len e.G (-e.Si)
    have hT : 0 ≤ (e.Tu + 1).tmod e.K.length ∧ (e.Tu + 1).tmod e.K.length < e.K.length := ⟨Int.tmod_nonneg _ (by omega), Int.tmod_lt_of_pos _ (by omega)⟩
    have ht := ls_text n e (nowE e) a c (gapCut e.G (-e.Si)).1 ((e.Tu + 1).tmod e.K.length) h (by omega) (by omega) (by simp only [i64]; omega)
    simp only [nowE, wkL, h0] at ht
    have w1 : IntKind.i64.wrap (e.Tu + 1) = e.Tu + 1 := wrap_i64 (by omega)
    have w2 : IntKind.i64.wrap (-e.Si) = -e.Si := wrap_i64 (by omega)
    have hk0 : ¬ e.K = [] := fun hh => by rw [hh] at t2; simp at t2; omega
    simp [X_edit_work_pop, popS, putS, h0, Nat.testBit, m1, m2, lendW_def, back_def, hc, w1, w2, hk0, ht, settleF_def, settle_def, putAt]
  · simp [X_edit_work_pop, popS, nowE, h0, settleF_def, settle_def]

theorem ls_back (n : Nat) (e : EditM) (a : ActM) (c : Int) (h : EdOk e) : lendS (W (n + 9)) 17 [.ptr 0 0 19] [⟨wkL e (nowE e) a c, 0, true⟩] =
    some (eD (backS e).2, [⟨wkL e (backS e).1 a c, 0, true⟩]) := by
  apply lends c_edit_work_back
  have m1 : modes 17 47 = 0 := id rfl
  have hp := pc_undo_Pop (n + 2) e.U (uIs_small h.u)
  simp only [nowE]
  by_cases h0 : (uPop e.U).2.2 = 0
  · simp [X_edit_work_back, backS, h0, Nat.testBit, m1, hp, settleF_def, settle_def, putAt]
  · simp [X_edit_work_back, backS, nowE, h0, m1, hp, settleF_def, settle_def, putAt]

theorem ls_swap (n : Nat) (e : EditM) (a : ActM) (c : Int) (h : EdOk e) : lendS (W (n + 9)) 18 [.ptr 0 0 19] [⟨wkL e (nowE e) a c, 0, true⟩] =
    some (eD (swapS e).2, [⟨wkL e (swapS e).1 a c, 0, true⟩]) := by
  apply lends c_edit_work_swap
  have h1 := gapIs_ln h.g
  have m1 : modes 18 48 = 0 := id rfl
  have m2 : modes 18 42 = 3 := id rfl
  have hp := pc_shape_Swap (n + 2) e.G (by omega) (by omega)
  have hr := ls_remember (n + 1) e (nowE e) a c h
  simp only [nowE] at hr ⊢
  simp [X_edit_work_swap, swapS, m1, m2, hp, hr, lendW_def, back_def, settleF_def, settle_def, putAt]

theorem ls_insert (n : Nat) (e : EditM) (a : ActM) (c : Int) (h : EdOk e) (hc : c ≤ 9999) : lendS (W (n + 9)) 14 [.ptr 0 0 19] [⟨wkL e (nowE e) a c, 0, true⟩] =
    some (eD (insS e a.r c).2, [⟨wkL e (insS e a.r c).1 a c, 0, true⟩]) := by
  apply lends c_edit_work_insert
  have h1 := gapIs_ln h.g
  have m1 : modes 14 42 = 3 := id rfl
  have m2 : modes 14 44 = 0 := id rfl
  have m3 : modes 14 43 = 3 := id rfl
  have hr := ls_remember (n + 1) e (nowE e) a c h
  simp only [nowE] at hr ⊢
  by_cases h0 : c < 1
  · simp [X_edit_work_insert, insS, nowE, h0, settleF_def, settle_def]
  · have hR : (W (n + 8)).pc 44 [.arr 1 false [.int .i32 a.r], .int .i64 c] = some (rn (List.replicate c.toNat a.r)) := pc_Repeat (n + 5) a.r c (by omega)
    by_cases hl : e.La = 1
    · have hp := ls_put (n + 1) e ⟨e.G, e.K, e.U, 1, 0, 0⟩ a c e.G (List.replicate c.toNat a.r) (by omega) (by omega) (by simp; omega)
      simp only [wkL, hl] at hp
      simp [X_edit_work_insert, Nat.testBit, insS, h0, hl, m1, m2, m3, hR, hp, hr, lendW_def, back_def, settleF_def, settle_def, putAt]
    · have hp := ls_put (n + 1) e ⟨e.G, e.K, uPush e.U e.G, 1, 0, 0⟩ a c e.G (List.replicate c.toNat a.r) (by omega) (by omega) (by simp; omega)
      simp only [] at hp
      simp [X_edit_work_insert, Nat.testBit, insS, h0, hl, m1, m2, m3, hR, hp, hr, lendW_def, back_def, settleF_def, settle_def, putAt]

end Go.Proofs.YtcaglmjfphjpfaaGreat
