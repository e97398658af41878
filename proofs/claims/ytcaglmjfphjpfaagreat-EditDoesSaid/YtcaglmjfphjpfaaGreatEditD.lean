/- What a move does with a line that is edited, and what an act does. -/
import Derived.Test.YtcaglmjfphjpfaaGreatEditC
namespace Go.Proofs.YtcaglmjfphjpfaaGreat
open Go E
set_option linter.unusedSimpArgs false
set_option linter.unusedVariables false
set_option maxRecDepth 100000

theorem gapOf_ok {l : List Int} {x : Int} (h : allR l = true) (hx : 0 ≤ x ∧ x ≤ l.length) (hl : l.length ≤ 200) : gapOf l x = (gapSplit l x.toNat, 0) := by
  rw [gapOf, if_neg (by simp [h]; omega), if_neg (by omega)]

theorem allR_dropK {l : List Int} (k : Nat) (h : allR l = true) : allR (l.drop k) = true := by
  simp only [allR, List.all_eq_true] at h ⊢
  exact fun x hx => h x (List.mem_of_mem_drop hx)

theorem split_cut (l : List Int) (lo hi : Nat) (h : lo ≤ l.length) : gapSplit (l.take lo ++ l.drop hi) lo = ⟨l.take lo, l.drop hi⟩ := by
  simp only [gapSplit]
  rw [List.take_left' (by simp; omega), List.drop_left' (by simp; omega)]

theorem ls_pass (n : Nat) (e : EditM) (a : ActM) (c : Int) (h : EdOk e) (lo hi : Nat) (on : Bool) (h1 : lo < hi) (h2 : hi ≤ (e.G.A ++ e.G.B).length) (ho : 1 ≤ a.o ∧ a.o ≤ 6) :
    lendS (W (n + 9)) 41 [.ptr 0 0 19, rn (e.G.A ++ e.G.B), .int .i64 lo, .int .i64 hi, .bool on] [⟨wkL e (nowE e) a c, 0, true⟩] =
    some (eD 0, [⟨wkL e (passE e a.o lo hi on) a c, 0, true⟩]) := by
  apply lends c_edit_work_pass
  obtain ⟨g1, g2, g3⟩ := gapIs_ln h.g
  have m1 : modes 41 65 = 0 := id rfl
  have m2 : modes 41 42 = 3 := id rfl
  have m3 : modes 41 66 = 3 := id rfl
  have m4 : modes 41 67 = 0 := id rfl
  have m5 : modes 41 68 = 0 := id rfl
  have hR : allR (e.G.A ++ e.G.B) = true := by rw [allR_append, g2, g3]; rfl
  have hlen : (e.G.A ++ e.G.B).length ≤ 200 := by simp; omega
  have hr := ls_remember (n + 1) e (nowE e) a c h
  have hK := kIs_small h.k
  simp only [nowE] at hr ⊢
  obtain ⟨l, hl⟩ : ∃ l, l = e.G.A ++ e.G.B := ⟨_, rfl⟩
  have hpass : passE e a.o lo hi on = passE e a.o lo hi on := rfl
  conv at hpass => rhs; rw [passE]
  rw [← hl] at hR hlen h2 hpass ⊢
  rw [hpass]
  clear hpass
  have hd : ((l.drop lo).take (hi - lo)).length = hi - lo := by simp; omega
  have b1 : (lo : Int) ≤ hi := by omega
  have b2 : (hi : Int) ≤ l.length := by omega
  have b3 : lo ≤ l.length := by omega
  by_cases o3 : a.o = 3
  · have hk := pc_kill_Add (n + 3) e.K ((l.drop lo).take (hi - lo)) 0 hK (by omega)
    have hy := ls_lay (n + 1) e ⟨e.G, kAdd e.K ((l.drop lo).take (hi - lo)) 0, e.U, 0, 0, 0⟩ a c l lo (by omega)
    rw [gapOf_ok hR (by omega) hlen] at hy
    simp only [wkL, o3] at hy
    simp [X_edit_work_pass, o3, m1, m3, b1, b2, hk, hy, lendW_def, back_def, settleF_def, settle_def, putAt]
    all_goals trace_state
  have hc0 : ¬ a.o = 3 := o3
  by_cases o4 : 4 ≤ a.o
  · have hC := pc_shape_Change (n + 6) l lo hi a.o (by omega)
    have hCl := change_len l lo hi a.o
    have hy := ls_lay (n + 1) e ⟨e.G, e.K, uPush e.U e.G, 0, 0, 0⟩ a c (change l lo hi a.o).1 hi (by omega)
    simp only [wkL] at hy
    simp [X_edit_work_pass, o3, o4, m1, m2, m3, m4, b1, b2, hr, hC, hy, lendW_def, back_def, settleF_def, settle_def, putAt]
    all_goals trace_state
  have hconc := pc_Concat (n + 6) [l.take lo, l.drop hi] (by simp) (by simp; omega)
  have hcat : [l.take lo, l.drop hi].flatten = l.take lo ++ l.drop hi := by simp
  rw [hcat] at hconc
  have hconc' : (W (n + 8)).pc 68 [.arr 2 false [rn (l.take lo), rn (l.drop hi)]] = some (rn (l.take lo ++ l.drop hi)) := hconc
  clear hconc hcat
  have hal : allR (l.take lo ++ l.drop hi) = true := by rw [allR_append, allR_take hR _, allR_dropK _ hR]; rfl
  have hgo : gapOf (l.take lo ++ l.drop hi) lo = (⟨l.take lo, l.drop hi⟩, 0) := by
    rw [gapOf_ok hal (by simp; omega) (by simp; omega), Int.toNat_natCast, split_cut _ _ _ (by omega)]
  by_cases o2 : a.o = 2
  · obtain ⟨how, hhow⟩ : ∃ how : Int, how = (if e.La = 2 then if on = true then 1 else -1 else 0) := ⟨_, rfl⟩
    have hk := pc_kill_Add (n + 3) e.K ((l.drop lo).take (hi - lo)) how hK (by omega)
    have hy := ls_lay (n + 1) e ⟨e.G, kAdd e.K ((l.drop lo).take (hi - lo)) how, uPush e.U e.G, 2, 0, 0⟩ a c (l.take lo ++ l.drop hi) lo (by simp; omega)
    rw [hgo] at hy
    simp only [wkL, o2] at hy
    have hX : ∀ z : List D, z = z := fun _ => rfl
    by_cases hla : e.La = 2
    · cases on
      · simp only [hla, if_true, if_false] at hhow
        simp at hhow
        subst hhow
        simp only [wkL, o2, hla] at hy hr
        simp [X_edit_work_pass, o2, hla, m1, m2, m3, m5, b1, b2, b3, hr, hk, hconc', hy, lendW_def, back_def, settleF_def, settle_def, putAt, Nat.testBit]
        all_goals trace_state
      · simp only [hla, if_true] at hhow
        subst hhow
        simp only [wkL, o2, hla] at hy hr
        simp [X_edit_work_pass, o2, hla, m1, m2, m3, m5, b1, b2, b3, hr, hk, hconc', hy, lendW_def, back_def, settleF_def, settle_def, putAt, Nat.testBit]
        all_goals trace_state
    · simp only [hla, if_false] at hhow
      subst hhow
      simp only [wkL, o2] at hy hr
      simp [X_edit_work_pass, o2, hla, m1, m2, m3, m5, b1, b2, b3, hr, hk, hconc', hy, lendW_def, back_def, settleF_def, settle_def, putAt, Nat.testBit]
      all_goals trace_state
  · have hy := ls_lay (n + 1) e ⟨e.G, e.K, uPush e.U e.G, 0, 0, 0⟩ a c (l.take lo ++ l.drop hi) lo (by simp; omega)
    rw [hgo] at hy
    simp only [wkL] at hy
    simp [X_edit_work_pass, o2, o3, o4, m1, m2, m3, m5, b1, b2, b3, hr, hconc', hy, lendW_def, back_def, settleF_def, settle_def, putAt, Nat.testBit]
    all_goals trace_state

end Go.Proofs.YtcaglmjfphjpfaaGreat
