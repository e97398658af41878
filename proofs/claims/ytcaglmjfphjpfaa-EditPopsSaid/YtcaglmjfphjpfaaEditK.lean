/- The law on what is taken out and comes back. -/
import Derived.Test.YtcaglmjfphjpfaaEditH
namespace Go.Proofs.Ytcaglmjfphjpfaa
open Go E
set_option linter.unusedSimpArgs false
set_option linter.unusedVariables false
set_option maxRecDepth 100000

theorem cut_back (l : List Int) (lo hi : Nat) (h1 : lo < hi) (h2 : hi ≤ l.length) : l.take lo ++ (l.drop lo).take (hi - lo) ++ l.drop hi = l := by
  have e1 : l.drop hi = (l.drop lo).drop (hi - lo) := by rw [List.drop_drop]; congr 1; omega
  rw [e1, List.append_assoc, List.take_append_drop, List.take_append_drop]

theorem doE_of {e : EditM} {a : ActM} {n : Int} {r : EditM} (h : EdOk e) (hn : -9999 ≤ n ∧ n ≤ 9999) (ha : actOk a = true) (hs : actS e a n = (r, 0)) : doE e a n = (r, 0) := by
  have hno : ¬ (edIs e = false ∨ n < -9999 ∨ 9999 < n ∨ actOk a = false) := by
    rw [edIs_ok.2 h, ha]; simp; omega
  rw [doE_yes hno (by rw [hs]), hs]

theorem doE_yanks {e : EditM} {mv n : Int} (h0 : (doE e ⟨1, mv, 2, 0⟩ n).2 = 0) (hl : e.La ≠ 2) : ∃ (x y k : EditM) (L : List (List Int)) (p : List Int),
    doE e ⟨1, mv, 2, 0⟩ n = (x, 0) ∧ doE x ⟨3, 0, 0, 0⟩ 1 = (y, 0) ∧ doE e ⟨1, mv, 3, 0⟩ n = (k, 0) ∧ x.K = L ++ [p] ∧ k.K = L ++ [p] ∧ y.G.A ++ y.G.B = e.G.A ++ e.G.B ∧ k.G.A ++ k.G.B = e.G.A ++ e.G.B ∧
    y.G.A.length = x.G.A.length + p.length ∧ k.G.A.length = x.G.A.length ∧ EdOk x ∧ EdOk y ∧ EdOk k := by
  obtain ⟨k1, k2, k3, k4, k5⟩ := doE_ok h0
  have hok := actS_ok k1 k2 k4
  have hm : 1 ≤ mv ∧ mv ≤ 10 := by simpa [actOk] using k2
  have hS : actS e ⟨1, mv, 2, 0⟩ n = moveS e ⟨1, mv, 2, 0⟩ n := by simp [actS]
  rw [hS] at k4 k5 hok
  rw [moveS, if_neg (by simp)] at k4 k5 hok
  by_cases o1 : loE e ⟨1, mv, 2, 0⟩ n = hiE e ⟨1, mv, 2, 0⟩ n
  · rw [if_pos o1] at k4; simp at k4
  rw [if_neg o1] at k5 hok
  obtain ⟨lo, hi, l1, l2, l3, l4⟩ := lohi _ n k1 o1
  have hk : actS e ⟨1, mv, 3, 0⟩ n = (passE e 3 lo hi (decide ((e.G.A.length : Int) < toE e ⟨1, mv, 2, 0⟩ n) || decide (mv = 10)), 0) := by
    have hS2 : actS e ⟨1, mv, 3, 0⟩ n = moveS e ⟨1, mv, 3, 0⟩ n := by simp [actS]
    have q1 : loE e ⟨1, mv, 3, 0⟩ n = lo := l1
    have q2 : hiE e ⟨1, mv, 3, 0⟩ n = hi := l2
    rw [hS2, moveS, if_neg (by simp), q1, q2, if_neg (by omega)]
    rfl
  rw [l1, l2] at k5 hok
  simp only [Int.toNat_natCast] at k5 hok
  generalize hon : (decide ((e.G.A.length : Int) < toE e ⟨1, mv, 2, 0⟩ n) || decide (mv = 10)) = on at k5 hok hk
  obtain ⟨t1, t2⟩ := ed_text k1
  have hp := passed_one t1 t2 l3 l4
  have hkk : EdOk (passE e 3 lo hi on) := passE_ok k1 (by omega) l3 l4 on
  have hx : passE e 2 lo hi on = ⟨⟨(e.G.A ++ e.G.B).take lo, (e.G.A ++ e.G.B).drop hi⟩, kAdd e.K (((e.G.A ++ e.G.B).drop lo).take (hi - lo)) 0, uPush e.U e.G, 2, 0, 0⟩ := by
    rw [passE, if_neg (by simp), if_neg (by simp), if_pos rfl, if_pos rfl, if_neg hl]
  have hk3 : passE e 3 lo hi on = ⟨gapSplit (e.G.A ++ e.G.B) lo, kAdd e.K (((e.G.A ++ e.G.B).drop lo).take (hi - lo)) 0, e.U, 0, 0, 0⟩ := by
    rw [passE, if_pos rfl]
  rw [hk3] at hkk hk
  rw [hx] at k5 hok
  generalize hL : e.G.A ++ e.G.B = l at *
  have hK : kAdd e.K ((l.drop lo).take (hi - lo)) 0 = e.K.drop (e.K.length + 1 - 8) ++ [(l.drop lo).take (hi - lo)] := by
    rcases kAdd_new 0 k1.k hp with ⟨q1, _⟩ | ⟨_, q1, _⟩
    · exact q1
    · exact absurd rfl q1
  rw [hK] at k5 hok hk hkk
  have hgl := kGet_last hok.k
  have hin : gapInsert ⟨l.take lo, l.drop hi⟩ ((l.drop lo).take (hi - lo)) = (⟨l.take lo ++ (l.drop lo).take (hi - lo), l.drop hi⟩, 0) := by
    have hA := allR_take (allR_drop2 t1 lo) (hi - lo)
    rw [gapInsert, if_neg (by rw [hok.g, hA]; simp), if_neg (by simp; omega)]
  have hy : actS ⟨⟨l.take lo, l.drop hi⟩, e.K.drop (e.K.length + 1 - 8) ++ [(l.drop lo).take (hi - lo)], uPush e.U e.G, 2, 0, 0⟩ ⟨3, 0, 0, 0⟩ 1 =
      (⟨⟨l.take lo ++ (l.drop lo).take (hi - lo), l.drop hi⟩, e.K.drop (e.K.length + 1 - 8) ++ [(l.drop lo).take (hi - lo)], uPush (uPush e.U e.G) ⟨l.take lo, l.drop hi⟩, 3, 0, ((l.drop lo).take (hi - lo)).length⟩, 0) := by
    have hSy : ∀ X : EditM, actS X ⟨3, 0, 0, 0⟩ 1 = yankS X := fun X => by simp [actS]
    rw [hSy, yankS, if_neg (by simp), putS, hgl]
    simp only []
    rw [hin]
  have hyD := doE_of hok (by omega) (by decide) hy
  have hyO := actS_ok hok (a := ⟨3, 0, 0, 0⟩) (n := 1) (by decide) (by rw [hy])
  rw [hy] at hyO
  refine ⟨_, _, _, _, _, k5, hyD, doE_of k1 k3 (by simp [actOk]; omega) hk, rfl, rfl, ?_, ?_, ?_, ?_, hok, hyO, hkk⟩
  · exact cut_back l lo hi l3 l4
  · exact List.take_append_drop _ _
  · simp
  · simp [gapSplit]

set_option maxHeartbeats 2000000 in
theorem pc_EditYanks (n : Nat) (e : EditM) (mv c : Int) : (W (n + 26)).pc 8 [edD e, .int .i64 mv, .int .i64 c] = some (.bool true) := by
  apply runs c_typebarlaw23_EditYanks
  have hB := pc_Big (n + 24) e
  have hE := pc_edited (n + 1)
  by_cases hb : edBig e = true
  · rw [hb] at hB
    simp [X_typebarlaw23_EditYanks, hB, hE]
  have hb' : edBig e = false := by simpa using hb
  rw [hb'] at hB
  have hsm := edBig_small hb'
  by_cases hl : e.La = 2
  · simp only [edD, hl] at hB
    simp [X_typebarlaw23_EditYanks, hB, hE, hl]
  have hD := pc_edit_Do (n + 13) e ⟨1, mv, 2, 0⟩ c hsm.1
  by_cases h0 : (doE e ⟨1, mv, 2, 0⟩ c).2 = 0
  · obtain ⟨x, y, k, L, p, d1, d2, d3, e1, e2, e3, e4, e5, e6, ox, oy, ok⟩ := doE_yanks h0 hl
    have hD2 := pc_edit_Do (n + 13) x ⟨3, 0, 0, 0⟩ 1 (edOk_sized ox)
    have hD3 := pc_edit_Do (n + 13) e ⟨1, mv, 3, 0⟩ c hsm.1
    rw [d1] at hD
    rw [d2] at hD2
    rw [d3] at hD3
    have gy := gapIs_ln oy.g
    have gk := gapIs_ln ok.g
    have hTy := pc_gap_Text (n + 24) y.G (by omega) (by omega)
    have hTk := pc_gap_Text (n + 24) k.G (by omega) (by omega)
    have hTe := pc_gap_Text (n + 24) e.G (by omega) (by omega)
    rw [e3] at hTy
    rw [e4] at hTk
    have hS1 := pc_ref01_Same (n + 24) (e.G.A ++ e.G.B) (e.G.A ++ e.G.B) (by simp; omega)
    have hkk := kIs_len ok.k
    rw [e2] at hkk
    have hpl := (kOne_len (hkk.2 p (by simp))).2.1
    have hS2 := pc_ref01_Same (n + 24) p p (by omega)
    simp only [decide_true] at hS1 hS2
    have hLl : L.length < 2000000 := by have := hkk.1; simp at this; omega
    have e5' : (y.G.A.length : Int) = (x.G.A.length : Int) + (p.length : Int) := by omega
    have e6' : (k.G.A.length : Int) = (x.G.A.length : Int) := by omega
    simp only [edD, e1, e2] at hD hD2 hD3
    have hxl := gapIs_ln ox.g
    clear h0 d1 d2 d3 ox oy ok hkk
    simp [X_typebarlaw23_EditYanks, hB, hE, hl, hD, hD2, hD3]
    repeat' (first
      | simp (disch := omega) only [wrap_i64, wrap_i32]
      | (simp (disch := first | omega | assumption | (simp only [i64, i32]; omega) | (simp <;> omega) | fail) only [loadD_cpr, loadD_cprs, List.take_of_length_le]; simp [*, hTy, hTk, hTe, hS1, hS2, e5', e6', hE, Nat.testBit])
      | (with_reducible refine And.intro ?_ ?_; focus first | omega | decide)
      | (with_reducible refine split_ite (fun hp => ?_) (fun hp => ?_) <;> (try simp at hp) <;> simp [*, hTy, hTk, hTe, hS1, hS2, e5', e6', hE, Nat.testBit])
      | (with_reducible refine split_ite1 (fun hp => ?_) (fun hp => ?_) <;> (try simp at hp) <;> simp [*, hTy, hTk, hTe, hS1, hS2, e5', e6', hE, Nat.testBit])
      | (refine split_cond (by simp) (fun hp => ?_) (fun hp => ?_) <;> simp at hp <;> simp [*, hTy, hTk, hTe, hS1, hS2, e5', e6', hE, Nat.testBit])
      | (refine split_ops (by simp) (fun hp => ?_) (fun hp => ?_) <;> simp at hp <;> simp [*, hTy, hTk, hTe, hS1, hS2, e5', e6', hE, Nat.testBit])
      | (refine split_opsD (by simp) (fun hp => ?_) (fun hp => ?_) <;> simp at hp <;> simp [*, hTy, hTk, hTe, hS1, hS2, e5', e6', hE, Nat.testBit])
      | (refine split_pick (by simp) (fun hp => ?_) (fun hp => ?_) <;> simp at hp <;> simp [*, hTy, hTk, hTe, hS1, hS2, e5', e6', hE, Nat.testBit])
      | omega
      | decide
      | (simp [*, hTy, hTk, hTe, hS1, hS2, e5', e6', hE, Nat.testBit]))
    all_goals trace_state
  · generalize (doE e ⟨1, mv, 2, 0⟩ c).1 = y at hD
    generalize (doE e ⟨1, mv, 2, 0⟩ c).2 = r at hD h0
    simp [X_typebarlaw23_EditYanks, hB, hE, hl, hD, h0]

end Go.Proofs.Ytcaglmjfphjpfaa
