/- The law on texts that are put in one for another. -/
import Derived.Test.YtcaglmjfphjpfaaEditK
namespace Go.Proofs.Ytcaglmjfphjpfaa
open Go E
set_option linter.unusedSimpArgs false
set_option linter.unusedVariables false
set_option maxRecDepth 100000

/-- The line with text j in it. -/
def popE (e : EditM) (j : Int) : EditM := ⟨(gapInsert e.G (kGet e.K j).1).1, e.K, uPush e.U e.G, 3, j, (kGet e.K j).1.length⟩

theorem kGet_in {K : List (List Int)} (h : kIs K = true) {j : Nat} (hj : j < K.length) : (kGet K j).1 ∈ K := by
  rw [kGet_zero h j hj]; exact List.getElem_mem _

theorem popE_err {e : EditM} (h : EdOk e) {j : Nat} (hj : j < e.K.length) : (gapInsert e.G (kGet e.K j).1).2 = 0 ∨ (gapInsert e.G (kGet e.K j).1).2 = 5 := by
  have ho := kOne_len ((kIs_len h.k).2 _ (kGet_in h.k hj))
  rw [gapInsert, if_neg (by rw [h.g, ho.2.2]; simp)]
  split
  · exact .inr rfl
  · exact .inl rfl

theorem popE_len {e : EditM} (h : EdOk e) {j : Nat} (hj : j < e.K.length) (h0 : (gapInsert e.G (kGet e.K j).1).2 = 0) : ((popE e j).G.A ++ (popE e j).G.B).length = (e.G.A ++ e.G.B).length + (kGet e.K j).1.length := by
  have := ((gapInsert_is h.g (kGet e.K j).1).1 h0).2
  simp only [popE, List.length_append] at this ⊢
  omega

theorem doE_yank {e : EditM} (h0 : (doE e ⟨3, 0, 0, 0⟩ 1).2 = 0) : EdOk e ∧ 0 < e.K.length ∧ (gapInsert e.G (kGet e.K 0).1).2 = 0 ∧ doE e ⟨3, 0, 0, 0⟩ 1 = (popE e 0, 0) := by
  obtain ⟨k1, k2, k3, k4, k5⟩ := doE_ok h0
  have hS : actS e ⟨3, 0, 0, 0⟩ 1 = yankS e := by simp [actS]
  rw [hS, yankS] at k4 k5
  by_cases h1 : e.K.length = 0
  · rw [if_pos h1] at k4; simp at k4
  rw [if_neg h1] at k4 k5
  exact ⟨k1, by omega, k4, k5⟩

theorem doE_pop {e : EditM} (h : EdOk e) {i : Nat} (hn : 0 < e.K.length) (h0 : (gapInsert e.G (kGet e.K ((i % e.K.length : Nat) : Int)).1).2 = 0) (ho : EdOk (popE e ((i % e.K.length : Nat) : Int))) :
    ((gapInsert e.G (kGet e.K (((i + 1) % e.K.length : Nat) : Int)).1).2 = 0 → doE (popE e ((i % e.K.length : Nat) : Int)) ⟨4, 0, 0, 0⟩ 1 = (popE e (((i + 1) % e.K.length : Nat) : Int), 0)) ∧
    ((gapInsert e.G (kGet e.K (((i + 1) % e.K.length : Nat) : Int)).1).2 = 5 → doE (popE e ((i % e.K.length : Nat) : Int)) ⟨4, 0, 0, 0⟩ 1 = (edZ, 5)) := by
  have hS : ∀ X : EditM, actS X ⟨4, 0, 0, 0⟩ 1 = popS X := fun X => by simp [actS]
  have hb := gapBack1 h0
  have hT : (((i % e.K.length : Nat) : Int) + 1).tmod (e.K.length : Int) = (((i + 1) % e.K.length : Nat) : Int) := by
    rw [show ((i % e.K.length : Nat) : Int) + 1 = ((i % e.K.length + 1 : Nat) : Int) by omega, tmod_nn]
    congr 1
    rw [Nat.add_mod, Nat.mod_mod, ← Nat.add_mod]
  have hP : popS (popE e ((i % e.K.length : Nat) : Int)) = (popE e (((i + 1) % e.K.length : Nat) : Int), (gapInsert e.G (kGet e.K (((i + 1) % e.K.length : Nat) : Int)).1).2) := by
    rw [popS, if_neg (by simp [popE])]
    simp only [popE, putS, hb, hT]
  have hno : ¬ (edIs (popE e ((i % e.K.length : Nat) : Int)) = false ∨ (1 : Int) < -9999 ∨ (9999 : Int) < 1 ∨ actOk ⟨4, 0, 0, 0⟩ = false) := by
    rw [edIs_ok.2 ho]; decide
  refine ⟨fun hh => ?_, fun hh => ?_⟩
  · exact doE_of ho (by omega) (by decide) (by rw [hS, hP, hh])
  · rw [doE_no hno (by rw [hS, hP, hh]; simp), hS, hP, hh]

set_option maxHeartbeats 2000000 in
theorem pc_EditPops (n : Nat) (e : EditM) : (W (n + 26)).pc 10 [edD e] = some (.bool true) := by
  apply runs c_typebarlaw23_EditPops
  have hB := pc_Big (n + 24) e
  have hE := pc_edited (n + 1)
  by_cases hb : edBig e = true
  · rw [hb] at hB
    simp [X_typebarlaw23_EditPops, hB, hE]
  have hb' : edBig e = false := by simpa using hb
  rw [hb'] at hB
  have hsm := edBig_small hb'
  have hD := pc_edit_Do (n + 13) e ⟨3, 0, 0, 0⟩ 1 hsm.1
  by_cases h0 : (doE e ⟨3, 0, 0, 0⟩ 1).2 = 0
  · obtain ⟨hok, hn, he0, hx⟩ := doE_yank h0
    have hxo := edIs_ok.1 (doE_is h0)
    rw [hx] at hD hxo
    simp only [] at hxo
    have hgl := gapIs_ln hxo.g
    have hge := gapIs_ln hok.g
    have hTe := pc_gap_Text (n + 24) e.G (by omega) (by omega)
    have hSm := pc_ref23_Same (n + 21) (popE e 0) (popE e 0) (by omega) (by omega) (kIs_small hxo.k) (uIs_small hxo.u)
    simp only [and_self, decide_true] at hSm
    obtain ⟨x, hxx⟩ : ∃ x, x = popE e 0 := ⟨_, rfl⟩
    rw [← hxx] at hD hSm
    have hxk := Keep.mk hxx
    have hok' := Keep.mk hok
    have hst : Keep ((gapInsert e.G (kGet e.K ((0 % e.K.length : Nat) : Int)).1).2 = 0 ∧ EdOk (popE e ((0 % e.K.length : Nat) : Int))) := ⟨by rw [Nat.zero_mod]; exact ⟨he0, hxo⟩⟩
    have hKl := (kIs_len hok.k).1
    have hx0 := Keep.mk (show x = popE e ((0 % e.K.length : Nat) : Int) by rw [Nat.zero_mod, hxx]; rfl)
    clear hx h0 hxx hxo hok he0 hgl
    simp [X_typebarlaw23_EditPops, hD, hB]
    repeat' (first
      | simp (disch := omega) only [wrap_i64, wrap_i32]
      | (simp (disch := first | omega | assumption | (simp only [i64, i32]; omega) | (simp <;> omega) | fail) only [loadD_cpr, loadD_cprs, List.take_of_length_le]; simp [*])
      | (with_reducible refine And.intro ?_ ?_; focus first | omega | decide)
      | (with_reducible refine split_ite (fun hp => ?_) (fun hp => ?_) <;> (try simp at hp) <;> simp [*])
      | (with_reducible refine split_ite1 (fun hp => ?_) (fun hp => ?_) <;> (try simp at hp) <;> simp [*])
      | (refine split_cond (by simp) (fun hp => ?_) (fun hp => ?_) <;> simp at hp <;> simp [*])
      | (refine split_ops (by simp) (fun hp => ?_) (fun hp => ?_) <;> simp at hp <;> simp [*])
      | (refine split_opsD (by simp) (fun hp => ?_) (fun hp => ?_) <;> simp at hp <;> simp [*])
      | (refine split_pick (by simp) (fun hp => ?_) (fun hp => ?_) <;> simp at hp <;> simp [*])
      | omega
      | decide
      | (simp [*]))
    refine aw_rounds (fun m st => ∃ i : Nat, ∃ y : EditM, ∃ R : List Blk, st = ⟨tab [(1, .ptr 0 0 7), (3, .ptr 1 0 7), (5, .ptr 2 0 7), (6, .int .i64 i)], ⟨edL e, 0, true⟩ :: ⟨edL x, 0, true⟩ :: ⟨edL y, 0, true⟩ :: R⟩ ∧ i ≤ e.K.length ∧ m = e.K.length - i + 1 ∧ Keep (y = popE e ((i % e.K.length : Nat) : Int) ∧ (gapInsert e.G (kGet e.K ((i % e.K.length : Nat) : Int)).1).2 = 0 ∧ EdOk (popE e ((i % e.K.length : Nat) : Int)))) ?_ ?_ (n := e.K.length - (0) + 1) (by first | omega | (simp; omega)) ?_
    · rintro st ⟨i, y, hx⟩; omega
    rotate_left
    · exact ⟨0, x, _, by first | rfl | (simp [*, accS, accH]; done) | (simp only [*]; done) | (congr 1 <;> simp [*, accS, accH]; done) | (congr 1 <;> simp [*, accS, accH] <;> rfl) | (congr 1 <;> congr 1 <;> simp <;> omega), by first | omega | (simp; omega) | simp [*], by first | rfl | (simp; done) | omega, ⟨⟨hx0.out, hst.out⟩⟩⟩
    rintro Ja ma _ ⟨i, y, Ra, rfl, fa1, hma, hqa⟩ hJa
    by_cases hi : i < e.K.length
    · have hi' : (i : Int) < e.K.length := by omega
      obtain ⟨hy, q1, q2⟩ := hqa.out
      obtain ⟨p1, p2⟩ := doE_pop hok'.out hn q1 q2
      have hD1 := pc_edit_Do (n + 13) (popE e ((i % e.K.length : Nat) : Int)) ⟨4, 0, 0, 0⟩ 1 (edOk_sized q2)
      have hj : (i + 1) % e.K.length < e.K.length := Nat.mod_lt _ hn
      rw [← hy] at hD1 p1 p2
      clear hy
      rcases popE_err hok'.out hj with r0 | r5
      · have p3 := p1 r0
        have hl := popE_len hok'.out hj r0
        have hzo := edIs_ok.1 (doE_is (by rw [p3]))
        rw [p3] at hD1 hzo
        simp only [] at hzo
        have hgz := gapIs_ln hzo.g
        have hTz := pc_gap_Text (n + 24) (popE e (((i + 1) % e.K.length : Nat) : Int)).G (by omega) (by omega)
        have hsz : (popE e (((i + 1) % e.K.length : Nat) : Int)).Si = ((kGet e.K (((i + 1) % e.K.length : Nat) : Int)).1.length : Int) := rfl
        have hnx := Keep.mk (And.intro r0 hzo)
        generalize hz : popE e (((i + 1) % e.K.length : Nat) : Int) = z at *
        have hzk := Keep.mk hz
        have hli : ((z.G.A.length : Int) + (z.G.B.length : Int)) = (e.G.A.length : Int) + (e.G.B.length : Int) + z.Si := by
          simp only [List.length_append] at hl
          rw [hsz]; omega
        have hzs : 0 ≤ z.Si ∧ z.Si ≤ 1000 := by
          simp only [List.length_append] at hl
          rw [hsz]; omega
        clear hz hsz hl r0 p1 p2 p3 q1
        simp [hi, hi', hD1]
        repeat' (first
          | simp (disch := omega) only [wrap_i64, wrap_i32]
          | (simp (disch := first | omega | assumption | (simp only [i64, i32]; omega) | (simp <;> omega) | fail) only [loadD_cpr, loadD_cprs, List.take_of_length_le]; simp [*, hTz, hTe, hli, Nat.testBit])
          | (with_reducible refine And.intro ?_ ?_; focus first | omega | decide)
          | (with_reducible refine split_ite (fun hp => ?_) (fun hp => ?_) <;> (try simp at hp) <;> simp [*, hTz, hTe, hli, Nat.testBit])
          | (with_reducible refine split_ite1 (fun hp => ?_) (fun hp => ?_) <;> (try simp at hp) <;> simp [*, hTz, hTe, hli, Nat.testBit])
          | (refine split_cond (by simp) (fun hp => ?_) (fun hp => ?_) <;> simp at hp <;> simp [*, hTz, hTe, hli, Nat.testBit])
          | (refine split_ops (by simp) (fun hp => ?_) (fun hp => ?_) <;> simp at hp <;> simp [*, hTz, hTe, hli, Nat.testBit])
          | (refine split_opsD (by simp) (fun hp => ?_) (fun hp => ?_) <;> simp at hp <;> simp [*, hTz, hTe, hli, Nat.testBit])
          | (refine split_pick (by simp) (fun hp => ?_) (fun hp => ?_) <;> simp at hp <;> simp [*, hTz, hTe, hli, Nat.testBit])
          | omega
          | decide
          | (simp [*, hTz, hTe, hli, Nat.testBit]))
        all_goals trace_state
        exact hJa.out _ ⟨i + 1, z, _, by first | rfl | (simp [*, accS, accH]; done) | (simp only [*]; done) | (congr 1 <;> simp [*, accS, accH]; done) | (congr 1 <;> simp [*, accS, accH] <;> rfl) | (congr 1 <;> congr 1 <;> simp <;> omega), by first | omega | (simp; omega) | simp [*], by omega, ⟨⟨hzk.out.symm, by rw [hzk.out]; exact hnx.out⟩⟩⟩
      · have p3 := p2 r5
        rw [p3] at hD1
        clear p1 p2 p3 q1
        simp [hi, hi', hD1, hE]
        all_goals trace_state
    · have hi' : ¬ (i : Int) < e.K.length := by omega
      obtain rfl : i = e.K.length := by omega
      have hz : y = x := by rw [hqa.out.1, Nat.mod_self, hxk.out]; rfl
      subst hz
      simp [hi, hi', hE, hSm]
      all_goals trace_state
  · generalize (doE e ⟨3, 0, 0, 0⟩ 1).1 = y at hD
    generalize (doE e ⟨3, 0, 0, 0⟩ 1).2 = f at hD h0
    simp [X_typebarlaw23_EditPops, hD, hB, hE, h0]

end Go.Proofs.Ytcaglmjfphjpfaa
