/- The document's answer for layer 23: what an act makes of a line. -/
import Derived.Test.YtcaglmjfphjpfaaGreatEditQ
namespace Go.Proofs.YtcaglmjfphjpfaaGreat
open Go E
set_option linter.unusedSimpArgs false
set_option linter.unusedVariables false
set_option maxRecDepth 100000

theorem doE_fin {e : EditM} {a : ActM} {c : Int} (h : ¬ (edIs e = false ∨ c < -9999 ∨ 9999 < c ∨ actOk a = false)) : doE e a c = finS (actS e a c) := by rw [doE, if_neg h, finS]

theorem appD_acc4 (b0 b1 b2 b3 : Blk) (X : List Int) (v : Int) (f : Bool) (hb : X.length < 2000000) : appD (b0 :: b1 :: b2 :: b3 :: accH runeC X) 1 4 (accS runeC 4 X) (.arr 1 f [.int .i32 v]) = some (accS runeC 4 (X ++ [v]), b0 :: b1 :: b2 :: b3 :: accH runeC (X ++ [v])) := by
  by_cases h : X = []
  · subst h; simp [accH, accS, appD]
  · simp [accH, accS, h, appD, contents]
    omega

set_option maxHeartbeats 1000000 in
theorem pc_ref23_Do_bad (n : Nat) (e : EditM) (a : ActM) (c : Int) (hA : e.G.A.length < 2000000) (hB : e.G.B.length < 2000000) (hK : small e.K) (hU : smallU e.U) (hbad : edIs e = false ∨ c < -9999 ∨ 9999 < c ∨ actOk a = false) :
    (W (n + 10)).pc 6 [edD e, acD a, .int .i64 c] = some (.tup [edD (doE e a c).1, eD (doE e a c).2]) := by
  apply runs c_typebarref23_Do
  have hI := pc_ref23_Is (n + 3) e hA hB hK hU
  have hN := pc_ref23_known (n + 7) a
  rw [doE_bad hbad]
  cases q1 : edIs e
  · rw [q1] at hI
    simp [X_typebarref23_Do, hI, putAt]
    all_goals exact ⟨rfl, rfl, rfl, rfl, rfl, rfl, rfl⟩
  rw [q1] at hI
  by_cases q2 : c < -9999
  · simp [X_typebarref23_Do, hI, q2, putAt]
    all_goals exact ⟨rfl, rfl, rfl, rfl, rfl, rfl, rfl⟩
  by_cases q3 : 9999 < c
  · simp [X_typebarref23_Do, hI, q2, q3, putAt]
    all_goals exact ⟨rfl, rfl, rfl, rfl, rfl, rfl, rfl⟩
  have q4 : actOk a = false := by
    rcases hbad with h | h | h | h
    · rw [q1] at h; simp at h
    · omega
    · omega
    · exact h
  rw [q4] at hN
  simp [X_typebarref23_Do, hI, hN, q2, q3, putAt]
  all_goals exact ⟨rfl, rfl, rfl, rfl, rfl, rfl, rfl⟩

set_option maxHeartbeats 2000000 in
theorem pc_ref23_Do (n : Nat) (e : EditM) (a : ActM) (c : Int) (hA : e.G.A.length < 2000000) (hB : e.G.B.length < 2000000) (hK : small e.K) (hU : smallU e.U) :
    (W (n + 10)).pc 6 [edD e, acD a, .int .i64 c] = some (.tup [edD (doE e a c).1, eD (doE e a c).2]) := by
  by_cases hbad : edIs e = false ∨ c < -9999 ∨ 9999 < c ∨ actOk a = false
  · exact pc_ref23_Do_bad n e a c hA hB hK hU hbad
  have hF := doE_fin hbad
  simp only [not_or, Bool.not_eq_false, Int.not_lt] at hbad
  obtain ⟨q1, q2, q3, q4⟩ := hbad
  have hE := edIs_ok.1 q1
  obtain ⟨g1, g2, g3⟩ := gapIs_ln hE.g
  have hkk := kIs_len hE.k
  have hI := pc_ref23_Is (n + 3) e hA hB hK hU
  have hN := pc_ref23_known (n + 7) a
  have hP := pc_ref13_Push (n + 3) e.U e.G hU hA hB
  rw [q1] at hI
  rw [q4] at hN
  have r2 : ¬ c < -9999 := by omega
  have r3 : ¬ 9999 < c := by omega
  have q4' := q4
  simp only [actOk, Bool.and_eq_true, Bool.or_eq_true, decide_eq_true_eq] at q4'
  obtain ⟨⟨k1, k2⟩, k3⟩ := q4'
  rw [hF]
  obtain hk | hk | hk | hk | hk | hk : a.k = 1 ∨ a.k = 2 ∨ a.k = 3 ∨ a.k = 4 ∨ a.k = 5 ∨ a.k = 6 := by omega
  · have hS : actS e a c = moveS e a c := by simp [actS, hk]
    rw [hS]
    have hm := pc_ref23_moved n e a c hE (by omega)
    apply runs c_typebarref23_Do
    generalize finS (moveS e a c) = R at hm ⊢
    simp only [acD, hk] at hm hN
    simp [X_typebarref23_Do, hI, hN, hP, r2, r3, hk, hm, putAt]
  · have hS : actS e a c = insS e a.r c := by simp [actS, hk]
    have hr : isR a.r = true := by simpa [actOk, hk] using q4
    rw [hS]
    simp only [acD, hk] at hN
    by_cases c1 : c < 1
    · have hR : finS (insS e a.r c) = (edZ, 7) := by rw [insS, if_pos c1, finS, if_pos (by simp)]
      rw [hR]
      apply runs c_typebarref23_Do
      simp [X_typebarref23_Do, hI, hN, hP, r2, r3, hk, c1, putAt]
      all_goals exact ⟨rfl, rfl, rfl, rfl, rfl, rfl, rfl⟩
    obtain ⟨z, rfl⟩ : ∃ z : Nat, c = z := ⟨c.toNat, by omega⟩
    by_cases c2 : 200 < (z : Int)
    · have hR : finS (insS e a.r z) = (edZ, 5) := by
        have hg : gapInsert e.G (List.replicate z a.r) = (⟨[], []⟩, 5) := by
          have hal : allR (List.replicate z a.r) = true := by
            simp only [allR, List.all_eq_true]
            intro x hx
            rw [(List.mem_replicate.1 hx).2]; exact hr
          rw [gapInsert, if_neg (by rw [hE.g, hal]; simp), if_pos (by simp; omega)]
        rw [insS, if_neg c1, Int.toNat_natCast, hg, finS, if_pos (by simp)]
      rw [hR]
      apply runs c_typebarref23_Do
      simp [X_typebarref23_Do, hI, hN, hP, r2, r3, hk, c1, c2, putAt]
      all_goals exact ⟨rfl, rfl, rfl, rfl, rfl, rfl, rfl⟩
    apply runs c_typebarref23_Do
    have hIns := pc_ref10_Insert (n + 5) e.G (List.replicate z a.r) hA hB (by simp; omega)
    obtain ⟨R, hRR⟩ : ∃ R, R = finS (insS e a.r z) := ⟨_, rfl⟩
    have hRk := Keep.mk hRR
    rw [← hRR]
    clear hRR hF hS
    simp [X_typebarref23_Do, hI, hN, hP, r2, r3, hk, c1, c2, putAt]
    refine aw_rounds (fun m st => ∃ i : Nat, st = ⟨tab [(2, .int .i64 z), (3, .ptr 0 0 7), (4, .ptr 1 0 4), (6, .ptr 2 0 7), (8, .ptr 3 0 1), (9, accS runeC 4 (List.replicate i a.r)), (10, .int .i64 i)], ⟨edL e, 0, true⟩ :: ⟨[.int .i64 2, .int .i64 a.m, .int .i64 a.o, .int .i32 a.r], 0, true⟩ :: ⟨[.arr 0 true [], .arr 0 true [], .arr 0 true [], .arr 0 true [], .int .i64 0, .int .i64 0, .int .i64 0], 0, true⟩ :: ⟨[grn (uPush e.U e.G)], 0, true⟩ :: accH runeC (List.replicate i a.r)⟩ ∧ i ≤ z ∧ m = z - i + 1 ∧ Keep (True)) ?_ ?_ (n := z - (0) + 1) (by first | omega | (simp; omega)) ?_
    · rintro st ⟨i, hx⟩; omega
    rotate_left
    · exact ⟨0, by first | rfl | (simp [*, accS, accH]; done) | (simp only [*]; done) | (congr 1 <;> simp [*, accS, accH]; done) | (congr 1 <;> simp [*, accS, accH] <;> rfl) | (congr 1 <;> congr 1 <;> simp <;> omega), by first | omega | (simp; omega) | simp [*], by first | rfl | (simp; done) | omega, ⟨trivial⟩⟩
    rintro Ja ma _ ⟨i, rfl, fa1, hma, hqa⟩ hJa
    by_cases hi : i < z
    · have hi' : (i : Int) < z := by omega
      have hap := appD_acc4 ⟨edL e, 0, true⟩ ⟨[.int .i64 2, .int .i64 a.m, .int .i64 a.o, .int .i32 a.r], 0, true⟩ ⟨[.arr 0 true [], .arr 0 true [], .arr 0 true [], .arr 0 true [], .int .i64 0, .int .i64 0, .int .i64 0], 0, true⟩ ⟨[grn (uPush e.U e.G)], 0, true⟩ (List.replicate i a.r) a.r true (by simp; omega)
      rw [← List.replicate_succ'] at hap
      simp [hi, hi', hap]
      repeat' (first
        | simp (disch := omega) only [wrap_i64, wrap_i32]
        | (simp (disch := first | omega | assumption | (simp only [i64, i32]; omega) | (simp <;> omega) | fail) only [loadD_cpr, loadD_cprs, List.take_of_length_le]; simp [*, hap])
        | (with_reducible refine And.intro ?_ ?_; focus first | omega | decide)
        | (with_reducible refine split_ite (fun hp => ?_) (fun hp => ?_) <;> (try simp at hp) <;> simp [*, hap])
        | (with_reducible refine split_ite1 (fun hp => ?_) (fun hp => ?_) <;> (try simp at hp) <;> simp [*, hap])
        | (refine split_cond (by simp) (fun hp => ?_) (fun hp => ?_) <;> simp at hp <;> simp [*, hap])
        | (refine split_ops (by simp) (fun hp => ?_) (fun hp => ?_) <;> simp at hp <;> simp [*, hap])
        | (refine split_opsD (by simp) (fun hp => ?_) (fun hp => ?_) <;> simp at hp <;> simp [*, hap])
        | (refine split_pick (by simp) (fun hp => ?_) (fun hp => ?_) <;> simp at hp <;> simp [*, hap])
        | omega
        | decide
        | (simp [*, hap]))
      exact hJa.out _ ⟨i + 1, by first | rfl | (simp [*, accS, accH]; done) | (simp only [*]; done) | (congr 1 <;> simp [*, accS, accH]; done) | (congr 1 <;> simp [*, accS, accH] <;> rfl) | (congr 1 <;> congr 1 <;> simp <;> omega), by first | omega | (simp; omega) | simp [*], by omega, ⟨trivial⟩⟩
    · have hi' : ¬ (i : Int) < z := by omega
      obtain rfl : i = z := by omega
      have hX : ¬ List.replicate i a.r = [] := by
        intro hh
        have := congrArg List.length hh
        simp at this
        omega
      have hfz : D.arr i false (List.take i (cells runeC (List.replicate i a.r))) = rn (List.replicate i a.r) := row_is (by simp) (List.take_of_length_le (by simp))
      have hfz2 : D.arr i false (cells runeC (List.replicate i a.r)) = rn (List.replicate i a.r) := row_is (by simp) rfl
      have hi0 : ¬ i = 0 := by omega
      have hRo := hRk.out
      rw [insS, if_neg c1, Int.toNat_natCast] at hRo
      have eS : accS runeC 4 (List.replicate i a.r) = .ref 4 0 i 1 i false := by simp [accS, hi0]
      have eH : accH runeC (List.replicate i a.r) = [⟨cells runeC (List.replicate i a.r), 0, false⟩] := by simp [accH, hi0]
      rw [eS, eH]
      have hXl : (List.replicate i a.r).length = i := by simp
      have hfz3 : D.arr i false (cells runeC (List.take i (List.replicate i a.r))) = rn (List.replicate i a.r) := row_is (by simp) (by rw [List.take_of_length_le (by simp)])
      generalize hgi : gapInsert e.G (List.replicate i a.r) = Z at hIns hRo
      generalize List.replicate i a.r = X at *
      clear hRk hgi eS eH
      by_cases h0 : Z.2 = 0
      · rw [finS, if_neg (by simp [h0])] at hRo
        rw [h0] at hIns
        by_cases hla : e.La = 1
        · simp only [hla, if_true] at hRo
          subst hRo
          simp [hX, hXl, hi0, hIns, hfz, hfz2, hfz3, hla, h0, putAt, Nat.testBit]
        · simp only [hla, if_false] at hRo
          subst hRo
          simp [hX, hXl, hi0, hIns, hfz, hfz2, hfz3, hla, h0, putAt, Nat.testBit]
      · rw [finS, if_pos (by simpa using h0)] at hRo
        subst hRo
        simp [hX, hXl, hi0, hIns, hfz, hfz2, hfz3, h0, putAt, Nat.testBit]
        all_goals exact ⟨rfl, rfl, rfl, rfl, rfl, rfl, rfl⟩
  · have hS : actS e a c = yankS e := by simp [actS, hk]
    rw [hS]
    simp only [acD, hk] at hN
    by_cases c1 : e.K.length = 0
    · have hR : finS (yankS e) = (edZ, 7) := by rw [yankS, if_pos c1, finS, if_pos (by simp)]
      rw [hR]
      have c0 : e.K = [] := List.eq_nil_of_length_eq_zero c1
      apply runs c_typebarref23_Do
      simp only [edD, c0] at hI
      simp [X_typebarref23_Do, hI, hN, hP, r2, r3, hk, c1, c0, putAt]
      all_goals exact ⟨rfl, rfl, rfl, rfl, rfl, rfl, rfl⟩
    · have hy := pc_ref23_yanked (n + 2) e e.G 0 hK hA hB (by simp [i64])
      have c0 : ¬ e.K = [] := fun hh => c1 (by rw [hh]; rfl)
      by_cases h0 : (gapInsert e.G (kGet e.K 0).1).2 = 0
      · have hR : finS (yankS e) = (⟨(gapInsert e.G (kGet e.K 0).1).1, e.K, uPush e.U e.G, 3, 0, (kGet e.K 0).1.length⟩, 0) := by
          rw [yankS, if_neg c1, finS, if_neg (by simp [putS, h0]), putS, h0]
        have hR2 : finS (putS e e.G 0 e.U) = (⟨(gapInsert e.G (kGet e.K 0).1).1, e.K, e.U, 3, 0, (kGet e.K 0).1.length⟩, 0) := by
          rw [finS, if_neg (by simp [putS, h0]), putS, h0]
        rw [hR2] at hy
        rw [hR]
        clear hF hS hR hR2
        generalize (gapInsert e.G (kGet e.K 0).1).1 = Y at hy ⊢
        generalize (kGet e.K 0).1 = X at hy ⊢
        apply runs c_typebarref23_Do
        simp [X_typebarref23_Do, hI, hN, hP, r2, r3, hk, c1, c0, hy, putAt]
      · have hR : finS (yankS e) = (edZ, (gapInsert e.G (kGet e.K 0).1).2) := by
          rw [yankS, if_neg c1, finS, if_pos (by simp [putS, h0]), putS]
        have hR2 : finS (putS e e.G 0 e.U) = (edZ, (gapInsert e.G (kGet e.K 0).1).2) := by
          rw [finS, if_pos (by simp [putS, h0]), putS]
        rw [hR2] at hy
        rw [hR]
        clear hF hS hR hR2
        generalize (gapInsert e.G (kGet e.K 0).1).2 = r at hy h0 ⊢
        apply runs c_typebarref23_Do
        simp [X_typebarref23_Do, hI, hN, hP, r2, r3, hk, c1, c0, hy, h0, putAt]
  · have hS : actS e a c = popS e := by simp [actS, hk]
    rw [hS]
    simp only [acD, hk] at hN
    by_cases c1 : e.La = 3
    · obtain ⟨t1, t2, t3, t4⟩ := hE.tu c1
      have hcl := gapCut_len e.G (-e.Si)
      have hc := pc_ref10_Cut (n + 5) e.G (-e.Si) hA hB (by omega)
      have hT : 0 ≤ (e.Tu + 1).tmod e.K.length ∧ (e.Tu + 1).tmod e.K.length < e.K.length := ⟨Int.tmod_nonneg _ (by omega), Int.tmod_lt_of_pos _ (by omega)⟩
      have hy := pc_ref23_yanked (n + 2) e (gapCut e.G (-e.Si)).1 ((e.Tu + 1).tmod e.K.length) hK (by omega) (by omega) (by simp only [i64]; omega)
      have hR : finS (popS e) = finS (putS e (gapCut e.G (-e.Si)).1 ((e.Tu + 1).tmod e.K.length) e.U) := by rw [popS, if_neg (by simp [c1])]
      have w1 : IntKind.i64.wrap (e.Tu + 1) = e.Tu + 1 := wrap_i64 (by omega)
      have w2 : IntKind.i64.wrap (-e.Si) = -e.Si := wrap_i64 (by omega)
      have hk0 : ¬ e.K = [] := fun hh => by rw [hh] at t2; simp at t2; omega
      rw [hR]
      apply runs c_typebarref23_Do
      clear hF hS hR
      generalize finS (putS e (gapCut e.G (-e.Si)).1 ((e.Tu + 1).tmod e.K.length) e.U) = R at hy ⊢
      simp only [edD, c1] at hy hI
      simp [X_typebarref23_Do, hI, hN, hP, r2, r3, hk, c1, hc, hy, w1, w2, hk0, putAt, Nat.testBit]
    · have hR : finS (popS e) = (edZ, 7) := by rw [popS, if_pos c1, finS, if_pos (by simp)]
      rw [hR]
      apply runs c_typebarref23_Do
      simp [X_typebarref23_Do, hI, hN, hP, r2, r3, hk, c1, putAt]
      all_goals exact ⟨rfl, rfl, rfl, rfl, rfl, rfl, rfl⟩
  · have hS : actS e a c = backS e := by simp [actS, hk]
    rw [hS]
    simp only [acD, hk] at hN
    have hb := pc_ref13_Pop (n + 3) e.U hU
    by_cases h0 : (uPop e.U).2.2 = 0
    · have hR : finS (backS e) = (⟨(uPop e.U).2.1, e.K, (uPop e.U).1, 0, 0, 0⟩, 0) := by rw [backS, if_neg (by simp [h0]), finS, if_neg (by simp)]
      rw [hR]
      rw [h0] at hb
      apply runs c_typebarref23_Do
      clear hF hS hR
      generalize (uPop e.U).1 = Y at hb ⊢
      generalize (uPop e.U).2.1 = g at hb ⊢
      simp [X_typebarref23_Do, hI, hN, hP, r2, r3, hk, hb, putAt]
    · have hR : finS (backS e) = (edZ, 7) := by rw [backS, if_pos h0, finS, if_pos (by simp)]
      rw [hR]
      apply runs c_typebarref23_Do
      clear hF hS hR
      generalize (uPop e.U).2.2 = r at hb h0
      simp [X_typebarref23_Do, hI, hN, hP, r2, r3, hk, hb, h0, putAt]
      all_goals exact ⟨rfl, rfl, rfl, rfl, rfl, rfl, rfl⟩
  · have hS : actS e a c = swapS e := by simp [actS, hk]
    rw [hS]
    simp only [acD, hk] at hN
    have hb := pc_ref14_Swap (n + 3) e.G hA hB
    by_cases h0 : (gSwap e.G).2 = 0
    · have hR : finS (swapS e) = (⟨(gSwap e.G).1, e.K, uPush e.U e.G, 0, 0, 0⟩, 0) := by rw [swapS, h0, finS, if_neg (by simp)]
      rw [hR]
      rw [h0] at hb
      apply runs c_typebarref23_Do
      clear hF hS hR
      generalize (gSwap e.G).1 = g at hb ⊢
      simp [X_typebarref23_Do, hI, hN, hP, r2, r3, hk, hb, putAt]
    · have hR : finS (swapS e) = (edZ, (gSwap e.G).2) := by rw [swapS, finS, if_pos (by simpa using h0)]
      rw [hR]
      apply runs c_typebarref23_Do
      clear hF hS hR
      generalize (gSwap e.G).2 = r at hb h0 ⊢
      simp [X_typebarref23_Do, hI, hN, hP, r2, r3, hk, hb, h0, putAt]
      all_goals exact ⟨rfl, rfl, rfl, rfl, rfl, rfl, rfl⟩

end Go.Proofs.YtcaglmjfphjpfaaGreat
