/- What slices.Repeat and slices.Concat compute. -/
import Derived.Test.YtcaglmjfphjpfaaGreatSlices
import Derived.Test.YtcaglmjfphjpfaaGreatGapA
namespace Go.Proofs.YtcaglmjfphjpfaaGreat
open Go E
set_option linter.unusedSimpArgs false
set_option linter.unusedVariables false
set_option maxRecDepth 100000

theorem wrap_u64 {x : Int} (h : 0 ≤ x ∧ x < 18446744073709551616) : IntKind.u64.wrap x = x := by
  simp only [IntKind.wrap, IntKind.signed, IntKind.bits]
  simp
  omega

theorem and_low {b : Int} (h : 0 ≤ b ∧ b < 4294967296) : ((BitVec.ofInt 64 b &&& 4294967295#64).toNat : Int) = b := by
  obtain ⟨m, rfl⟩ : ∃ m : Nat, b = m := ⟨b.toNat, by omega⟩
  have e1 : BitVec.ofInt 64 (m : Int) = BitVec.ofNat 64 m := by simp
  rw [e1, BitVec.toNat_and, BitVec.toNat_ofNat, BitVec.toNat_ofNat, Nat.mod_eq_of_lt (show m < 2 ^ 64 by omega)]
  have := Nat.and_two_pow_sub_one_eq_mod m 32
  rw [show (4294967295 % 2 ^ 64 : Nat) = 2 ^ 32 - 1 by rfl, this, Nat.mod_eq_of_lt (by omega)]

theorem shr_low {b : Int} (h : 0 ≤ b ∧ b < 4294967296) : b.fdiv 4294967296 = 0 := by
  rw [Int.fdiv_eq_ediv_of_nonneg _ (by omega)]
  omega

theorem evBin_mask {b : Int} (h : 0 ≤ b ∧ b < 4294967296) : evBin .and (.int .u64 b) (.int .u64 4294967295) = some (.int .u64 b) := by
  have := and_low h
  rw [evBin_and]
  change some (D.int .u64 (IntKind.u64.wrap ((BitVec.ofInt 64 b &&& 4294967295#64).toNat : Int))) = _
  rw [this, wrap_u64 (by omega)]

theorem evBin_shr32 {b : Int} (h : 0 ≤ b ∧ b < 4294967296) : evBin .shr (.int .u64 b) (.int .u64 32) = some (.int .u64 0) := by
  have := shr_low h
  rw [evBin_shr]
  change (if (32 : Int) < 0 then none else some (D.int .u64 (b.fdiv 4294967296))) = _
  rw [this]; rfl

theorem pc_Mul64 (n : Nat) (b : Int) (h : 0 ≤ b ∧ b < 4294967296) : (W (n + 1)).pc 95 [.int .u64 1, .int .u64 b] = some (.tup [.int .u64 0, .int .u64 b]) := by
  apply runs c_math_bits_Mul64
  have a1 := evBin_mask h
  have a2 := evBin_mask (b := 1) (by omega)
  have a3 := evBin_mask (b := 0) (by omega)
  have s1 := evBin_shr32 h
  have s2 := evBin_shr32 (b := 1) (by omega)
  have s3 := evBin_shr32 (b := 0) (by omega)
  have w0 : IntKind.u64.wrap 0 = 0 := rfl
  have w1 : IntKind.u64.wrap 1 = 1 := rfl
  have wb := wrap_u64 (x := b) (by omega)
  simp [X_math_bits_Mul64, -evBin_and, -evBin_shr, a1, a2, a3, s1, s2, s3, w0, w1, wb]

theorem pc_Mul (n : Nat) (b : Int) (h : 0 ≤ b ∧ b < 4294967296) : (W (n + 2)).pc 71 [.int .u64 1, .int .u64 b] = some (.tup [.int .u64 0, .int .u64 b]) := by
  apply runs c_math_bits_Mul
  have h1 := pc_Mul64 n b h
  simp [X_math_bits_Mul, h1]
  rw [aw_cond_f rfl]
  simp [h1]

theorem zeros_rune (c : Nat) : zeros [.int .i32 0] c = cells runeC (List.replicate c 0) := by
  induction c with
  | zero => rfl
  | succ c ih => simp [zeros, ih, List.replicate_succ, runeC]

theorem rep_step (r : Int) (k m : Nat) (hk : k ≤ m) : over (List.replicate k r ++ List.replicate (m - k) 0) k (List.replicate (min k (m - k)) r) = List.replicate (k + min k (m - k)) r ++ List.replicate (m - (k + min k (m - k))) 0 := by
  simp only [over, List.length_replicate]
  rw [List.take_left' (by simp), ← List.drop_drop, List.drop_left' (by simp), List.drop_replicate, List.replicate_append_replicate]
  congr 2
  omega

theorem pc_Repeat (n : Nat) (r c : Int) (h : 0 ≤ c ∧ c < 2000000) : (W (n + 3)).pc 44 [rn [r], .int .i64 c] = some (rn (List.replicate c.toNat r)) := by
  apply runs c_slices_Repeat_S_rune_rune
  obtain ⟨M, rfl⟩ : ∃ M : Nat, c = M := ⟨c.toNat, by omega⟩
  have h1 := pc_Mul n M (by omega)
  have w1 : IntKind.u64.wrap 1 = 1 := rfl
  have wb := wrap_u64 (x := (M : Int)) (by omega)
  have q1 : ¬ (M : Int) < 0 := by omega
  have q2 : ¬ (9223372036854775807 : Int) < M := by omega
  have hz := zeros_rune M
  by_cases hm0 : M = 0
  · subst hm0
    have w0 : IntKind.u64.wrap 0 = 0 := rfl
    simp only [Int.natCast_zero] at *
    simp [w0, X_slices_Repeat_S_rune_rune, h1, w1, wb, q1, q2, hz]
    repeat' (first
      | simp (disch := omega) only [wrap_i64, wrap_i32]
      | (simp (disch := first | omega | assumption | (simp only [i64, i32]; omega) | (simp <;> omega) | fail) only [loadD_cpr, loadD_cprs, List.take_of_length_le]; simp [*])
      | (with_reducible refine And.intro ?_ ?_; focus first | omega | decide)
      | (with_reducible refine split_ite (fun hp => ?_) (fun hp => ?_) <;> (try simp at hp) <;> simp [*])
      | (with_reducible refine split_ite1 (fun hp => ?_) (fun hp => ?_) <;> (try simp at hp) <;> simp [*])
      | (refine split_cond (by simp) (fun hp => ?_) (fun hp => ?_) <;> simp at hp <;> simp [*])
      | (refine split_ops (by simp) (fun hp => ?_) (fun hp => ?_) <;> simp at hp <;> simp [*])
      | (refine split_opsD (by simp) (fun hp => ?_) (fun hp => ?_) <;> simp at hp <;> simp [*])
      | (refine split_pick (by simp) (fun hp => ?_) (fun hp => ?_) <;> simp at hp <;> simp [*])
      | omega
      | decide
      | (simp [*]))
    refine aw_rounds (fun m st => ∃ k : Nat, st = ⟨tab [(7, .ref 0 0 0 1 0 true), (8, .int .i64 k)], ⟨cells runeC [], 0, false⟩ :: []⟩ ∧ k ≤ 0 ∧ m = 0 + 1 ∧ Keep (True)) ?_ ?_ (n := 0 + 1) (by first | omega | (simp; omega)) ?_
    · rintro st ⟨k, hx⟩; omega
    rotate_left
    · exact ⟨0, by first | rfl | (simp [*, accS, accH]; done) | (simp only [*]; done) | (congr 1 <;> simp [*, accS, accH]; done) | (congr 1 <;> simp [*, accS, accH] <;> rfl) | (congr 1 <;> congr 1 <;> simp <;> omega), by first | omega | (simp; omega) | simp [*], by first | rfl | (simp; done) | omega, ⟨trivial⟩⟩
    rintro Jb mb _ ⟨k, rfl, fb1, hmb, hqb⟩ hJb
    simp
    repeat' (first
      | simp (disch := omega) only [wrap_i64, wrap_i32]
      | (simp (disch := first | omega | assumption | (simp only [i64, i32]; omega) | (simp <;> omega) | fail) only [loadD_cpr, loadD_cprs, List.take_of_length_le]; simp [*])
      | (with_reducible refine And.intro ?_ ?_; focus first | omega | decide)
      | (with_reducible refine split_ite (fun hp => ?_) (fun hp => ?_) <;> (try simp at hp) <;> simp [*])
      | (with_reducible refine split_ite1 (fun hp => ?_) (fun hp => ?_) <;> (try simp at hp) <;> simp [*])
      | (refine split_cond (by simp) (fun hp => ?_) (fun hp => ?_) <;> simp at hp <;> simp [*])
      | (refine split_ops (by simp) (fun hp => ?_) (fun hp => ?_) <;> simp at hp <;> simp [*])
      | (refine split_opsD (by simp) (fun hp => ?_) (fun hp => ?_) <;> simp at hp <;> simp [*])
      | (refine split_pick (by simp) (fun hp => ?_) (fun hp => ?_) <;> simp at hp <;> simp [*])
      | omega
      | decide
      | (simp [*]))
    all_goals rfl
  have hm1 : min 1 M = 1 := by omega
  simp [X_slices_Repeat_S_rune_rune, h1, w1, wb, q1, q2, hz]
  repeat' (first
    | simp (disch := omega) only [wrap_i64, wrap_i32]
    | (simp (disch := first | omega | assumption | (simp only [i64, i32]; omega) | (simp <;> omega) | fail) only [loadD_cpr, loadD_cprs, List.take_of_length_le]; simp [*, hm1])
    | (with_reducible refine And.intro ?_ ?_; focus first | omega | decide)
    | (with_reducible refine split_ite (fun hp => ?_) (fun hp => ?_) <;> (try simp at hp) <;> simp [*, hm1])
    | (with_reducible refine split_ite1 (fun hp => ?_) (fun hp => ?_) <;> (try simp at hp) <;> simp [*, hm1])
    | (refine split_cond (by simp) (fun hp => ?_) (fun hp => ?_) <;> simp at hp <;> simp [*, hm1])
    | (refine split_ops (by simp) (fun hp => ?_) (fun hp => ?_) <;> simp at hp <;> simp [*, hm1])
    | (refine split_opsD (by simp) (fun hp => ?_) (fun hp => ?_) <;> simp at hp <;> simp [*, hm1])
    | (refine split_pick (by simp) (fun hp => ?_) (fun hp => ?_) <;> simp at hp <;> simp [*, hm1])
    | omega
    | decide
    | (simp [*, hm1]))
  have e0 : putAt (cells runeC (List.replicate M 0)) 0 [.int .i32 r] = cells runeC (List.replicate 1 r ++ List.replicate (M - 1) 0) := by
    cases M with
    | zero => omega
    | succ k => simp [List.replicate_succ, runeC]
  rw [e0]
  clear e0 hz h1 w1 wb
  refine aw_rounds (fun m st => ∃ k : Nat, ∃ f : Nat, st = ⟨tab [(7, .ref 0 0 M 1 M true), (8, .int .i64 k)], ⟨cells runeC (List.replicate k r ++ List.replicate (M - k) 0), 0, false⟩ :: []⟩ ∧ k ≤ M ∧ 1 ≤ k ∧ M - k ≤ f ∧ m = f + 1 ∧ Keep (True)) ?_ ?_ (n := (M) + 1) (by first | omega | (simp; omega)) ?_
  · rintro st ⟨k, f, hx⟩; omega
  rotate_left
  · exact ⟨1, M, by first | rfl | (simp [*, accS, accH]; done) | (simp only [*]; done) | (congr 1 <;> simp [*, accS, accH]; done) | (congr 1 <;> simp [*, accS, accH] <;> rfl) | (congr 1 <;> congr 1 <;> simp <;> omega), by first | omega | (simp; omega) | simp [*], by first | omega | (simp; omega) | simp [*], by first | omega | (simp; omega) | simp [*], by first | rfl | (simp; done) | omega, ⟨trivial⟩⟩
  rintro Ja ma _ ⟨k, f, rfl, fa1, fa2, fa3, hma, hqa⟩ hJa
  by_cases hk : k < M
  · have hk' : (k : Int) < M := by omega
    simp [hk, hk']
    repeat' (first
      | simp (disch := omega) only [wrap_i64, wrap_i32]
      | (simp (disch := first | omega | assumption | (simp only [i64, i32]; omega) | (simp <;> omega) | fail) only [loadD_cpr, loadD_cprs, List.take_of_length_le]; simp [*])
      | (with_reducible refine And.intro ?_ ?_; focus first | omega | decide)
      | (with_reducible refine split_ite (fun hp => ?_) (fun hp => ?_) <;> (try simp at hp) <;> simp [*])
      | (with_reducible refine split_ite1 (fun hp => ?_) (fun hp => ?_) <;> (try simp at hp) <;> simp [*])
      | (refine split_cond (by simp) (fun hp => ?_) (fun hp => ?_) <;> simp at hp <;> simp [*])
      | (refine split_ops (by simp) (fun hp => ?_) (fun hp => ?_) <;> simp at hp <;> simp [*])
      | (refine split_opsD (by simp) (fun hp => ?_) (fun hp => ?_) <;> simp at hp <;> simp [*])
      | (refine split_pick (by simp) (fun hp => ?_) (fun hp => ?_) <;> simp at hp <;> simp [*])
      | omega
      | decide
      | (simp [*]))
    all_goals (rw [← cells_append, putAt_cells rfl, rep_step _ _ _ (by omega)])
    all_goals obtain ⟨f', rfl⟩ : ∃ f', f = f' + 1 := ⟨f - 1, by omega⟩
    exact hJa.out _ ⟨k + min k (M - k), f', by first | rfl | (simp [*, accS, accH]; done) | (simp only [*]; done) | (congr 1 <;> simp [*, accS, accH]; done) | (congr 1 <;> simp [*, accS, accH] <;> rfl) | (congr 1 <;> congr 1 <;> simp <;> omega), by first | omega | (simp; omega) | simp [*], by first | omega | (simp; omega) | simp [*], by first | omega | (simp; omega) | simp [*], by omega, ⟨trivial⟩⟩
  · have hk' : ¬ (k : Int) < M := by omega
    simp [hk, hk']
    repeat' (first
      | simp (disch := omega) only [wrap_i64, wrap_i32]
      | (simp (disch := first | omega | assumption | (simp only [i64, i32]; omega) | (simp <;> omega) | fail) only [loadD_cpr, loadD_cprs, List.take_of_length_le]; simp [*])
      | (with_reducible refine And.intro ?_ ?_; focus first | omega | decide)
      | (with_reducible refine split_ite (fun hp => ?_) (fun hp => ?_) <;> (try simp at hp) <;> simp [*])
      | (with_reducible refine split_ite1 (fun hp => ?_) (fun hp => ?_) <;> (try simp at hp) <;> simp [*])
      | (refine split_cond (by simp) (fun hp => ?_) (fun hp => ?_) <;> simp at hp <;> simp [*])
      | (refine split_ops (by simp) (fun hp => ?_) (fun hp => ?_) <;> simp at hp <;> simp [*])
      | (refine split_opsD (by simp) (fun hp => ?_) (fun hp => ?_) <;> simp at hp <;> simp [*])
      | (refine split_pick (by simp) (fun hp => ?_) (fun hp => ?_) <;> simp at hp <;> simp [*])
      | omega
      | decide
      | (simp [*]))
    all_goals obtain rfl : k = M := by omega
    all_goals exact row_is (by simp) (by simp)

end Go.Proofs.YtcaglmjfphjpfaaGreat
