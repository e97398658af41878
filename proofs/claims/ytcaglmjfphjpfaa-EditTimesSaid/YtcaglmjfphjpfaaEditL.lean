/- The law on a sign that is typed so many times. -/
import Derived.Test.YtcaglmjfphjpfaaEditK
namespace Go.Proofs.Ytcaglmjfphjpfaa
open Go E
set_option linter.unusedSimpArgs false
set_option linter.unusedVariables false
set_option maxRecDepth 100000

/-- The line behind so many signs. -/
def timesE (e : EditM) (r : Int) (i : Nat) : EditM := if i = 0 then e else ⟨⟨e.G.A ++ List.replicate i r, e.G.B⟩, e.K, if e.La = 1 then e.U else uPush e.U e.G, 1, 0, 0⟩

theorem allR_rep (r : Int) (i : Nat) (h : isR r = true) : allR (List.replicate i r) = true := by
  simp only [allR, List.all_eq_true]
  intro x hx
  rw [(List.mem_replicate.1 hx).2]; exact h

theorem timesE_one {e : EditM} {r : Int} {i : Nat} (h : EdOk e) (hr : isR r = true) (hn : e.G.A.length + e.G.B.length + i + 1 ≤ 200) (ho : EdOk (timesE e r i)) : doE (timesE e r i) ⟨2, 0, 0, r⟩ 1 = (timesE e r (i + 1), 0) := by
  refine doE_of ho (by omega) (by simp [actOk, hr]) ?_
  have hS : actS (timesE e r i) ⟨2, 0, 0, r⟩ 1 = insS (timesE e r i) r 1 := by simp [actS]
  rw [hS, insS, if_neg (by simp)]
  have hin : gapInsert (timesE e r i).G (List.replicate (1 : Int).toNat r) = (⟨e.G.A ++ List.replicate (i + 1) r, e.G.B⟩, 0) := by
    have hg := ho.g
    by_cases h0 : i = 0
    · subst h0
      simp only [timesE, if_true] at hg ⊢
      rw [gapInsert, if_neg (by rw [hg, allR_rep _ _ hr]; simp), if_neg (by simp; omega)]
      rfl
    · simp only [timesE, h0, if_false] at hg ⊢
      rw [gapInsert, if_neg (by rw [hg, allR_rep _ _ hr]; simp), if_neg (by simp; omega)]
      simp [List.replicate_succ']
  rw [hin]
  by_cases h0 : i = 0
  · subst h0
    simp [timesE]
  · simp [timesE, h0]

theorem doE_times {e : EditM} {r n : Int} (h0 : (doE e ⟨2, 0, 0, r⟩ n).2 = 0) : ∃ z : Nat, n = z ∧ 1 ≤ z ∧ z ≤ 200 ∧ isR r = true ∧ EdOk e ∧ e.G.A.length + e.G.B.length + z ≤ 200 ∧ doE e ⟨2, 0, 0, r⟩ n = (timesE e r z, 0) := by
  obtain ⟨k1, k2, k3, k4, k5⟩ := doE_ok h0
  have hS : actS e ⟨2, 0, 0, r⟩ n = insS e r n := by simp [actS]
  have hr : isR r = true := by simpa [actOk] using k2
  rw [hS, insS] at k4 k5
  by_cases h1 : n < 1
  · rw [if_pos h1] at k4; simp at k4
  rw [if_neg h1] at k4 k5
  obtain ⟨z, rfl⟩ : ∃ z : Nat, n = z := ⟨n.toNat, by omega⟩
  simp only [Int.toNat_natCast] at k4 k5
  have hl : ¬ 200 < e.G.A.length + e.G.B.length + (List.replicate z r).length := by
    intro hh
    rw [gapInsert, if_neg (by rw [k1.g, allR_rep _ _ hr]; simp), if_pos hh] at k4
    simp at k4
  have hin : gapInsert e.G (List.replicate z r) = (⟨e.G.A ++ List.replicate z r, e.G.B⟩, 0) := by
    rw [gapInsert, if_neg (by rw [k1.g, allR_rep _ _ hr]; simp), if_neg hl]
  rw [hin] at k5
  simp only [List.length_replicate] at hl
  refine ⟨z, rfl, by omega, by omega, hr, k1, by omega, ?_⟩
  have hz : ¬ z = 0 := by omega
  rw [k5]
  simp only [timesE, hz, if_false]

theorem timesE_ok {e : EditM} {r : Int} (h : EdOk e) (hr : isR r = true) : ∀ i : Nat, e.G.A.length + e.G.B.length + i ≤ 200 → EdOk (timesE e r i)
  | 0, _ => by simpa [timesE] using h
  | i + 1, hi => by
    have := timesE_one h hr (by omega) (timesE_ok h hr i (by omega))
    have h2 := edIs_ok.1 (doE_is (by rw [this] : (doE (timesE e r i) ⟨2, 0, 0, r⟩ 1).2 = 0))
    rw [this] at h2
    exact h2

set_option maxHeartbeats 2000000 in
theorem pc_EditTimes (n : Nat) (e : EditM) (r c : Int) (hs : EdSized e) : (W (n + 26)).pc 9 [edD e, .int .i32 r, .int .i64 c] = some (.bool true) := by
  apply runs c_typebarlaw23_EditTimes
  have hD := pc_edit_Do (n + 13) e ⟨2, 0, 0, r⟩ c hs
  have hB := pc_Big (n + 24) e
  have hE := pc_edited (n + 1)
  by_cases hb : edBig e = true
  · rw [hb] at hB
    generalize doE e ⟨2, 0, 0, r⟩ c = R at hD
    simp [X_typebarlaw23_EditTimes, hD, hB, hE]
  have hb' : edBig e = false := by simpa using hb
  rw [hb'] at hB
  have hsm := edBig_small hb'
  by_cases h0 : (doE e ⟨2, 0, 0, r⟩ c).2 = 0
  · obtain ⟨z, rfl, z1, z2, hr, hok, hle, hx⟩ := doE_times h0
    rw [hx] at hD
    have q1 : ¬ (200 : Int) < z := by omega
    have hxo := timesE_ok hok hr z hle
    have hgl := gapIs_ln hxo.g
    have hSm := pc_ref23_Same (n + 21) (timesE e r z) (timesE e r z) (by omega) (by omega) (kIs_small hxo.k) (uIs_small hxo.u)
    simp only [and_self, decide_true] at hSm
    obtain ⟨x, hxx⟩ : ∃ x, x = timesE e r z := ⟨_, rfl⟩
    rw [← hxx] at hD hSm
    have hxk := Keep.mk hxx
    clear hx h0 hxx hxo hgl
    simp [X_typebarlaw23_EditTimes, hD, hB, q1]
    repeat' (first
      | simp (disch := omega) only [wrap_i64, wrap_i32]
      | (simp (disch := first | omega | assumption | (simp only [i64, i32]; omega) | (simp <;> omega) | fail) only [loadD_cpr, loadD_cprs, List.take_of_length_le]; simp [*, q1])
      | (with_reducible refine And.intro ?_ ?_; focus first | omega | decide)
      | (with_reducible refine split_ite (fun hp => ?_) (fun hp => ?_) <;> (try simp at hp) <;> simp [*, q1])
      | (with_reducible refine split_ite1 (fun hp => ?_) (fun hp => ?_) <;> (try simp at hp) <;> simp [*, q1])
      | (refine split_cond (by simp) (fun hp => ?_) (fun hp => ?_) <;> simp at hp <;> simp [*, q1])
      | (refine split_ops (by simp) (fun hp => ?_) (fun hp => ?_) <;> simp at hp <;> simp [*, q1])
      | (refine split_opsD (by simp) (fun hp => ?_) (fun hp => ?_) <;> simp at hp <;> simp [*, q1])
      | (refine split_pick (by simp) (fun hp => ?_) (fun hp => ?_) <;> simp at hp <;> simp [*, q1])
      | omega
      | decide
      | (simp [*, q1]))
    refine aw_rounds (fun m st => ∃ i : Nat, ∃ R : List Blk, st = ⟨tab [(2, .int .i64 z), (3, .ptr 0 0 7), (7, .ptr 1 0 4), (8, .ptr 2 0 7), (10, .int .i64 i)], ⟨edL (timesE e r i), 0, true⟩ :: ⟨[.int .i64 2, .int .i64 0, .int .i64 0, .int .i32 r], 0, true⟩ :: ⟨edL x, 0, true⟩ :: R⟩ ∧ i ≤ z ∧ m = z - i + 1 ∧ Keep (True)) ?_ ?_ (n := z - (0) + 1) (by first | omega | (simp; omega)) ?_
    · rintro st ⟨i, hx⟩; omega
    rotate_left
    · exact ⟨0, _, by first | rfl | (simp [*, accS, accH]; done) | (simp only [*]; done) | (congr 1 <;> simp [*, accS, accH]; done) | (congr 1 <;> simp [*, accS, accH] <;> rfl) | (congr 1 <;> congr 1 <;> simp <;> omega), by first | omega | (simp; omega) | simp [*], by first | rfl | (simp; done) | omega, ⟨trivial⟩⟩
    rintro Ja ma _ ⟨i, Ra, rfl, fa1, hma, hqa⟩ hJa
    by_cases hi : i < z
    · have hi' : (i : Int) < z := by omega
      have ho := timesE_ok hok hr i (by omega)
      have hD1 := pc_edit_Do (n + 13) (timesE e r i) ⟨2, 0, 0, r⟩ 1 (edOk_sized ho)
      rw [timesE_one hok hr (by omega) ho] at hD1
      generalize timesE e r i = y at *
      obtain ⟨y', hy'⟩ : ∃ y', y' = timesE e r (i + 1) := ⟨_, rfl⟩
      rw [← hy'] at hD1
      have hyk := Keep.mk hy'
      clear hy'
      simp [hi, hi', hD1]
      simp (disch := omega) only [wrap_i64]
      rw [hyk.out]
      exact hJa.out _ ⟨i + 1, _, by first | rfl | (simp [*, accS, accH]; done) | (simp only [*]; done) | (congr 1 <;> simp [*, accS, accH]; done) | (congr 1 <;> simp [*, accS, accH] <;> rfl) | (congr 1 <;> congr 1 <;> simp <;> omega), by first | omega | (simp; omega) | simp [*], by omega, ⟨trivial⟩⟩
    · have hi' : ¬ (i : Int) < z := by omega
      obtain rfl : i = z := by omega
      rw [← hxk.out]
      have z0 : (0 : Int) < i := by omega
      have z0' : 0 < i := by omega
      simp [hi, hi', hE, z0, z0', hSm]
      all_goals trace_state
  · generalize (doE e ⟨2, 0, 0, r⟩ c).1 = y at hD
    generalize (doE e ⟨2, 0, 0, r⟩ c).2 = f at hD h0
    simp [X_typebarlaw23_EditTimes, hD, hB, hE, h0]

end Go.Proofs.Ytcaglmjfphjpfaa
