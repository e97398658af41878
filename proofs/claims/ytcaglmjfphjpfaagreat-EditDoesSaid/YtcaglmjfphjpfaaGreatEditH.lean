/- The laws on what stays right, and on what is undone. -/
import Derived.Test.YtcaglmjfphjpfaaGreatEditG
import Derived.Test.YtcaglmjfphjpfaaGreatEditB
namespace Go.Proofs.YtcaglmjfphjpfaaGreat
open Go E
set_option linter.unusedSimpArgs false
set_option linter.unusedVariables false
set_option maxRecDepth 100000

def actC : Cell ActM := ⟨fun a => [.int .i64 a.k, .int .i64 a.m, .int .i64 a.o, .int .i32 a.r], 4, fun _ => rfl, fun a b h => by cases a; cases b; simpa using h, fun _ => by simp⟩

@[simp] theorem actC_sz : actC.sz = 4 := id rfl
@[simp] theorem actC_enc (a : ActM) : actC.enc a = [.int .i64 a.k, .int .i64 a.m, .int .i64 a.o, .int .i32 a.r] := id rfl

abbrev arn (l : List ActM) : D := row actC false l

def edBig (e : EditM) : Bool := decide (1000 < e.G.A.length) || decide (1000 < e.G.B.length) || decide (50 < e.K.length) || decide (50 < e.U.length) || e.K.any (fun l => decide (1000 < l.length)) || e.U.any gBig

theorem edBig_small {e : EditM} (h : edBig e = false) : EdSized e ∧ small e.K ∧ smallU e.U ∧ e.G.A.length ≤ 1000 ∧ e.G.B.length ≤ 1000 := by
  simp only [edBig, gBig, Bool.or_eq_false_iff, decide_eq_false_iff_not, List.any_eq_false, Bool.or_eq_true, decide_eq_true_eq, not_or] at h
  obtain ⟨⟨⟨⟨⟨h1, h2⟩, h3⟩, h4⟩, h5⟩, h6⟩ := h
  exact ⟨⟨by omega, by omega, ⟨by omega, fun x hx => by have := h5 x hx; omega⟩, ⟨by omega, fun x hx => by have := h6 x hx; omega⟩⟩,
    ⟨by omega, fun x hx => by have := h5 x hx; omega⟩, ⟨by omega, fun x hx => by have := h6 x hx; omega⟩, by omega, by omega⟩

theorem edOk_sized {e : EditM} (h : EdOk e) : EdSized e := by
  have h1 := gapIs_ln h.g
  have h2 := kIs_small h.k
  have h3 := uIs_small h.u
  refine ⟨by omega, by omega, ⟨?_, ?_⟩, ⟨?_, ?_⟩⟩
  · have := h2.1; omega
  · intro x hx; have := h2.2 x hx; omega
  · have := h3.1; omega
  · intro x hx; have := h3.2 x hx; omega

theorem pc_Big (n : Nat) (e : EditM) : (W (n + 1)).pc 4 [edD e] = some (.bool (edBig e)) := by
  apply runs c_typebarref23_Big
  by_cases hb : 1000 < e.G.A.length ∨ 1000 < e.G.B.length ∨ 50 < e.K.length ∨ 50 < e.U.length
  · have hE : edBig e = true := by
      rcases hb with h | h | h | h <;> simp [edBig, h]
    simp [X_typebarref23_Big, hE]
    repeat' (first
      | simp (disch := omega) only [wrap_i64, wrap_i32]
      | (simp (disch := first | omega | assumption | (simp only [i64, i32]; omega) | (simp <;> omega) | fail) only [loadD_cpr, loadD_cprs, List.take_of_length_le]; simp [*, hE])
      | (with_reducible refine And.intro ?_ ?_; focus first | omega | decide)
      | (with_reducible refine split_ite (fun hp => ?_) (fun hp => ?_) <;> (try simp at hp) <;> simp [*, hE])
      | (with_reducible refine split_ite1 (fun hp => ?_) (fun hp => ?_) <;> (try simp at hp) <;> simp [*, hE])
      | (refine split_cond (by simp) (fun hp => ?_) (fun hp => ?_) <;> simp at hp <;> simp [*, hE])
      | (refine split_ops (by simp) (fun hp => ?_) (fun hp => ?_) <;> simp at hp <;> simp [*, hE])
      | (refine split_opsD (by simp) (fun hp => ?_) (fun hp => ?_) <;> simp at hp <;> simp [*, hE])
      | (refine split_pick (by simp) (fun hp => ?_) (fun hp => ?_) <;> simp at hp <;> simp [*, hE])
      | omega
      | decide
      | (simp [*, hE]))
    all_goals first | rfl | (exfalso; omega)
  · simp only [not_or, Nat.not_lt] at hb
    obtain ⟨b1, b2, b3, b4⟩ := hb
    have c1 : ¬ 1000 < e.G.A.length := by omega
    have c2 : ¬ 1000 < e.G.B.length := by omega
    have c3 : ¬ 50 < e.K.length := by omega
    have c4 : ¬ 50 < e.U.length := by omega
    have d1 : ¬ (1000 : Int) < e.G.A.length := by omega
    have d2 : ¬ (1000 : Int) < e.G.B.length := by omega
    have d3 : ¬ (50 : Int) < e.K.length := by omega
    have d4 : ¬ (50 : Int) < e.U.length := by omega
    have hE := Keep.mk (show edBig e = (e.K.any (fun l => decide (1000 < l.length)) || e.U.any gBig) by simp [edBig, c1, c2, c3, c4])
    simp [X_typebarref23_Big, d1, d2, d3, d4]
    repeat' (first
      | simp (disch := omega) only [wrap_i64, wrap_i32]
      | (simp (disch := first | omega | assumption | (simp only [i64, i32]; omega) | (simp <;> omega) | fail) only [loadD_cpr, loadD_cprs, List.take_of_length_le]; simp [*, d1, d2, d3, d4])
      | (with_reducible refine And.intro ?_ ?_; focus first | omega | decide)
      | (with_reducible refine split_ite (fun hp => ?_) (fun hp => ?_) <;> (try simp at hp) <;> simp [*, d1, d2, d3, d4])
      | (with_reducible refine split_ite1 (fun hp => ?_) (fun hp => ?_) <;> (try simp at hp) <;> simp [*, d1, d2, d3, d4])
      | (refine split_cond (by simp) (fun hp => ?_) (fun hp => ?_) <;> simp at hp <;> simp [*, d1, d2, d3, d4])
      | (refine split_ops (by simp) (fun hp => ?_) (fun hp => ?_) <;> simp at hp <;> simp [*, d1, d2, d3, d4])
      | (refine split_opsD (by simp) (fun hp => ?_) (fun hp => ?_) <;> simp at hp <;> simp [*, d1, d2, d3, d4])
      | (refine split_pick (by simp) (fun hp => ?_) (fun hp => ?_) <;> simp at hp <;> simp [*, d1, d2, d3, d4])
      | omega
      | decide
      | (simp [*, d1, d2, d3, d4]))
    refine aw_rounds (fun m st => ∃ i : Nat, st = ⟨tab [(1, .ptr 0 0 7), (3, .int .i64 i)], ⟨edL e, 0, true⟩ :: []⟩ ∧ i ≤ e.K.length ∧ m = e.K.length - i + 1 ∧ Keep ((e.K.take i).any (fun l => decide (1000 < l.length)) = false)) ?_ ?_ (n := e.K.length - (0) + 1) (by first | omega | (simp; omega)) ?_
    · rintro st ⟨i, hx⟩; omega
    rotate_left
    · exact ⟨0, by first | rfl | (simp [*, accS, accH]; done) | (simp only [*]; done) | (congr 1 <;> simp [*, accS, accH]; done) | (congr 1 <;> simp [*, accS, accH] <;> rfl) | (congr 1 <;> congr 1 <;> simp <;> omega), by first | omega | (simp; omega) | simp [*], by first | rfl | (simp; done) | omega, ⟨by simp⟩⟩
    rintro Ja ma _ ⟨i, rfl, fa1, hma, hqa⟩ hJa
    by_cases hi : i < e.K.length
    · have hi' : (i : Int) < e.K.length := by omega
      by_cases hx : 1000 < (e.K[i]).length
      · have hE2 : edBig e = true := by
          rw [hE.out, any_yes (p := fun l => decide (1000 < l.length)) (l := e.K) hi (by simpa using hx)]; rfl
        have hx' : (1000 : Int) < (e.K[i]).length := by omega
        simp [hi, hi', hE2]
        repeat' (first
          | simp (disch := omega) only [wrap_i64, wrap_i32]
          | (simp (disch := first | omega | assumption | (simp only [i64, i32]; omega) | (simp <;> omega) | fail) only [loadD_cpr, loadD_cprs, List.take_of_length_le]; simp [*, hx, hx'])
          | (with_reducible refine And.intro ?_ ?_; focus first | omega | decide)
          | (with_reducible refine split_ite (fun hp => ?_) (fun hp => ?_) <;> (try simp at hp) <;> simp [*, hx, hx'])
          | (with_reducible refine split_ite1 (fun hp => ?_) (fun hp => ?_) <;> (try simp at hp) <;> simp [*, hx, hx'])
          | (refine split_cond (by simp) (fun hp => ?_) (fun hp => ?_) <;> simp at hp <;> simp [*, hx, hx'])
          | (refine split_ops (by simp) (fun hp => ?_) (fun hp => ?_) <;> simp at hp <;> simp [*, hx, hx'])
          | (refine split_opsD (by simp) (fun hp => ?_) (fun hp => ?_) <;> simp at hp <;> simp [*, hx, hx'])
          | (refine split_pick (by simp) (fun hp => ?_) (fun hp => ?_) <;> simp at hp <;> simp [*, hx, hx'])
          | omega
          | decide
          | (simp [*, hx, hx']))
      · have hx' : ¬ (1000 : Int) < (e.K[i]).length := by omega
        simp [hi, hi']
        repeat' (first
          | simp (disch := omega) only [wrap_i64, wrap_i32]
          | (simp (disch := first | omega | assumption | (simp only [i64, i32]; omega) | (simp <;> omega) | fail) only [loadD_cpr, loadD_cprs, List.take_of_length_le]; simp [*, hx, hx'])
          | (with_reducible refine And.intro ?_ ?_; focus first | omega | decide)
          | (with_reducible refine split_ite (fun hp => ?_) (fun hp => ?_) <;> (try simp at hp) <;> simp [*, hx, hx'])
          | (with_reducible refine split_ite1 (fun hp => ?_) (fun hp => ?_) <;> (try simp at hp) <;> simp [*, hx, hx'])
          | (refine split_cond (by simp) (fun hp => ?_) (fun hp => ?_) <;> simp at hp <;> simp [*, hx, hx'])
          | (refine split_ops (by simp) (fun hp => ?_) (fun hp => ?_) <;> simp at hp <;> simp [*, hx, hx'])
          | (refine split_opsD (by simp) (fun hp => ?_) (fun hp => ?_) <;> simp at hp <;> simp [*, hx, hx'])
          | (refine split_pick (by simp) (fun hp => ?_) (fun hp => ?_) <;> simp at hp <;> simp [*, hx, hx'])
          | omega
          | decide
          | (simp [*, hx, hx']))
        exact hJa.out _ ⟨i + 1, by first | rfl | (simp [*, accS, accH]; done) | (simp only [*]; done) | (congr 1 <;> simp [*, accS, accH]; done) | (congr 1 <;> simp [*, accS, accH] <;> rfl) | (congr 1 <;> congr 1 <;> simp <;> omega), by first | omega | (simp; omega) | simp [*], by omega, ⟨by rw [List.take_succ_eq_append_getElem hi, List.any_append, hqa.out]; simp; omega⟩⟩
    · have hi' : ¬ (i : Int) < e.K.length := by omega
      have hK : e.K.any (fun l => decide (1000 < l.length)) = false := by
        have := hqa.out
        rwa [List.take_of_length_le (by omega)] at this
      have hE3 := Keep.mk (show edBig e = e.U.any gBig by rw [hE.out, hK]; simp)
      simp [hi, hi']
      repeat' (first
        | simp (disch := omega) only [wrap_i64, wrap_i32]
        | (simp (disch := first | omega | assumption | (simp only [i64, i32]; omega) | (simp <;> omega) | fail) only [loadD_cpr, loadD_cprs, List.take_of_length_le]; simp [*, hi'])
        | (with_reducible refine And.intro ?_ ?_; focus first | omega | decide)
        | (with_reducible refine split_ite (fun hp => ?_) (fun hp => ?_) <;> (try simp at hp) <;> simp [*, hi'])
        | (with_reducible refine split_ite1 (fun hp => ?_) (fun hp => ?_) <;> (try simp at hp) <;> simp [*, hi'])
        | (refine split_cond (by simp) (fun hp => ?_) (fun hp => ?_) <;> simp at hp <;> simp [*, hi'])
        | (refine split_ops (by simp) (fun hp => ?_) (fun hp => ?_) <;> simp at hp <;> simp [*, hi'])
        | (refine split_opsD (by simp) (fun hp => ?_) (fun hp => ?_) <;> simp at hp <;> simp [*, hi'])
        | (refine split_pick (by simp) (fun hp => ?_) (fun hp => ?_) <;> simp at hp <;> simp [*, hi'])
        | omega
        | decide
        | (simp [*, hi']))
      clear hE hK hi hi' hqa fa1
      refine aw_rounds (fun m st => ∃ j : Nat, st = ⟨tab [(1, .ptr 0 0 7), (4, .int .i64 j)], ⟨edL e, 0, true⟩ :: []⟩ ∧ j ≤ e.U.length ∧ m = e.U.length - j + 1 ∧ Keep ((e.U.take j).any gBig = false)) ?_ ?_ (n := e.U.length - (0) + 1) (by first | omega | (simp; omega)) ?_
      · rintro st ⟨j, hx⟩; omega
      rotate_left
      · exact ⟨0, by first | rfl | (simp [*, accS, accH]; done) | (simp only [*]; done) | (congr 1 <;> simp [*, accS, accH]; done) | (congr 1 <;> simp [*, accS, accH] <;> rfl) | (congr 1 <;> congr 1 <;> simp <;> omega), by first | omega | (simp; omega) | simp [*], by first | rfl | (simp; done) | omega, ⟨by simp⟩⟩
      rintro Jb mb _ ⟨j, rfl, fb1, hmb, hqb⟩ hJb
      by_cases hj : j < e.U.length
      · have hj' : (j : Int) < e.U.length := by omega
        cases hx : gBig e.U[j]
        · have hq : ¬ 1000 < e.U[j].A.length ∧ ¬ 1000 < e.U[j].B.length := by simpa [gBig] using hx
          obtain ⟨q1, q2⟩ := hq
          have q1' : ¬ (1000 : Int) < e.U[j].A.length := by omega
          have q2' : ¬ (1000 : Int) < e.U[j].B.length := by omega
          simp [hj, hj']
          repeat' (first
            | simp (disch := omega) only [wrap_i64, wrap_i32]
            | (simp (disch := first | omega | assumption | (simp only [i64, i32]; omega) | (simp <;> omega) | fail) only [loadD_cpr, loadD_cprs, List.take_of_length_le]; simp [*, q1', q2'])
            | (with_reducible refine And.intro ?_ ?_; focus first | omega | decide)
            | (with_reducible refine split_ite (fun hp => ?_) (fun hp => ?_) <;> (try simp at hp) <;> simp [*, q1', q2'])
            | (with_reducible refine split_ite1 (fun hp => ?_) (fun hp => ?_) <;> (try simp at hp) <;> simp [*, q1', q2'])
            | (refine split_cond (by simp) (fun hp => ?_) (fun hp => ?_) <;> simp at hp <;> simp [*, q1', q2'])
            | (refine split_ops (by simp) (fun hp => ?_) (fun hp => ?_) <;> simp at hp <;> simp [*, q1', q2'])
            | (refine split_opsD (by simp) (fun hp => ?_) (fun hp => ?_) <;> simp at hp <;> simp [*, q1', q2'])
            | (refine split_pick (by simp) (fun hp => ?_) (fun hp => ?_) <;> simp at hp <;> simp [*, q1', q2'])
            | omega
            | decide
            | (simp [*, q1', q2']))
          exact hJb.out _ ⟨j + 1, by first | rfl | (simp [*, accS, accH]; done) | (simp only [*]; done) | (congr 1 <;> simp [*, accS, accH]; done) | (congr 1 <;> simp [*, accS, accH] <;> rfl) | (congr 1 <;> congr 1 <;> simp <;> omega), by first | omega | (simp; omega) | simp [*], by omega, ⟨by rw [List.take_succ_eq_append_getElem hj, List.any_append, hqb.out]; simp [hx]⟩⟩
        · have hE2 : edBig e = true := by rw [hE3.out, any_yes (p := gBig) (l := e.U) hj hx]
          simp only [gBig, Bool.or_eq_true, decide_eq_true_eq] at hx
          by_cases q1 : 1000 < e.U[j].A.length
          · have q1' : (1000 : Int) < e.U[j].A.length := by omega
            clear hx
            simp [hj, hj', hE2]
            repeat' (first
              | simp (disch := omega) only [wrap_i64, wrap_i32]
              | (simp (disch := first | omega | assumption | (simp only [i64, i32]; omega) | (simp <;> omega) | fail) only [loadD_cpr, loadD_cprs, List.take_of_length_le]; simp [*, q1', hE2])
              | (with_reducible refine And.intro ?_ ?_; focus first | omega | decide)
              | (with_reducible refine split_ite (fun hp => ?_) (fun hp => ?_) <;> (try simp at hp) <;> simp [*, q1', hE2])
              | (with_reducible refine split_ite1 (fun hp => ?_) (fun hp => ?_) <;> (try simp at hp) <;> simp [*, q1', hE2])
              | (refine split_cond (by simp) (fun hp => ?_) (fun hp => ?_) <;> simp at hp <;> simp [*, q1', hE2])
              | (refine split_ops (by simp) (fun hp => ?_) (fun hp => ?_) <;> simp at hp <;> simp [*, q1', hE2])
              | (refine split_opsD (by simp) (fun hp => ?_) (fun hp => ?_) <;> simp at hp <;> simp [*, q1', hE2])
              | (refine split_pick (by simp) (fun hp => ?_) (fun hp => ?_) <;> simp at hp <;> simp [*, q1', hE2])
              | omega
              | decide
              | (simp [*, q1', hE2]))
          · have q2 : 1000 < e.U[j].B.length := by omega
            have q1' : ¬ (1000 : Int) < e.U[j].A.length := by omega
            have q2' : (1000 : Int) < e.U[j].B.length := by omega
            clear hx
            simp [hj, hj', hE2]
            repeat' (first
              | simp (disch := omega) only [wrap_i64, wrap_i32]
              | (simp (disch := first | omega | assumption | (simp only [i64, i32]; omega) | (simp <;> omega) | fail) only [loadD_cpr, loadD_cprs, List.take_of_length_le]; simp [*, q1', q2', hE2])
              | (with_reducible refine And.intro ?_ ?_; focus first | omega | decide)
              | (with_reducible refine split_ite (fun hp => ?_) (fun hp => ?_) <;> (try simp at hp) <;> simp [*, q1', q2', hE2])
              | (with_reducible refine split_ite1 (fun hp => ?_) (fun hp => ?_) <;> (try simp at hp) <;> simp [*, q1', q2', hE2])
              | (refine split_cond (by simp) (fun hp => ?_) (fun hp => ?_) <;> simp at hp <;> simp [*, q1', q2', hE2])
              | (refine split_ops (by simp) (fun hp => ?_) (fun hp => ?_) <;> simp at hp <;> simp [*, q1', q2', hE2])
              | (refine split_opsD (by simp) (fun hp => ?_) (fun hp => ?_) <;> simp at hp <;> simp [*, q1', q2', hE2])
              | (refine split_pick (by simp) (fun hp => ?_) (fun hp => ?_) <;> simp at hp <;> simp [*, q1', q2', hE2])
              | omega
              | decide
              | (simp [*, q1', q2', hE2]))
      · have hj' : ¬ (j : Int) < e.U.length := by omega
        have hE2 : edBig e = false := by
          have := hqb.out
          rw [List.take_of_length_le (by omega)] at this
          rw [hE3.out, this]
        simp [hj, hj', hE2]

theorem ed_ext {a b : EditM} (h : a.G = b.G ∧ a.K = b.K ∧ a.U = b.U ∧ a.La = b.La ∧ a.Tu = b.Tu ∧ a.Si = b.Si) : a = b := by
  cases a; cases b; simpa using h

theorem pc_ref23_Same (n : Nat) (a b : EditM) (hA : a.G.A.length < 2000000) (hB : a.G.B.length < 2000000) (hK : small a.K) (hU : smallU a.U) : (W (n + 4)).pc 8 [edD a, edD b] = some (.bool (decide (a.G = b.G ∧ a.K = b.K ∧ a.U = b.U ∧ a.La = b.La ∧ a.Tu = b.Tu ∧ a.Si = b.Si))) := by
  apply runs c_typebarref23_Same
  have h1 := pc_ref10_Same (n + 1) a.G b.G hA hB
  have h2 := pc_ref12_Same n a.K b.K hK
  have h3 := pc_ref13_Same n a.U b.U hU
  simp only [gap_iff] at h1
  simp [X_typebarref23_Same]
  by_cases g1 : a.G = b.G
  · simp only [g1, decide_true] at h1
    by_cases g2 : a.K = b.K
    · simp only [g2, decide_true] at h2
      by_cases g3 : a.U = b.U
      · simp only [g3, decide_true] at h3
        repeat' (first
          | simp (disch := omega) only [wrap_i64, wrap_i32]
          | (simp (disch := first | omega | assumption | (simp only [i64, i32]; omega) | (simp <;> omega) | fail) only [loadD_cpr, loadD_cprs, List.take_of_length_le]; simp [*, h1, h2, h3, g1, g2, g3])
          | (with_reducible refine And.intro ?_ ?_; focus first | omega | decide)
          | (with_reducible refine split_ite (fun hp => ?_) (fun hp => ?_) <;> (try simp at hp) <;> simp [*, h1, h2, h3, g1, g2, g3])
          | (with_reducible refine split_ite1 (fun hp => ?_) (fun hp => ?_) <;> (try simp at hp) <;> simp [*, h1, h2, h3, g1, g2, g3])
          | (refine split_cond (by simp) (fun hp => ?_) (fun hp => ?_) <;> simp at hp <;> simp [*, h1, h2, h3, g1, g2, g3])
          | (refine split_ops (by simp) (fun hp => ?_) (fun hp => ?_) <;> simp at hp <;> simp [*, h1, h2, h3, g1, g2, g3])
          | (refine split_opsD (by simp) (fun hp => ?_) (fun hp => ?_) <;> simp at hp <;> simp [*, h1, h2, h3, g1, g2, g3])
          | (refine split_pick (by simp) (fun hp => ?_) (fun hp => ?_) <;> simp at hp <;> simp [*, h1, h2, h3, g1, g2, g3])
          | omega
          | decide
          | (simp [*, h1, h2, h3, g1, g2, g3]))
        all_goals trace_state
      · simp only [g3, decide_false] at h3
        repeat' (first
          | simp (disch := omega) only [wrap_i64, wrap_i32]
          | (simp (disch := first | omega | assumption | (simp only [i64, i32]; omega) | (simp <;> omega) | fail) only [loadD_cpr, loadD_cprs, List.take_of_length_le]; simp [*, h1, h2, h3, g1, g2, g3])
          | (with_reducible refine And.intro ?_ ?_; focus first | omega | decide)
          | (with_reducible refine split_ite (fun hp => ?_) (fun hp => ?_) <;> (try simp at hp) <;> simp [*, h1, h2, h3, g1, g2, g3])
          | (with_reducible refine split_ite1 (fun hp => ?_) (fun hp => ?_) <;> (try simp at hp) <;> simp [*, h1, h2, h3, g1, g2, g3])
          | (refine split_cond (by simp) (fun hp => ?_) (fun hp => ?_) <;> simp at hp <;> simp [*, h1, h2, h3, g1, g2, g3])
          | (refine split_ops (by simp) (fun hp => ?_) (fun hp => ?_) <;> simp at hp <;> simp [*, h1, h2, h3, g1, g2, g3])
          | (refine split_opsD (by simp) (fun hp => ?_) (fun hp => ?_) <;> simp at hp <;> simp [*, h1, h2, h3, g1, g2, g3])
          | (refine split_pick (by simp) (fun hp => ?_) (fun hp => ?_) <;> simp at hp <;> simp [*, h1, h2, h3, g1, g2, g3])
          | omega
          | decide
          | (simp [*, h1, h2, h3, g1, g2, g3]))
        all_goals trace_state
    · simp only [g2, decide_false] at h2
      repeat' (first
        | simp (disch := omega) only [wrap_i64, wrap_i32]
        | (simp (disch := first | omega | assumption | (simp only [i64, i32]; omega) | (simp <;> omega) | fail) only [loadD_cpr, loadD_cprs, List.take_of_length_le]; simp [*, h1, h2, g1, g2])
        | (with_reducible refine And.intro ?_ ?_; focus first | omega | decide)
        | (with_reducible refine split_ite (fun hp => ?_) (fun hp => ?_) <;> (try simp at hp) <;> simp [*, h1, h2, g1, g2])
        | (with_reducible refine split_ite1 (fun hp => ?_) (fun hp => ?_) <;> (try simp at hp) <;> simp [*, h1, h2, g1, g2])
        | (refine split_cond (by simp) (fun hp => ?_) (fun hp => ?_) <;> simp at hp <;> simp [*, h1, h2, g1, g2])
        | (refine split_ops (by simp) (fun hp => ?_) (fun hp => ?_) <;> simp at hp <;> simp [*, h1, h2, g1, g2])
        | (refine split_opsD (by simp) (fun hp => ?_) (fun hp => ?_) <;> simp at hp <;> simp [*, h1, h2, g1, g2])
        | (refine split_pick (by simp) (fun hp => ?_) (fun hp => ?_) <;> simp at hp <;> simp [*, h1, h2, g1, g2])
        | omega
        | decide
        | (simp [*, h1, h2, g1, g2]))
      all_goals trace_state
  · simp only [g1, decide_false] at h1
    repeat' (first
      | simp (disch := omega) only [wrap_i64, wrap_i32]
      | (simp (disch := first | omega | assumption | (simp only [i64, i32]; omega) | (simp <;> omega) | fail) only [loadD_cpr, loadD_cprs, List.take_of_length_le]; simp [*, h1, g1])
      | (with_reducible refine And.intro ?_ ?_; focus first | omega | decide)
      | (with_reducible refine split_ite (fun hp => ?_) (fun hp => ?_) <;> (try simp at hp) <;> simp [*, h1, g1])
      | (with_reducible refine split_ite1 (fun hp => ?_) (fun hp => ?_) <;> (try simp at hp) <;> simp [*, h1, g1])
      | (refine split_cond (by simp) (fun hp => ?_) (fun hp => ?_) <;> simp at hp <;> simp [*, h1, g1])
      | (refine split_ops (by simp) (fun hp => ?_) (fun hp => ?_) <;> simp at hp <;> simp [*, h1, g1])
      | (refine split_opsD (by simp) (fun hp => ?_) (fun hp => ?_) <;> simp at hp <;> simp [*, h1, g1])
      | (refine split_pick (by simp) (fun hp => ?_) (fun hp => ?_) <;> simp at hp <;> simp [*, h1, g1])
      | omega
      | decide
      | (simp [*, h1, g1]))
    all_goals trace_state

end Go.Proofs.YtcaglmjfphjpfaaGreat
