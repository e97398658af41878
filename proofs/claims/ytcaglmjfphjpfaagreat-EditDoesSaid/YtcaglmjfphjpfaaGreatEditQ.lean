/- The document's answer for layer 23, and the law that the program's is the same. -/
import Derived.Test.YtcaglmjfphjpfaaGreatEditO
import Derived.Test.YtcaglmjfphjpfaaGreatEditB
namespace Go.Proofs.YtcaglmjfphjpfaaGreat
open Go E
set_option linter.unusedSimpArgs false
set_option linter.unusedVariables false
set_option maxRecDepth 100000

theorem pc_ref23_Is (n : Nat) (e : EditM) (hA : e.G.A.length < 2000000) (hB : e.G.B.length < 2000000) (hK : small e.K) (hU : smallU e.U) : (W (n + 6)).pc 10 [edD e] = some (.bool (edIs e)) := by
  apply runs c_typebarref23_Is
  have h1 := pc_ref10_Is (n + 2) e.G hA hB
  have h2 := pc_ref12_Is (n + 1) e.K hK
  have h3 := pc_ref13_Is n e.U hU
  have hk := hK.1
  simp [X_typebarref23_Is]
  cases q1 : gapIs e.G
  · rw [q1] at h1
    have he : edIs e = false := by simp [edIs, q1]
    repeat' (first
      | simp (disch := omega) only [wrap_i64, wrap_i32]
      | (simp (disch := first | omega | assumption | (simp only [i64, i32]; omega) | (simp <;> omega) | fail) only [loadD_cpr, loadD_cprs, List.take_of_length_le]; simp [*, h1, he])
      | (with_reducible refine And.intro ?_ ?_; focus first | omega | decide)
      | (with_reducible refine split_ite (fun hp => ?_) (fun hp => ?_) <;> (try simp at hp) <;> simp [*, h1, he])
      | (with_reducible refine split_ite1 (fun hp => ?_) (fun hp => ?_) <;> (try simp at hp) <;> simp [*, h1, he])
      | (refine split_cond (by simp) (fun hp => ?_) (fun hp => ?_) <;> simp at hp <;> simp [*, h1, he])
      | (refine split_ops (by simp) (fun hp => ?_) (fun hp => ?_) <;> simp at hp <;> simp [*, h1, he])
      | (refine split_opsD (by simp) (fun hp => ?_) (fun hp => ?_) <;> simp at hp <;> simp [*, h1, he])
      | (refine split_pick (by simp) (fun hp => ?_) (fun hp => ?_) <;> simp at hp <;> simp [*, h1, he])
      | omega
      | decide
      | (simp [*, h1, he]))
  cases q2 : kIs e.K
  · rw [q1] at h1
    rw [q2] at h2
    have he : edIs e = false := by simp [edIs, q2]
    repeat' (first
      | simp (disch := omega) only [wrap_i64, wrap_i32]
      | (simp (disch := first | omega | assumption | (simp only [i64, i32]; omega) | (simp <;> omega) | fail) only [loadD_cpr, loadD_cprs, List.take_of_length_le]; simp [*, h1, h2, he])
      | (with_reducible refine And.intro ?_ ?_; focus first | omega | decide)
      | (with_reducible refine split_ite (fun hp => ?_) (fun hp => ?_) <;> (try simp at hp) <;> simp [*, h1, h2, he])
      | (with_reducible refine split_ite1 (fun hp => ?_) (fun hp => ?_) <;> (try simp at hp) <;> simp [*, h1, h2, he])
      | (refine split_cond (by simp) (fun hp => ?_) (fun hp => ?_) <;> simp at hp <;> simp [*, h1, h2, he])
      | (refine split_ops (by simp) (fun hp => ?_) (fun hp => ?_) <;> simp at hp <;> simp [*, h1, h2, he])
      | (refine split_opsD (by simp) (fun hp => ?_) (fun hp => ?_) <;> simp at hp <;> simp [*, h1, h2, he])
      | (refine split_pick (by simp) (fun hp => ?_) (fun hp => ?_) <;> simp at hp <;> simp [*, h1, h2, he])
      | omega
      | decide
      | (simp [*, h1, h2, he]))
  cases q3 : uIs e.U
  · rw [q1] at h1
    rw [q2] at h2
    rw [q3] at h3
    have he : edIs e = false := by simp [edIs, q3]
    repeat' (first
      | simp (disch := omega) only [wrap_i64, wrap_i32]
      | (simp (disch := first | omega | assumption | (simp only [i64, i32]; omega) | (simp <;> omega) | fail) only [loadD_cpr, loadD_cprs, List.take_of_length_le]; simp [*, h1, h2, h3, he])
      | (with_reducible refine And.intro ?_ ?_; focus first | omega | decide)
      | (with_reducible refine split_ite (fun hp => ?_) (fun hp => ?_) <;> (try simp at hp) <;> simp [*, h1, h2, h3, he])
      | (with_reducible refine split_ite1 (fun hp => ?_) (fun hp => ?_) <;> (try simp at hp) <;> simp [*, h1, h2, h3, he])
      | (refine split_cond (by simp) (fun hp => ?_) (fun hp => ?_) <;> simp at hp <;> simp [*, h1, h2, h3, he])
      | (refine split_ops (by simp) (fun hp => ?_) (fun hp => ?_) <;> simp at hp <;> simp [*, h1, h2, h3, he])
      | (refine split_opsD (by simp) (fun hp => ?_) (fun hp => ?_) <;> simp at hp <;> simp [*, h1, h2, h3, he])
      | (refine split_pick (by simp) (fun hp => ?_) (fun hp => ?_) <;> simp at hp <;> simp [*, h1, h2, h3, he])
      | omega
      | decide
      | (simp [*, h1, h2, h3, he]))
  rw [q1] at h1
  rw [q2] at h2
  rw [q3] at h3
  repeat' (first
    | simp (disch := omega) only [wrap_i64, wrap_i32]
    | (simp (disch := first | omega | assumption | (simp only [i64, i32]; omega) | (simp <;> omega) | fail) only [loadD_cpr, loadD_cprs, List.take_of_length_le]; simp [*, h1, h2, h3])
    | (with_reducible refine And.intro ?_ ?_; focus first | omega | decide)
    | (with_reducible refine split_ite (fun hp => ?_) (fun hp => ?_) <;> (try simp at hp) <;> simp [*, h1, h2, h3])
    | (with_reducible refine split_ite1 (fun hp => ?_) (fun hp => ?_) <;> (try simp at hp) <;> simp [*, h1, h2, h3])
    | (refine split_cond (by simp) (fun hp => ?_) (fun hp => ?_) <;> simp at hp <;> simp [*, h1, h2, h3])
    | (refine split_ops (by simp) (fun hp => ?_) (fun hp => ?_) <;> simp at hp <;> simp [*, h1, h2, h3])
    | (refine split_opsD (by simp) (fun hp => ?_) (fun hp => ?_) <;> simp at hp <;> simp [*, h1, h2, h3])
    | (refine split_pick (by simp) (fun hp => ?_) (fun hp => ?_) <;> simp at hp <;> simp [*, h1, h2, h3])
    | omega
    | decide
    | (simp [*, h1, h2, h3]))
  all_goals
    simp only [edIs, q1, q2, q3, Bool.true_and]
    grind

theorem pc_ref23_known (n : Nat) (a : ActM) : (W (n + 2)).pc 19 [acD a] = some (.bool (actOk a)) := by
  apply runs c_typebarref23_known
  have hR := pc_ref01_Is n a.r
  by_cases k1 : a.k = 1
  · simp [X_typebarref23_known, k1]
    repeat' (first
      | simp (disch := omega) only [wrap_i64, wrap_i32]
      | (simp (disch := first | omega | assumption | (simp only [i64, i32]; omega) | (simp <;> omega) | fail) only [loadD_cpr, loadD_cprs, List.take_of_length_le]; simp [*, k1])
      | (with_reducible refine And.intro ?_ ?_; focus first | omega | decide)
      | (with_reducible refine split_ite (fun hp => ?_) (fun hp => ?_) <;> (try simp at hp) <;> simp [*, k1])
      | (with_reducible refine split_ite1 (fun hp => ?_) (fun hp => ?_) <;> (try simp at hp) <;> simp [*, k1])
      | (refine split_cond (by simp) (fun hp => ?_) (fun hp => ?_) <;> simp at hp <;> simp [*, k1])
      | (refine split_ops (by simp) (fun hp => ?_) (fun hp => ?_) <;> simp at hp <;> simp [*, k1])
      | (refine split_opsD (by simp) (fun hp => ?_) (fun hp => ?_) <;> simp at hp <;> simp [*, k1])
      | (refine split_pick (by simp) (fun hp => ?_) (fun hp => ?_) <;> simp at hp <;> simp [*, k1])
      | omega
      | decide
      | (simp [*, k1]))
    all_goals
      simp only [actOk, k1]
      grind
  by_cases k2 : a.k = 2
  · have hE : actOk a = isR a.r := by simp [actOk, k2]
    simp [X_typebarref23_known, k1, k2, hR, hE]
  · simp [X_typebarref23_known, k1, k2]
    repeat' (first
      | simp (disch := omega) only [wrap_i64, wrap_i32]
      | (simp (disch := first | omega | assumption | (simp only [i64, i32]; omega) | (simp <;> omega) | fail) only [loadD_cpr, loadD_cprs, List.take_of_length_le]; simp [*, k1, k2])
      | (with_reducible refine And.intro ?_ ?_; focus first | omega | decide)
      | (with_reducible refine split_ite (fun hp => ?_) (fun hp => ?_) <;> (try simp at hp) <;> simp [*, k1, k2])
      | (with_reducible refine split_ite1 (fun hp => ?_) (fun hp => ?_) <;> (try simp at hp) <;> simp [*, k1, k2])
      | (refine split_cond (by simp) (fun hp => ?_) (fun hp => ?_) <;> simp at hp <;> simp [*, k1, k2])
      | (refine split_ops (by simp) (fun hp => ?_) (fun hp => ?_) <;> simp at hp <;> simp [*, k1, k2])
      | (refine split_opsD (by simp) (fun hp => ?_) (fun hp => ?_) <;> simp at hp <;> simp [*, k1, k2])
      | (refine split_pick (by simp) (fun hp => ?_) (fun hp => ?_) <;> simp at hp <;> simp [*, k1, k2])
      | omega
      | decide
      | (simp [*, k1, k2]))
    all_goals
      simp only [actOk]
      grind

theorem pc_ref23_yanked (n : Nat) (e : EditM) (g : Gap) (t : Int) (hK : small e.K) (hA : g.A.length < 2000000) (hB : g.B.length < 2000000) (ht : i64 t) : (W (n + 7)).pc 23 [edD e, gD g, .int .i64 t] = some (.tup [edD (finS (putS e g t e.U)).1, eD (finS (putS e g t e.U)).2]) := by
  apply runs c_typebarref23_yanked
  have h1 := pc_ref12_Get (n + 1) e.K t hK ht
  have hl := kGet_lt hK t
  have h2 := pc_ref10_Insert (n + 2) g (kGet e.K t).1 hA hB hl
  by_cases h0 : (gapInsert g (kGet e.K t).1).2 = 0
  · have hF : finS (putS e g t e.U) = (⟨(gapInsert g (kGet e.K t).1).1, e.K, e.U, 3, t, (kGet e.K t).1.length⟩, 0) := by
      rw [finS, if_neg (by simp [putS, h0]), putS, h0]
    rw [hF]
    rw [h0] at h2
    generalize (gapInsert g (kGet e.K t).1).1 = y at h2 ⊢
    generalize (kGet e.K t).1 = z at h1 h2 hl ⊢
    simp [X_typebarref23_yanked, h1, h2, putAt, Nat.testBit]
  · have hF : finS (putS e g t e.U) = (edZ, (gapInsert g (kGet e.K t).1).2) := by
      rw [finS, if_pos (by simp [putS, h0]), putS]
    rw [hF]
    generalize (gapInsert g (kGet e.K t).1).1 = y at h2
    generalize (gapInsert g (kGet e.K t).1).2 = r at h2 h0 ⊢
    generalize (kGet e.K t).1 = z at h1 h2 hl
    simp [X_typebarref23_yanked, h1, h2, h0, putAt, Nat.testBit]
    all_goals exact ⟨rfl, rfl, rfl, rfl, rfl, rfl, rfl⟩

end Go.Proofs.YtcaglmjfphjpfaaGreat
