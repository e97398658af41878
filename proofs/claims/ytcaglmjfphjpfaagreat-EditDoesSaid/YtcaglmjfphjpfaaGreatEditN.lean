/- What the document's answer for layer 23 does with a move. -/
import Derived.Test.YtcaglmjfphjpfaaGreatEditG
namespace Go.Proofs.YtcaglmjfphjpfaaGreat
open Go E
set_option linter.unusedSimpArgs false
set_option linter.unusedVariables false
set_option maxRecDepth 100000

/-- What is handed back. -/
def finS (r : EditM × Int) : EditM × Int := if r.2 ≠ 0 then (edZ, r.2) else r

theorem gapGo_text {e : EditM} (h : EdOk e) (k : Nat) : gapGo e.G k = gapSplit (e.G.A ++ e.G.B) k := by
  rw [gapGo, if_pos h.g, Int.toNat_natCast]

theorem change_in {l : List Int} {lo hi : Nat} {o : Int} (h1 : lo < hi) (h2 : hi ≤ l.length) (ho : 4 ≤ o ∧ o ≤ 6) : change l lo hi o = (sCh l lo hi o, 0) := by
  rw [change, if_neg (by omega)]; rfl

theorem moved_m10gt_3 (n : Nat) (e : EditM) (a : ActM) (c : Int) (h : EdOk e) (l : List Int) (hl : l = e.G.A ++ e.G.B) (T : Nat) (t2 : T ≤ l.length) (ho : 1 ≤ a.o ∧ a.o ≤ 6) (hne : 0 < l.length) (hTo : toE e a c = T) (m10 : a.m = 10) (hAT : e.G.A.length < T) (o3 : a.o = 3) :
    (W (n + 9)).pc 21 [edD e, acD a, .int .i64 c] = some (.tup [edD ⟨gapSplit l 0, kAdd e.K ((l.drop 0).take (l.length - 0)) 0, e.U, 0, 0, 0⟩, eD 0]) := by
  apply runs c_typebarref23_moved
  obtain ⟨g1, g2, g3⟩ := gapIs_ln h.g
  have hLen : l.length = e.G.A.length + e.G.B.length := by rw [hl]; exact List.length_append
  have ht := pc_ref10_Text (n + 6) e.G (by omega) (by omega)
  have hT := pc_ref23_Target (n + 2) (e.G.A ++ e.G.B) e.G.A.length a.m c (by simp; omega)
  rw [show (tgtE (e.G.A ++ e.G.B) e.G.A.length a.m c).1 = (T : Int) from hTo] at hT
  generalize (tgtE (e.G.A ++ e.G.B) e.G.A.length a.m c).2 = er at hT
  have hG := pc_ref10_Go (n + 4) e.G ((0 : Nat) : Int) (by omega) (by omega)
  rw [gapGo_text h] at hG
  rw [← hl] at ht hT hG
  have hK := pc_ref12_Add (n + 3) e.K ((l.drop 0).take (l.length - 0)) 0 (kIs_small h.k) (by simp; omega)
  have w3 : (e.G.A.length : Int) < (T : Int) := by omega
  have w3n : e.G.A.length < T := by omega
  have q1 : ¬ (0 : Int) = (l.length : Int) := by omega
  have q2 : (0 : Int) ≤ (l.length : Int) := by omega
  have q3 : (l.length : Int) ≤ (l.length : Int) := by omega
  have q4 : 0 ≤ l.length := by omega
  have q5 : l.length ≤ l.length := by omega
  have q6 : 0 ≤ l.length := by omega
  have q7 : ¬ 0 = l.length := by omega
  rw [m10] at hT
  try simp only [Int.natCast_add, Int.natCast_zero, Int.natCast_one] at hG
  try simp only [Int.natCast_add, Int.natCast_zero, Int.natCast_one] at hK
  simp only [List.drop_zero, Nat.sub_zero, List.take_length] at hK
  clear hl hTo
  simp [X_typebarref23_moved, putAt, Nat.testBit, w3, w3n, q1, q2, q3, q4, q5, q6, q7, ht, hT, m10, o3, hG, hK, gapSplit]
  repeat' (first
    | simp (disch := omega) only [wrap_i64, wrap_i32]
    | (simp (disch := first | omega | assumption | (simp only [i64, i32]; omega) | (simp <;> omega) | fail) only [loadD_cpr, loadD_cprs, List.take_of_length_le]; simp [*, w3, w3n, q1, q2, q3, q4, q5, q6, q7, ht, hT, m10, o3, hG, hK, gapSplit, Nat.testBit])
    | (with_reducible refine And.intro ?_ ?_; focus first | omega | decide)
    | (with_reducible refine split_ite (fun hp => ?_) (fun hp => ?_) <;> (try simp at hp) <;> simp [*, w3, w3n, q1, q2, q3, q4, q5, q6, q7, ht, hT, m10, o3, hG, hK, gapSplit, Nat.testBit])
    | (with_reducible refine split_ite1 (fun hp => ?_) (fun hp => ?_) <;> (try simp at hp) <;> simp [*, w3, w3n, q1, q2, q3, q4, q5, q6, q7, ht, hT, m10, o3, hG, hK, gapSplit, Nat.testBit])
    | (refine split_cond (by simp) (fun hp => ?_) (fun hp => ?_) <;> simp at hp <;> simp [*, w3, w3n, q1, q2, q3, q4, q5, q6, q7, ht, hT, m10, o3, hG, hK, gapSplit, Nat.testBit])
    | (refine split_ops (by simp) (fun hp => ?_) (fun hp => ?_) <;> simp at hp <;> simp [*, w3, w3n, q1, q2, q3, q4, q5, q6, q7, ht, hT, m10, o3, hG, hK, gapSplit, Nat.testBit])
    | (refine split_opsD (by simp) (fun hp => ?_) (fun hp => ?_) <;> simp at hp <;> simp [*, w3, w3n, q1, q2, q3, q4, q5, q6, q7, ht, hT, m10, o3, hG, hK, gapSplit, Nat.testBit])
    | (refine split_pick (by simp) (fun hp => ?_) (fun hp => ?_) <;> simp at hp <;> simp [*, w3, w3n, q1, q2, q3, q4, q5, q6, q7, ht, hT, m10, o3, hG, hK, gapSplit, Nat.testBit])
    | omega
    | decide
    | (simp [*, w3, w3n, q1, q2, q3, q4, q5, q6, q7, ht, hT, m10, o3, hG, hK, gapSplit, Nat.testBit]))
  all_goals trace_state

theorem moved_m10gt_4 (n : Nat) (e : EditM) (a : ActM) (c : Int) (h : EdOk e) (l : List Int) (hl : l = e.G.A ++ e.G.B) (T : Nat) (t2 : T ≤ l.length) (ho : 1 ≤ a.o ∧ a.o ≤ 6) (hne : 0 < l.length) (hTo : toE e a c = T) (m10 : a.m = 10) (hAT : e.G.A.length < T) (o4 : 4 ≤ a.o) :
    (W (n + 9)).pc 21 [edD e, acD a, .int .i64 c] = some (.tup [edD ⟨gapSplit (sCh l 0 l.length a.o) l.length, e.K, uPush e.U e.G, 0, 0, 0⟩, eD 0]) := by
  apply runs c_typebarref23_moved
  obtain ⟨g1, g2, g3⟩ := gapIs_ln h.g
  have hLen : l.length = e.G.A.length + e.G.B.length := by rw [hl]; exact List.length_append
  have ht := pc_ref10_Text (n + 6) e.G (by omega) (by omega)
  have hT := pc_ref23_Target (n + 2) (e.G.A ++ e.G.B) e.G.A.length a.m c (by simp; omega)
  rw [show (tgtE (e.G.A ++ e.G.B) e.G.A.length a.m c).1 = (T : Int) from hTo] at hT
  generalize (tgtE (e.G.A ++ e.G.B) e.G.A.length a.m c).2 = er at hT
  rw [← hl] at ht hT
  have hC := pc_ref14_Change (n + 6) l ((0 : Nat) : Int) ((l.length : Nat) : Int) a.o (by omega)
  rw [change_in hne (by omega) (by omega)] at hC
  have hU := pc_ref13_Push (n + 2) e.U e.G (uIs_small h.u) (by omega) (by omega)
  have w3 : (e.G.A.length : Int) < (T : Int) := by omega
  have w3n : e.G.A.length < T := by omega
  have q1 : ¬ (0 : Int) = (l.length : Int) := by omega
  have q2 : (0 : Int) ≤ (l.length : Int) := by omega
  have q3 : (l.length : Int) ≤ (l.length : Int) := by omega
  have q4 : 0 ≤ l.length := by omega
  have q5 : l.length ≤ l.length := by omega
  have q6 : 0 ≤ l.length := by omega
  have q7 : ¬ 0 = l.length := by omega
  rw [m10] at hT
  have o0 : ¬ a.o = 0 := by omega
  have o3 : ¬ a.o = 3 := by omega
  try simp only [Int.natCast_add, Int.natCast_zero, Int.natCast_one] at hC
  clear hl hTo
  simp [X_typebarref23_moved, putAt, Nat.testBit, w3, w3n, q1, q2, q3, q4, q5, q6, q7, ht, hT, m10, o0, o3, o4, hC, hU, gapSplit]
  repeat' (first
    | simp (disch := omega) only [wrap_i64, wrap_i32]
    | (simp (disch := first | omega | assumption | (simp only [i64, i32]; omega) | (simp <;> omega) | fail) only [loadD_cpr, loadD_cprs, List.take_of_length_le]; simp [*, w3, w3n, q1, q2, q3, q4, q5, q6, q7, ht, hT, m10, o0, o3, o4, hC, hU, gapSplit, Nat.testBit])
    | (with_reducible refine And.intro ?_ ?_; focus first | omega | decide)
    | (with_reducible refine split_ite (fun hp => ?_) (fun hp => ?_) <;> (try simp at hp) <;> simp [*, w3, w3n, q1, q2, q3, q4, q5, q6, q7, ht, hT, m10, o0, o3, o4, hC, hU, gapSplit, Nat.testBit])
    | (with_reducible refine split_ite1 (fun hp => ?_) (fun hp => ?_) <;> (try simp at hp) <;> simp [*, w3, w3n, q1, q2, q3, q4, q5, q6, q7, ht, hT, m10, o0, o3, o4, hC, hU, gapSplit, Nat.testBit])
    | (refine split_cond (by simp) (fun hp => ?_) (fun hp => ?_) <;> simp at hp <;> simp [*, w3, w3n, q1, q2, q3, q4, q5, q6, q7, ht, hT, m10, o0, o3, o4, hC, hU, gapSplit, Nat.testBit])
    | (refine split_ops (by simp) (fun hp => ?_) (fun hp => ?_) <;> simp at hp <;> simp [*, w3, w3n, q1, q2, q3, q4, q5, q6, q7, ht, hT, m10, o0, o3, o4, hC, hU, gapSplit, Nat.testBit])
    | (refine split_opsD (by simp) (fun hp => ?_) (fun hp => ?_) <;> simp at hp <;> simp [*, w3, w3n, q1, q2, q3, q4, q5, q6, q7, ht, hT, m10, o0, o3, o4, hC, hU, gapSplit, Nat.testBit])
    | (refine split_pick (by simp) (fun hp => ?_) (fun hp => ?_) <;> simp at hp <;> simp [*, w3, w3n, q1, q2, q3, q4, q5, q6, q7, ht, hT, m10, o0, o3, o4, hC, hU, gapSplit, Nat.testBit])
    | omega
    | decide
    | (simp [*, w3, w3n, q1, q2, q3, q4, q5, q6, q7, ht, hT, m10, o0, o3, o4, hC, hU, gapSplit, Nat.testBit]))
  all_goals trace_state

theorem moved_m10gt_2n (n : Nat) (e : EditM) (a : ActM) (c : Int) (h : EdOk e) (l : List Int) (hl : l = e.G.A ++ e.G.B) (T : Nat) (t2 : T ≤ l.length) (ho : 1 ≤ a.o ∧ a.o ≤ 6) (hne : 0 < l.length) (hTo : toE e a c = T) (m10 : a.m = 10) (hAT : e.G.A.length < T) (o2 : a.o = 2) (hla : ¬ e.La = 2) :
    (W (n + 9)).pc 21 [edD e, acD a, .int .i64 c] = some (.tup [edD ⟨⟨l.take 0, l.drop l.length⟩, kAdd e.K ((l.drop 0).take (l.length - 0)) 0, uPush e.U e.G, 2, 0, 0⟩, eD 0]) := by
  apply runs c_typebarref23_moved
  obtain ⟨g1, g2, g3⟩ := gapIs_ln h.g
  have hLen : l.length = e.G.A.length + e.G.B.length := by rw [hl]; exact List.length_append
  have ht := pc_ref10_Text (n + 6) e.G (by omega) (by omega)
  have hT := pc_ref23_Target (n + 2) (e.G.A ++ e.G.B) e.G.A.length a.m c (by simp; omega)
  rw [show (tgtE (e.G.A ++ e.G.B) e.G.A.length a.m c).1 = (T : Int) from hTo] at hT
  generalize (tgtE (e.G.A ++ e.G.B) e.G.A.length a.m c).2 = er at hT
  rw [← hl] at ht hT
  have hK := pc_ref12_Add (n + 3) e.K ((l.drop 0).take (l.length - 0)) 0 (kIs_small h.k) (by simp; omega)
  have hU := pc_ref13_Push (n + 2) e.U e.G (uIs_small h.u) (by omega) (by omega)
  have w3 : (e.G.A.length : Int) < (T : Int) := by omega
  have w3n : e.G.A.length < T := by omega
  have q1 : ¬ (0 : Int) = (l.length : Int) := by omega
  have q2 : (0 : Int) ≤ (l.length : Int) := by omega
  have q3 : (l.length : Int) ≤ (l.length : Int) := by omega
  have q4 : 0 ≤ l.length := by omega
  have q5 : l.length ≤ l.length := by omega
  have q6 : 0 ≤ l.length := by omega
  have q7 : ¬ 0 = l.length := by omega
  rw [m10] at hT
  try simp only [Int.natCast_add, Int.natCast_zero, Int.natCast_one] at hK
  simp only [List.drop_zero, Nat.sub_zero, List.take_length] at hK
  clear hl hTo
  simp [X_typebarref23_moved, putAt, Nat.testBit, w3, w3n, q1, q2, q3, q4, q5, q6, q7, ht, hT, m10, o2, hla, hK, hU]
  repeat' (first
    | simp (disch := omega) only [wrap_i64, wrap_i32]
    | (simp (disch := first | omega | assumption | (simp only [i64, i32]; omega) | (simp <;> omega) | fail) only [loadD_cpr, loadD_cprs, List.take_of_length_le]; simp [*, w3, w3n, q1, q2, q3, q4, q5, q6, q7, ht, hT, m10, o2, hla, hK, hU, Nat.testBit])
    | (with_reducible refine And.intro ?_ ?_; focus first | omega | decide)
    | (with_reducible refine split_ite (fun hp => ?_) (fun hp => ?_) <;> (try simp at hp) <;> simp [*, w3, w3n, q1, q2, q3, q4, q5, q6, q7, ht, hT, m10, o2, hla, hK, hU, Nat.testBit])
    | (with_reducible refine split_ite1 (fun hp => ?_) (fun hp => ?_) <;> (try simp at hp) <;> simp [*, w3, w3n, q1, q2, q3, q4, q5, q6, q7, ht, hT, m10, o2, hla, hK, hU, Nat.testBit])
    | (refine split_cond (by simp) (fun hp => ?_) (fun hp => ?_) <;> simp at hp <;> simp [*, w3, w3n, q1, q2, q3, q4, q5, q6, q7, ht, hT, m10, o2, hla, hK, hU, Nat.testBit])
    | (refine split_ops (by simp) (fun hp => ?_) (fun hp => ?_) <;> simp at hp <;> simp [*, w3, w3n, q1, q2, q3, q4, q5, q6, q7, ht, hT, m10, o2, hla, hK, hU, Nat.testBit])
    | (refine split_opsD (by simp) (fun hp => ?_) (fun hp => ?_) <;> simp at hp <;> simp [*, w3, w3n, q1, q2, q3, q4, q5, q6, q7, ht, hT, m10, o2, hla, hK, hU, Nat.testBit])
    | (refine split_pick (by simp) (fun hp => ?_) (fun hp => ?_) <;> simp at hp <;> simp [*, w3, w3n, q1, q2, q3, q4, q5, q6, q7, ht, hT, m10, o2, hla, hK, hU, Nat.testBit])
    | omega
    | decide
    | (simp [*, w3, w3n, q1, q2, q3, q4, q5, q6, q7, ht, hT, m10, o2, hla, hK, hU, Nat.testBit]))
  all_goals trace_state

theorem moved_m10gt_2y (n : Nat) (e : EditM) (a : ActM) (c : Int) (h : EdOk e) (l : List Int) (hl : l = e.G.A ++ e.G.B) (T : Nat) (t2 : T ≤ l.length) (ho : 1 ≤ a.o ∧ a.o ≤ 6) (hne : 0 < l.length) (hTo : toE e a c = T) (m10 : a.m = 10) (hAT : e.G.A.length < T) (o2 : a.o = 2) (hla : e.La = 2) :
    (W (n + 9)).pc 21 [edD e, acD a, .int .i64 c] = some (.tup [edD ⟨⟨l.take 0, l.drop l.length⟩, kAdd e.K ((l.drop 0).take (l.length - 0)) 1, uPush e.U e.G, 2, 0, 0⟩, eD 0]) := by
  apply runs c_typebarref23_moved
  obtain ⟨g1, g2, g3⟩ := gapIs_ln h.g
  have hLen : l.length = e.G.A.length + e.G.B.length := by rw [hl]; exact List.length_append
  have ht := pc_ref10_Text (n + 6) e.G (by omega) (by omega)
  have hT := pc_ref23_Target (n + 2) (e.G.A ++ e.G.B) e.G.A.length a.m c (by simp; omega)
  rw [show (tgtE (e.G.A ++ e.G.B) e.G.A.length a.m c).1 = (T : Int) from hTo] at hT
  generalize (tgtE (e.G.A ++ e.G.B) e.G.A.length a.m c).2 = er at hT
  rw [← hl] at ht hT
  have hK := pc_ref12_Add (n + 3) e.K ((l.drop 0).take (l.length - 0)) 1 (kIs_small h.k) (by simp; omega)
  have hU := pc_ref13_Push (n + 2) e.U e.G (uIs_small h.u) (by omega) (by omega)
  have w3 : (e.G.A.length : Int) < (T : Int) := by omega
  have w3n : e.G.A.length < T := by omega
  have q1 : ¬ (0 : Int) = (l.length : Int) := by omega
  have q2 : (0 : Int) ≤ (l.length : Int) := by omega
  have q3 : (l.length : Int) ≤ (l.length : Int) := by omega
  have q4 : 0 ≤ l.length := by omega
  have q5 : l.length ≤ l.length := by omega
  have q6 : 0 ≤ l.length := by omega
  have q7 : ¬ 0 = l.length := by omega
  rw [m10] at hT
  try simp only [Int.natCast_add, Int.natCast_zero, Int.natCast_one] at hK
  simp only [List.drop_zero, Nat.sub_zero, List.take_length] at hK
  clear hl hTo
  simp [X_typebarref23_moved, putAt, Nat.testBit, w3, w3n, q1, q2, q3, q4, q5, q6, q7, ht, hT, m10, o2, hla, hK, hU]
  repeat' (first
    | simp (disch := omega) only [wrap_i64, wrap_i32]
    | (simp (disch := first | omega | assumption | (simp only [i64, i32]; omega) | (simp <;> omega) | fail) only [loadD_cpr, loadD_cprs, List.take_of_length_le]; simp [*, w3, w3n, q1, q2, q3, q4, q5, q6, q7, ht, hT, m10, o2, hla, hK, hU, Nat.testBit])
    | (with_reducible refine And.intro ?_ ?_; focus first | omega | decide)
    | (with_reducible refine split_ite (fun hp => ?_) (fun hp => ?_) <;> (try simp at hp) <;> simp [*, w3, w3n, q1, q2, q3, q4, q5, q6, q7, ht, hT, m10, o2, hla, hK, hU, Nat.testBit])
    | (with_reducible refine split_ite1 (fun hp => ?_) (fun hp => ?_) <;> (try simp at hp) <;> simp [*, w3, w3n, q1, q2, q3, q4, q5, q6, q7, ht, hT, m10, o2, hla, hK, hU, Nat.testBit])
    | (refine split_cond (by simp) (fun hp => ?_) (fun hp => ?_) <;> simp at hp <;> simp [*, w3, w3n, q1, q2, q3, q4, q5, q6, q7, ht, hT, m10, o2, hla, hK, hU, Nat.testBit])
    | (refine split_ops (by simp) (fun hp => ?_) (fun hp => ?_) <;> simp at hp <;> simp [*, w3, w3n, q1, q2, q3, q4, q5, q6, q7, ht, hT, m10, o2, hla, hK, hU, Nat.testBit])
    | (refine split_opsD (by simp) (fun hp => ?_) (fun hp => ?_) <;> simp at hp <;> simp [*, w3, w3n, q1, q2, q3, q4, q5, q6, q7, ht, hT, m10, o2, hla, hK, hU, Nat.testBit])
    | (refine split_pick (by simp) (fun hp => ?_) (fun hp => ?_) <;> simp at hp <;> simp [*, w3, w3n, q1, q2, q3, q4, q5, q6, q7, ht, hT, m10, o2, hla, hK, hU, Nat.testBit])
    | omega
    | decide
    | (simp [*, w3, w3n, q1, q2, q3, q4, q5, q6, q7, ht, hT, m10, o2, hla, hK, hU, Nat.testBit]))
  all_goals trace_state

theorem moved_m10gt_1 (n : Nat) (e : EditM) (a : ActM) (c : Int) (h : EdOk e) (l : List Int) (hl : l = e.G.A ++ e.G.B) (T : Nat) (t2 : T ≤ l.length) (ho : 1 ≤ a.o ∧ a.o ≤ 6) (hne : 0 < l.length) (hTo : toE e a c = T) (m10 : a.m = 10) (hAT : e.G.A.length < T) (o1 : a.o = 1) :
    (W (n + 9)).pc 21 [edD e, acD a, .int .i64 c] = some (.tup [edD ⟨⟨l.take 0, l.drop l.length⟩, e.K, uPush e.U e.G, 0, 0, 0⟩, eD 0]) := by
  apply runs c_typebarref23_moved
  obtain ⟨g1, g2, g3⟩ := gapIs_ln h.g
  have hLen : l.length = e.G.A.length + e.G.B.length := by rw [hl]; exact List.length_append
  have ht := pc_ref10_Text (n + 6) e.G (by omega) (by omega)
  have hT := pc_ref23_Target (n + 2) (e.G.A ++ e.G.B) e.G.A.length a.m c (by simp; omega)
  rw [show (tgtE (e.G.A ++ e.G.B) e.G.A.length a.m c).1 = (T : Int) from hTo] at hT
  generalize (tgtE (e.G.A ++ e.G.B) e.G.A.length a.m c).2 = er at hT
  rw [← hl] at ht hT
  have hU := pc_ref13_Push (n + 2) e.U e.G (uIs_small h.u) (by omega) (by omega)
  have w3 : (e.G.A.length : Int) < (T : Int) := by omega
  have w3n : e.G.A.length < T := by omega
  have q1 : ¬ (0 : Int) = (l.length : Int) := by omega
  have q2 : (0 : Int) ≤ (l.length : Int) := by omega
  have q3 : (l.length : Int) ≤ (l.length : Int) := by omega
  have q4 : 0 ≤ l.length := by omega
  have q5 : l.length ≤ l.length := by omega
  have q6 : 0 ≤ l.length := by omega
  have q7 : ¬ 0 = l.length := by omega
  rw [m10] at hT
  clear hl hTo
  simp [X_typebarref23_moved, putAt, Nat.testBit, w3, w3n, q1, q2, q3, q4, q5, q6, q7, ht, hT, m10, o1, hU]
  repeat' (first
    | simp (disch := omega) only [wrap_i64, wrap_i32]
    | (simp (disch := first | omega | assumption | (simp only [i64, i32]; omega) | (simp <;> omega) | fail) only [loadD_cpr, loadD_cprs, List.take_of_length_le]; simp [*, w3, w3n, q1, q2, q3, q4, q5, q6, q7, ht, hT, m10, o1, hU, Nat.testBit])
    | (with_reducible refine And.intro ?_ ?_; focus first | omega | decide)
    | (with_reducible refine split_ite (fun hp => ?_) (fun hp => ?_) <;> (try simp at hp) <;> simp [*, w3, w3n, q1, q2, q3, q4, q5, q6, q7, ht, hT, m10, o1, hU, Nat.testBit])
    | (with_reducible refine split_ite1 (fun hp => ?_) (fun hp => ?_) <;> (try simp at hp) <;> simp [*, w3, w3n, q1, q2, q3, q4, q5, q6, q7, ht, hT, m10, o1, hU, Nat.testBit])
    | (refine split_cond (by simp) (fun hp => ?_) (fun hp => ?_) <;> simp at hp <;> simp [*, w3, w3n, q1, q2, q3, q4, q5, q6, q7, ht, hT, m10, o1, hU, Nat.testBit])
    | (refine split_ops (by simp) (fun hp => ?_) (fun hp => ?_) <;> simp at hp <;> simp [*, w3, w3n, q1, q2, q3, q4, q5, q6, q7, ht, hT, m10, o1, hU, Nat.testBit])
    | (refine split_opsD (by simp) (fun hp => ?_) (fun hp => ?_) <;> simp at hp <;> simp [*, w3, w3n, q1, q2, q3, q4, q5, q6, q7, ht, hT, m10, o1, hU, Nat.testBit])
    | (refine split_pick (by simp) (fun hp => ?_) (fun hp => ?_) <;> simp at hp <;> simp [*, w3, w3n, q1, q2, q3, q4, q5, q6, q7, ht, hT, m10, o1, hU, Nat.testBit])
    | omega
    | decide
    | (simp [*, w3, w3n, q1, q2, q3, q4, q5, q6, q7, ht, hT, m10, o1, hU, Nat.testBit]))
  all_goals trace_state

theorem moved_m10le_3 (n : Nat) (e : EditM) (a : ActM) (c : Int) (h : EdOk e) (l : List Int) (hl : l = e.G.A ++ e.G.B) (T : Nat) (t2 : T ≤ l.length) (ho : 1 ≤ a.o ∧ a.o ≤ 6) (hne : 0 < l.length) (hTo : toE e a c = T) (m10 : a.m = 10) (hAT : ¬ e.G.A.length < T) (o3 : a.o = 3) :
    (W (n + 9)).pc 21 [edD e, acD a, .int .i64 c] = some (.tup [edD ⟨gapSplit l 0, kAdd e.K ((l.drop 0).take (l.length - 0)) 0, e.U, 0, 0, 0⟩, eD 0]) := by
  apply runs c_typebarref23_moved
  obtain ⟨g1, g2, g3⟩ := gapIs_ln h.g
  have hLen : l.length = e.G.A.length + e.G.B.length := by rw [hl]; exact List.length_append
  have ht := pc_ref10_Text (n + 6) e.G (by omega) (by omega)
  have hT := pc_ref23_Target (n + 2) (e.G.A ++ e.G.B) e.G.A.length a.m c (by simp; omega)
  rw [show (tgtE (e.G.A ++ e.G.B) e.G.A.length a.m c).1 = (T : Int) from hTo] at hT
  generalize (tgtE (e.G.A ++ e.G.B) e.G.A.length a.m c).2 = er at hT
  have hG := pc_ref10_Go (n + 4) e.G ((0 : Nat) : Int) (by omega) (by omega)
  rw [gapGo_text h] at hG
  rw [← hl] at ht hT hG
  have hK := pc_ref12_Add (n + 3) e.K ((l.drop 0).take (l.length - 0)) 0 (kIs_small h.k) (by simp; omega)
  have w3 : ¬ (e.G.A.length : Int) < (T : Int) := by omega
  have w3n : ¬ e.G.A.length < T := by omega
  have q1 : ¬ (0 : Int) = (l.length : Int) := by omega
  have q2 : (0 : Int) ≤ (l.length : Int) := by omega
  have q3 : (l.length : Int) ≤ (l.length : Int) := by omega
  have q4 : 0 ≤ l.length := by omega
  have q5 : l.length ≤ l.length := by omega
  have q6 : 0 ≤ l.length := by omega
  have q7 : ¬ 0 = l.length := by omega
  rw [m10] at hT
  try simp only [Int.natCast_add, Int.natCast_zero, Int.natCast_one] at hG
  try simp only [Int.natCast_add, Int.natCast_zero, Int.natCast_one] at hK
  simp only [List.drop_zero, Nat.sub_zero, List.take_length] at hK
  clear hl hTo
  simp [X_typebarref23_moved, putAt, Nat.testBit, w3, w3n, q1, q2, q3, q4, q5, q6, q7, ht, hT, m10, o3, hG, hK, gapSplit]
  repeat' (first
    | simp (disch := omega) only [wrap_i64, wrap_i32]
    | (simp (disch := first | omega | assumption | (simp only [i64, i32]; omega) | (simp <;> omega) | fail) only [loadD_cpr, loadD_cprs, List.take_of_length_le]; simp [*, w3, w3n, q1, q2, q3, q4, q5, q6, q7, ht, hT, m10, o3, hG, hK, gapSplit, Nat.testBit])
    | (with_reducible refine And.intro ?_ ?_; focus first | omega | decide)
    | (with_reducible refine split_ite (fun hp => ?_) (fun hp => ?_) <;> (try simp at hp) <;> simp [*, w3, w3n, q1, q2, q3, q4, q5, q6, q7, ht, hT, m10, o3, hG, hK, gapSplit, Nat.testBit])
    | (with_reducible refine split_ite1 (fun hp => ?_) (fun hp => ?_) <;> (try simp at hp) <;> simp [*, w3, w3n, q1, q2, q3, q4, q5, q6, q7, ht, hT, m10, o3, hG, hK, gapSplit, Nat.testBit])
    | (refine split_cond (by simp) (fun hp => ?_) (fun hp => ?_) <;> simp at hp <;> simp [*, w3, w3n, q1, q2, q3, q4, q5, q6, q7, ht, hT, m10, o3, hG, hK, gapSplit, Nat.testBit])
    | (refine split_ops (by simp) (fun hp => ?_) (fun hp => ?_) <;> simp at hp <;> simp [*, w3, w3n, q1, q2, q3, q4, q5, q6, q7, ht, hT, m10, o3, hG, hK, gapSplit, Nat.testBit])
    | (refine split_opsD (by simp) (fun hp => ?_) (fun hp => ?_) <;> simp at hp <;> simp [*, w3, w3n, q1, q2, q3, q4, q5, q6, q7, ht, hT, m10, o3, hG, hK, gapSplit, Nat.testBit])
    | (refine split_pick (by simp) (fun hp => ?_) (fun hp => ?_) <;> simp at hp <;> simp [*, w3, w3n, q1, q2, q3, q4, q5, q6, q7, ht, hT, m10, o3, hG, hK, gapSplit, Nat.testBit])
    | omega
    | decide
    | (simp [*, w3, w3n, q1, q2, q3, q4, q5, q6, q7, ht, hT, m10, o3, hG, hK, gapSplit, Nat.testBit]))
  all_goals trace_state

theorem moved_m10le_4 (n : Nat) (e : EditM) (a : ActM) (c : Int) (h : EdOk e) (l : List Int) (hl : l = e.G.A ++ e.G.B) (T : Nat) (t2 : T ≤ l.length) (ho : 1 ≤ a.o ∧ a.o ≤ 6) (hne : 0 < l.length) (hTo : toE e a c = T) (m10 : a.m = 10) (hAT : ¬ e.G.A.length < T) (o4 : 4 ≤ a.o) :
    (W (n + 9)).pc 21 [edD e, acD a, .int .i64 c] = some (.tup [edD ⟨gapSplit (sCh l 0 l.length a.o) l.length, e.K, uPush e.U e.G, 0, 0, 0⟩, eD 0]) := by
  apply runs c_typebarref23_moved
  obtain ⟨g1, g2, g3⟩ := gapIs_ln h.g
  have hLen : l.length = e.G.A.length + e.G.B.length := by rw [hl]; exact List.length_append
  have ht := pc_ref10_Text (n + 6) e.G (by omega) (by omega)
  have hT := pc_ref23_Target (n + 2) (e.G.A ++ e.G.B) e.G.A.length a.m c (by simp; omega)
  rw [show (tgtE (e.G.A ++ e.G.B) e.G.A.length a.m c).1 = (T : Int) from hTo] at hT
  generalize (tgtE (e.G.A ++ e.G.B) e.G.A.length a.m c).2 = er at hT
  rw [← hl] at ht hT
  have hC := pc_ref14_Change (n + 6) l ((0 : Nat) : Int) ((l.length : Nat) : Int) a.o (by omega)
  rw [change_in hne (by omega) (by omega)] at hC
  have hU := pc_ref13_Push (n + 2) e.U e.G (uIs_small h.u) (by omega) (by omega)
  have w3 : ¬ (e.G.A.length : Int) < (T : Int) := by omega
  have w3n : ¬ e.G.A.length < T := by omega
  have q1 : ¬ (0 : Int) = (l.length : Int) := by omega
  have q2 : (0 : Int) ≤ (l.length : Int) := by omega
  have q3 : (l.length : Int) ≤ (l.length : Int) := by omega
  have q4 : 0 ≤ l.length := by omega
  have q5 : l.length ≤ l.length := by omega
  have q6 : 0 ≤ l.length := by omega
  have q7 : ¬ 0 = l.length := by omega
  rw [m10] at hT
  have o0 : ¬ a.o = 0 := by omega
  have o3 : ¬ a.o = 3 := by omega
  try simp only [Int.natCast_add, Int.natCast_zero, Int.natCast_one] at hC
  clear hl hTo
  simp [X_typebarref23_moved, putAt, Nat.testBit, w3, w3n, q1, q2, q3, q4, q5, q6, q7, ht, hT, m10, o0, o3, o4, hC, hU, gapSplit]
  repeat' (first
    | simp (disch := omega) only [wrap_i64, wrap_i32]
    | (simp (disch := first | omega | assumption | (simp only [i64, i32]; omega) | (simp <;> omega) | fail) only [loadD_cpr, loadD_cprs, List.take_of_length_le]; simp [*, w3, w3n, q1, q2, q3, q4, q5, q6, q7, ht, hT, m10, o0, o3, o4, hC, hU, gapSplit, Nat.testBit])
    | (with_reducible refine And.intro ?_ ?_; focus first | omega | decide)
    | (with_reducible refine split_ite (fun hp => ?_) (fun hp => ?_) <;> (try simp at hp) <;> simp [*, w3, w3n, q1, q2, q3, q4, q5, q6, q7, ht, hT, m10, o0, o3, o4, hC, hU, gapSplit, Nat.testBit])
    | (with_reducible refine split_ite1 (fun hp => ?_) (fun hp => ?_) <;> (try simp at hp) <;> simp [*, w3, w3n, q1, q2, q3, q4, q5, q6, q7, ht, hT, m10, o0, o3, o4, hC, hU, gapSplit, Nat.testBit])
    | (refine split_cond (by simp) (fun hp => ?_) (fun hp => ?_) <;> simp at hp <;> simp [*, w3, w3n, q1, q2, q3, q4, q5, q6, q7, ht, hT, m10, o0, o3, o4, hC, hU, gapSplit, Nat.testBit])
    | (refine split_ops (by simp) (fun hp => ?_) (fun hp => ?_) <;> simp at hp <;> simp [*, w3, w3n, q1, q2, q3, q4, q5, q6, q7, ht, hT, m10, o0, o3, o4, hC, hU, gapSplit, Nat.testBit])
    | (refine split_opsD (by simp) (fun hp => ?_) (fun hp => ?_) <;> simp at hp <;> simp [*, w3, w3n, q1, q2, q3, q4, q5, q6, q7, ht, hT, m10, o0, o3, o4, hC, hU, gapSplit, Nat.testBit])
    | (refine split_pick (by simp) (fun hp => ?_) (fun hp => ?_) <;> simp at hp <;> simp [*, w3, w3n, q1, q2, q3, q4, q5, q6, q7, ht, hT, m10, o0, o3, o4, hC, hU, gapSplit, Nat.testBit])
    | omega
    | decide
    | (simp [*, w3, w3n, q1, q2, q3, q4, q5, q6, q7, ht, hT, m10, o0, o3, o4, hC, hU, gapSplit, Nat.testBit]))
  all_goals trace_state

theorem moved_m10le_2n (n : Nat) (e : EditM) (a : ActM) (c : Int) (h : EdOk e) (l : List Int) (hl : l = e.G.A ++ e.G.B) (T : Nat) (t2 : T ≤ l.length) (ho : 1 ≤ a.o ∧ a.o ≤ 6) (hne : 0 < l.length) (hTo : toE e a c = T) (m10 : a.m = 10) (hAT : ¬ e.G.A.length < T) (o2 : a.o = 2) (hla : ¬ e.La = 2) :
    (W (n + 9)).pc 21 [edD e, acD a, .int .i64 c] = some (.tup [edD ⟨⟨l.take 0, l.drop l.length⟩, kAdd e.K ((l.drop 0).take (l.length - 0)) 0, uPush e.U e.G, 2, 0, 0⟩, eD 0]) := by
  apply runs c_typebarref23_moved
  obtain ⟨g1, g2, g3⟩ := gapIs_ln h.g
  have hLen : l.length = e.G.A.length + e.G.B.length := by rw [hl]; exact List.length_append
  have ht := pc_ref10_Text (n + 6) e.G (by omega) (by omega)
  have hT := pc_ref23_Target (n + 2) (e.G.A ++ e.G.B) e.G.A.length a.m c (by simp; omega)
  rw [show (tgtE (e.G.A ++ e.G.B) e.G.A.length a.m c).1 = (T : Int) from hTo] at hT
  generalize (tgtE (e.G.A ++ e.G.B) e.G.A.length a.m c).2 = er at hT
  rw [← hl] at ht hT
  have hK := pc_ref12_Add (n + 3) e.K ((l.drop 0).take (l.length - 0)) 0 (kIs_small h.k) (by simp; omega)
  have hU := pc_ref13_Push (n + 2) e.U e.G (uIs_small h.u) (by omega) (by omega)
  have w3 : ¬ (e.G.A.length : Int) < (T : Int) := by omega
  have w3n : ¬ e.G.A.length < T := by omega
  have q1 : ¬ (0 : Int) = (l.length : Int) := by omega
  have q2 : (0 : Int) ≤ (l.length : Int) := by omega
  have q3 : (l.length : Int) ≤ (l.length : Int) := by omega
  have q4 : 0 ≤ l.length := by omega
  have q5 : l.length ≤ l.length := by omega
  have q6 : 0 ≤ l.length := by omega
  have q7 : ¬ 0 = l.length := by omega
  rw [m10] at hT
  try simp only [Int.natCast_add, Int.natCast_zero, Int.natCast_one] at hK
  simp only [List.drop_zero, Nat.sub_zero, List.take_length] at hK
  clear hl hTo
  simp [X_typebarref23_moved, putAt, Nat.testBit, w3, w3n, q1, q2, q3, q4, q5, q6, q7, ht, hT, m10, o2, hla, hK, hU]
  repeat' (first
    | simp (disch := omega) only [wrap_i64, wrap_i32]
    | (simp (disch := first | omega | assumption | (simp only [i64, i32]; omega) | (simp <;> omega) | fail) only [loadD_cpr, loadD_cprs, List.take_of_length_le]; simp [*, w3, w3n, q1, q2, q3, q4, q5, q6, q7, ht, hT, m10, o2, hla, hK, hU, Nat.testBit])
    | (with_reducible refine And.intro ?_ ?_; focus first | omega | decide)
    | (with_reducible refine split_ite (fun hp => ?_) (fun hp => ?_) <;> (try simp at hp) <;> simp [*, w3, w3n, q1, q2, q3, q4, q5, q6, q7, ht, hT, m10, o2, hla, hK, hU, Nat.testBit])
    | (with_reducible refine split_ite1 (fun hp => ?_) (fun hp => ?_) <;> (try simp at hp) <;> simp [*, w3, w3n, q1, q2, q3, q4, q5, q6, q7, ht, hT, m10, o2, hla, hK, hU, Nat.testBit])
    | (refine split_cond (by simp) (fun hp => ?_) (fun hp => ?_) <;> simp at hp <;> simp [*, w3, w3n, q1, q2, q3, q4, q5, q6, q7, ht, hT, m10, o2, hla, hK, hU, Nat.testBit])
    | (refine split_ops (by simp) (fun hp => ?_) (fun hp => ?_) <;> simp at hp <;> simp [*, w3, w3n, q1, q2, q3, q4, q5, q6, q7, ht, hT, m10, o2, hla, hK, hU, Nat.testBit])
    | (refine split_opsD (by simp) (fun hp => ?_) (fun hp => ?_) <;> simp at hp <;> simp [*, w3, w3n, q1, q2, q3, q4, q5, q6, q7, ht, hT, m10, o2, hla, hK, hU, Nat.testBit])
    | (refine split_pick (by simp) (fun hp => ?_) (fun hp => ?_) <;> simp at hp <;> simp [*, w3, w3n, q1, q2, q3, q4, q5, q6, q7, ht, hT, m10, o2, hla, hK, hU, Nat.testBit])
    | omega
    | decide
    | (simp [*, w3, w3n, q1, q2, q3, q4, q5, q6, q7, ht, hT, m10, o2, hla, hK, hU, Nat.testBit]))
  all_goals trace_state

theorem moved_m10le_2y (n : Nat) (e : EditM) (a : ActM) (c : Int) (h : EdOk e) (l : List Int) (hl : l = e.G.A ++ e.G.B) (T : Nat) (t2 : T ≤ l.length) (ho : 1 ≤ a.o ∧ a.o ≤ 6) (hne : 0 < l.length) (hTo : toE e a c = T) (m10 : a.m = 10) (hAT : ¬ e.G.A.length < T) (o2 : a.o = 2) (hla : e.La = 2) :
    (W (n + 9)).pc 21 [edD e, acD a, .int .i64 c] = some (.tup [edD ⟨⟨l.take 0, l.drop l.length⟩, kAdd e.K ((l.drop 0).take (l.length - 0)) 1, uPush e.U e.G, 2, 0, 0⟩, eD 0]) := by
  apply runs c_typebarref23_moved
  obtain ⟨g1, g2, g3⟩ := gapIs_ln h.g
  have hLen : l.length = e.G.A.length + e.G.B.length := by rw [hl]; exact List.length_append
  have ht := pc_ref10_Text (n + 6) e.G (by omega) (by omega)
  have hT := pc_ref23_Target (n + 2) (e.G.A ++ e.G.B) e.G.A.length a.m c (by simp; omega)
  rw [show (tgtE (e.G.A ++ e.G.B) e.G.A.length a.m c).1 = (T : Int) from hTo] at hT
  generalize (tgtE (e.G.A ++ e.G.B) e.G.A.length a.m c).2 = er at hT
  rw [← hl] at ht hT
  have hK := pc_ref12_Add (n + 3) e.K ((l.drop 0).take (l.length - 0)) 1 (kIs_small h.k) (by simp; omega)
  have hU := pc_ref13_Push (n + 2) e.U e.G (uIs_small h.u) (by omega) (by omega)
  have w3 : ¬ (e.G.A.length : Int) < (T : Int) := by omega
  have w3n : ¬ e.G.A.length < T := by omega
  have q1 : ¬ (0 : Int) = (l.length : Int) := by omega
  have q2 : (0 : Int) ≤ (l.length : Int) := by omega
  have q3 : (l.length : Int) ≤ (l.length : Int) := by omega
  have q4 : 0 ≤ l.length := by omega
  have q5 : l.length ≤ l.length := by omega
  have q6 : 0 ≤ l.length := by omega
  have q7 : ¬ 0 = l.length := by omega
  rw [m10] at hT
  try simp only [Int.natCast_add, Int.natCast_zero, Int.natCast_one] at hK
  simp only [List.drop_zero, Nat.sub_zero, List.take_length] at hK
  clear hl hTo
  simp [X_typebarref23_moved, putAt, Nat.testBit, w3, w3n, q1, q2, q3, q4, q5, q6, q7, ht, hT, m10, o2, hla, hK, hU]
  repeat' (first
    | simp (disch := omega) only [wrap_i64, wrap_i32]
    | (simp (disch := first | omega | assumption | (simp only [i64, i32]; omega) | (simp <;> omega) | fail) only [loadD_cpr, loadD_cprs, List.take_of_length_le]; simp [*, w3, w3n, q1, q2, q3, q4, q5, q6, q7, ht, hT, m10, o2, hla, hK, hU, Nat.testBit])
    | (with_reducible refine And.intro ?_ ?_; focus first | omega | decide)
    | (with_reducible refine split_ite (fun hp => ?_) (fun hp => ?_) <;> (try simp at hp) <;> simp [*, w3, w3n, q1, q2, q3, q4, q5, q6, q7, ht, hT, m10, o2, hla, hK, hU, Nat.testBit])
    | (with_reducible refine split_ite1 (fun hp => ?_) (fun hp => ?_) <;> (try simp at hp) <;> simp [*, w3, w3n, q1, q2, q3, q4, q5, q6, q7, ht, hT, m10, o2, hla, hK, hU, Nat.testBit])
    | (refine split_cond (by simp) (fun hp => ?_) (fun hp => ?_) <;> simp at hp <;> simp [*, w3, w3n, q1, q2, q3, q4, q5, q6, q7, ht, hT, m10, o2, hla, hK, hU, Nat.testBit])
    | (refine split_ops (by simp) (fun hp => ?_) (fun hp => ?_) <;> simp at hp <;> simp [*, w3, w3n, q1, q2, q3, q4, q5, q6, q7, ht, hT, m10, o2, hla, hK, hU, Nat.testBit])
    | (refine split_opsD (by simp) (fun hp => ?_) (fun hp => ?_) <;> simp at hp <;> simp [*, w3, w3n, q1, q2, q3, q4, q5, q6, q7, ht, hT, m10, o2, hla, hK, hU, Nat.testBit])
    | (refine split_pick (by simp) (fun hp => ?_) (fun hp => ?_) <;> simp at hp <;> simp [*, w3, w3n, q1, q2, q3, q4, q5, q6, q7, ht, hT, m10, o2, hla, hK, hU, Nat.testBit])
    | omega
    | decide
    | (simp [*, w3, w3n, q1, q2, q3, q4, q5, q6, q7, ht, hT, m10, o2, hla, hK, hU, Nat.testBit]))
  all_goals trace_state

theorem moved_m10le_1 (n : Nat) (e : EditM) (a : ActM) (c : Int) (h : EdOk e) (l : List Int) (hl : l = e.G.A ++ e.G.B) (T : Nat) (t2 : T ≤ l.length) (ho : 1 ≤ a.o ∧ a.o ≤ 6) (hne : 0 < l.length) (hTo : toE e a c = T) (m10 : a.m = 10) (hAT : ¬ e.G.A.length < T) (o1 : a.o = 1) :
    (W (n + 9)).pc 21 [edD e, acD a, .int .i64 c] = some (.tup [edD ⟨⟨l.take 0, l.drop l.length⟩, e.K, uPush e.U e.G, 0, 0, 0⟩, eD 0]) := by
  apply runs c_typebarref23_moved
  obtain ⟨g1, g2, g3⟩ := gapIs_ln h.g
  have hLen : l.length = e.G.A.length + e.G.B.length := by rw [hl]; exact List.length_append
  have ht := pc_ref10_Text (n + 6) e.G (by omega) (by omega)
  have hT := pc_ref23_Target (n + 2) (e.G.A ++ e.G.B) e.G.A.length a.m c (by simp; omega)
  rw [show (tgtE (e.G.A ++ e.G.B) e.G.A.length a.m c).1 = (T : Int) from hTo] at hT
  generalize (tgtE (e.G.A ++ e.G.B) e.G.A.length a.m c).2 = er at hT
  rw [← hl] at ht hT
  have hU := pc_ref13_Push (n + 2) e.U e.G (uIs_small h.u) (by omega) (by omega)
  have w3 : ¬ (e.G.A.length : Int) < (T : Int) := by omega
  have w3n : ¬ e.G.A.length < T := by omega
  have q1 : ¬ (0 : Int) = (l.length : Int) := by omega
  have q2 : (0 : Int) ≤ (l.length : Int) := by omega
  have q3 : (l.length : Int) ≤ (l.length : Int) := by omega
  have q4 : 0 ≤ l.length := by omega
  have q5 : l.length ≤ l.length := by omega
  have q6 : 0 ≤ l.length := by omega
  have q7 : ¬ 0 = l.length := by omega
  rw [m10] at hT
  clear hl hTo
  simp [X_typebarref23_moved, putAt, Nat.testBit, w3, w3n, q1, q2, q3, q4, q5, q6, q7, ht, hT, m10, o1, hU]
  repeat' (first
    | simp (disch := omega) only [wrap_i64, wrap_i32]
    | (simp (disch := first | omega | assumption | (simp only [i64, i32]; omega) | (simp <;> omega) | fail) only [loadD_cpr, loadD_cprs, List.take_of_length_le]; simp [*, w3, w3n, q1, q2, q3, q4, q5, q6, q7, ht, hT, m10, o1, hU, Nat.testBit])
    | (with_reducible refine And.intro ?_ ?_; focus first | omega | decide)
    | (with_reducible refine split_ite (fun hp => ?_) (fun hp => ?_) <;> (try simp at hp) <;> simp [*, w3, w3n, q1, q2, q3, q4, q5, q6, q7, ht, hT, m10, o1, hU, Nat.testBit])
    | (with_reducible refine split_ite1 (fun hp => ?_) (fun hp => ?_) <;> (try simp at hp) <;> simp [*, w3, w3n, q1, q2, q3, q4, q5, q6, q7, ht, hT, m10, o1, hU, Nat.testBit])
    | (refine split_cond (by simp) (fun hp => ?_) (fun hp => ?_) <;> simp at hp <;> simp [*, w3, w3n, q1, q2, q3, q4, q5, q6, q7, ht, hT, m10, o1, hU, Nat.testBit])
    | (refine split_ops (by simp) (fun hp => ?_) (fun hp => ?_) <;> simp at hp <;> simp [*, w3, w3n, q1, q2, q3, q4, q5, q6, q7, ht, hT, m10, o1, hU, Nat.testBit])
    | (refine split_opsD (by simp) (fun hp => ?_) (fun hp => ?_) <;> simp at hp <;> simp [*, w3, w3n, q1, q2, q3, q4, q5, q6, q7, ht, hT, m10, o1, hU, Nat.testBit])
    | (refine split_pick (by simp) (fun hp => ?_) (fun hp => ?_) <;> simp at hp <;> simp [*, w3, w3n, q1, q2, q3, q4, q5, q6, q7, ht, hT, m10, o1, hU, Nat.testBit])
    | omega
    | decide
    | (simp [*, w3, w3n, q1, q2, q3, q4, q5, q6, q7, ht, hT, m10, o1, hU, Nat.testBit]))
  all_goals trace_state

theorem moved_lt9_3 (n : Nat) (e : EditM) (a : ActM) (c : Int) (h : EdOk e) (l : List Int) (hl : l = e.G.A ++ e.G.B) (T : Nat) (t2 : T ≤ l.length) (ho : 1 ≤ a.o ∧ a.o ≤ 6) (hne : T < e.G.A.length) (hTo : toE e a c = T) (m9 : a.m = 9) (hAT : T < e.G.A.length) (o3 : a.o = 3) :
    (W (n + 9)).pc 21 [edD e, acD a, .int .i64 c] = some (.tup [edD ⟨gapSplit l T, kAdd e.K ((l.drop T).take (e.G.A.length - T)) 0, e.U, 0, 0, 0⟩, eD 0]) := by
  apply runs c_typebarref23_moved
  obtain ⟨g1, g2, g3⟩ := gapIs_ln h.g
  have hLen : l.length = e.G.A.length + e.G.B.length := by rw [hl]; exact List.length_append
  have ht := pc_ref10_Text (n + 6) e.G (by omega) (by omega)
  have hT := pc_ref23_Target (n + 2) (e.G.A ++ e.G.B) e.G.A.length a.m c (by simp; omega)
  rw [show (tgtE (e.G.A ++ e.G.B) e.G.A.length a.m c).1 = (T : Int) from hTo] at hT
  generalize (tgtE (e.G.A ++ e.G.B) e.G.A.length a.m c).2 = er at hT
  have hG := pc_ref10_Go (n + 4) e.G ((T : Nat) : Int) (by omega) (by omega)
  rw [gapGo_text h] at hG
  rw [← hl] at ht hT hG
  have hK := pc_ref12_Add (n + 3) e.K ((l.drop T).take (e.G.A.length - T)) 0 (kIs_small h.k) (by simp; omega)
  have w1 : min (e.G.A.length : Int) (T : Int) = (T : Int) := by omega
  have w2 : max (e.G.A.length : Int) (T : Int) = (e.G.A.length : Int) := by omega
  have w3 : ¬ (e.G.A.length : Int) < (T : Int) := by omega
  have w3n : ¬ e.G.A.length < T := by omega
  have q1 : ¬ (T : Int) = (e.G.A.length : Int) := by omega
  have q2 : (T : Int) ≤ (e.G.A.length : Int) := by omega
  have q3 : (e.G.A.length : Int) ≤ (l.length : Int) := by omega
  have q4 : T ≤ l.length := by omega
  have q5 : e.G.A.length ≤ l.length := by omega
  have q6 : T ≤ e.G.A.length := by omega
  have q7 : ¬ T = e.G.A.length := by omega
  rw [m9] at hT
  try simp only [Int.natCast_add, Int.natCast_zero, Int.natCast_one] at hG
  try simp only [Int.natCast_add, Int.natCast_zero, Int.natCast_one] at hK
  clear hl hTo
  simp [X_typebarref23_moved, putAt, Nat.testBit, w3, w3n, q1, q2, q3, q4, q5, q6, q7, ht, hT, m9, w1, w2, o3, hG, hK, gapSplit]
  repeat' (first
    | simp (disch := omega) only [wrap_i64, wrap_i32]
    | (simp (disch := first | omega | assumption | (simp only [i64, i32]; omega) | (simp <;> omega) | fail) only [loadD_cpr, loadD_cprs, List.take_of_length_le]; simp [*, w3, w3n, q1, q2, q3, q4, q5, q6, q7, ht, hT, m9, w1, w2, o3, hG, hK, gapSplit, Nat.testBit])
    | (with_reducible refine And.intro ?_ ?_; focus first | omega | decide)
    | (with_reducible refine split_ite (fun hp => ?_) (fun hp => ?_) <;> (try simp at hp) <;> simp [*, w3, w3n, q1, q2, q3, q4, q5, q6, q7, ht, hT, m9, w1, w2, o3, hG, hK, gapSplit, Nat.testBit])
    | (with_reducible refine split_ite1 (fun hp => ?_) (fun hp => ?_) <;> (try simp at hp) <;> simp [*, w3, w3n, q1, q2, q3, q4, q5, q6, q7, ht, hT, m9, w1, w2, o3, hG, hK, gapSplit, Nat.testBit])
    | (refine split_cond (by simp) (fun hp => ?_) (fun hp => ?_) <;> simp at hp <;> simp [*, w3, w3n, q1, q2, q3, q4, q5, q6, q7, ht, hT, m9, w1, w2, o3, hG, hK, gapSplit, Nat.testBit])
    | (refine split_ops (by simp) (fun hp => ?_) (fun hp => ?_) <;> simp at hp <;> simp [*, w3, w3n, q1, q2, q3, q4, q5, q6, q7, ht, hT, m9, w1, w2, o3, hG, hK, gapSplit, Nat.testBit])
    | (refine split_opsD (by simp) (fun hp => ?_) (fun hp => ?_) <;> simp at hp <;> simp [*, w3, w3n, q1, q2, q3, q4, q5, q6, q7, ht, hT, m9, w1, w2, o3, hG, hK, gapSplit, Nat.testBit])
    | (refine split_pick (by simp) (fun hp => ?_) (fun hp => ?_) <;> simp at hp <;> simp [*, w3, w3n, q1, q2, q3, q4, q5, q6, q7, ht, hT, m9, w1, w2, o3, hG, hK, gapSplit, Nat.testBit])
    | omega
    | decide
    | (simp [*, w3, w3n, q1, q2, q3, q4, q5, q6, q7, ht, hT, m9, w1, w2, o3, hG, hK, gapSplit, Nat.testBit]))
  all_goals trace_state

theorem moved_lt9_4 (n : Nat) (e : EditM) (a : ActM) (c : Int) (h : EdOk e) (l : List Int) (hl : l = e.G.A ++ e.G.B) (T : Nat) (t2 : T ≤ l.length) (ho : 1 ≤ a.o ∧ a.o ≤ 6) (hne : T < e.G.A.length) (hTo : toE e a c = T) (m9 : a.m = 9) (hAT : T < e.G.A.length) (o4 : 4 ≤ a.o) :
    (W (n + 9)).pc 21 [edD e, acD a, .int .i64 c] = some (.tup [edD ⟨gapSplit (sCh l T e.G.A.length a.o) e.G.A.length, e.K, uPush e.U e.G, 0, 0, 0⟩, eD 0]) := by
  apply runs c_typebarref23_moved
  obtain ⟨g1, g2, g3⟩ := gapIs_ln h.g
  have hLen : l.length = e.G.A.length + e.G.B.length := by rw [hl]; exact List.length_append
  have ht := pc_ref10_Text (n + 6) e.G (by omega) (by omega)
  have hT := pc_ref23_Target (n + 2) (e.G.A ++ e.G.B) e.G.A.length a.m c (by simp; omega)
  rw [show (tgtE (e.G.A ++ e.G.B) e.G.A.length a.m c).1 = (T : Int) from hTo] at hT
  generalize (tgtE (e.G.A ++ e.G.B) e.G.A.length a.m c).2 = er at hT
  rw [← hl] at ht hT
  have hC := pc_ref14_Change (n + 6) l ((T : Nat) : Int) ((e.G.A.length : Nat) : Int) a.o (by omega)
  rw [change_in hne (by omega) (by omega)] at hC
  have hU := pc_ref13_Push (n + 2) e.U e.G (uIs_small h.u) (by omega) (by omega)
  have w1 : min (e.G.A.length : Int) (T : Int) = (T : Int) := by omega
  have w2 : max (e.G.A.length : Int) (T : Int) = (e.G.A.length : Int) := by omega
  have w3 : ¬ (e.G.A.length : Int) < (T : Int) := by omega
  have w3n : ¬ e.G.A.length < T := by omega
  have q1 : ¬ (T : Int) = (e.G.A.length : Int) := by omega
  have q2 : (T : Int) ≤ (e.G.A.length : Int) := by omega
  have q3 : (e.G.A.length : Int) ≤ (l.length : Int) := by omega
  have q4 : T ≤ l.length := by omega
  have q5 : e.G.A.length ≤ l.length := by omega
  have q6 : T ≤ e.G.A.length := by omega
  have q7 : ¬ T = e.G.A.length := by omega
  rw [m9] at hT
  have o0 : ¬ a.o = 0 := by omega
  have o3 : ¬ a.o = 3 := by omega
  try simp only [Int.natCast_add, Int.natCast_zero, Int.natCast_one] at hC
  clear hl hTo
  simp [X_typebarref23_moved, putAt, Nat.testBit, w3, w3n, q1, q2, q3, q4, q5, q6, q7, ht, hT, m9, w1, w2, o0, o3, o4, hC, hU, gapSplit]
  repeat' (first
    | simp (disch := omega) only [wrap_i64, wrap_i32]
    | (simp (disch := first | omega | assumption | (simp only [i64, i32]; omega) | (simp <;> omega) | fail) only [loadD_cpr, loadD_cprs, List.take_of_length_le]; simp [*, w3, w3n, q1, q2, q3, q4, q5, q6, q7, ht, hT, m9, w1, w2, o0, o3, o4, hC, hU, gapSplit, Nat.testBit])
    | (with_reducible refine And.intro ?_ ?_; focus first | omega | decide)
    | (with_reducible refine split_ite (fun hp => ?_) (fun hp => ?_) <;> (try simp at hp) <;> simp [*, w3, w3n, q1, q2, q3, q4, q5, q6, q7, ht, hT, m9, w1, w2, o0, o3, o4, hC, hU, gapSplit, Nat.testBit])
    | (with_reducible refine split_ite1 (fun hp => ?_) (fun hp => ?_) <;> (try simp at hp) <;> simp [*, w3, w3n, q1, q2, q3, q4, q5, q6, q7, ht, hT, m9, w1, w2, o0, o3, o4, hC, hU, gapSplit, Nat.testBit])
    | (refine split_cond (by simp) (fun hp => ?_) (fun hp => ?_) <;> simp at hp <;> simp [*, w3, w3n, q1, q2, q3, q4, q5, q6, q7, ht, hT, m9, w1, w2, o0, o3, o4, hC, hU, gapSplit, Nat.testBit])
    | (refine split_ops (by simp) (fun hp => ?_) (fun hp => ?_) <;> simp at hp <;> simp [*, w3, w3n, q1, q2, q3, q4, q5, q6, q7, ht, hT, m9, w1, w2, o0, o3, o4, hC, hU, gapSplit, Nat.testBit])
    | (refine split_opsD (by simp) (fun hp => ?_) (fun hp => ?_) <;> simp at hp <;> simp [*, w3, w3n, q1, q2, q3, q4, q5, q6, q7, ht, hT, m9, w1, w2, o0, o3, o4, hC, hU, gapSplit, Nat.testBit])
    | (refine split_pick (by simp) (fun hp => ?_) (fun hp => ?_) <;> simp at hp <;> simp [*, w3, w3n, q1, q2, q3, q4, q5, q6, q7, ht, hT, m9, w1, w2, o0, o3, o4, hC, hU, gapSplit, Nat.testBit])
    | omega
    | decide
    | (simp [*, w3, w3n, q1, q2, q3, q4, q5, q6, q7, ht, hT, m9, w1, w2, o0, o3, o4, hC, hU, gapSplit, Nat.testBit]))
  all_goals trace_state

theorem moved_lt9_2n (n : Nat) (e : EditM) (a : ActM) (c : Int) (h : EdOk e) (l : List Int) (hl : l = e.G.A ++ e.G.B) (T : Nat) (t2 : T ≤ l.length) (ho : 1 ≤ a.o ∧ a.o ≤ 6) (hne : T < e.G.A.length) (hTo : toE e a c = T) (m9 : a.m = 9) (hAT : T < e.G.A.length) (o2 : a.o = 2) (hla : ¬ e.La = 2) :
    (W (n + 9)).pc 21 [edD e, acD a, .int .i64 c] = some (.tup [edD ⟨⟨l.take T, l.drop e.G.A.length⟩, kAdd e.K ((l.drop T).take (e.G.A.length - T)) 0, uPush e.U e.G, 2, 0, 0⟩, eD 0]) := by
  apply runs c_typebarref23_moved
  obtain ⟨g1, g2, g3⟩ := gapIs_ln h.g
  have hLen : l.length = e.G.A.length + e.G.B.length := by rw [hl]; exact List.length_append
  have ht := pc_ref10_Text (n + 6) e.G (by omega) (by omega)
  have hT := pc_ref23_Target (n + 2) (e.G.A ++ e.G.B) e.G.A.length a.m c (by simp; omega)
  rw [show (tgtE (e.G.A ++ e.G.B) e.G.A.length a.m c).1 = (T : Int) from hTo] at hT
  generalize (tgtE (e.G.A ++ e.G.B) e.G.A.length a.m c).2 = er at hT
  rw [← hl] at ht hT
  have hK := pc_ref12_Add (n + 3) e.K ((l.drop T).take (e.G.A.length - T)) 0 (kIs_small h.k) (by simp; omega)
  have hU := pc_ref13_Push (n + 2) e.U e.G (uIs_small h.u) (by omega) (by omega)
  have w1 : min (e.G.A.length : Int) (T : Int) = (T : Int) := by omega
  have w2 : max (e.G.A.length : Int) (T : Int) = (e.G.A.length : Int) := by omega
  have w3 : ¬ (e.G.A.length : Int) < (T : Int) := by omega
  have w3n : ¬ e.G.A.length < T := by omega
  have q1 : ¬ (T : Int) = (e.G.A.length : Int) := by omega
  have q2 : (T : Int) ≤ (e.G.A.length : Int) := by omega
  have q3 : (e.G.A.length : Int) ≤ (l.length : Int) := by omega
  have q4 : T ≤ l.length := by omega
  have q5 : e.G.A.length ≤ l.length := by omega
  have q6 : T ≤ e.G.A.length := by omega
  have q7 : ¬ T = e.G.A.length := by omega
  rw [m9] at hT
  try simp only [Int.natCast_add, Int.natCast_zero, Int.natCast_one] at hK
  clear hl hTo
  simp [X_typebarref23_moved, putAt, Nat.testBit, w3, w3n, q1, q2, q3, q4, q5, q6, q7, ht, hT, m9, w1, w2, o2, hla, hK, hU]
  repeat' (first
    | simp (disch := omega) only [wrap_i64, wrap_i32]
    | (simp (disch := first | omega | assumption | (simp only [i64, i32]; omega) | (simp <;> omega) | fail) only [loadD_cpr, loadD_cprs, List.take_of_length_le]; simp [*, w3, w3n, q1, q2, q3, q4, q5, q6, q7, ht, hT, m9, w1, w2, o2, hla, hK, hU, Nat.testBit])
    | (with_reducible refine And.intro ?_ ?_; focus first | omega | decide)
    | (with_reducible refine split_ite (fun hp => ?_) (fun hp => ?_) <;> (try simp at hp) <;> simp [*, w3, w3n, q1, q2, q3, q4, q5, q6, q7, ht, hT, m9, w1, w2, o2, hla, hK, hU, Nat.testBit])
    | (with_reducible refine split_ite1 (fun hp => ?_) (fun hp => ?_) <;> (try simp at hp) <;> simp [*, w3, w3n, q1, q2, q3, q4, q5, q6, q7, ht, hT, m9, w1, w2, o2, hla, hK, hU, Nat.testBit])
    | (refine split_cond (by simp) (fun hp => ?_) (fun hp => ?_) <;> simp at hp <;> simp [*, w3, w3n, q1, q2, q3, q4, q5, q6, q7, ht, hT, m9, w1, w2, o2, hla, hK, hU, Nat.testBit])
    | (refine split_ops (by simp) (fun hp => ?_) (fun hp => ?_) <;> simp at hp <;> simp [*, w3, w3n, q1, q2, q3, q4, q5, q6, q7, ht, hT, m9, w1, w2, o2, hla, hK, hU, Nat.testBit])
    | (refine split_opsD (by simp) (fun hp => ?_) (fun hp => ?_) <;> simp at hp <;> simp [*, w3, w3n, q1, q2, q3, q4, q5, q6, q7, ht, hT, m9, w1, w2, o2, hla, hK, hU, Nat.testBit])
    | (refine split_pick (by simp) (fun hp => ?_) (fun hp => ?_) <;> simp at hp <;> simp [*, w3, w3n, q1, q2, q3, q4, q5, q6, q7, ht, hT, m9, w1, w2, o2, hla, hK, hU, Nat.testBit])
    | omega
    | decide
    | (simp [*, w3, w3n, q1, q2, q3, q4, q5, q6, q7, ht, hT, m9, w1, w2, o2, hla, hK, hU, Nat.testBit]))
  all_goals trace_state

theorem moved_lt9_2y (n : Nat) (e : EditM) (a : ActM) (c : Int) (h : EdOk e) (l : List Int) (hl : l = e.G.A ++ e.G.B) (T : Nat) (t2 : T ≤ l.length) (ho : 1 ≤ a.o ∧ a.o ≤ 6) (hne : T < e.G.A.length) (hTo : toE e a c = T) (m9 : a.m = 9) (hAT : T < e.G.A.length) (o2 : a.o = 2) (hla : e.La = 2) :
    (W (n + 9)).pc 21 [edD e, acD a, .int .i64 c] = some (.tup [edD ⟨⟨l.take T, l.drop e.G.A.length⟩, kAdd e.K ((l.drop T).take (e.G.A.length - T)) (-1), uPush e.U e.G, 2, 0, 0⟩, eD 0]) := by
  apply runs c_typebarref23_moved
  obtain ⟨g1, g2, g3⟩ := gapIs_ln h.g
  have hLen : l.length = e.G.A.length + e.G.B.length := by rw [hl]; exact List.length_append
  have ht := pc_ref10_Text (n + 6) e.G (by omega) (by omega)
  have hT := pc_ref23_Target (n + 2) (e.G.A ++ e.G.B) e.G.A.length a.m c (by simp; omega)
  rw [show (tgtE (e.G.A ++ e.G.B) e.G.A.length a.m c).1 = (T : Int) from hTo] at hT
  generalize (tgtE (e.G.A ++ e.G.B) e.G.A.length a.m c).2 = er at hT
  rw [← hl] at ht hT
  have hK := pc_ref12_Add (n + 3) e.K ((l.drop T).take (e.G.A.length - T)) (-1) (kIs_small h.k) (by simp; omega)
  have hU := pc_ref13_Push (n + 2) e.U e.G (uIs_small h.u) (by omega) (by omega)
  have w1 : min (e.G.A.length : Int) (T : Int) = (T : Int) := by omega
  have w2 : max (e.G.A.length : Int) (T : Int) = (e.G.A.length : Int) := by omega
  have w3 : ¬ (e.G.A.length : Int) < (T : Int) := by omega
  have w3n : ¬ e.G.A.length < T := by omega
  have q1 : ¬ (T : Int) = (e.G.A.length : Int) := by omega
  have q2 : (T : Int) ≤ (e.G.A.length : Int) := by omega
  have q3 : (e.G.A.length : Int) ≤ (l.length : Int) := by omega
  have q4 : T ≤ l.length := by omega
  have q5 : e.G.A.length ≤ l.length := by omega
  have q6 : T ≤ e.G.A.length := by omega
  have q7 : ¬ T = e.G.A.length := by omega
  rw [m9] at hT
  try simp only [Int.natCast_add, Int.natCast_zero, Int.natCast_one] at hK
  clear hl hTo
  simp [X_typebarref23_moved, putAt, Nat.testBit, w3, w3n, q1, q2, q3, q4, q5, q6, q7, ht, hT, m9, w1, w2, o2, hla, hK, hU]
  repeat' (first
    | simp (disch := omega) only [wrap_i64, wrap_i32]
    | (simp (disch := first | omega | assumption | (simp only [i64, i32]; omega) | (simp <;> omega) | fail) only [loadD_cpr, loadD_cprs, List.take_of_length_le]; simp [*, w3, w3n, q1, q2, q3, q4, q5, q6, q7, ht, hT, m9, w1, w2, o2, hla, hK, hU, Nat.testBit])
    | (with_reducible refine And.intro ?_ ?_; focus first | omega | decide)
    | (with_reducible refine split_ite (fun hp => ?_) (fun hp => ?_) <;> (try simp at hp) <;> simp [*, w3, w3n, q1, q2, q3, q4, q5, q6, q7, ht, hT, m9, w1, w2, o2, hla, hK, hU, Nat.testBit])
    | (with_reducible refine split_ite1 (fun hp => ?_) (fun hp => ?_) <;> (try simp at hp) <;> simp [*, w3, w3n, q1, q2, q3, q4, q5, q6, q7, ht, hT, m9, w1, w2, o2, hla, hK, hU, Nat.testBit])
    | (refine split_cond (by simp) (fun hp => ?_) (fun hp => ?_) <;> simp at hp <;> simp [*, w3, w3n, q1, q2, q3, q4, q5, q6, q7, ht, hT, m9, w1, w2, o2, hla, hK, hU, Nat.testBit])
    | (refine split_ops (by simp) (fun hp => ?_) (fun hp => ?_) <;> simp at hp <;> simp [*, w3, w3n, q1, q2, q3, q4, q5, q6, q7, ht, hT, m9, w1, w2, o2, hla, hK, hU, Nat.testBit])
    | (refine split_opsD (by simp) (fun hp => ?_) (fun hp => ?_) <;> simp at hp <;> simp [*, w3, w3n, q1, q2, q3, q4, q5, q6, q7, ht, hT, m9, w1, w2, o2, hla, hK, hU, Nat.testBit])
    | (refine split_pick (by simp) (fun hp => ?_) (fun hp => ?_) <;> simp at hp <;> simp [*, w3, w3n, q1, q2, q3, q4, q5, q6, q7, ht, hT, m9, w1, w2, o2, hla, hK, hU, Nat.testBit])
    | omega
    | decide
    | (simp [*, w3, w3n, q1, q2, q3, q4, q5, q6, q7, ht, hT, m9, w1, w2, o2, hla, hK, hU, Nat.testBit]))
  all_goals trace_state

theorem moved_lt9_1 (n : Nat) (e : EditM) (a : ActM) (c : Int) (h : EdOk e) (l : List Int) (hl : l = e.G.A ++ e.G.B) (T : Nat) (t2 : T ≤ l.length) (ho : 1 ≤ a.o ∧ a.o ≤ 6) (hne : T < e.G.A.length) (hTo : toE e a c = T) (m9 : a.m = 9) (hAT : T < e.G.A.length) (o1 : a.o = 1) :
    (W (n + 9)).pc 21 [edD e, acD a, .int .i64 c] = some (.tup [edD ⟨⟨l.take T, l.drop e.G.A.length⟩, e.K, uPush e.U e.G, 0, 0, 0⟩, eD 0]) := by
  apply runs c_typebarref23_moved
  obtain ⟨g1, g2, g3⟩ := gapIs_ln h.g
  have hLen : l.length = e.G.A.length + e.G.B.length := by rw [hl]; exact List.length_append
  have ht := pc_ref10_Text (n + 6) e.G (by omega) (by omega)
  have hT := pc_ref23_Target (n + 2) (e.G.A ++ e.G.B) e.G.A.length a.m c (by simp; omega)
  rw [show (tgtE (e.G.A ++ e.G.B) e.G.A.length a.m c).1 = (T : Int) from hTo] at hT
  generalize (tgtE (e.G.A ++ e.G.B) e.G.A.length a.m c).2 = er at hT
  rw [← hl] at ht hT
  have hU := pc_ref13_Push (n + 2) e.U e.G (uIs_small h.u) (by omega) (by omega)
  have w1 : min (e.G.A.length : Int) (T : Int) = (T : Int) := by omega
  have w2 : max (e.G.A.length : Int) (T : Int) = (e.G.A.length : Int) := by omega
  have w3 : ¬ (e.G.A.length : Int) < (T : Int) := by omega
  have w3n : ¬ e.G.A.length < T := by omega
  have q1 : ¬ (T : Int) = (e.G.A.length : Int) := by omega
  have q2 : (T : Int) ≤ (e.G.A.length : Int) := by omega
  have q3 : (e.G.A.length : Int) ≤ (l.length : Int) := by omega
  have q4 : T ≤ l.length := by omega
  have q5 : e.G.A.length ≤ l.length := by omega
  have q6 : T ≤ e.G.A.length := by omega
  have q7 : ¬ T = e.G.A.length := by omega
  rw [m9] at hT
  clear hl hTo
  simp [X_typebarref23_moved, putAt, Nat.testBit, w3, w3n, q1, q2, q3, q4, q5, q6, q7, ht, hT, m9, w1, w2, o1, hU]
  repeat' (first
    | simp (disch := omega) only [wrap_i64, wrap_i32]
    | (simp (disch := first | omega | assumption | (simp only [i64, i32]; omega) | (simp <;> omega) | fail) only [loadD_cpr, loadD_cprs, List.take_of_length_le]; simp [*, w3, w3n, q1, q2, q3, q4, q5, q6, q7, ht, hT, m9, w1, w2, o1, hU, Nat.testBit])
    | (with_reducible refine And.intro ?_ ?_; focus first | omega | decide)
    | (with_reducible refine split_ite (fun hp => ?_) (fun hp => ?_) <;> (try simp at hp) <;> simp [*, w3, w3n, q1, q2, q3, q4, q5, q6, q7, ht, hT, m9, w1, w2, o1, hU, Nat.testBit])
    | (with_reducible refine split_ite1 (fun hp => ?_) (fun hp => ?_) <;> (try simp at hp) <;> simp [*, w3, w3n, q1, q2, q3, q4, q5, q6, q7, ht, hT, m9, w1, w2, o1, hU, Nat.testBit])
    | (refine split_cond (by simp) (fun hp => ?_) (fun hp => ?_) <;> simp at hp <;> simp [*, w3, w3n, q1, q2, q3, q4, q5, q6, q7, ht, hT, m9, w1, w2, o1, hU, Nat.testBit])
    | (refine split_ops (by simp) (fun hp => ?_) (fun hp => ?_) <;> simp at hp <;> simp [*, w3, w3n, q1, q2, q3, q4, q5, q6, q7, ht, hT, m9, w1, w2, o1, hU, Nat.testBit])
    | (refine split_opsD (by simp) (fun hp => ?_) (fun hp => ?_) <;> simp at hp <;> simp [*, w3, w3n, q1, q2, q3, q4, q5, q6, q7, ht, hT, m9, w1, w2, o1, hU, Nat.testBit])
    | (refine split_pick (by simp) (fun hp => ?_) (fun hp => ?_) <;> simp at hp <;> simp [*, w3, w3n, q1, q2, q3, q4, q5, q6, q7, ht, hT, m9, w1, w2, o1, hU, Nat.testBit])
    | omega
    | decide
    | (simp [*, w3, w3n, q1, q2, q3, q4, q5, q6, q7, ht, hT, m9, w1, w2, o1, hU, Nat.testBit]))
  all_goals trace_state

theorem moved_lt_3 (n : Nat) (e : EditM) (a : ActM) (c : Int) (h : EdOk e) (l : List Int) (hl : l = e.G.A ++ e.G.B) (T : Nat) (t2 : T ≤ l.length) (ho : 1 ≤ a.o ∧ a.o ≤ 6) (hne : T < e.G.A.length) (hTo : toE e a c = T) (m9 : ¬ a.m = 9) (m10 : ¬ a.m = 10) (hAT : T < e.G.A.length) (o3 : a.o = 3) :
    (W (n + 9)).pc 21 [edD e, acD a, .int .i64 c] = some (.tup [edD ⟨gapSplit l T, kAdd e.K ((l.drop T).take (e.G.A.length - T)) 0, e.U, 0, 0, 0⟩, eD 0]) := by
  apply runs c_typebarref23_moved
  obtain ⟨g1, g2, g3⟩ := gapIs_ln h.g
  have hLen : l.length = e.G.A.length + e.G.B.length := by rw [hl]; exact List.length_append
  have ht := pc_ref10_Text (n + 6) e.G (by omega) (by omega)
  have hT := pc_ref23_Target (n + 2) (e.G.A ++ e.G.B) e.G.A.length a.m c (by simp; omega)
  rw [show (tgtE (e.G.A ++ e.G.B) e.G.A.length a.m c).1 = (T : Int) from hTo] at hT
  generalize (tgtE (e.G.A ++ e.G.B) e.G.A.length a.m c).2 = er at hT
  have hG := pc_ref10_Go (n + 4) e.G ((T : Nat) : Int) (by omega) (by omega)
  rw [gapGo_text h] at hG
  rw [← hl] at ht hT hG
  have hK := pc_ref12_Add (n + 3) e.K ((l.drop T).take (e.G.A.length - T)) 0 (kIs_small h.k) (by simp; omega)
  have w1 : min (e.G.A.length : Int) (T : Int) = (T : Int) := by omega
  have w2 : max (e.G.A.length : Int) (T : Int) = (e.G.A.length : Int) := by omega
  have w3 : ¬ (e.G.A.length : Int) < (T : Int) := by omega
  have w3n : ¬ e.G.A.length < T := by omega
  have q1 : ¬ (T : Int) = (e.G.A.length : Int) := by omega
  have q2 : (T : Int) ≤ (e.G.A.length : Int) := by omega
  have q3 : (e.G.A.length : Int) ≤ (l.length : Int) := by omega
  have q4 : T ≤ l.length := by omega
  have q5 : e.G.A.length ≤ l.length := by omega
  have q6 : T ≤ e.G.A.length := by omega
  have q7 : ¬ T = e.G.A.length := by omega
  try simp only [Int.natCast_add, Int.natCast_zero, Int.natCast_one] at hG
  try simp only [Int.natCast_add, Int.natCast_zero, Int.natCast_one] at hK
  clear hl hTo
  simp [X_typebarref23_moved, putAt, Nat.testBit, w3, w3n, q1, q2, q3, q4, q5, q6, q7, ht, hT, m9, m10, w1, w2, o3, hG, hK, gapSplit]
  repeat' (first
    | simp (disch := omega) only [wrap_i64, wrap_i32]
    | (simp (disch := first | omega | assumption | (simp only [i64, i32]; omega) | (simp <;> omega) | fail) only [loadD_cpr, loadD_cprs, List.take_of_length_le]; simp [*, w3, w3n, q1, q2, q3, q4, q5, q6, q7, ht, hT, m9, m10, w1, w2, o3, hG, hK, gapSplit, Nat.testBit])
    | (with_reducible refine And.intro ?_ ?_; focus first | omega | decide)
    | (with_reducible refine split_ite (fun hp => ?_) (fun hp => ?_) <;> (try simp at hp) <;> simp [*, w3, w3n, q1, q2, q3, q4, q5, q6, q7, ht, hT, m9, m10, w1, w2, o3, hG, hK, gapSplit, Nat.testBit])
    | (with_reducible refine split_ite1 (fun hp => ?_) (fun hp => ?_) <;> (try simp at hp) <;> simp [*, w3, w3n, q1, q2, q3, q4, q5, q6, q7, ht, hT, m9, m10, w1, w2, o3, hG, hK, gapSplit, Nat.testBit])
    | (refine split_cond (by simp) (fun hp => ?_) (fun hp => ?_) <;> simp at hp <;> simp [*, w3, w3n, q1, q2, q3, q4, q5, q6, q7, ht, hT, m9, m10, w1, w2, o3, hG, hK, gapSplit, Nat.testBit])
    | (refine split_ops (by simp) (fun hp => ?_) (fun hp => ?_) <;> simp at hp <;> simp [*, w3, w3n, q1, q2, q3, q4, q5, q6, q7, ht, hT, m9, m10, w1, w2, o3, hG, hK, gapSplit, Nat.testBit])
    | (refine split_opsD (by simp) (fun hp => ?_) (fun hp => ?_) <;> simp at hp <;> simp [*, w3, w3n, q1, q2, q3, q4, q5, q6, q7, ht, hT, m9, m10, w1, w2, o3, hG, hK, gapSplit, Nat.testBit])
    | (refine split_pick (by simp) (fun hp => ?_) (fun hp => ?_) <;> simp at hp <;> simp [*, w3, w3n, q1, q2, q3, q4, q5, q6, q7, ht, hT, m9, m10, w1, w2, o3, hG, hK, gapSplit, Nat.testBit])
    | omega
    | decide
    | (simp [*, w3, w3n, q1, q2, q3, q4, q5, q6, q7, ht, hT, m9, m10, w1, w2, o3, hG, hK, gapSplit, Nat.testBit]))
  all_goals trace_state

theorem moved_lt_4 (n : Nat) (e : EditM) (a : ActM) (c : Int) (h : EdOk e) (l : List Int) (hl : l = e.G.A ++ e.G.B) (T : Nat) (t2 : T ≤ l.length) (ho : 1 ≤ a.o ∧ a.o ≤ 6) (hne : T < e.G.A.length) (hTo : toE e a c = T) (m9 : ¬ a.m = 9) (m10 : ¬ a.m = 10) (hAT : T < e.G.A.length) (o4 : 4 ≤ a.o) :
    (W (n + 9)).pc 21 [edD e, acD a, .int .i64 c] = some (.tup [edD ⟨gapSplit (sCh l T e.G.A.length a.o) e.G.A.length, e.K, uPush e.U e.G, 0, 0, 0⟩, eD 0]) := by
  apply runs c_typebarref23_moved
  obtain ⟨g1, g2, g3⟩ := gapIs_ln h.g
  have hLen : l.length = e.G.A.length + e.G.B.length := by rw [hl]; exact List.length_append
  have ht := pc_ref10_Text (n + 6) e.G (by omega) (by omega)
  have hT := pc_ref23_Target (n + 2) (e.G.A ++ e.G.B) e.G.A.length a.m c (by simp; omega)
  rw [show (tgtE (e.G.A ++ e.G.B) e.G.A.length a.m c).1 = (T : Int) from hTo] at hT
  generalize (tgtE (e.G.A ++ e.G.B) e.G.A.length a.m c).2 = er at hT
  rw [← hl] at ht hT
  have hC := pc_ref14_Change (n + 6) l ((T : Nat) : Int) ((e.G.A.length : Nat) : Int) a.o (by omega)
  rw [change_in hne (by omega) (by omega)] at hC
  have hU := pc_ref13_Push (n + 2) e.U e.G (uIs_small h.u) (by omega) (by omega)
  have w1 : min (e.G.A.length : Int) (T : Int) = (T : Int) := by omega
  have w2 : max (e.G.A.length : Int) (T : Int) = (e.G.A.length : Int) := by omega
  have w3 : ¬ (e.G.A.length : Int) < (T : Int) := by omega
  have w3n : ¬ e.G.A.length < T := by omega
  have q1 : ¬ (T : Int) = (e.G.A.length : Int) := by omega
  have q2 : (T : Int) ≤ (e.G.A.length : Int) := by omega
  have q3 : (e.G.A.length : Int) ≤ (l.length : Int) := by omega
  have q4 : T ≤ l.length := by omega
  have q5 : e.G.A.length ≤ l.length := by omega
  have q6 : T ≤ e.G.A.length := by omega
  have q7 : ¬ T = e.G.A.length := by omega
  have o0 : ¬ a.o = 0 := by omega
  have o3 : ¬ a.o = 3 := by omega
  try simp only [Int.natCast_add, Int.natCast_zero, Int.natCast_one] at hC
  clear hl hTo
  simp [X_typebarref23_moved, putAt, Nat.testBit, w3, w3n, q1, q2, q3, q4, q5, q6, q7, ht, hT, m9, m10, w1, w2, o0, o3, o4, hC, hU, gapSplit]
  repeat' (first
    | simp (disch := omega) only [wrap_i64, wrap_i32]
    | (simp (disch := first | omega | assumption | (simp only [i64, i32]; omega) | (simp <;> omega) | fail) only [loadD_cpr, loadD_cprs, List.take_of_length_le]; simp [*, w3, w3n, q1, q2, q3, q4, q5, q6, q7, ht, hT, m9, m10, w1, w2, o0, o3, o4, hC, hU, gapSplit, Nat.testBit])
    | (with_reducible refine And.intro ?_ ?_; focus first | omega | decide)
    | (with_reducible refine split_ite (fun hp => ?_) (fun hp => ?_) <;> (try simp at hp) <;> simp [*, w3, w3n, q1, q2, q3, q4, q5, q6, q7, ht, hT, m9, m10, w1, w2, o0, o3, o4, hC, hU, gapSplit, Nat.testBit])
    | (with_reducible refine split_ite1 (fun hp => ?_) (fun hp => ?_) <;> (try simp at hp) <;> simp [*, w3, w3n, q1, q2, q3, q4, q5, q6, q7, ht, hT, m9, m10, w1, w2, o0, o3, o4, hC, hU, gapSplit, Nat.testBit])
    | (refine split_cond (by simp) (fun hp => ?_) (fun hp => ?_) <;> simp at hp <;> simp [*, w3, w3n, q1, q2, q3, q4, q5, q6, q7, ht, hT, m9, m10, w1, w2, o0, o3, o4, hC, hU, gapSplit, Nat.testBit])
    | (refine split_ops (by simp) (fun hp => ?_) (fun hp => ?_) <;> simp at hp <;> simp [*, w3, w3n, q1, q2, q3, q4, q5, q6, q7, ht, hT, m9, m10, w1, w2, o0, o3, o4, hC, hU, gapSplit, Nat.testBit])
    | (refine split_opsD (by simp) (fun hp => ?_) (fun hp => ?_) <;> simp at hp <;> simp [*, w3, w3n, q1, q2, q3, q4, q5, q6, q7, ht, hT, m9, m10, w1, w2, o0, o3, o4, hC, hU, gapSplit, Nat.testBit])
    | (refine split_pick (by simp) (fun hp => ?_) (fun hp => ?_) <;> simp at hp <;> simp [*, w3, w3n, q1, q2, q3, q4, q5, q6, q7, ht, hT, m9, m10, w1, w2, o0, o3, o4, hC, hU, gapSplit, Nat.testBit])
    | omega
    | decide
    | (simp [*, w3, w3n, q1, q2, q3, q4, q5, q6, q7, ht, hT, m9, m10, w1, w2, o0, o3, o4, hC, hU, gapSplit, Nat.testBit]))
  all_goals trace_state

theorem moved_lt_2n (n : Nat) (e : EditM) (a : ActM) (c : Int) (h : EdOk e) (l : List Int) (hl : l = e.G.A ++ e.G.B) (T : Nat) (t2 : T ≤ l.length) (ho : 1 ≤ a.o ∧ a.o ≤ 6) (hne : T < e.G.A.length) (hTo : toE e a c = T) (m9 : ¬ a.m = 9) (m10 : ¬ a.m = 10) (hAT : T < e.G.A.length) (o2 : a.o = 2) (hla : ¬ e.La = 2) :
    (W (n + 9)).pc 21 [edD e, acD a, .int .i64 c] = some (.tup [edD ⟨⟨l.take T, l.drop e.G.A.length⟩, kAdd e.K ((l.drop T).take (e.G.A.length - T)) 0, uPush e.U e.G, 2, 0, 0⟩, eD 0]) := by
  apply runs c_typebarref23_moved
  obtain ⟨g1, g2, g3⟩ := gapIs_ln h.g
  have hLen : l.length = e.G.A.length + e.G.B.length := by rw [hl]; exact List.length_append
  have ht := pc_ref10_Text (n + 6) e.G (by omega) (by omega)
  have hT := pc_ref23_Target (n + 2) (e.G.A ++ e.G.B) e.G.A.length a.m c (by simp; omega)
  rw [show (tgtE (e.G.A ++ e.G.B) e.G.A.length a.m c).1 = (T : Int) from hTo] at hT
  generalize (tgtE (e.G.A ++ e.G.B) e.G.A.length a.m c).2 = er at hT
  rw [← hl] at ht hT
  have hK := pc_ref12_Add (n + 3) e.K ((l.drop T).take (e.G.A.length - T)) 0 (kIs_small h.k) (by simp; omega)
  have hU := pc_ref13_Push (n + 2) e.U e.G (uIs_small h.u) (by omega) (by omega)
  have w1 : min (e.G.A.length : Int) (T : Int) = (T : Int) := by omega
  have w2 : max (e.G.A.length : Int) (T : Int) = (e.G.A.length : Int) := by omega
  have w3 : ¬ (e.G.A.length : Int) < (T : Int) := by omega
  have w3n : ¬ e.G.A.length < T := by omega
  have q1 : ¬ (T : Int) = (e.G.A.length : Int) := by omega
  have q2 : (T : Int) ≤ (e.G.A.length : Int) := by omega
  have q3 : (e.G.A.length : Int) ≤ (l.length : Int) := by omega
  have q4 : T ≤ l.length := by omega
  have q5 : e.G.A.length ≤ l.length := by omega
  have q6 : T ≤ e.G.A.length := by omega
  have q7 : ¬ T = e.G.A.length := by omega
  try simp only [Int.natCast_add, Int.natCast_zero, Int.natCast_one] at hK
  clear hl hTo
  simp [X_typebarref23_moved, putAt, Nat.testBit, w3, w3n, q1, q2, q3, q4, q5, q6, q7, ht, hT, m9, m10, w1, w2, o2, hla, hK, hU]
  repeat' (first
    | simp (disch := omega) only [wrap_i64, wrap_i32]
    | (simp (disch := first | omega | assumption | (simp only [i64, i32]; omega) | (simp <;> omega) | fail) only [loadD_cpr, loadD_cprs, List.take_of_length_le]; simp [*, w3, w3n, q1, q2, q3, q4, q5, q6, q7, ht, hT, m9, m10, w1, w2, o2, hla, hK, hU, Nat.testBit])
    | (with_reducible refine And.intro ?_ ?_; focus first | omega | decide)
    | (with_reducible refine split_ite (fun hp => ?_) (fun hp => ?_) <;> (try simp at hp) <;> simp [*, w3, w3n, q1, q2, q3, q4, q5, q6, q7, ht, hT, m9, m10, w1, w2, o2, hla, hK, hU, Nat.testBit])
    | (with_reducible refine split_ite1 (fun hp => ?_) (fun hp => ?_) <;> (try simp at hp) <;> simp [*, w3, w3n, q1, q2, q3, q4, q5, q6, q7, ht, hT, m9, m10, w1, w2, o2, hla, hK, hU, Nat.testBit])
    | (refine split_cond (by simp) (fun hp => ?_) (fun hp => ?_) <;> simp at hp <;> simp [*, w3, w3n, q1, q2, q3, q4, q5, q6, q7, ht, hT, m9, m10, w1, w2, o2, hla, hK, hU, Nat.testBit])
    | (refine split_ops (by simp) (fun hp => ?_) (fun hp => ?_) <;> simp at hp <;> simp [*, w3, w3n, q1, q2, q3, q4, q5, q6, q7, ht, hT, m9, m10, w1, w2, o2, hla, hK, hU, Nat.testBit])
    | (refine split_opsD (by simp) (fun hp => ?_) (fun hp => ?_) <;> simp at hp <;> simp [*, w3, w3n, q1, q2, q3, q4, q5, q6, q7, ht, hT, m9, m10, w1, w2, o2, hla, hK, hU, Nat.testBit])
    | (refine split_pick (by simp) (fun hp => ?_) (fun hp => ?_) <;> simp at hp <;> simp [*, w3, w3n, q1, q2, q3, q4, q5, q6, q7, ht, hT, m9, m10, w1, w2, o2, hla, hK, hU, Nat.testBit])
    | omega
    | decide
    | (simp [*, w3, w3n, q1, q2, q3, q4, q5, q6, q7, ht, hT, m9, m10, w1, w2, o2, hla, hK, hU, Nat.testBit]))
  all_goals trace_state

theorem moved_lt_2y (n : Nat) (e : EditM) (a : ActM) (c : Int) (h : EdOk e) (l : List Int) (hl : l = e.G.A ++ e.G.B) (T : Nat) (t2 : T ≤ l.length) (ho : 1 ≤ a.o ∧ a.o ≤ 6) (hne : T < e.G.A.length) (hTo : toE e a c = T) (m9 : ¬ a.m = 9) (m10 : ¬ a.m = 10) (hAT : T < e.G.A.length) (o2 : a.o = 2) (hla : e.La = 2) :
    (W (n + 9)).pc 21 [edD e, acD a, .int .i64 c] = some (.tup [edD ⟨⟨l.take T, l.drop e.G.A.length⟩, kAdd e.K ((l.drop T).take (e.G.A.length - T)) (-1), uPush e.U e.G, 2, 0, 0⟩, eD 0]) := by
  apply runs c_typebarref23_moved
  obtain ⟨g1, g2, g3⟩ := gapIs_ln h.g
  have hLen : l.length = e.G.A.length + e.G.B.length := by rw [hl]; exact List.length_append
  have ht := pc_ref10_Text (n + 6) e.G (by omega) (by omega)
  have hT := pc_ref23_Target (n + 2) (e.G.A ++ e.G.B) e.G.A.length a.m c (by simp; omega)
  rw [show (tgtE (e.G.A ++ e.G.B) e.G.A.length a.m c).1 = (T : Int) from hTo] at hT
  generalize (tgtE (e.G.A ++ e.G.B) e.G.A.length a.m c).2 = er at hT
  rw [← hl] at ht hT
  have hK := pc_ref12_Add (n + 3) e.K ((l.drop T).take (e.G.A.length - T)) (-1) (kIs_small h.k) (by simp; omega)
  have hU := pc_ref13_Push (n + 2) e.U e.G (uIs_small h.u) (by omega) (by omega)
  have w1 : min (e.G.A.length : Int) (T : Int) = (T : Int) := by omega
  have w2 : max (e.G.A.length : Int) (T : Int) = (e.G.A.length : Int) := by omega
  have w3 : ¬ (e.G.A.length : Int) < (T : Int) := by omega
  have w3n : ¬ e.G.A.length < T := by omega
  have q1 : ¬ (T : Int) = (e.G.A.length : Int) := by omega
  have q2 : (T : Int) ≤ (e.G.A.length : Int) := by omega
  have q3 : (e.G.A.length : Int) ≤ (l.length : Int) := by omega
  have q4 : T ≤ l.length := by omega
  have q5 : e.G.A.length ≤ l.length := by omega
  have q6 : T ≤ e.G.A.length := by omega
  have q7 : ¬ T = e.G.A.length := by omega
  try simp only [Int.natCast_add, Int.natCast_zero, Int.natCast_one] at hK
  clear hl hTo
  simp [X_typebarref23_moved, putAt, Nat.testBit, w3, w3n, q1, q2, q3, q4, q5, q6, q7, ht, hT, m9, m10, w1, w2, o2, hla, hK, hU]
  repeat' (first
    | simp (disch := omega) only [wrap_i64, wrap_i32]
    | (simp (disch := first | omega | assumption | (simp only [i64, i32]; omega) | (simp <;> omega) | fail) only [loadD_cpr, loadD_cprs, List.take_of_length_le]; simp [*, w3, w3n, q1, q2, q3, q4, q5, q6, q7, ht, hT, m9, m10, w1, w2, o2, hla, hK, hU, Nat.testBit])
    | (with_reducible refine And.intro ?_ ?_; focus first | omega | decide)
    | (with_reducible refine split_ite (fun hp => ?_) (fun hp => ?_) <;> (try simp at hp) <;> simp [*, w3, w3n, q1, q2, q3, q4, q5, q6, q7, ht, hT, m9, m10, w1, w2, o2, hla, hK, hU, Nat.testBit])
    | (with_reducible refine split_ite1 (fun hp => ?_) (fun hp => ?_) <;> (try simp at hp) <;> simp [*, w3, w3n, q1, q2, q3, q4, q5, q6, q7, ht, hT, m9, m10, w1, w2, o2, hla, hK, hU, Nat.testBit])
    | (refine split_cond (by simp) (fun hp => ?_) (fun hp => ?_) <;> simp at hp <;> simp [*, w3, w3n, q1, q2, q3, q4, q5, q6, q7, ht, hT, m9, m10, w1, w2, o2, hla, hK, hU, Nat.testBit])
    | (refine split_ops (by simp) (fun hp => ?_) (fun hp => ?_) <;> simp at hp <;> simp [*, w3, w3n, q1, q2, q3, q4, q5, q6, q7, ht, hT, m9, m10, w1, w2, o2, hla, hK, hU, Nat.testBit])
    | (refine split_opsD (by simp) (fun hp => ?_) (fun hp => ?_) <;> simp at hp <;> simp [*, w3, w3n, q1, q2, q3, q4, q5, q6, q7, ht, hT, m9, m10, w1, w2, o2, hla, hK, hU, Nat.testBit])
    | (refine split_pick (by simp) (fun hp => ?_) (fun hp => ?_) <;> simp at hp <;> simp [*, w3, w3n, q1, q2, q3, q4, q5, q6, q7, ht, hT, m9, m10, w1, w2, o2, hla, hK, hU, Nat.testBit])
    | omega
    | decide
    | (simp [*, w3, w3n, q1, q2, q3, q4, q5, q6, q7, ht, hT, m9, m10, w1, w2, o2, hla, hK, hU, Nat.testBit]))
  all_goals trace_state

theorem moved_lt_1 (n : Nat) (e : EditM) (a : ActM) (c : Int) (h : EdOk e) (l : List Int) (hl : l = e.G.A ++ e.G.B) (T : Nat) (t2 : T ≤ l.length) (ho : 1 ≤ a.o ∧ a.o ≤ 6) (hne : T < e.G.A.length) (hTo : toE e a c = T) (m9 : ¬ a.m = 9) (m10 : ¬ a.m = 10) (hAT : T < e.G.A.length) (o1 : a.o = 1) :
    (W (n + 9)).pc 21 [edD e, acD a, .int .i64 c] = some (.tup [edD ⟨⟨l.take T, l.drop e.G.A.length⟩, e.K, uPush e.U e.G, 0, 0, 0⟩, eD 0]) := by
  apply runs c_typebarref23_moved
  obtain ⟨g1, g2, g3⟩ := gapIs_ln h.g
  have hLen : l.length = e.G.A.length + e.G.B.length := by rw [hl]; exact List.length_append
  have ht := pc_ref10_Text (n + 6) e.G (by omega) (by omega)
  have hT := pc_ref23_Target (n + 2) (e.G.A ++ e.G.B) e.G.A.length a.m c (by simp; omega)
  rw [show (tgtE (e.G.A ++ e.G.B) e.G.A.length a.m c).1 = (T : Int) from hTo] at hT
  generalize (tgtE (e.G.A ++ e.G.B) e.G.A.length a.m c).2 = er at hT
  rw [← hl] at ht hT
  have hU := pc_ref13_Push (n + 2) e.U e.G (uIs_small h.u) (by omega) (by omega)
  have w1 : min (e.G.A.length : Int) (T : Int) = (T : Int) := by omega
  have w2 : max (e.G.A.length : Int) (T : Int) = (e.G.A.length : Int) := by omega
  have w3 : ¬ (e.G.A.length : Int) < (T : Int) := by omega
  have w3n : ¬ e.G.A.length < T := by omega
  have q1 : ¬ (T : Int) = (e.G.A.length : Int) := by omega
  have q2 : (T : Int) ≤ (e.G.A.length : Int) := by omega
  have q3 : (e.G.A.length : Int) ≤ (l.length : Int) := by omega
  have q4 : T ≤ l.length := by omega
  have q5 : e.G.A.length ≤ l.length := by omega
  have q6 : T ≤ e.G.A.length := by omega
  have q7 : ¬ T = e.G.A.length := by omega
  clear hl hTo
  simp [X_typebarref23_moved, putAt, Nat.testBit, w3, w3n, q1, q2, q3, q4, q5, q6, q7, ht, hT, m9, m10, w1, w2, o1, hU]
  repeat' (first
    | simp (disch := omega) only [wrap_i64, wrap_i32]
    | (simp (disch := first | omega | assumption | (simp only [i64, i32]; omega) | (simp <;> omega) | fail) only [loadD_cpr, loadD_cprs, List.take_of_length_le]; simp [*, w3, w3n, q1, q2, q3, q4, q5, q6, q7, ht, hT, m9, m10, w1, w2, o1, hU, Nat.testBit])
    | (with_reducible refine And.intro ?_ ?_; focus first | omega | decide)
    | (with_reducible refine split_ite (fun hp => ?_) (fun hp => ?_) <;> (try simp at hp) <;> simp [*, w3, w3n, q1, q2, q3, q4, q5, q6, q7, ht, hT, m9, m10, w1, w2, o1, hU, Nat.testBit])
    | (with_reducible refine split_ite1 (fun hp => ?_) (fun hp => ?_) <;> (try simp at hp) <;> simp [*, w3, w3n, q1, q2, q3, q4, q5, q6, q7, ht, hT, m9, m10, w1, w2, o1, hU, Nat.testBit])
    | (refine split_cond (by simp) (fun hp => ?_) (fun hp => ?_) <;> simp at hp <;> simp [*, w3, w3n, q1, q2, q3, q4, q5, q6, q7, ht, hT, m9, m10, w1, w2, o1, hU, Nat.testBit])
    | (refine split_ops (by simp) (fun hp => ?_) (fun hp => ?_) <;> simp at hp <;> simp [*, w3, w3n, q1, q2, q3, q4, q5, q6, q7, ht, hT, m9, m10, w1, w2, o1, hU, Nat.testBit])
    | (refine split_opsD (by simp) (fun hp => ?_) (fun hp => ?_) <;> simp at hp <;> simp [*, w3, w3n, q1, q2, q3, q4, q5, q6, q7, ht, hT, m9, m10, w1, w2, o1, hU, Nat.testBit])
    | (refine split_pick (by simp) (fun hp => ?_) (fun hp => ?_) <;> simp at hp <;> simp [*, w3, w3n, q1, q2, q3, q4, q5, q6, q7, ht, hT, m9, m10, w1, w2, o1, hU, Nat.testBit])
    | omega
    | decide
    | (simp [*, w3, w3n, q1, q2, q3, q4, q5, q6, q7, ht, hT, m9, m10, w1, w2, o1, hU, Nat.testBit]))
  all_goals trace_state

theorem moved_gt9_3 (n : Nat) (e : EditM) (a : ActM) (c : Int) (h : EdOk e) (l : List Int) (hl : l = e.G.A ++ e.G.B) (T : Nat) (t2 : T ≤ l.length) (ho : 1 ≤ a.o ∧ a.o ≤ 6) (hne : e.G.A.length < (T + 1)) (hTo : toE e a c = T) (m9 : a.m = 9) (hAT : e.G.A.length < T) (hTL : T < l.length) (o3 : a.o = 3) :
    (W (n + 9)).pc 21 [edD e, acD a, .int .i64 c] = some (.tup [edD ⟨gapSplit l e.G.A.length, kAdd e.K ((l.drop e.G.A.length).take ((T + 1) - e.G.A.length)) 0, e.U, 0, 0, 0⟩, eD 0]) := by
  apply runs c_typebarref23_moved
  obtain ⟨g1, g2, g3⟩ := gapIs_ln h.g
  have hLen : l.length = e.G.A.length + e.G.B.length := by rw [hl]; exact List.length_append
  have ht := pc_ref10_Text (n + 6) e.G (by omega) (by omega)
  have hT := pc_ref23_Target (n + 2) (e.G.A ++ e.G.B) e.G.A.length a.m c (by simp; omega)
  rw [show (tgtE (e.G.A ++ e.G.B) e.G.A.length a.m c).1 = (T : Int) from hTo] at hT
  generalize (tgtE (e.G.A ++ e.G.B) e.G.A.length a.m c).2 = er at hT
  have hG := pc_ref10_Go (n + 4) e.G ((e.G.A.length : Nat) : Int) (by omega) (by omega)
  rw [gapGo_text h] at hG
  rw [← hl] at ht hT hG
  have hK := pc_ref12_Add (n + 3) e.K ((l.drop e.G.A.length).take ((T + 1) - e.G.A.length)) 0 (kIs_small h.k) (by simp; omega)
  have w1 : min (e.G.A.length : Int) (T : Int) = (e.G.A.length : Int) := by omega
  have w2 : max (e.G.A.length : Int) (T : Int) = (T : Int) := by omega
  have w3 : (e.G.A.length : Int) < (T : Int) := by omega
  have w3n : e.G.A.length < T := by omega
  have w4 : (T : Int) < (l.length : Int) := by omega
  have w4n : T < l.length := by omega
  have w5 : IntKind.i64.wrap ((T : Int) + 1) = (T : Int) + 1 := wrap_i64 (by omega)
  have w6 : ((T : Int) + 1).toNat = T + 1 := by omega
  have q1 : ¬ (e.G.A.length : Int) = ((T : Int) + 1) := by omega
  have q2 : (e.G.A.length : Int) ≤ ((T : Int) + 1) := by omega
  have q3 : ((T : Int) + 1) ≤ (l.length : Int) := by omega
  have q4 : e.G.A.length ≤ l.length := by omega
  have q5 : (T + 1) ≤ l.length := by omega
  have q6 : e.G.A.length ≤ (T + 1) := by omega
  have q7 : ¬ e.G.A.length = (T + 1) := by omega
  rw [m9] at hT
  try simp only [Int.natCast_add, Int.natCast_zero, Int.natCast_one] at hG
  try simp only [Int.natCast_add, Int.natCast_zero, Int.natCast_one] at hK
  clear hl hTo
  simp [X_typebarref23_moved, putAt, Nat.testBit, w3, w3n, q1, q2, q3, q4, q5, q6, q7, ht, hT, m9, w1, w2, w4, w4n, w5, w6, o3, hG, hK, gapSplit]
  repeat' (first
    | simp (disch := omega) only [wrap_i64, wrap_i32]
    | (simp (disch := first | omega | assumption | (simp only [i64, i32]; omega) | (simp <;> omega) | fail) only [loadD_cpr, loadD_cprs, List.take_of_length_le]; simp [*, w3, w3n, q1, q2, q3, q4, q5, q6, q7, ht, hT, m9, w1, w2, w4, w4n, w5, w6, o3, hG, hK, gapSplit, Nat.testBit])
    | (with_reducible refine And.intro ?_ ?_; focus first | omega | decide)
    | (with_reducible refine split_ite (fun hp => ?_) (fun hp => ?_) <;> (try simp at hp) <;> simp [*, w3, w3n, q1, q2, q3, q4, q5, q6, q7, ht, hT, m9, w1, w2, w4, w4n, w5, w6, o3, hG, hK, gapSplit, Nat.testBit])
    | (with_reducible refine split_ite1 (fun hp => ?_) (fun hp => ?_) <;> (try simp at hp) <;> simp [*, w3, w3n, q1, q2, q3, q4, q5, q6, q7, ht, hT, m9, w1, w2, w4, w4n, w5, w6, o3, hG, hK, gapSplit, Nat.testBit])
    | (refine split_cond (by simp) (fun hp => ?_) (fun hp => ?_) <;> simp at hp <;> simp [*, w3, w3n, q1, q2, q3, q4, q5, q6, q7, ht, hT, m9, w1, w2, w4, w4n, w5, w6, o3, hG, hK, gapSplit, Nat.testBit])
    | (refine split_ops (by simp) (fun hp => ?_) (fun hp => ?_) <;> simp at hp <;> simp [*, w3, w3n, q1, q2, q3, q4, q5, q6, q7, ht, hT, m9, w1, w2, w4, w4n, w5, w6, o3, hG, hK, gapSplit, Nat.testBit])
    | (refine split_opsD (by simp) (fun hp => ?_) (fun hp => ?_) <;> simp at hp <;> simp [*, w3, w3n, q1, q2, q3, q4, q5, q6, q7, ht, hT, m9, w1, w2, w4, w4n, w5, w6, o3, hG, hK, gapSplit, Nat.testBit])
    | (refine split_pick (by simp) (fun hp => ?_) (fun hp => ?_) <;> simp at hp <;> simp [*, w3, w3n, q1, q2, q3, q4, q5, q6, q7, ht, hT, m9, w1, w2, w4, w4n, w5, w6, o3, hG, hK, gapSplit, Nat.testBit])
    | omega
    | decide
    | (simp [*, w3, w3n, q1, q2, q3, q4, q5, q6, q7, ht, hT, m9, w1, w2, w4, w4n, w5, w6, o3, hG, hK, gapSplit, Nat.testBit]))
  all_goals trace_state

theorem moved_gt9_4 (n : Nat) (e : EditM) (a : ActM) (c : Int) (h : EdOk e) (l : List Int) (hl : l = e.G.A ++ e.G.B) (T : Nat) (t2 : T ≤ l.length) (ho : 1 ≤ a.o ∧ a.o ≤ 6) (hne : e.G.A.length < (T + 1)) (hTo : toE e a c = T) (m9 : a.m = 9) (hAT : e.G.A.length < T) (hTL : T < l.length) (o4 : 4 ≤ a.o) :
    (W (n + 9)).pc 21 [edD e, acD a, .int .i64 c] = some (.tup [edD ⟨gapSplit (sCh l e.G.A.length (T + 1) a.o) (T + 1), e.K, uPush e.U e.G, 0, 0, 0⟩, eD 0]) := by
  apply runs c_typebarref23_moved
  obtain ⟨g1, g2, g3⟩ := gapIs_ln h.g
  have hLen : l.length = e.G.A.length + e.G.B.length := by rw [hl]; exact List.length_append
  have ht := pc_ref10_Text (n + 6) e.G (by omega) (by omega)
  have hT := pc_ref23_Target (n + 2) (e.G.A ++ e.G.B) e.G.A.length a.m c (by simp; omega)
  rw [show (tgtE (e.G.A ++ e.G.B) e.G.A.length a.m c).1 = (T : Int) from hTo] at hT
  generalize (tgtE (e.G.A ++ e.G.B) e.G.A.length a.m c).2 = er at hT
  rw [← hl] at ht hT
  have hC := pc_ref14_Change (n + 6) l ((e.G.A.length : Nat) : Int) (((T + 1) : Nat) : Int) a.o (by omega)
  rw [change_in hne (by omega) (by omega)] at hC
  have hU := pc_ref13_Push (n + 2) e.U e.G (uIs_small h.u) (by omega) (by omega)
  have w1 : min (e.G.A.length : Int) (T : Int) = (e.G.A.length : Int) := by omega
  have w2 : max (e.G.A.length : Int) (T : Int) = (T : Int) := by omega
  have w3 : (e.G.A.length : Int) < (T : Int) := by omega
  have w3n : e.G.A.length < T := by omega
  have w4 : (T : Int) < (l.length : Int) := by omega
  have w4n : T < l.length := by omega
  have w5 : IntKind.i64.wrap ((T : Int) + 1) = (T : Int) + 1 := wrap_i64 (by omega)
  have w6 : ((T : Int) + 1).toNat = T + 1 := by omega
  have q1 : ¬ (e.G.A.length : Int) = ((T : Int) + 1) := by omega
  have q2 : (e.G.A.length : Int) ≤ ((T : Int) + 1) := by omega
  have q3 : ((T : Int) + 1) ≤ (l.length : Int) := by omega
  have q4 : e.G.A.length ≤ l.length := by omega
  have q5 : (T + 1) ≤ l.length := by omega
  have q6 : e.G.A.length ≤ (T + 1) := by omega
  have q7 : ¬ e.G.A.length = (T + 1) := by omega
  rw [m9] at hT
  have o0 : ¬ a.o = 0 := by omega
  have o3 : ¬ a.o = 3 := by omega
  try simp only [Int.natCast_add, Int.natCast_zero, Int.natCast_one] at hC
  clear hl hTo
  simp [X_typebarref23_moved, putAt, Nat.testBit, w3, w3n, q1, q2, q3, q4, q5, q6, q7, ht, hT, m9, w1, w2, w4, w4n, w5, w6, o0, o3, o4, hC, hU, gapSplit]
  repeat' (first
    | simp (disch := omega) only [wrap_i64, wrap_i32]
    | (simp (disch := first | omega | assumption | (simp only [i64, i32]; omega) | (simp <;> omega) | fail) only [loadD_cpr, loadD_cprs, List.take_of_length_le]; simp [*, w3, w3n, q1, q2, q3, q4, q5, q6, q7, ht, hT, m9, w1, w2, w4, w4n, w5, w6, o0, o3, o4, hC, hU, gapSplit, Nat.testBit])
    | (with_reducible refine And.intro ?_ ?_; focus first | omega | decide)
    | (with_reducible refine split_ite (fun hp => ?_) (fun hp => ?_) <;> (try simp at hp) <;> simp [*, w3, w3n, q1, q2, q3, q4, q5, q6, q7, ht, hT, m9, w1, w2, w4, w4n, w5, w6, o0, o3, o4, hC, hU, gapSplit, Nat.testBit])
    | (with_reducible refine split_ite1 (fun hp => ?_) (fun hp => ?_) <;> (try simp at hp) <;> simp [*, w3, w3n, q1, q2, q3, q4, q5, q6, q7, ht, hT, m9, w1, w2, w4, w4n, w5, w6, o0, o3, o4, hC, hU, gapSplit, Nat.testBit])
    | (refine split_cond (by simp) (fun hp => ?_) (fun hp => ?_) <;> simp at hp <;> simp [*, w3, w3n, q1, q2, q3, q4, q5, q6, q7, ht, hT, m9, w1, w2, w4, w4n, w5, w6, o0, o3, o4, hC, hU, gapSplit, Nat.testBit])
    | (refine split_ops (by simp) (fun hp => ?_) (fun hp => ?_) <;> simp at hp <;> simp [*, w3, w3n, q1, q2, q3, q4, q5, q6, q7, ht, hT, m9, w1, w2, w4, w4n, w5, w6, o0, o3, o4, hC, hU, gapSplit, Nat.testBit])
    | (refine split_opsD (by simp) (fun hp => ?_) (fun hp => ?_) <;> simp at hp <;> simp [*, w3, w3n, q1, q2, q3, q4, q5, q6, q7, ht, hT, m9, w1, w2, w4, w4n, w5, w6, o0, o3, o4, hC, hU, gapSplit, Nat.testBit])
    | (refine split_pick (by simp) (fun hp => ?_) (fun hp => ?_) <;> simp at hp <;> simp [*, w3, w3n, q1, q2, q3, q4, q5, q6, q7, ht, hT, m9, w1, w2, w4, w4n, w5, w6, o0, o3, o4, hC, hU, gapSplit, Nat.testBit])
    | omega
    | decide
    | (simp [*, w3, w3n, q1, q2, q3, q4, q5, q6, q7, ht, hT, m9, w1, w2, w4, w4n, w5, w6, o0, o3, o4, hC, hU, gapSplit, Nat.testBit]))
  all_goals trace_state

theorem moved_gt9_2n (n : Nat) (e : EditM) (a : ActM) (c : Int) (h : EdOk e) (l : List Int) (hl : l = e.G.A ++ e.G.B) (T : Nat) (t2 : T ≤ l.length) (ho : 1 ≤ a.o ∧ a.o ≤ 6) (hne : e.G.A.length < (T + 1)) (hTo : toE e a c = T) (m9 : a.m = 9) (hAT : e.G.A.length < T) (hTL : T < l.length) (o2 : a.o = 2) (hla : ¬ e.La = 2) :
    (W (n + 9)).pc 21 [edD e, acD a, .int .i64 c] = some (.tup [edD ⟨⟨l.take e.G.A.length, l.drop (T + 1)⟩, kAdd e.K ((l.drop e.G.A.length).take ((T + 1) - e.G.A.length)) 0, uPush e.U e.G, 2, 0, 0⟩, eD 0]) := by
  apply runs c_typebarref23_moved
  obtain ⟨g1, g2, g3⟩ := gapIs_ln h.g
  have hLen : l.length = e.G.A.length + e.G.B.length := by rw [hl]; exact List.length_append
  have ht := pc_ref10_Text (n + 6) e.G (by omega) (by omega)
  have hT := pc_ref23_Target (n + 2) (e.G.A ++ e.G.B) e.G.A.length a.m c (by simp; omega)
  rw [show (tgtE (e.G.A ++ e.G.B) e.G.A.length a.m c).1 = (T : Int) from hTo] at hT
  generalize (tgtE (e.G.A ++ e.G.B) e.G.A.length a.m c).2 = er at hT
  rw [← hl] at ht hT
  have hK := pc_ref12_Add (n + 3) e.K ((l.drop e.G.A.length).take ((T + 1) - e.G.A.length)) 0 (kIs_small h.k) (by simp; omega)
  have hU := pc_ref13_Push (n + 2) e.U e.G (uIs_small h.u) (by omega) (by omega)
  have w1 : min (e.G.A.length : Int) (T : Int) = (e.G.A.length : Int) := by omega
  have w2 : max (e.G.A.length : Int) (T : Int) = (T : Int) := by omega
  have w3 : (e.G.A.length : Int) < (T : Int) := by omega
  have w3n : e.G.A.length < T := by omega
  have w4 : (T : Int) < (l.length : Int) := by omega
  have w4n : T < l.length := by omega
  have w5 : IntKind.i64.wrap ((T : Int) + 1) = (T : Int) + 1 := wrap_i64 (by omega)
  have w6 : ((T : Int) + 1).toNat = T + 1 := by omega
  have q1 : ¬ (e.G.A.length : Int) = ((T : Int) + 1) := by omega
  have q2 : (e.G.A.length : Int) ≤ ((T : Int) + 1) := by omega
  have q3 : ((T : Int) + 1) ≤ (l.length : Int) := by omega
  have q4 : e.G.A.length ≤ l.length := by omega
  have q5 : (T + 1) ≤ l.length := by omega
  have q6 : e.G.A.length ≤ (T + 1) := by omega
  have q7 : ¬ e.G.A.length = (T + 1) := by omega
  rw [m9] at hT
  try simp only [Int.natCast_add, Int.natCast_zero, Int.natCast_one] at hK
  clear hl hTo
  simp [X_typebarref23_moved, putAt, Nat.testBit, w3, w3n, q1, q2, q3, q4, q5, q6, q7, ht, hT, m9, w1, w2, w4, w4n, w5, w6, o2, hla, hK, hU]
  repeat' (first
    | simp (disch := omega) only [wrap_i64, wrap_i32]
    | (simp (disch := first | omega | assumption | (simp only [i64, i32]; omega) | (simp <;> omega) | fail) only [loadD_cpr, loadD_cprs, List.take_of_length_le]; simp [*, w3, w3n, q1, q2, q3, q4, q5, q6, q7, ht, hT, m9, w1, w2, w4, w4n, w5, w6, o2, hla, hK, hU, Nat.testBit])
    | (with_reducible refine And.intro ?_ ?_; focus first | omega | decide)
    | (with_reducible refine split_ite (fun hp => ?_) (fun hp => ?_) <;> (try simp at hp) <;> simp [*, w3, w3n, q1, q2, q3, q4, q5, q6, q7, ht, hT, m9, w1, w2, w4, w4n, w5, w6, o2, hla, hK, hU, Nat.testBit])
    | (with_reducible refine split_ite1 (fun hp => ?_) (fun hp => ?_) <;> (try simp at hp) <;> simp [*, w3, w3n, q1, q2, q3, q4, q5, q6, q7, ht, hT, m9, w1, w2, w4, w4n, w5, w6, o2, hla, hK, hU, Nat.testBit])
    | (refine split_cond (by simp) (fun hp => ?_) (fun hp => ?_) <;> simp at hp <;> simp [*, w3, w3n, q1, q2, q3, q4, q5, q6, q7, ht, hT, m9, w1, w2, w4, w4n, w5, w6, o2, hla, hK, hU, Nat.testBit])
    | (refine split_ops (by simp) (fun hp => ?_) (fun hp => ?_) <;> simp at hp <;> simp [*, w3, w3n, q1, q2, q3, q4, q5, q6, q7, ht, hT, m9, w1, w2, w4, w4n, w5, w6, o2, hla, hK, hU, Nat.testBit])
    | (refine split_opsD (by simp) (fun hp => ?_) (fun hp => ?_) <;> simp at hp <;> simp [*, w3, w3n, q1, q2, q3, q4, q5, q6, q7, ht, hT, m9, w1, w2, w4, w4n, w5, w6, o2, hla, hK, hU, Nat.testBit])
    | (refine split_pick (by simp) (fun hp => ?_) (fun hp => ?_) <;> simp at hp <;> simp [*, w3, w3n, q1, q2, q3, q4, q5, q6, q7, ht, hT, m9, w1, w2, w4, w4n, w5, w6, o2, hla, hK, hU, Nat.testBit])
    | omega
    | decide
    | (simp [*, w3, w3n, q1, q2, q3, q4, q5, q6, q7, ht, hT, m9, w1, w2, w4, w4n, w5, w6, o2, hla, hK, hU, Nat.testBit]))
  all_goals trace_state

theorem moved_gt9_2y (n : Nat) (e : EditM) (a : ActM) (c : Int) (h : EdOk e) (l : List Int) (hl : l = e.G.A ++ e.G.B) (T : Nat) (t2 : T ≤ l.length) (ho : 1 ≤ a.o ∧ a.o ≤ 6) (hne : e.G.A.length < (T + 1)) (hTo : toE e a c = T) (m9 : a.m = 9) (hAT : e.G.A.length < T) (hTL : T < l.length) (o2 : a.o = 2) (hla : e.La = 2) :
    (W (n + 9)).pc 21 [edD e, acD a, .int .i64 c] = some (.tup [edD ⟨⟨l.take e.G.A.length, l.drop (T + 1)⟩, kAdd e.K ((l.drop e.G.A.length).take ((T + 1) - e.G.A.length)) 1, uPush e.U e.G, 2, 0, 0⟩, eD 0]) := by
  apply runs c_typebarref23_moved
  obtain ⟨g1, g2, g3⟩ := gapIs_ln h.g
  have hLen : l.length = e.G.A.length + e.G.B.length := by rw [hl]; exact List.length_append
  have ht := pc_ref10_Text (n + 6) e.G (by omega) (by omega)
  have hT := pc_ref23_Target (n + 2) (e.G.A ++ e.G.B) e.G.A.length a.m c (by simp; omega)
  rw [show (tgtE (e.G.A ++ e.G.B) e.G.A.length a.m c).1 = (T : Int) from hTo] at hT
  generalize (tgtE (e.G.A ++ e.G.B) e.G.A.length a.m c).2 = er at hT
  rw [← hl] at ht hT
  have hK := pc_ref12_Add (n + 3) e.K ((l.drop e.G.A.length).take ((T + 1) - e.G.A.length)) 1 (kIs_small h.k) (by simp; omega)
  have hU := pc_ref13_Push (n + 2) e.U e.G (uIs_small h.u) (by omega) (by omega)
  have w1 : min (e.G.A.length : Int) (T : Int) = (e.G.A.length : Int) := by omega
  have w2 : max (e.G.A.length : Int) (T : Int) = (T : Int) := by omega
  have w3 : (e.G.A.length : Int) < (T : Int) := by omega
  have w3n : e.G.A.length < T := by omega
  have w4 : (T : Int) < (l.length : Int) := by omega
  have w4n : T < l.length := by omega
  have w5 : IntKind.i64.wrap ((T : Int) + 1) = (T : Int) + 1 := wrap_i64 (by omega)
  have w6 : ((T : Int) + 1).toNat = T + 1 := by omega
  have q1 : ¬ (e.G.A.length : Int) = ((T : Int) + 1) := by omega
  have q2 : (e.G.A.length : Int) ≤ ((T : Int) + 1) := by omega
  have q3 : ((T : Int) + 1) ≤ (l.length : Int) := by omega
  have q4 : e.G.A.length ≤ l.length := by omega
  have q5 : (T + 1) ≤ l.length := by omega
  have q6 : e.G.A.length ≤ (T + 1) := by omega
  have q7 : ¬ e.G.A.length = (T + 1) := by omega
  rw [m9] at hT
  try simp only [Int.natCast_add, Int.natCast_zero, Int.natCast_one] at hK
  clear hl hTo
  simp [X_typebarref23_moved, putAt, Nat.testBit, w3, w3n, q1, q2, q3, q4, q5, q6, q7, ht, hT, m9, w1, w2, w4, w4n, w5, w6, o2, hla, hK, hU]
  repeat' (first
    | simp (disch := omega) only [wrap_i64, wrap_i32]
    | (simp (disch := first | omega | assumption | (simp only [i64, i32]; omega) | (simp <;> omega) | fail) only [loadD_cpr, loadD_cprs, List.take_of_length_le]; simp [*, w3, w3n, q1, q2, q3, q4, q5, q6, q7, ht, hT, m9, w1, w2, w4, w4n, w5, w6, o2, hla, hK, hU, Nat.testBit])
    | (with_reducible refine And.intro ?_ ?_; focus first | omega | decide)
    | (with_reducible refine split_ite (fun hp => ?_) (fun hp => ?_) <;> (try simp at hp) <;> simp [*, w3, w3n, q1, q2, q3, q4, q5, q6, q7, ht, hT, m9, w1, w2, w4, w4n, w5, w6, o2, hla, hK, hU, Nat.testBit])
    | (with_reducible refine split_ite1 (fun hp => ?_) (fun hp => ?_) <;> (try simp at hp) <;> simp [*, w3, w3n, q1, q2, q3, q4, q5, q6, q7, ht, hT, m9, w1, w2, w4, w4n, w5, w6, o2, hla, hK, hU, Nat.testBit])
    | (refine split_cond (by simp) (fun hp => ?_) (fun hp => ?_) <;> simp at hp <;> simp [*, w3, w3n, q1, q2, q3, q4, q5, q6, q7, ht, hT, m9, w1, w2, w4, w4n, w5, w6, o2, hla, hK, hU, Nat.testBit])
    | (refine split_ops (by simp) (fun hp => ?_) (fun hp => ?_) <;> simp at hp <;> simp [*, w3, w3n, q1, q2, q3, q4, q5, q6, q7, ht, hT, m9, w1, w2, w4, w4n, w5, w6, o2, hla, hK, hU, Nat.testBit])
    | (refine split_opsD (by simp) (fun hp => ?_) (fun hp => ?_) <;> simp at hp <;> simp [*, w3, w3n, q1, q2, q3, q4, q5, q6, q7, ht, hT, m9, w1, w2, w4, w4n, w5, w6, o2, hla, hK, hU, Nat.testBit])
    | (refine split_pick (by simp) (fun hp => ?_) (fun hp => ?_) <;> simp at hp <;> simp [*, w3, w3n, q1, q2, q3, q4, q5, q6, q7, ht, hT, m9, w1, w2, w4, w4n, w5, w6, o2, hla, hK, hU, Nat.testBit])
    | omega
    | decide
    | (simp [*, w3, w3n, q1, q2, q3, q4, q5, q6, q7, ht, hT, m9, w1, w2, w4, w4n, w5, w6, o2, hla, hK, hU, Nat.testBit]))
  all_goals trace_state

theorem moved_gt9_1 (n : Nat) (e : EditM) (a : ActM) (c : Int) (h : EdOk e) (l : List Int) (hl : l = e.G.A ++ e.G.B) (T : Nat) (t2 : T ≤ l.length) (ho : 1 ≤ a.o ∧ a.o ≤ 6) (hne : e.G.A.length < (T + 1)) (hTo : toE e a c = T) (m9 : a.m = 9) (hAT : e.G.A.length < T) (hTL : T < l.length) (o1 : a.o = 1) :
    (W (n + 9)).pc 21 [edD e, acD a, .int .i64 c] = some (.tup [edD ⟨⟨l.take e.G.A.length, l.drop (T + 1)⟩, e.K, uPush e.U e.G, 0, 0, 0⟩, eD 0]) := by
  apply runs c_typebarref23_moved
  obtain ⟨g1, g2, g3⟩ := gapIs_ln h.g
  have hLen : l.length = e.G.A.length + e.G.B.length := by rw [hl]; exact List.length_append
  have ht := pc_ref10_Text (n + 6) e.G (by omega) (by omega)
  have hT := pc_ref23_Target (n + 2) (e.G.A ++ e.G.B) e.G.A.length a.m c (by simp; omega)
  rw [show (tgtE (e.G.A ++ e.G.B) e.G.A.length a.m c).1 = (T : Int) from hTo] at hT
  generalize (tgtE (e.G.A ++ e.G.B) e.G.A.length a.m c).2 = er at hT
  rw [← hl] at ht hT
  have hU := pc_ref13_Push (n + 2) e.U e.G (uIs_small h.u) (by omega) (by omega)
  have w1 : min (e.G.A.length : Int) (T : Int) = (e.G.A.length : Int) := by omega
  have w2 : max (e.G.A.length : Int) (T : Int) = (T : Int) := by omega
  have w3 : (e.G.A.length : Int) < (T : Int) := by omega
  have w3n : e.G.A.length < T := by omega
  have w4 : (T : Int) < (l.length : Int) := by omega
  have w4n : T < l.length := by omega
  have w5 : IntKind.i64.wrap ((T : Int) + 1) = (T : Int) + 1 := wrap_i64 (by omega)
  have w6 : ((T : Int) + 1).toNat = T + 1 := by omega
  have q1 : ¬ (e.G.A.length : Int) = ((T : Int) + 1) := by omega
  have q2 : (e.G.A.length : Int) ≤ ((T : Int) + 1) := by omega
  have q3 : ((T : Int) + 1) ≤ (l.length : Int) := by omega
  have q4 : e.G.A.length ≤ l.length := by omega
  have q5 : (T + 1) ≤ l.length := by omega
  have q6 : e.G.A.length ≤ (T + 1) := by omega
  have q7 : ¬ e.G.A.length = (T + 1) := by omega
  rw [m9] at hT
  clear hl hTo
  simp [X_typebarref23_moved, putAt, Nat.testBit, w3, w3n, q1, q2, q3, q4, q5, q6, q7, ht, hT, m9, w1, w2, w4, w4n, w5, w6, o1, hU]
  repeat' (first
    | simp (disch := omega) only [wrap_i64, wrap_i32]
    | (simp (disch := first | omega | assumption | (simp only [i64, i32]; omega) | (simp <;> omega) | fail) only [loadD_cpr, loadD_cprs, List.take_of_length_le]; simp [*, w3, w3n, q1, q2, q3, q4, q5, q6, q7, ht, hT, m9, w1, w2, w4, w4n, w5, w6, o1, hU, Nat.testBit])
    | (with_reducible refine And.intro ?_ ?_; focus first | omega | decide)
    | (with_reducible refine split_ite (fun hp => ?_) (fun hp => ?_) <;> (try simp at hp) <;> simp [*, w3, w3n, q1, q2, q3, q4, q5, q6, q7, ht, hT, m9, w1, w2, w4, w4n, w5, w6, o1, hU, Nat.testBit])
    | (with_reducible refine split_ite1 (fun hp => ?_) (fun hp => ?_) <;> (try simp at hp) <;> simp [*, w3, w3n, q1, q2, q3, q4, q5, q6, q7, ht, hT, m9, w1, w2, w4, w4n, w5, w6, o1, hU, Nat.testBit])
    | (refine split_cond (by simp) (fun hp => ?_) (fun hp => ?_) <;> simp at hp <;> simp [*, w3, w3n, q1, q2, q3, q4, q5, q6, q7, ht, hT, m9, w1, w2, w4, w4n, w5, w6, o1, hU, Nat.testBit])
    | (refine split_ops (by simp) (fun hp => ?_) (fun hp => ?_) <;> simp at hp <;> simp [*, w3, w3n, q1, q2, q3, q4, q5, q6, q7, ht, hT, m9, w1, w2, w4, w4n, w5, w6, o1, hU, Nat.testBit])
    | (refine split_opsD (by simp) (fun hp => ?_) (fun hp => ?_) <;> simp at hp <;> simp [*, w3, w3n, q1, q2, q3, q4, q5, q6, q7, ht, hT, m9, w1, w2, w4, w4n, w5, w6, o1, hU, Nat.testBit])
    | (refine split_pick (by simp) (fun hp => ?_) (fun hp => ?_) <;> simp at hp <;> simp [*, w3, w3n, q1, q2, q3, q4, q5, q6, q7, ht, hT, m9, w1, w2, w4, w4n, w5, w6, o1, hU, Nat.testBit])
    | omega
    | decide
    | (simp [*, w3, w3n, q1, q2, q3, q4, q5, q6, q7, ht, hT, m9, w1, w2, w4, w4n, w5, w6, o1, hU, Nat.testBit]))
  all_goals trace_state

theorem moved_gt9e_3 (n : Nat) (e : EditM) (a : ActM) (c : Int) (h : EdOk e) (l : List Int) (hl : l = e.G.A ++ e.G.B) (T : Nat) (t2 : T ≤ l.length) (ho : 1 ≤ a.o ∧ a.o ≤ 6) (hne : e.G.A.length < T) (hTo : toE e a c = T) (m9 : a.m = 9) (hAT : e.G.A.length < T) (hTL : ¬ T < l.length) (o3 : a.o = 3) :
    (W (n + 9)).pc 21 [edD e, acD a, .int .i64 c] = some (.tup [edD ⟨gapSplit l e.G.A.length, kAdd e.K ((l.drop e.G.A.length).take (T - e.G.A.length)) 0, e.U, 0, 0, 0⟩, eD 0]) := by
  apply runs c_typebarref23_moved
  obtain ⟨g1, g2, g3⟩ := gapIs_ln h.g
  have hLen : l.length = e.G.A.length + e.G.B.length := by rw [hl]; exact List.length_append
  have ht := pc_ref10_Text (n + 6) e.G (by omega) (by omega)
  have hT := pc_ref23_Target (n + 2) (e.G.A ++ e.G.B) e.G.A.length a.m c (by simp; omega)
  rw [show (tgtE (e.G.A ++ e.G.B) e.G.A.length a.m c).1 = (T : Int) from hTo] at hT
  generalize (tgtE (e.G.A ++ e.G.B) e.G.A.length a.m c).2 = er at hT
  have hG := pc_ref10_Go (n + 4) e.G ((e.G.A.length : Nat) : Int) (by omega) (by omega)
  rw [gapGo_text h] at hG
  rw [← hl] at ht hT hG
  have hK := pc_ref12_Add (n + 3) e.K ((l.drop e.G.A.length).take (T - e.G.A.length)) 0 (kIs_small h.k) (by simp; omega)
  have w1 : min (e.G.A.length : Int) (T : Int) = (e.G.A.length : Int) := by omega
  have w2 : max (e.G.A.length : Int) (T : Int) = (T : Int) := by omega
  have w3 : (e.G.A.length : Int) < (T : Int) := by omega
  have w3n : e.G.A.length < T := by omega
  have w4 : ¬ (T : Int) < (l.length : Int) := by omega
  have w4n : ¬ T < l.length := by omega
  have q1 : ¬ (e.G.A.length : Int) = (T : Int) := by omega
  have q2 : (e.G.A.length : Int) ≤ (T : Int) := by omega
  have q3 : (T : Int) ≤ (l.length : Int) := by omega
  have q4 : e.G.A.length ≤ l.length := by omega
  have q5 : T ≤ l.length := by omega
  have q6 : e.G.A.length ≤ T := by omega
  have q7 : ¬ e.G.A.length = T := by omega
  rw [m9] at hT
  try simp only [Int.natCast_add, Int.natCast_zero, Int.natCast_one] at hG
  try simp only [Int.natCast_add, Int.natCast_zero, Int.natCast_one] at hK
  clear hl hTo
  simp [X_typebarref23_moved, putAt, Nat.testBit, w3, w3n, q1, q2, q3, q4, q5, q6, q7, ht, hT, m9, w1, w2, w4, w4n, o3, hG, hK, gapSplit]
  repeat' (first
    | simp (disch := omega) only [wrap_i64, wrap_i32]
    | (simp (disch := first | omega | assumption | (simp only [i64, i32]; omega) | (simp <;> omega) | fail) only [loadD_cpr, loadD_cprs, List.take_of_length_le]; simp [*, w3, w3n, q1, q2, q3, q4, q5, q6, q7, ht, hT, m9, w1, w2, w4, w4n, o3, hG, hK, gapSplit, Nat.testBit])
    | (with_reducible refine And.intro ?_ ?_; focus first | omega | decide)
    | (with_reducible refine split_ite (fun hp => ?_) (fun hp => ?_) <;> (try simp at hp) <;> simp [*, w3, w3n, q1, q2, q3, q4, q5, q6, q7, ht, hT, m9, w1, w2, w4, w4n, o3, hG, hK, gapSplit, Nat.testBit])
    | (with_reducible refine split_ite1 (fun hp => ?_) (fun hp => ?_) <;> (try simp at hp) <;> simp [*, w3, w3n, q1, q2, q3, q4, q5, q6, q7, ht, hT, m9, w1, w2, w4, w4n, o3, hG, hK, gapSplit, Nat.testBit])
    | (refine split_cond (by simp) (fun hp => ?_) (fun hp => ?_) <;> simp at hp <;> simp [*, w3, w3n, q1, q2, q3, q4, q5, q6, q7, ht, hT, m9, w1, w2, w4, w4n, o3, hG, hK, gapSplit, Nat.testBit])
    | (refine split_ops (by simp) (fun hp => ?_) (fun hp => ?_) <;> simp at hp <;> simp [*, w3, w3n, q1, q2, q3, q4, q5, q6, q7, ht, hT, m9, w1, w2, w4, w4n, o3, hG, hK, gapSplit, Nat.testBit])
    | (refine split_opsD (by simp) (fun hp => ?_) (fun hp => ?_) <;> simp at hp <;> simp [*, w3, w3n, q1, q2, q3, q4, q5, q6, q7, ht, hT, m9, w1, w2, w4, w4n, o3, hG, hK, gapSplit, Nat.testBit])
    | (refine split_pick (by simp) (fun hp => ?_) (fun hp => ?_) <;> simp at hp <;> simp [*, w3, w3n, q1, q2, q3, q4, q5, q6, q7, ht, hT, m9, w1, w2, w4, w4n, o3, hG, hK, gapSplit, Nat.testBit])
    | omega
    | decide
    | (simp [*, w3, w3n, q1, q2, q3, q4, q5, q6, q7, ht, hT, m9, w1, w2, w4, w4n, o3, hG, hK, gapSplit, Nat.testBit]))
  all_goals trace_state

theorem moved_gt9e_4 (n : Nat) (e : EditM) (a : ActM) (c : Int) (h : EdOk e) (l : List Int) (hl : l = e.G.A ++ e.G.B) (T : Nat) (t2 : T ≤ l.length) (ho : 1 ≤ a.o ∧ a.o ≤ 6) (hne : e.G.A.length < T) (hTo : toE e a c = T) (m9 : a.m = 9) (hAT : e.G.A.length < T) (hTL : ¬ T < l.length) (o4 : 4 ≤ a.o) :
    (W (n + 9)).pc 21 [edD e, acD a, .int .i64 c] = some (.tup [edD ⟨gapSplit (sCh l e.G.A.length T a.o) T, e.K, uPush e.U e.G, 0, 0, 0⟩, eD 0]) := by
  apply runs c_typebarref23_moved
  obtain ⟨g1, g2, g3⟩ := gapIs_ln h.g
  have hLen : l.length = e.G.A.length + e.G.B.length := by rw [hl]; exact List.length_append
  have ht := pc_ref10_Text (n + 6) e.G (by omega) (by omega)
  have hT := pc_ref23_Target (n + 2) (e.G.A ++ e.G.B) e.G.A.length a.m c (by simp; omega)
  rw [show (tgtE (e.G.A ++ e.G.B) e.G.A.length a.m c).1 = (T : Int) from hTo] at hT
  generalize (tgtE (e.G.A ++ e.G.B) e.G.A.length a.m c).2 = er at hT
  rw [← hl] at ht hT
  have hC := pc_ref14_Change (n + 6) l ((e.G.A.length : Nat) : Int) ((T : Nat) : Int) a.o (by omega)
  rw [change_in hne (by omega) (by omega)] at hC
  have hU := pc_ref13_Push (n + 2) e.U e.G (uIs_small h.u) (by omega) (by omega)
  have w1 : min (e.G.A.length : Int) (T : Int) = (e.G.A.length : Int) := by omega
  have w2 : max (e.G.A.length : Int) (T : Int) = (T : Int) := by omega
  have w3 : (e.G.A.length : Int) < (T : Int) := by omega
  have w3n : e.G.A.length < T := by omega
  have w4 : ¬ (T : Int) < (l.length : Int) := by omega
  have w4n : ¬ T < l.length := by omega
  have q1 : ¬ (e.G.A.length : Int) = (T : Int) := by omega
  have q2 : (e.G.A.length : Int) ≤ (T : Int) := by omega
  have q3 : (T : Int) ≤ (l.length : Int) := by omega
  have q4 : e.G.A.length ≤ l.length := by omega
  have q5 : T ≤ l.length := by omega
  have q6 : e.G.A.length ≤ T := by omega
  have q7 : ¬ e.G.A.length = T := by omega
  rw [m9] at hT
  have o0 : ¬ a.o = 0 := by omega
  have o3 : ¬ a.o = 3 := by omega
  try simp only [Int.natCast_add, Int.natCast_zero, Int.natCast_one] at hC
  clear hl hTo
  simp [X_typebarref23_moved, putAt, Nat.testBit, w3, w3n, q1, q2, q3, q4, q5, q6, q7, ht, hT, m9, w1, w2, w4, w4n, o0, o3, o4, hC, hU, gapSplit]
  repeat' (first
    | simp (disch := omega) only [wrap_i64, wrap_i32]
    | (simp (disch := first | omega | assumption | (simp only [i64, i32]; omega) | (simp <;> omega) | fail) only [loadD_cpr, loadD_cprs, List.take_of_length_le]; simp [*, w3, w3n, q1, q2, q3, q4, q5, q6, q7, ht, hT, m9, w1, w2, w4, w4n, o0, o3, o4, hC, hU, gapSplit, Nat.testBit])
    | (with_reducible refine And.intro ?_ ?_; focus first | omega | decide)
    | (with_reducible refine split_ite (fun hp => ?_) (fun hp => ?_) <;> (try simp at hp) <;> simp [*, w3, w3n, q1, q2, q3, q4, q5, q6, q7, ht, hT, m9, w1, w2, w4, w4n, o0, o3, o4, hC, hU, gapSplit, Nat.testBit])
    | (with_reducible refine split_ite1 (fun hp => ?_) (fun hp => ?_) <;> (try simp at hp) <;> simp [*, w3, w3n, q1, q2, q3, q4, q5, q6, q7, ht, hT, m9, w1, w2, w4, w4n, o0, o3, o4, hC, hU, gapSplit, Nat.testBit])
    | (refine split_cond (by simp) (fun hp => ?_) (fun hp => ?_) <;> simp at hp <;> simp [*, w3, w3n, q1, q2, q3, q4, q5, q6, q7, ht, hT, m9, w1, w2, w4, w4n, o0, o3, o4, hC, hU, gapSplit, Nat.testBit])
    | (refine split_ops (by simp) (fun hp => ?_) (fun hp => ?_) <;> simp at hp <;> simp [*, w3, w3n, q1, q2, q3, q4, q5, q6, q7, ht, hT, m9, w1, w2, w4, w4n, o0, o3, o4, hC, hU, gapSplit, Nat.testBit])
    | (refine split_opsD (by simp) (fun hp => ?_) (fun hp => ?_) <;> simp at hp <;> simp [*, w3, w3n, q1, q2, q3, q4, q5, q6, q7, ht, hT, m9, w1, w2, w4, w4n, o0, o3, o4, hC, hU, gapSplit, Nat.testBit])
    | (refine split_pick (by simp) (fun hp => ?_) (fun hp => ?_) <;> simp at hp <;> simp [*, w3, w3n, q1, q2, q3, q4, q5, q6, q7, ht, hT, m9, w1, w2, w4, w4n, o0, o3, o4, hC, hU, gapSplit, Nat.testBit])
    | omega
    | decide
    | (simp [*, w3, w3n, q1, q2, q3, q4, q5, q6, q7, ht, hT, m9, w1, w2, w4, w4n, o0, o3, o4, hC, hU, gapSplit, Nat.testBit]))
  all_goals trace_state

theorem moved_gt9e_2n (n : Nat) (e : EditM) (a : ActM) (c : Int) (h : EdOk e) (l : List Int) (hl : l = e.G.A ++ e.G.B) (T : Nat) (t2 : T ≤ l.length) (ho : 1 ≤ a.o ∧ a.o ≤ 6) (hne : e.G.A.length < T) (hTo : toE e a c = T) (m9 : a.m = 9) (hAT : e.G.A.length < T) (hTL : ¬ T < l.length) (o2 : a.o = 2) (hla : ¬ e.La = 2) :
    (W (n + 9)).pc 21 [edD e, acD a, .int .i64 c] = some (.tup [edD ⟨⟨l.take e.G.A.length, l.drop T⟩, kAdd e.K ((l.drop e.G.A.length).take (T - e.G.A.length)) 0, uPush e.U e.G, 2, 0, 0⟩, eD 0]) := by
  apply runs c_typebarref23_moved
  obtain ⟨g1, g2, g3⟩ := gapIs_ln h.g
  have hLen : l.length = e.G.A.length + e.G.B.length := by rw [hl]; exact List.length_append
  have ht := pc_ref10_Text (n + 6) e.G (by omega) (by omega)
  have hT := pc_ref23_Target (n + 2) (e.G.A ++ e.G.B) e.G.A.length a.m c (by simp; omega)
  rw [show (tgtE (e.G.A ++ e.G.B) e.G.A.length a.m c).1 = (T : Int) from hTo] at hT
  generalize (tgtE (e.G.A ++ e.G.B) e.G.A.length a.m c).2 = er at hT
  rw [← hl] at ht hT
  have hK := pc_ref12_Add (n + 3) e.K ((l.drop e.G.A.length).take (T - e.G.A.length)) 0 (kIs_small h.k) (by simp; omega)
  have hU := pc_ref13_Push (n + 2) e.U e.G (uIs_small h.u) (by omega) (by omega)
  have w1 : min (e.G.A.length : Int) (T : Int) = (e.G.A.length : Int) := by omega
  have w2 : max (e.G.A.length : Int) (T : Int) = (T : Int) := by omega
  have w3 : (e.G.A.length : Int) < (T : Int) := by omega
  have w3n : e.G.A.length < T := by omega
  have w4 : ¬ (T : Int) < (l.length : Int) := by omega
  have w4n : ¬ T < l.length := by omega
  have q1 : ¬ (e.G.A.length : Int) = (T : Int) := by omega
  have q2 : (e.G.A.length : Int) ≤ (T : Int) := by omega
  have q3 : (T : Int) ≤ (l.length : Int) := by omega
  have q4 : e.G.A.length ≤ l.length := by omega
  have q5 : T ≤ l.length := by omega
  have q6 : e.G.A.length ≤ T := by omega
  have q7 : ¬ e.G.A.length = T := by omega
  rw [m9] at hT
  try simp only [Int.natCast_add, Int.natCast_zero, Int.natCast_one] at hK
  clear hl hTo
  simp [X_typebarref23_moved, putAt, Nat.testBit, w3, w3n, q1, q2, q3, q4, q5, q6, q7, ht, hT, m9, w1, w2, w4, w4n, o2, hla, hK, hU]
  repeat' (first
    | simp (disch := omega) only [wrap_i64, wrap_i32]
    | (simp (disch := first | omega | assumption | (simp only [i64, i32]; omega) | (simp <;> omega) | fail) only [loadD_cpr, loadD_cprs, List.take_of_length_le]; simp [*, w3, w3n, q1, q2, q3, q4, q5, q6, q7, ht, hT, m9, w1, w2, w4, w4n, o2, hla, hK, hU, Nat.testBit])
    | (with_reducible refine And.intro ?_ ?_; focus first | omega | decide)
    | (with_reducible refine split_ite (fun hp => ?_) (fun hp => ?_) <;> (try simp at hp) <;> simp [*, w3, w3n, q1, q2, q3, q4, q5, q6, q7, ht, hT, m9, w1, w2, w4, w4n, o2, hla, hK, hU, Nat.testBit])
    | (with_reducible refine split_ite1 (fun hp => ?_) (fun hp => ?_) <;> (try simp at hp) <;> simp [*, w3, w3n, q1, q2, q3, q4, q5, q6, q7, ht, hT, m9, w1, w2, w4, w4n, o2, hla, hK, hU, Nat.testBit])
    | (refine split_cond (by simp) (fun hp => ?_) (fun hp => ?_) <;> simp at hp <;> simp [*, w3, w3n, q1, q2, q3, q4, q5, q6, q7, ht, hT, m9, w1, w2, w4, w4n, o2, hla, hK, hU, Nat.testBit])
    | (refine split_ops (by simp) (fun hp => ?_) (fun hp => ?_) <;> simp at hp <;> simp [*, w3, w3n, q1, q2, q3, q4, q5, q6, q7, ht, hT, m9, w1, w2, w4, w4n, o2, hla, hK, hU, Nat.testBit])
    | (refine split_opsD (by simp) (fun hp => ?_) (fun hp => ?_) <;> simp at hp <;> simp [*, w3, w3n, q1, q2, q3, q4, q5, q6, q7, ht, hT, m9, w1, w2, w4, w4n, o2, hla, hK, hU, Nat.testBit])
    | (refine split_pick (by simp) (fun hp => ?_) (fun hp => ?_) <;> simp at hp <;> simp [*, w3, w3n, q1, q2, q3, q4, q5, q6, q7, ht, hT, m9, w1, w2, w4, w4n, o2, hla, hK, hU, Nat.testBit])
    | omega
    | decide
    | (simp [*, w3, w3n, q1, q2, q3, q4, q5, q6, q7, ht, hT, m9, w1, w2, w4, w4n, o2, hla, hK, hU, Nat.testBit]))
  all_goals trace_state

theorem moved_gt9e_2y (n : Nat) (e : EditM) (a : ActM) (c : Int) (h : EdOk e) (l : List Int) (hl : l = e.G.A ++ e.G.B) (T : Nat) (t2 : T ≤ l.length) (ho : 1 ≤ a.o ∧ a.o ≤ 6) (hne : e.G.A.length < T) (hTo : toE e a c = T) (m9 : a.m = 9) (hAT : e.G.A.length < T) (hTL : ¬ T < l.length) (o2 : a.o = 2) (hla : e.La = 2) :
    (W (n + 9)).pc 21 [edD e, acD a, .int .i64 c] = some (.tup [edD ⟨⟨l.take e.G.A.length, l.drop T⟩, kAdd e.K ((l.drop e.G.A.length).take (T - e.G.A.length)) 1, uPush e.U e.G, 2, 0, 0⟩, eD 0]) := by
  apply runs c_typebarref23_moved
  obtain ⟨g1, g2, g3⟩ := gapIs_ln h.g
  have hLen : l.length = e.G.A.length + e.G.B.length := by rw [hl]; exact List.length_append
  have ht := pc_ref10_Text (n + 6) e.G (by omega) (by omega)
  have hT := pc_ref23_Target (n + 2) (e.G.A ++ e.G.B) e.G.A.length a.m c (by simp; omega)
  rw [show (tgtE (e.G.A ++ e.G.B) e.G.A.length a.m c).1 = (T : Int) from hTo] at hT
  generalize (tgtE (e.G.A ++ e.G.B) e.G.A.length a.m c).2 = er at hT
  rw [← hl] at ht hT
  have hK := pc_ref12_Add (n + 3) e.K ((l.drop e.G.A.length).take (T - e.G.A.length)) 1 (kIs_small h.k) (by simp; omega)
  have hU := pc_ref13_Push (n + 2) e.U e.G (uIs_small h.u) (by omega) (by omega)
  have w1 : min (e.G.A.length : Int) (T : Int) = (e.G.A.length : Int) := by omega
  have w2 : max (e.G.A.length : Int) (T : Int) = (T : Int) := by omega
  have w3 : (e.G.A.length : Int) < (T : Int) := by omega
  have w3n : e.G.A.length < T := by omega
  have w4 : ¬ (T : Int) < (l.length : Int) := by omega
  have w4n : ¬ T < l.length := by omega
  have q1 : ¬ (e.G.A.length : Int) = (T : Int) := by omega
  have q2 : (e.G.A.length : Int) ≤ (T : Int) := by omega
  have q3 : (T : Int) ≤ (l.length : Int) := by omega
  have q4 : e.G.A.length ≤ l.length := by omega
  have q5 : T ≤ l.length := by omega
  have q6 : e.G.A.length ≤ T := by omega
  have q7 : ¬ e.G.A.length = T := by omega
  rw [m9] at hT
  try simp only [Int.natCast_add, Int.natCast_zero, Int.natCast_one] at hK
  clear hl hTo
  simp [X_typebarref23_moved, putAt, Nat.testBit, w3, w3n, q1, q2, q3, q4, q5, q6, q7, ht, hT, m9, w1, w2, w4, w4n, o2, hla, hK, hU]
  repeat' (first
    | simp (disch := omega) only [wrap_i64, wrap_i32]
    | (simp (disch := first | omega | assumption | (simp only [i64, i32]; omega) | (simp <;> omega) | fail) only [loadD_cpr, loadD_cprs, List.take_of_length_le]; simp [*, w3, w3n, q1, q2, q3, q4, q5, q6, q7, ht, hT, m9, w1, w2, w4, w4n, o2, hla, hK, hU, Nat.testBit])
    | (with_reducible refine And.intro ?_ ?_; focus first | omega | decide)
    | (with_reducible refine split_ite (fun hp => ?_) (fun hp => ?_) <;> (try simp at hp) <;> simp [*, w3, w3n, q1, q2, q3, q4, q5, q6, q7, ht, hT, m9, w1, w2, w4, w4n, o2, hla, hK, hU, Nat.testBit])
    | (with_reducible refine split_ite1 (fun hp => ?_) (fun hp => ?_) <;> (try simp at hp) <;> simp [*, w3, w3n, q1, q2, q3, q4, q5, q6, q7, ht, hT, m9, w1, w2, w4, w4n, o2, hla, hK, hU, Nat.testBit])
    | (refine split_cond (by simp) (fun hp => ?_) (fun hp => ?_) <;> simp at hp <;> simp [*, w3, w3n, q1, q2, q3, q4, q5, q6, q7, ht, hT, m9, w1, w2, w4, w4n, o2, hla, hK, hU, Nat.testBit])
    | (refine split_ops (by simp) (fun hp => ?_) (fun hp => ?_) <;> simp at hp <;> simp [*, w3, w3n, q1, q2, q3, q4, q5, q6, q7, ht, hT, m9, w1, w2, w4, w4n, o2, hla, hK, hU, Nat.testBit])
    | (refine split_opsD (by simp) (fun hp => ?_) (fun hp => ?_) <;> simp at hp <;> simp [*, w3, w3n, q1, q2, q3, q4, q5, q6, q7, ht, hT, m9, w1, w2, w4, w4n, o2, hla, hK, hU, Nat.testBit])
    | (refine split_pick (by simp) (fun hp => ?_) (fun hp => ?_) <;> simp at hp <;> simp [*, w3, w3n, q1, q2, q3, q4, q5, q6, q7, ht, hT, m9, w1, w2, w4, w4n, o2, hla, hK, hU, Nat.testBit])
    | omega
    | decide
    | (simp [*, w3, w3n, q1, q2, q3, q4, q5, q6, q7, ht, hT, m9, w1, w2, w4, w4n, o2, hla, hK, hU, Nat.testBit]))
  all_goals trace_state

theorem moved_gt9e_1 (n : Nat) (e : EditM) (a : ActM) (c : Int) (h : EdOk e) (l : List Int) (hl : l = e.G.A ++ e.G.B) (T : Nat) (t2 : T ≤ l.length) (ho : 1 ≤ a.o ∧ a.o ≤ 6) (hne : e.G.A.length < T) (hTo : toE e a c = T) (m9 : a.m = 9) (hAT : e.G.A.length < T) (hTL : ¬ T < l.length) (o1 : a.o = 1) :
    (W (n + 9)).pc 21 [edD e, acD a, .int .i64 c] = some (.tup [edD ⟨⟨l.take e.G.A.length, l.drop T⟩, e.K, uPush e.U e.G, 0, 0, 0⟩, eD 0]) := by
  apply runs c_typebarref23_moved
  obtain ⟨g1, g2, g3⟩ := gapIs_ln h.g
  have hLen : l.length = e.G.A.length + e.G.B.length := by rw [hl]; exact List.length_append
  have ht := pc_ref10_Text (n + 6) e.G (by omega) (by omega)
  have hT := pc_ref23_Target (n + 2) (e.G.A ++ e.G.B) e.G.A.length a.m c (by simp; omega)
  rw [show (tgtE (e.G.A ++ e.G.B) e.G.A.length a.m c).1 = (T : Int) from hTo] at hT
  generalize (tgtE (e.G.A ++ e.G.B) e.G.A.length a.m c).2 = er at hT
  rw [← hl] at ht hT
  have hU := pc_ref13_Push (n + 2) e.U e.G (uIs_small h.u) (by omega) (by omega)
  have w1 : min (e.G.A.length : Int) (T : Int) = (e.G.A.length : Int) := by omega
  have w2 : max (e.G.A.length : Int) (T : Int) = (T : Int) := by omega
  have w3 : (e.G.A.length : Int) < (T : Int) := by omega
  have w3n : e.G.A.length < T := by omega
  have w4 : ¬ (T : Int) < (l.length : Int) := by omega
  have w4n : ¬ T < l.length := by omega
  have q1 : ¬ (e.G.A.length : Int) = (T : Int) := by omega
  have q2 : (e.G.A.length : Int) ≤ (T : Int) := by omega
  have q3 : (T : Int) ≤ (l.length : Int) := by omega
  have q4 : e.G.A.length ≤ l.length := by omega
  have q5 : T ≤ l.length := by omega
  have q6 : e.G.A.length ≤ T := by omega
  have q7 : ¬ e.G.A.length = T := by omega
  rw [m9] at hT
  clear hl hTo
  simp [X_typebarref23_moved, putAt, Nat.testBit, w3, w3n, q1, q2, q3, q4, q5, q6, q7, ht, hT, m9, w1, w2, w4, w4n, o1, hU]
  repeat' (first
    | simp (disch := omega) only [wrap_i64, wrap_i32]
    | (simp (disch := first | omega | assumption | (simp only [i64, i32]; omega) | (simp <;> omega) | fail) only [loadD_cpr, loadD_cprs, List.take_of_length_le]; simp [*, w3, w3n, q1, q2, q3, q4, q5, q6, q7, ht, hT, m9, w1, w2, w4, w4n, o1, hU, Nat.testBit])
    | (with_reducible refine And.intro ?_ ?_; focus first | omega | decide)
    | (with_reducible refine split_ite (fun hp => ?_) (fun hp => ?_) <;> (try simp at hp) <;> simp [*, w3, w3n, q1, q2, q3, q4, q5, q6, q7, ht, hT, m9, w1, w2, w4, w4n, o1, hU, Nat.testBit])
    | (with_reducible refine split_ite1 (fun hp => ?_) (fun hp => ?_) <;> (try simp at hp) <;> simp [*, w3, w3n, q1, q2, q3, q4, q5, q6, q7, ht, hT, m9, w1, w2, w4, w4n, o1, hU, Nat.testBit])
    | (refine split_cond (by simp) (fun hp => ?_) (fun hp => ?_) <;> simp at hp <;> simp [*, w3, w3n, q1, q2, q3, q4, q5, q6, q7, ht, hT, m9, w1, w2, w4, w4n, o1, hU, Nat.testBit])
    | (refine split_ops (by simp) (fun hp => ?_) (fun hp => ?_) <;> simp at hp <;> simp [*, w3, w3n, q1, q2, q3, q4, q5, q6, q7, ht, hT, m9, w1, w2, w4, w4n, o1, hU, Nat.testBit])
    | (refine split_opsD (by simp) (fun hp => ?_) (fun hp => ?_) <;> simp at hp <;> simp [*, w3, w3n, q1, q2, q3, q4, q5, q6, q7, ht, hT, m9, w1, w2, w4, w4n, o1, hU, Nat.testBit])
    | (refine split_pick (by simp) (fun hp => ?_) (fun hp => ?_) <;> simp at hp <;> simp [*, w3, w3n, q1, q2, q3, q4, q5, q6, q7, ht, hT, m9, w1, w2, w4, w4n, o1, hU, Nat.testBit])
    | omega
    | decide
    | (simp [*, w3, w3n, q1, q2, q3, q4, q5, q6, q7, ht, hT, m9, w1, w2, w4, w4n, o1, hU, Nat.testBit]))
  all_goals trace_state

theorem moved_gt_3 (n : Nat) (e : EditM) (a : ActM) (c : Int) (h : EdOk e) (l : List Int) (hl : l = e.G.A ++ e.G.B) (T : Nat) (t2 : T ≤ l.length) (ho : 1 ≤ a.o ∧ a.o ≤ 6) (hne : e.G.A.length < T) (hTo : toE e a c = T) (m9 : ¬ a.m = 9) (m10 : ¬ a.m = 10) (hAT : e.G.A.length < T) (o3 : a.o = 3) :
    (W (n + 9)).pc 21 [edD e, acD a, .int .i64 c] = some (.tup [edD ⟨gapSplit l e.G.A.length, kAdd e.K ((l.drop e.G.A.length).take (T - e.G.A.length)) 0, e.U, 0, 0, 0⟩, eD 0]) := by
  apply runs c_typebarref23_moved
  obtain ⟨g1, g2, g3⟩ := gapIs_ln h.g
  have hLen : l.length = e.G.A.length + e.G.B.length := by rw [hl]; exact List.length_append
  have ht := pc_ref10_Text (n + 6) e.G (by omega) (by omega)
  have hT := pc_ref23_Target (n + 2) (e.G.A ++ e.G.B) e.G.A.length a.m c (by simp; omega)
  rw [show (tgtE (e.G.A ++ e.G.B) e.G.A.length a.m c).1 = (T : Int) from hTo] at hT
  generalize (tgtE (e.G.A ++ e.G.B) e.G.A.length a.m c).2 = er at hT
  have hG := pc_ref10_Go (n + 4) e.G ((e.G.A.length : Nat) : Int) (by omega) (by omega)
  rw [gapGo_text h] at hG
  rw [← hl] at ht hT hG
  have hK := pc_ref12_Add (n + 3) e.K ((l.drop e.G.A.length).take (T - e.G.A.length)) 0 (kIs_small h.k) (by simp; omega)
  have w1 : min (e.G.A.length : Int) (T : Int) = (e.G.A.length : Int) := by omega
  have w2 : max (e.G.A.length : Int) (T : Int) = (T : Int) := by omega
  have w3 : (e.G.A.length : Int) < (T : Int) := by omega
  have w3n : e.G.A.length < T := by omega
  have q1 : ¬ (e.G.A.length : Int) = (T : Int) := by omega
  have q2 : (e.G.A.length : Int) ≤ (T : Int) := by omega
  have q3 : (T : Int) ≤ (l.length : Int) := by omega
  have q4 : e.G.A.length ≤ l.length := by omega
  have q5 : T ≤ l.length := by omega
  have q6 : e.G.A.length ≤ T := by omega
  have q7 : ¬ e.G.A.length = T := by omega
  try simp only [Int.natCast_add, Int.natCast_zero, Int.natCast_one] at hG
  try simp only [Int.natCast_add, Int.natCast_zero, Int.natCast_one] at hK
  clear hl hTo
  simp [X_typebarref23_moved, putAt, Nat.testBit, w3, w3n, q1, q2, q3, q4, q5, q6, q7, ht, hT, m9, m10, w1, w2, o3, hG, hK, gapSplit]
  repeat' (first
    | simp (disch := omega) only [wrap_i64, wrap_i32]
    | (simp (disch := first | omega | assumption | (simp only [i64, i32]; omega) | (simp <;> omega) | fail) only [loadD_cpr, loadD_cprs, List.take_of_length_le]; simp [*, w3, w3n, q1, q2, q3, q4, q5, q6, q7, ht, hT, m9, m10, w1, w2, o3, hG, hK, gapSplit, Nat.testBit])
    | (with_reducible refine And.intro ?_ ?_; focus first | omega | decide)
    | (with_reducible refine split_ite (fun hp => ?_) (fun hp => ?_) <;> (try simp at hp) <;> simp [*, w3, w3n, q1, q2, q3, q4, q5, q6, q7, ht, hT, m9, m10, w1, w2, o3, hG, hK, gapSplit, Nat.testBit])
    | (with_reducible refine split_ite1 (fun hp => ?_) (fun hp => ?_) <;> (try simp at hp) <;> simp [*, w3, w3n, q1, q2, q3, q4, q5, q6, q7, ht, hT, m9, m10, w1, w2, o3, hG, hK, gapSplit, Nat.testBit])
    | (refine split_cond (by simp) (fun hp => ?_) (fun hp => ?_) <;> simp at hp <;> simp [*, w3, w3n, q1, q2, q3, q4, q5, q6, q7, ht, hT, m9, m10, w1, w2, o3, hG, hK, gapSplit, Nat.testBit])
    | (refine split_ops (by simp) (fun hp => ?_) (fun hp => ?_) <;> simp at hp <;> simp [*, w3, w3n, q1, q2, q3, q4, q5, q6, q7, ht, hT, m9, m10, w1, w2, o3, hG, hK, gapSplit, Nat.testBit])
    | (refine split_opsD (by simp) (fun hp => ?_) (fun hp => ?_) <;> simp at hp <;> simp [*, w3, w3n, q1, q2, q3, q4, q5, q6, q7, ht, hT, m9, m10, w1, w2, o3, hG, hK, gapSplit, Nat.testBit])
    | (refine split_pick (by simp) (fun hp => ?_) (fun hp => ?_) <;> simp at hp <;> simp [*, w3, w3n, q1, q2, q3, q4, q5, q6, q7, ht, hT, m9, m10, w1, w2, o3, hG, hK, gapSplit, Nat.testBit])
    | omega
    | decide
    | (simp [*, w3, w3n, q1, q2, q3, q4, q5, q6, q7, ht, hT, m9, m10, w1, w2, o3, hG, hK, gapSplit, Nat.testBit]))
  all_goals trace_state

theorem moved_gt_4 (n : Nat) (e : EditM) (a : ActM) (c : Int) (h : EdOk e) (l : List Int) (hl : l = e.G.A ++ e.G.B) (T : Nat) (t2 : T ≤ l.length) (ho : 1 ≤ a.o ∧ a.o ≤ 6) (hne : e.G.A.length < T) (hTo : toE e a c = T) (m9 : ¬ a.m = 9) (m10 : ¬ a.m = 10) (hAT : e.G.A.length < T) (o4 : 4 ≤ a.o) :
    (W (n + 9)).pc 21 [edD e, acD a, .int .i64 c] = some (.tup [edD ⟨gapSplit (sCh l e.G.A.length T a.o) T, e.K, uPush e.U e.G, 0, 0, 0⟩, eD 0]) := by
  apply runs c_typebarref23_moved
  obtain ⟨g1, g2, g3⟩ := gapIs_ln h.g
  have hLen : l.length = e.G.A.length + e.G.B.length := by rw [hl]; exact List.length_append
  have ht := pc_ref10_Text (n + 6) e.G (by omega) (by omega)
  have hT := pc_ref23_Target (n + 2) (e.G.A ++ e.G.B) e.G.A.length a.m c (by simp; omega)
  rw [show (tgtE (e.G.A ++ e.G.B) e.G.A.length a.m c).1 = (T : Int) from hTo] at hT
  generalize (tgtE (e.G.A ++ e.G.B) e.G.A.length a.m c).2 = er at hT
  rw [← hl] at ht hT
  have hC := pc_ref14_Change (n + 6) l ((e.G.A.length : Nat) : Int) ((T : Nat) : Int) a.o (by omega)
  rw [change_in hne (by omega) (by omega)] at hC
  have hU := pc_ref13_Push (n + 2) e.U e.G (uIs_small h.u) (by omega) (by omega)
  have w1 : min (e.G.A.length : Int) (T : Int) = (e.G.A.length : Int) := by omega
  have w2 : max (e.G.A.length : Int) (T : Int) = (T : Int) := by omega
  have w3 : (e.G.A.length : Int) < (T : Int) := by omega
  have w3n : e.G.A.length < T := by omega
  have q1 : ¬ (e.G.A.length : Int) = (T : Int) := by omega
  have q2 : (e.G.A.length : Int) ≤ (T : Int) := by omega
  have q3 : (T : Int) ≤ (l.length : Int) := by omega
  have q4 : e.G.A.length ≤ l.length := by omega
  have q5 : T ≤ l.length := by omega
  have q6 : e.G.A.length ≤ T := by omega
  have q7 : ¬ e.G.A.length = T := by omega
  have o0 : ¬ a.o = 0 := by omega
  have o3 : ¬ a.o = 3 := by omega
  try simp only [Int.natCast_add, Int.natCast_zero, Int.natCast_one] at hC
  clear hl hTo
  simp [X_typebarref23_moved, putAt, Nat.testBit, w3, w3n, q1, q2, q3, q4, q5, q6, q7, ht, hT, m9, m10, w1, w2, o0, o3, o4, hC, hU, gapSplit]
  repeat' (first
    | simp (disch := omega) only [wrap_i64, wrap_i32]
    | (simp (disch := first | omega | assumption | (simp only [i64, i32]; omega) | (simp <;> omega) | fail) only [loadD_cpr, loadD_cprs, List.take_of_length_le]; simp [*, w3, w3n, q1, q2, q3, q4, q5, q6, q7, ht, hT, m9, m10, w1, w2, o0, o3, o4, hC, hU, gapSplit, Nat.testBit])
    | (with_reducible refine And.intro ?_ ?_; focus first | omega | decide)
    | (with_reducible refine split_ite (fun hp => ?_) (fun hp => ?_) <;> (try simp at hp) <;> simp [*, w3, w3n, q1, q2, q3, q4, q5, q6, q7, ht, hT, m9, m10, w1, w2, o0, o3, o4, hC, hU, gapSplit, Nat.testBit])
    | (with_reducible refine split_ite1 (fun hp => ?_) (fun hp => ?_) <;> (try simp at hp) <;> simp [*, w3, w3n, q1, q2, q3, q4, q5, q6, q7, ht, hT, m9, m10, w1, w2, o0, o3, o4, hC, hU, gapSplit, Nat.testBit])
    | (refine split_cond (by simp) (fun hp => ?_) (fun hp => ?_) <;> simp at hp <;> simp [*, w3, w3n, q1, q2, q3, q4, q5, q6, q7, ht, hT, m9, m10, w1, w2, o0, o3, o4, hC, hU, gapSplit, Nat.testBit])
    | (refine split_ops (by simp) (fun hp => ?_) (fun hp => ?_) <;> simp at hp <;> simp [*, w3, w3n, q1, q2, q3, q4, q5, q6, q7, ht, hT, m9, m10, w1, w2, o0, o3, o4, hC, hU, gapSplit, Nat.testBit])
    | (refine split_opsD (by simp) (fun hp => ?_) (fun hp => ?_) <;> simp at hp <;> simp [*, w3, w3n, q1, q2, q3, q4, q5, q6, q7, ht, hT, m9, m10, w1, w2, o0, o3, o4, hC, hU, gapSplit, Nat.testBit])
    | (refine split_pick (by simp) (fun hp => ?_) (fun hp => ?_) <;> simp at hp <;> simp [*, w3, w3n, q1, q2, q3, q4, q5, q6, q7, ht, hT, m9, m10, w1, w2, o0, o3, o4, hC, hU, gapSplit, Nat.testBit])
    | omega
    | decide
    | (simp [*, w3, w3n, q1, q2, q3, q4, q5, q6, q7, ht, hT, m9, m10, w1, w2, o0, o3, o4, hC, hU, gapSplit, Nat.testBit]))
  all_goals trace_state

theorem moved_gt_2n (n : Nat) (e : EditM) (a : ActM) (c : Int) (h : EdOk e) (l : List Int) (hl : l = e.G.A ++ e.G.B) (T : Nat) (t2 : T ≤ l.length) (ho : 1 ≤ a.o ∧ a.o ≤ 6) (hne : e.G.A.length < T) (hTo : toE e a c = T) (m9 : ¬ a.m = 9) (m10 : ¬ a.m = 10) (hAT : e.G.A.length < T) (o2 : a.o = 2) (hla : ¬ e.La = 2) :
    (W (n + 9)).pc 21 [edD e, acD a, .int .i64 c] = some (.tup [edD ⟨⟨l.take e.G.A.length, l.drop T⟩, kAdd e.K ((l.drop e.G.A.length).take (T - e.G.A.length)) 0, uPush e.U e.G, 2, 0, 0⟩, eD 0]) := by
  apply runs c_typebarref23_moved
  obtain ⟨g1, g2, g3⟩ := gapIs_ln h.g
  have hLen : l.length = e.G.A.length + e.G.B.length := by rw [hl]; exact List.length_append
  have ht := pc_ref10_Text (n + 6) e.G (by omega) (by omega)
  have hT := pc_ref23_Target (n + 2) (e.G.A ++ e.G.B) e.G.A.length a.m c (by simp; omega)
  rw [show (tgtE (e.G.A ++ e.G.B) e.G.A.length a.m c).1 = (T : Int) from hTo] at hT
  generalize (tgtE (e.G.A ++ e.G.B) e.G.A.length a.m c).2 = er at hT
  rw [← hl] at ht hT
  have hK := pc_ref12_Add (n + 3) e.K ((l.drop e.G.A.length).take (T - e.G.A.length)) 0 (kIs_small h.k) (by simp; omega)
  have hU := pc_ref13_Push (n + 2) e.U e.G (uIs_small h.u) (by omega) (by omega)
  have w1 : min (e.G.A.length : Int) (T : Int) = (e.G.A.length : Int) := by omega
  have w2 : max (e.G.A.length : Int) (T : Int) = (T : Int) := by omega
  have w3 : (e.G.A.length : Int) < (T : Int) := by omega
  have w3n : e.G.A.length < T := by omega
  have q1 : ¬ (e.G.A.length : Int) = (T : Int) := by omega
  have q2 : (e.G.A.length : Int) ≤ (T : Int) := by omega
  have q3 : (T : Int) ≤ (l.length : Int) := by omega
  have q4 : e.G.A.length ≤ l.length := by omega
  have q5 : T ≤ l.length := by omega
  have q6 : e.G.A.length ≤ T := by omega
  have q7 : ¬ e.G.A.length = T := by omega
  try simp only [Int.natCast_add, Int.natCast_zero, Int.natCast_one] at hK
  clear hl hTo
  simp [X_typebarref23_moved, putAt, Nat.testBit, w3, w3n, q1, q2, q3, q4, q5, q6, q7, ht, hT, m9, m10, w1, w2, o2, hla, hK, hU]
  repeat' (first
    | simp (disch := omega) only [wrap_i64, wrap_i32]
    | (simp (disch := first | omega | assumption | (simp only [i64, i32]; omega) | (simp <;> omega) | fail) only [loadD_cpr, loadD_cprs, List.take_of_length_le]; simp [*, w3, w3n, q1, q2, q3, q4, q5, q6, q7, ht, hT, m9, m10, w1, w2, o2, hla, hK, hU, Nat.testBit])
    | (with_reducible refine And.intro ?_ ?_; focus first | omega | decide)
    | (with_reducible refine split_ite (fun hp => ?_) (fun hp => ?_) <;> (try simp at hp) <;> simp [*, w3, w3n, q1, q2, q3, q4, q5, q6, q7, ht, hT, m9, m10, w1, w2, o2, hla, hK, hU, Nat.testBit])
    | (with_reducible refine split_ite1 (fun hp => ?_) (fun hp => ?_) <;> (try simp at hp) <;> simp [*, w3, w3n, q1, q2, q3, q4, q5, q6, q7, ht, hT, m9, m10, w1, w2, o2, hla, hK, hU, Nat.testBit])
    | (refine split_cond (by simp) (fun hp => ?_) (fun hp => ?_) <;> simp at hp <;> simp [*, w3, w3n, q1, q2, q3, q4, q5, q6, q7, ht, hT, m9, m10, w1, w2, o2, hla, hK, hU, Nat.testBit])
    | (refine split_ops (by simp) (fun hp => ?_) (fun hp => ?_) <;> simp at hp <;> simp [*, w3, w3n, q1, q2, q3, q4, q5, q6, q7, ht, hT, m9, m10, w1, w2, o2, hla, hK, hU, Nat.testBit])
    | (refine split_opsD (by simp) (fun hp => ?_) (fun hp => ?_) <;> simp at hp <;> simp [*, w3, w3n, q1, q2, q3, q4, q5, q6, q7, ht, hT, m9, m10, w1, w2, o2, hla, hK, hU, Nat.testBit])
    | (refine split_pick (by simp) (fun hp => ?_) (fun hp => ?_) <;> simp at hp <;> simp [*, w3, w3n, q1, q2, q3, q4, q5, q6, q7, ht, hT, m9, m10, w1, w2, o2, hla, hK, hU, Nat.testBit])
    | omega
    | decide
    | (simp [*, w3, w3n, q1, q2, q3, q4, q5, q6, q7, ht, hT, m9, m10, w1, w2, o2, hla, hK, hU, Nat.testBit]))
  all_goals trace_state

theorem moved_gt_2y (n : Nat) (e : EditM) (a : ActM) (c : Int) (h : EdOk e) (l : List Int) (hl : l = e.G.A ++ e.G.B) (T : Nat) (t2 : T ≤ l.length) (ho : 1 ≤ a.o ∧ a.o ≤ 6) (hne : e.G.A.length < T) (hTo : toE e a c = T) (m9 : ¬ a.m = 9) (m10 : ¬ a.m = 10) (hAT : e.G.A.length < T) (o2 : a.o = 2) (hla : e.La = 2) :
    (W (n + 9)).pc 21 [edD e, acD a, .int .i64 c] = some (.tup [edD ⟨⟨l.take e.G.A.length, l.drop T⟩, kAdd e.K ((l.drop e.G.A.length).take (T - e.G.A.length)) 1, uPush e.U e.G, 2, 0, 0⟩, eD 0]) := by
  apply runs c_typebarref23_moved
  obtain ⟨g1, g2, g3⟩ := gapIs_ln h.g
  have hLen : l.length = e.G.A.length + e.G.B.length := by rw [hl]; exact List.length_append
  have ht := pc_ref10_Text (n + 6) e.G (by omega) (by omega)
  have hT := pc_ref23_Target (n + 2) (e.G.A ++ e.G.B) e.G.A.length a.m c (by simp; omega)
  rw [show (tgtE (e.G.A ++ e.G.B) e.G.A.length a.m c).1 = (T : Int) from hTo] at hT
  generalize (tgtE (e.G.A ++ e.G.B) e.G.A.length a.m c).2 = er at hT
  rw [← hl] at ht hT
  have hK := pc_ref12_Add (n + 3) e.K ((l.drop e.G.A.length).take (T - e.G.A.length)) 1 (kIs_small h.k) (by simp; omega)
  have hU := pc_ref13_Push (n + 2) e.U e.G (uIs_small h.u) (by omega) (by omega)
  have w1 : min (e.G.A.length : Int) (T : Int) = (e.G.A.length : Int) := by omega
  have w2 : max (e.G.A.length : Int) (T : Int) = (T : Int) := by omega
  have w3 : (e.G.A.length : Int) < (T : Int) := by omega
  have w3n : e.G.A.length < T := by omega
  have q1 : ¬ (e.G.A.length : Int) = (T : Int) := by omega
  have q2 : (e.G.A.length : Int) ≤ (T : Int) := by omega
  have q3 : (T : Int) ≤ (l.length : Int) := by omega
  have q4 : e.G.A.length ≤ l.length := by omega
  have q5 : T ≤ l.length := by omega
  have q6 : e.G.A.length ≤ T := by omega
  have q7 : ¬ e.G.A.length = T := by omega
  try simp only [Int.natCast_add, Int.natCast_zero, Int.natCast_one] at hK
  clear hl hTo
  simp [X_typebarref23_moved, putAt, Nat.testBit, w3, w3n, q1, q2, q3, q4, q5, q6, q7, ht, hT, m9, m10, w1, w2, o2, hla, hK, hU]
  repeat' (first
    | simp (disch := omega) only [wrap_i64, wrap_i32]
    | (simp (disch := first | omega | assumption | (simp only [i64, i32]; omega) | (simp <;> omega) | fail) only [loadD_cpr, loadD_cprs, List.take_of_length_le]; simp [*, w3, w3n, q1, q2, q3, q4, q5, q6, q7, ht, hT, m9, m10, w1, w2, o2, hla, hK, hU, Nat.testBit])
    | (with_reducible refine And.intro ?_ ?_; focus first | omega | decide)
    | (with_reducible refine split_ite (fun hp => ?_) (fun hp => ?_) <;> (try simp at hp) <;> simp [*, w3, w3n, q1, q2, q3, q4, q5, q6, q7, ht, hT, m9, m10, w1, w2, o2, hla, hK, hU, Nat.testBit])
    | (with_reducible refine split_ite1 (fun hp => ?_) (fun hp => ?_) <;> (try simp at hp) <;> simp [*, w3, w3n, q1, q2, q3, q4, q5, q6, q7, ht, hT, m9, m10, w1, w2, o2, hla, hK, hU, Nat.testBit])
    | (refine split_cond (by simp) (fun hp => ?_) (fun hp => ?_) <;> simp at hp <;> simp [*, w3, w3n, q1, q2, q3, q4, q5, q6, q7, ht, hT, m9, m10, w1, w2, o2, hla, hK, hU, Nat.testBit])
    | (refine split_ops (by simp) (fun hp => ?_) (fun hp => ?_) <;> simp at hp <;> simp [*, w3, w3n, q1, q2, q3, q4, q5, q6, q7, ht, hT, m9, m10, w1, w2, o2, hla, hK, hU, Nat.testBit])
    | (refine split_opsD (by simp) (fun hp => ?_) (fun hp => ?_) <;> simp at hp <;> simp [*, w3, w3n, q1, q2, q3, q4, q5, q6, q7, ht, hT, m9, m10, w1, w2, o2, hla, hK, hU, Nat.testBit])
    | (refine split_pick (by simp) (fun hp => ?_) (fun hp => ?_) <;> simp at hp <;> simp [*, w3, w3n, q1, q2, q3, q4, q5, q6, q7, ht, hT, m9, m10, w1, w2, o2, hla, hK, hU, Nat.testBit])
    | omega
    | decide
    | (simp [*, w3, w3n, q1, q2, q3, q4, q5, q6, q7, ht, hT, m9, m10, w1, w2, o2, hla, hK, hU, Nat.testBit]))
  all_goals trace_state

theorem moved_gt_1 (n : Nat) (e : EditM) (a : ActM) (c : Int) (h : EdOk e) (l : List Int) (hl : l = e.G.A ++ e.G.B) (T : Nat) (t2 : T ≤ l.length) (ho : 1 ≤ a.o ∧ a.o ≤ 6) (hne : e.G.A.length < T) (hTo : toE e a c = T) (m9 : ¬ a.m = 9) (m10 : ¬ a.m = 10) (hAT : e.G.A.length < T) (o1 : a.o = 1) :
    (W (n + 9)).pc 21 [edD e, acD a, .int .i64 c] = some (.tup [edD ⟨⟨l.take e.G.A.length, l.drop T⟩, e.K, uPush e.U e.G, 0, 0, 0⟩, eD 0]) := by
  apply runs c_typebarref23_moved
  obtain ⟨g1, g2, g3⟩ := gapIs_ln h.g
  have hLen : l.length = e.G.A.length + e.G.B.length := by rw [hl]; exact List.length_append
  have ht := pc_ref10_Text (n + 6) e.G (by omega) (by omega)
  have hT := pc_ref23_Target (n + 2) (e.G.A ++ e.G.B) e.G.A.length a.m c (by simp; omega)
  rw [show (tgtE (e.G.A ++ e.G.B) e.G.A.length a.m c).1 = (T : Int) from hTo] at hT
  generalize (tgtE (e.G.A ++ e.G.B) e.G.A.length a.m c).2 = er at hT
  rw [← hl] at ht hT
  have hU := pc_ref13_Push (n + 2) e.U e.G (uIs_small h.u) (by omega) (by omega)
  have w1 : min (e.G.A.length : Int) (T : Int) = (e.G.A.length : Int) := by omega
  have w2 : max (e.G.A.length : Int) (T : Int) = (T : Int) := by omega
  have w3 : (e.G.A.length : Int) < (T : Int) := by omega
  have w3n : e.G.A.length < T := by omega
  have q1 : ¬ (e.G.A.length : Int) = (T : Int) := by omega
  have q2 : (e.G.A.length : Int) ≤ (T : Int) := by omega
  have q3 : (T : Int) ≤ (l.length : Int) := by omega
  have q4 : e.G.A.length ≤ l.length := by omega
  have q5 : T ≤ l.length := by omega
  have q6 : e.G.A.length ≤ T := by omega
  have q7 : ¬ e.G.A.length = T := by omega
  clear hl hTo
  simp [X_typebarref23_moved, putAt, Nat.testBit, w3, w3n, q1, q2, q3, q4, q5, q6, q7, ht, hT, m9, m10, w1, w2, o1, hU]
  repeat' (first
    | simp (disch := omega) only [wrap_i64, wrap_i32]
    | (simp (disch := first | omega | assumption | (simp only [i64, i32]; omega) | (simp <;> omega) | fail) only [loadD_cpr, loadD_cprs, List.take_of_length_le]; simp [*, w3, w3n, q1, q2, q3, q4, q5, q6, q7, ht, hT, m9, m10, w1, w2, o1, hU, Nat.testBit])
    | (with_reducible refine And.intro ?_ ?_; focus first | omega | decide)
    | (with_reducible refine split_ite (fun hp => ?_) (fun hp => ?_) <;> (try simp at hp) <;> simp [*, w3, w3n, q1, q2, q3, q4, q5, q6, q7, ht, hT, m9, m10, w1, w2, o1, hU, Nat.testBit])
    | (with_reducible refine split_ite1 (fun hp => ?_) (fun hp => ?_) <;> (try simp at hp) <;> simp [*, w3, w3n, q1, q2, q3, q4, q5, q6, q7, ht, hT, m9, m10, w1, w2, o1, hU, Nat.testBit])
    | (refine split_cond (by simp) (fun hp => ?_) (fun hp => ?_) <;> simp at hp <;> simp [*, w3, w3n, q1, q2, q3, q4, q5, q6, q7, ht, hT, m9, m10, w1, w2, o1, hU, Nat.testBit])
    | (refine split_ops (by simp) (fun hp => ?_) (fun hp => ?_) <;> simp at hp <;> simp [*, w3, w3n, q1, q2, q3, q4, q5, q6, q7, ht, hT, m9, m10, w1, w2, o1, hU, Nat.testBit])
    | (refine split_opsD (by simp) (fun hp => ?_) (fun hp => ?_) <;> simp at hp <;> simp [*, w3, w3n, q1, q2, q3, q4, q5, q6, q7, ht, hT, m9, m10, w1, w2, o1, hU, Nat.testBit])
    | (refine split_pick (by simp) (fun hp => ?_) (fun hp => ?_) <;> simp at hp <;> simp [*, w3, w3n, q1, q2, q3, q4, q5, q6, q7, ht, hT, m9, m10, w1, w2, o1, hU, Nat.testBit])
    | omega
    | decide
    | (simp [*, w3, w3n, q1, q2, q3, q4, q5, q6, q7, ht, hT, m9, m10, w1, w2, o1, hU, Nat.testBit]))
  all_goals trace_state

end Go.Proofs.YtcaglmjfphjpfaaGreat
