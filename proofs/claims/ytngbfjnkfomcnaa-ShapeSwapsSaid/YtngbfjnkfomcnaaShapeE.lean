/- What the laws of layer 14 on two signs changed about compute. -/
import Derived.Test.YtngbfjnkfomcnaaShapeB
import Derived.Test.YtngbfjnkfomcnaaShapeC
namespace Go.Proofs.Ytngbfjnkfomcnaa
open Go E
set_option linter.unusedSimpArgs false
set_option linter.unusedVariables false

theorem swapAt_len (g : Gap) (h : 0 < g.A.length) : swapAt g < g.A.length + g.B.length := by rw [swapAt]; split <;> omega
theorem gSwap_len (g : Gap) : (gSwap g).1.A.length ≤ g.A.length + g.B.length ∧ (gSwap g).1.B.length ≤ g.A.length + g.B.length := by
  simp only [gSwap]
  split
  · simp
  split
  · simp
  · simp only [gapSplit, List.length_take, List.length_drop, swapL_length, List.length_append]; omega

theorem pc_ShapeSwaps (n : Nat) (g : Gap) : (W (n + 16)).pc 8 [gD g] = some (.bool true) := by
  apply runs c_typebarlaw14_ShapeSwaps
  by_cases h1 : 1000 < g.A.length
  · simp [X_typebarlaw14_ShapeSwaps, pc_shaped, h1]
    repeat' (first
      | simp (disch := omega) only [wrap_i64, wrap_i32]
      | (simp (disch := first | omega | assumption | (simp only [i64, i32]; omega) | (simp <;> omega) | fail) only [loadD_cpr, loadD_cprs, List.take_of_length_le]; simp [*, pc_shaped])
      | (with_reducible refine And.intro ?_ ?_; focus first | omega | decide)
      | (with_reducible refine split_ite (fun hp => ?_) (fun hp => ?_) <;> (try simp at hp) <;> simp [*, pc_shaped])
      | (with_reducible refine split_ite1 (fun hp => ?_) (fun hp => ?_) <;> (try simp at hp) <;> simp [*, pc_shaped])
      | (refine split_cond (by simp) (fun hp => ?_) (fun hp => ?_) <;> simp at hp <;> simp [*, pc_shaped])
      | (refine split_ops (by simp) (fun hp => ?_) (fun hp => ?_) <;> simp at hp <;> simp [*, pc_shaped])
      | (refine split_opsD (by simp) (fun hp => ?_) (fun hp => ?_) <;> simp at hp <;> simp [*, pc_shaped])
      | (refine split_pick (by simp) (fun hp => ?_) (fun hp => ?_) <;> simp at hp <;> simp [*, pc_shaped])
      | omega
      | decide
      | (simp [*, pc_shaped]))
  by_cases h2 : 1000 < g.B.length
  · simp [X_typebarlaw14_ShapeSwaps, pc_shaped, h1, h2]
    repeat' (first
      | simp (disch := omega) only [wrap_i64, wrap_i32]
      | (simp (disch := first | omega | assumption | (simp only [i64, i32]; omega) | (simp <;> omega) | fail) only [loadD_cpr, loadD_cprs, List.take_of_length_le]; simp [*, pc_shaped])
      | (with_reducible refine And.intro ?_ ?_; focus first | omega | decide)
      | (with_reducible refine split_ite (fun hp => ?_) (fun hp => ?_) <;> (try simp at hp) <;> simp [*, pc_shaped])
      | (with_reducible refine split_ite1 (fun hp => ?_) (fun hp => ?_) <;> (try simp at hp) <;> simp [*, pc_shaped])
      | (refine split_cond (by simp) (fun hp => ?_) (fun hp => ?_) <;> simp at hp <;> simp [*, pc_shaped])
      | (refine split_ops (by simp) (fun hp => ?_) (fun hp => ?_) <;> simp at hp <;> simp [*, pc_shaped])
      | (refine split_opsD (by simp) (fun hp => ?_) (fun hp => ?_) <;> simp at hp <;> simp [*, pc_shaped])
      | (refine split_pick (by simp) (fun hp => ?_) (fun hp => ?_) <;> simp at hp <;> simp [*, pc_shaped])
      | omega
      | decide
      | (simp [*, pc_shaped]))
  have hs := gSwap_len g
  simp [X_typebarlaw14_ShapeSwaps, pc_shaped]
  repeat' (first
    | simp (disch := omega) only [wrap_i64, wrap_i32]
    | (simp (disch := first | omega | assumption | (simp only [i64, i32]; omega) | (simp <;> omega) | fail) only [loadD_cpr, loadD_cprs, List.take_of_length_le, pc_shape_Swap, pc_ref14_Swap, pc_ref10_Same]; simp [*, pc_shaped])
    | (with_reducible refine And.intro ?_ ?_; focus first | omega | decide)
    | (with_reducible refine split_ite (fun hp => ?_) (fun hp => ?_) <;> (try simp at hp) <;> simp [*, pc_shaped])
    | (with_reducible refine split_ite1 (fun hp => ?_) (fun hp => ?_) <;> (try simp at hp) <;> simp [*, pc_shaped])
    | (refine split_cond (by simp) (fun hp => ?_) (fun hp => ?_) <;> simp at hp <;> simp [*, pc_shaped])
    | (refine split_ops (by simp) (fun hp => ?_) (fun hp => ?_) <;> simp at hp <;> simp [*, pc_shaped])
    | (refine split_opsD (by simp) (fun hp => ?_) (fun hp => ?_) <;> simp at hp <;> simp [*, pc_shaped])
    | (refine split_pick (by simp) (fun hp => ?_) (fun hp => ?_) <;> simp at hp <;> simp [*, pc_shaped])
    | omega
    | decide
    | (simp [*, pc_shaped]))
  all_goals trace_state

end Go.Proofs.Ytngbfjnkfomcnaa
