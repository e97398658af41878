/- What the laws of layer 14 on other cases compute. -/
import Derived.Test.YtngbfjnkfomcnaaShapeA
namespace Go.Proofs.Ytngbfjnkfomcnaa
open Go E
set_option linter.unusedSimpArgs false
set_option linter.unusedVariables false

theorem pc_shaped (n : Nat) : (W (n + 14)).pc 26 [] = some (.bool true) := by kernel_rfl

theorem pc_ShapeCases (n : Nat) (r : Int) : (W (n + 16)).pc 6 [.int .i32 r] = some (.bool true) := by
  apply runs c_typebarlaw14_ShapeCases
  simp [X_typebarlaw14_ShapeCases, pc_shaped]

theorem pc_ShapeDoes (n : Nat) (l : List Int) (f t how : Int) : (W (n + 16)).pc 7 [rn l, .int .i64 f, .int .i64 t, .int .i64 how] = some (.bool true) := by
  apply runs c_typebarlaw14_ShapeDoes
  by_cases hl : 1000 < l.length
  · simp [X_typebarlaw14_ShapeDoes, pc_shaped, hl]
    repeat' (first
      | simp (disch := omega) only [wrap_i64, wrap_i32]
      | (simp (disch := first | omega | assumption | (simp only [i64, i32]; omega) | (simp <;> omega) | fail) only [loadD_cpr, loadD_cprs, List.take_of_length_le]; simp [*, pc_shaped])
      | (with_reducible refine And.intro ?_ ?_; focus first | omega | decide)
      | (with_reducible refine split_ite (fun hp => ?_) (fun hp => ?_) <;> (try simp at hp) <;> simp [*, pc_shaped])
      | (with_reducible refine split_ite1 (fun hp => ?_) (fun hp => ?_) <;> (try simp at hp) <;> simp [*, pc_shaped])
      | (refine split_cond (by simp) (fun hp => ?_) (fun hp => ?_) <;> simp at hp <;> simp [*, pc_shaped])
      | (refine split_ops (by simp) (fun hp => ?_) (fun hp => ?_) <;> simp at hp <;> simp [*, pc_shaped])
      | (refine split_opsD (by simp) (fun hp => ?_) (fun hp => ?_) <;> simp at hp <;> simp [*, pc_shaped])
      | (refine split_pick (by simp) (fun hp => ?_) (fun hp => ?_) <;> simp at hp <;> simp [*, pc_shaped])
      | omega
      | decide
      | (simp [*, pc_shaped]))
  have hc := change_len l f t how
  simp [X_typebarlaw14_ShapeDoes, pc_shaped]
  repeat' (first
    | simp (disch := omega) only [wrap_i64, wrap_i32]
    | (simp (disch := first | omega | assumption | (simp only [i64, i32]; omega) | (simp <;> omega) | fail) only [loadD_cpr, loadD_cprs, List.take_of_length_le, pc_shape_Change, pc_ref14_Change, pc_ref01_Same]; simp [*, pc_shaped])
    | (with_reducible refine And.intro ?_ ?_; focus first | omega | decide)
    | (with_reducible refine split_ite (fun hp => ?_) (fun hp => ?_) <;> (try simp at hp) <;> simp [*, pc_shaped])
    | (with_reducible refine split_ite1 (fun hp => ?_) (fun hp => ?_) <;> (try simp at hp) <;> simp [*, pc_shaped])
    | (refine split_cond (by simp) (fun hp => ?_) (fun hp => ?_) <;> simp at hp <;> simp [*, pc_shaped])
    | (refine split_ops (by simp) (fun hp => ?_) (fun hp => ?_) <;> simp at hp <;> simp [*, pc_shaped])
    | (refine split_opsD (by simp) (fun hp => ?_) (fun hp => ?_) <;> simp at hp <;> simp [*, pc_shaped])
    | (refine split_pick (by simp) (fun hp => ?_) (fun hp => ?_) <;> simp at hp <;> simp [*, pc_shaped])
    | omega
    | decide
    | (simp [*, pc_shaped]))
  all_goals trace_state

end Go.Proofs.Ytngbfjnkfomcnaa
