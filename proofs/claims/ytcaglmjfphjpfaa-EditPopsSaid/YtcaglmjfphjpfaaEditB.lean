/- The law on where a move leads. -/
import Derived.Test.YtcaglmjfphjpfaaEditA
namespace Go.Proofs.Ytcaglmjfphjpfaa
open Go E
set_option linter.unusedSimpArgs false
set_option linter.unusedVariables false

theorem pc_edited (n : Nat) : (W (n + 24)).pc 25 [] = some (.bool true) := by kernel_rfl

theorem pc_EditTargets (n : Nat) (l : List Int) (a mv k : Int) : (W (n + 25)).pc 5 [rn l, .int .i64 a, .int .i64 mv, .int .i64 k] = some (.bool true) := by
  apply runs c_typebarlaw23_EditTargets
  by_cases hl : l.length ≤ 300
  · have h1 := pc_edit_Target (n + 16) l a mv k (by omega)
    have h2 := pc_ref23_Target (n + 18) l a mv k (by omega)
    have h3 := pc_edited n
    simp [X_typebarlaw23_EditTargets, h1, h2, h3]
    repeat' (first
      | simp (disch := omega) only [wrap_i64, wrap_i32]
      | (simp (disch := first | omega | assumption | (simp only [i64, i32]; omega) | (simp <;> omega) | fail) only [loadD_cpr, loadD_cprs, List.take_of_length_le]; simp [*, h1, h2, h3])
      | (with_reducible refine And.intro ?_ ?_; focus first | omega | decide)
      | (with_reducible refine split_ite (fun hp => ?_) (fun hp => ?_) <;> (try simp at hp) <;> simp [*, h1, h2, h3])
      | (with_reducible refine split_ite1 (fun hp => ?_) (fun hp => ?_) <;> (try simp at hp) <;> simp [*, h1, h2, h3])
      | (refine split_cond (by simp) (fun hp => ?_) (fun hp => ?_) <;> simp at hp <;> simp [*, h1, h2, h3])
      | (refine split_ops (by simp) (fun hp => ?_) (fun hp => ?_) <;> simp at hp <;> simp [*, h1, h2, h3])
      | (refine split_opsD (by simp) (fun hp => ?_) (fun hp => ?_) <;> simp at hp <;> simp [*, h1, h2, h3])
      | (refine split_pick (by simp) (fun hp => ?_) (fun hp => ?_) <;> simp at hp <;> simp [*, h1, h2, h3])
      | omega
      | decide
      | (simp [*, h1, h2, h3]))
  · simp [X_typebarlaw23_EditTargets]
    repeat' (first
      | simp (disch := omega) only [wrap_i64, wrap_i32]
      | (simp (disch := first | omega | assumption | (simp only [i64, i32]; omega) | (simp <;> omega) | fail) only [loadD_cpr, loadD_cprs, List.take_of_length_le]; simp [*])
      | (with_reducible refine And.intro ?_ ?_; focus first | omega | decide)
      | (with_reducible refine split_ite (fun hp => ?_) (fun hp => ?_) <;> (try simp at hp) <;> simp [*])
      | (with_reducible refine split_ite1 (fun hp => ?_) (fun hp => ?_) <;> (try simp at hp) <;> simp [*])
      | (refine split_cond (by simp) (fun hp => ?_) (fun hp => ?_) <;> simp at hp <;> simp [*])
      | (refine split_ops (by simp) (fun hp => ?_) (fun hp => ?_) <;> simp at hp <;> simp [*])
      | (refine split_opsD (by simp) (fun hp => ?_) (fun hp => ?_) <;> simp at hp <;> simp [*])
      | (refine split_pick (by simp) (fun hp => ?_) (fun hp => ?_) <;> simp at hp <;> simp [*])
      | omega
      | decide
      | (simp [*]))
    all_goals omega

end Go.Proofs.Ytcaglmjfphjpfaa
