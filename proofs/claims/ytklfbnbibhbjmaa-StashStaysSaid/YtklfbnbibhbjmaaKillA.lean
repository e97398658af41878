/- What the functions of layer 12 compute. -/
import Derived.Test.YtklfbnbibhbjmaaGapA
import Derived.Test.YtklfbnbibhbjmaaTyp
namespace Go.Proofs.Ytklfbnbibhbjmaa
open Go E
set_option linter.unusedSimpArgs false
set_option linter.unusedVariables false

abbrev rrC : Cell (List Int) := rowC runeC

abbrev rrn (L : List (List Int)) : D := row rrC false L

abbrev kD (L : List (List Int)) : D := .agg [rrn L]

theorem nilRR (b : Bool) : D.arr 0 b [] = row rrC b [] := rfl

def kOne (l : List Int) : Bool := decide (0 < l.length) && decide (l.length ≤ 200) && allR l

def kIs (L : List (List Int)) : Bool := decide (L.length ≤ 8) && L.all kOne

def small (L : List (List Int)) : Prop := L.length < 2000000 ∧ ∀ l ∈ L, l.length < 2000000

theorem allR_no {l : List Int} {i : Nat} (h : i < l.length) (hp : isR l[i] = false) : allR l = false := all_no h hp


@[simp] theorem pc_ref12_One (n : Nat) (l : List Int) (hl : l.length < 2000000) : (W (n + 3)).pc 36 [rn l] = some (.bool (kOne l)) := by
  apply runs c_typebarref12_One
  simp [X_typebarref12_One, *]
  repeat' (first
    | simp (disch := omega) only [wrap_i64, wrap_i32]
    | (simp (disch := first | omega | assumption | (simp only [i64, i32]; omega) | (simp <;> omega) | fail) only [loadD_cpr, loadD_cprs, List.take_of_length_le]; simp [*])
    | (with_reducible refine And.intro ?_ ?_; focus first | omega | decide)
    | (with_reducible refine split_ite (fun hp => ?_) (fun hp => ?_) <;> (try simp at hp) <;> simp [*])
    | (with_reducible refine split_ite1 (fun hp => ?_) (fun hp => ?_) <;> (try simp at hp) <;> simp [*])
    | (refine split_cond (by simp) (fun hp => ?_) (fun hp => ?_) <;> simp at hp <;> simp [*])
    | (refine split_ops (by simp) (fun hp => ?_) (fun hp => ?_) <;> simp at hp <;> simp [*])
    | (refine split_opsD (by simp) (fun hp => ?_) (fun hp => ?_) <;> simp at hp <;> simp [*])
    | (refine split_pick (by simp) (fun hp => ?_) (fun hp => ?_) <;> simp at hp <;> simp [*])
    | omega
    | decide
    | (simp [*]))
  all_goals grind [kOne]



end Go.Proofs.Ytklfbnbibhbjmaa
