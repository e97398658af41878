/- The evaluator of this claim, and how the functions call each other. -/
import Derived.Test.YtcaglmjfphjpfaaLits
namespace Go.Proofs.Ytcaglmjfphjpfaa
open Go E
set_option maxRecDepth 100000

/-- Who calls whom so that he may write what he gets (1), or with the store (2). -/
def modeTab : List (Nat × Nat × Nat) := [
  (85, 30, 1),
  (108, 125, 1),
  (106, 120, 1),
  (92, 93, 4), (92, 118, 3),
  (67, 93, 4), (67, 118, 3), (118, 95, 3),
  (68, 93, 4), (68, 118, 3), (118, 97, 3),
  (69, 93, 4), (69, 118, 3), (118, 98, 3),
  (28, 47, 3), (28, 48, 3), (28, 49, 3), (28, 50, 3), (28, 51, 3), (28, 52, 3),
  (47, 78, 3),
  (78, 79, 3), (78, 105, 3),
  (48, 79, 3), (48, 80, 3),
  (49, 79, 3), (49, 82, 3),
  (50, 82, 3),
  (82, 80, 3),
  (52, 79, 3),
  (107, 123, 2),
  (0, 0, 0)]

def modes (f : FuncId) : FuncId → Nat :=
  bif modeTab.any (fun p => p.1 == f) then (fun g => match modeTab.find? (fun p => p.1 == f && p.2.1 == g) with | some p => p.2.2 | none => 0) else m0

noncomputable def W (n : Nat) : E.Calls := evF Try.prog modes (fun _ _ => none) 1125899906842624 n

theorem runs {n f : Nat} {x : XF} {args : List D} {r : D} (hx : cFunc Try.prog f = some x) (hm : modes f = m0 := by kernel_rfl)
    (ha : aw ((W n).at m0) 1125899906842624 x.body ⟨args0 args, []⟩ (retQ x.res (gives r))) : (W (n + 1)).pc f args = some r := pc_of_aw rfl hx (by rw [hm]; exact ha)

/-- The same of a function that calls some others otherwise. -/
theorem runsM {n f : Nat} {x : XF} {args : List D} {r : D} (hx : cFunc Try.prog f = some x)
    (ha : aw ((W n).at (modes f)) 1125899906842624 x.body ⟨args0 args, []⟩ (retQ x.res (gives r))) : (W (n + 1)).pc f args = some r := pc_of_aw rfl hx ha

theorem owns {n f : Nat} {x : XF} {args : List D} {r : D} {h' : List Blk} (hx : cFunc Try.prog f = some x)
    (ha : aw ((W n).at (modes f)) 1125899906842624 x.body ⟨args0 args, []⟩ (retQ x.res (fun d h => d = r ∧ h = h'))) : (W (n + 1)).oc f args = some (r, h') := oc_of_aw hx ha

theorem inline {n f : Nat} {x : XF} {args : List D} {h : List Blk} {K : D × List Blk → Prop} (hx : cFunc Try.prog f = some x)
    (ha : aw ((W n).at (modes f)) 1125899906842624 x.body ⟨args0 args, h⟩ (retQ x.res (fun d h => K (d, h)))) : oSat ((W (n + 1)).fc f args h) K := fc_of_aw hx ha

theorem lends {n f : Nat} {x : XF} {args : List D} {h h' : List Blk} {r : D} (hx : cFunc Try.prog f = some x)
    (ha : aw ((W n).at (modes f)) 1125899906842624 x.body ⟨args0 args, h⟩ (retQ x.res (fun d h1 => settleF h.length d h1 = some (r, h')))) : lendS (W (n + 1)) f args h = some (r, h') := by
  have := inline (K := fun p => settleF h.length p.1 p.2 = some (r, h')) hx ha
  simp only [lendS]
  cases hf : (W (n + 1)).fc f args h with
  | none => rw [hf] at this; exact this.elim
  | some p => rw [hf] at this; exact this

theorem keeps {n f : Nat} {x : XF} {args : List D} {h h' : List Blk} {r : D} (hx : cFunc Try.prog f = some x)
    (ha : aw ((W n).at (modes f)) 1125899906842624 x.body ⟨args0 args, h⟩ (retQ x.res (fun d h1 => E.settle h.length d h1 = some (r, h')))) : lendK (W (n + 1)) f args h = some (r, h') := by
  have := inline (K := fun p => E.settle h.length p.1 p.2 = some (r, h')) hx ha
  simp only [lendK]
  cases hf : (W (n + 1)).fc f args h with
  | none => rw [hf] at this; exact this.elim
  | some p => rw [hf] at this; exact this

attribute [irreducible] W

end Go.Proofs.Ytcaglmjfphjpfaa
