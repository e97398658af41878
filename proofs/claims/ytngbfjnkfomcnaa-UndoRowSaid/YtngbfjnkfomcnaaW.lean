/- The evaluator of this claim, and how the functions call each other. -/
import Derived.Test.YtngbfjnkfomcnaaLits
namespace Go.Proofs.Ytngbfjnkfomcnaa
open Go E

/-- Who calls whom so that he may write what he gets (1), or with the store (2). -/
def modeTab : List (Nat × Nat × Nat) := [
  (34, 49, 1),
  (35, 60, 1),
  (60, 69, 1),
  (21, 52, 1),
  (31, 56, 1),
  (39, 64, 1),
  (0, 0, 0)]

def modes (f : FuncId) : FuncId → Nat :=
  bif modeTab.any (fun p => p.1 == f) then (fun g => match modeTab.find? (fun p => p.1 == f && p.2.1 == g) with | some p => p.2.2 | none => 0) else m0

noncomputable def W (n : Nat) : E.Calls := evF Try.prog modes (fun _ _ => none) 1048576 n

theorem runs {n f : Nat} {x : XF} {args : List D} {r : D} (hx : cFunc Try.prog f = some x) (hm : modes f = m0 := by kernel_rfl)
    (ha : aw ((W n).at m0) 1048576 x.body ⟨args0 args, []⟩ (retQ x.res (gives r))) : (W (n + 1)).pc f args = some r := pc_of_aw rfl hx (by rw [hm]; exact ha)

/-- The same of a function that calls some others otherwise. -/
theorem runsM {n f : Nat} {x : XF} {args : List D} {r : D} (hx : cFunc Try.prog f = some x)
    (ha : aw ((W n).at (modes f)) 1048576 x.body ⟨args0 args, []⟩ (retQ x.res (gives r))) : (W (n + 1)).pc f args = some r := pc_of_aw rfl hx ha

theorem owns {n f : Nat} {x : XF} {args : List D} {r : D} {h' : List Blk} (hx : cFunc Try.prog f = some x)
    (ha : aw ((W n).at (modes f)) 1048576 x.body ⟨args0 args, []⟩ (retQ x.res (fun d h => d = r ∧ h = h'))) : (W (n + 1)).oc f args = some (r, h') := oc_of_aw hx ha

theorem inline {n f : Nat} {x : XF} {args : List D} {h : List Blk} {K : D × List Blk → Prop} (hx : cFunc Try.prog f = some x)
    (ha : aw ((W n).at (modes f)) 1048576 x.body ⟨args0 args, h⟩ (retQ x.res (fun d h => K (d, h)))) : oSat ((W (n + 1)).fc f args h) K := fc_of_aw hx ha

attribute [irreducible] W

end Go.Proofs.Ytngbfjnkfomcnaa
