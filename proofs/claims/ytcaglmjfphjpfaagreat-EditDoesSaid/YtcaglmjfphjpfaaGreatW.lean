/- The evaluator of this claim, and how the functions call each other. -/
import Derived.Test.YtcaglmjfphjpfaaGreatLits
namespace Go.Proofs.YtcaglmjfphjpfaaGreat
open Go E
set_option maxRecDepth 100000

/-- Who calls whom so that he may write what he gets (1), or with the store (2). -/
def modeTab : List (Nat × Nat × Nat) := [
  (48, 39, 1),
  (26, 50, 1),
  (50, 56, 1),
  (69, 92, 1),
  (67, 86, 1),
  (101, 102, 4), (101, 112, 3),
  (82, 102, 4), (82, 112, 3), (112, 104, 3),
  (83, 102, 4), (83, 112, 3), (112, 106, 3),
  (84, 102, 4), (84, 112, 3), (112, 107, 3),
  (5, 13, 3), (5, 14, 3), (5, 15, 3), (5, 16, 3), (5, 17, 3), (5, 18, 3),
  (13, 41, 3),
  (41, 42, 3), (41, 66, 3),
  (14, 42, 3), (14, 43, 3),
  (15, 42, 3), (15, 45, 3),
  (16, 45, 3),
  (45, 43, 3),
  (18, 42, 3),
  (68, 90, 2),
  (0, 0, 0)]

def modes (f : FuncId) : FuncId → Nat :=
  bif modeTab.any (fun p => p.1 == f) then (fun g => match modeTab.find? (fun p => p.1 == f && p.2.1 == g) with | some p => p.2.2 | none => 0) else m0

noncomputable def W (n : Nat) : E.Calls := evF Tryz.prog modes (fun _ _ => none) 1125899906842624 n

theorem runs {n f : Nat} {x : XF} {args : List D} {r : D} (hx : cFunc Tryz.prog f = some x) (hm : modes f = m0 := by kernel_rfl)
    (ha : aw ((W n).at m0) 1125899906842624 x.body ⟨args0 args, []⟩ (retQ x.res (gives r))) : (W (n + 1)).pc f args = some r := pc_of_aw rfl hx (by rw [hm]; exact ha)

/-- The same of a function that calls some others otherwise. -/
theorem runsM {n f : Nat} {x : XF} {args : List D} {r : D} (hx : cFunc Tryz.prog f = some x)
    (ha : aw ((W n).at (modes f)) 1125899906842624 x.body ⟨args0 args, []⟩ (retQ x.res (gives r))) : (W (n + 1)).pc f args = some r := pc_of_aw rfl hx ha

theorem owns {n f : Nat} {x : XF} {args : List D} {r : D} {h' : List Blk} (hx : cFunc Tryz.prog f = some x)
    (ha : aw ((W n).at (modes f)) 1125899906842624 x.body ⟨args0 args, []⟩ (retQ x.res (fun d h => d = r ∧ h = h'))) : (W (n + 1)).oc f args = some (r, h') := oc_of_aw hx ha

theorem inline {n f : Nat} {x : XF} {args : List D} {h : List Blk} {K : D × List Blk → Prop} (hx : cFunc Tryz.prog f = some x)
    (ha : aw ((W n).at (modes f)) 1125899906842624 x.body ⟨args0 args, h⟩ (retQ x.res (fun d h => K (d, h)))) : oSat ((W (n + 1)).fc f args h) K := fc_of_aw hx ha

theorem lends {n f : Nat} {x : XF} {args : List D} {h h' : List Blk} {r : D} (hx : cFunc Tryz.prog f = some x)
    (ha : aw ((W n).at (modes f)) 1125899906842624 x.body ⟨args0 args, h⟩ (retQ x.res (fun d h1 => settleF h.length d h1 = some (r, h')))) : lendS (W (n + 1)) f args h = some (r, h') := by
  have := inline (K := fun p => settleF h.length p.1 p.2 = some (r, h')) hx ha
  simp only [lendS]
  cases hf : (W (n + 1)).fc f args h with
  | none => rw [hf] at this; exact this.elim
  | some p => rw [hf] at this; exact this

theorem keeps {n f : Nat} {x : XF} {args : List D} {h h' : List Blk} {r : D} (hx : cFunc Tryz.prog f = some x)
    (ha : aw ((W n).at (modes f)) 1125899906842624 x.body ⟨args0 args, h⟩ (retQ x.res (fun d h1 => E.settle h.length d h1 = some (r, h')))) : lendK (W (n + 1)) f args h = some (r, h') := by
  have := inline (K := fun p => E.settle h.length p.1 p.2 = some (r, h')) hx ha
  simp only [lendK]
  cases hf : (W (n + 1)).fc f args h with
  | none => rw [hf] at this; exact this.elim
  | some p => rw [hf] at this; exact this

attribute [irreducible] W

end Go.Proofs.YtcaglmjfphjpfaaGreat
