/- The evaluator of this claim, and how the functions call each other. -/
import Derived.Test.YtccinlhenkkpeaaDoorLits
namespace Go.Proofs.YtccinlhenkkpeaaDoor
open Go E
set_option maxRecDepth 100000

/-- Who calls whom so that he may write what he gets (1), or with the store (2). -/
def modeTab : List (Nat × Nat × Nat) := [
  (11, 22, 4),
  (22, 35, 4),
  (16, 31, 4), (16, 44, 3),
  (0, 0, 0)]

def modes (f : FuncId) : FuncId → Nat :=
  bif modeTab.any (fun p => p.1 == f) then (fun g => match modeTab.find? (fun p => p.1 == f && p.2.1 == g) with | some p => p.2.2 | none => 0) else m0

/-- The iterator of layer 21's lines. -/
def it_find_lines : It := ⟨[⟨some 6, none, .load none (.t 1)⟩, ⟨some 5, none, .mov (.t 6)⟩],
  [⟨some 7, none, .mov (.t 5)⟩, ⟨some 8, none, .bin .geq (.t 7) (.c (.int .i64 0))⟩, ⟨some 9, none, .mov (.t 8)⟩, ⟨some 10, some (9, true), .mov (.t 5)⟩, ⟨some 11, some (9, true), .fieldAddr 2 (.t 2)⟩, ⟨some 12, some (9, true), .load none (.t 11)⟩, ⟨some 13, some (9, true), .len (.t 12)⟩, ⟨some 14, some (9, true), .bin .lss (.t 10) (.t 13)⟩, ⟨some 15, none, .pick (.t 9) (.t 14) (.c (.bool false))⟩],
  [⟨some 20, none, .mov (.t 5)⟩, ⟨some 21, none, .fieldAddr 2 (.t 2)⟩, ⟨some 22, none, .load none (.t 21)⟩, ⟨some 23, none, .mov (.t 5)⟩, ⟨some 24, none, .indexAddr 1 (.t 22) (.t 23)⟩, ⟨some 25, none, .load none (.t 24)⟩],
  [⟨some 16, none, .mov (.t 5)⟩, ⟨some 17, none, .load none (.t 3)⟩, ⟨some 18, none, .bin .add (.t 16) (.t 17)⟩, ⟨some 5, none, .mov (.t 18)⟩], .t 15, [.t 20, .t 25], 5, 19, 3⟩

/-- The iterators. -/
def itTab : List (Nat × It) :=
  []

/-- What the iterators hand to their rounds. -/
def nxs : FuncId → List D → D → List Blk → Option (Option (List D × D)) := fun g => match itTab.find? (fun p => p.1 == g) with
  | some p => p.2.nx
  | none => fun _ _ _ => none

/-- The keys of layer 17's map, and what they ask for. -/
def emTab : List ((Int × Int) × (Int × Int × Int)) := [
  ((1, 1), (1, 3, 0)),
  ((1, 5), (1, 4, 0)),
  ((1, 2), (1, 1, 0)),
  ((1, 6), (1, 2, 0)),
  ((1, 4), (1, 2, 1)),
  ((1, 8), (1, 1, 1)),
  ((1, 127), (1, 1, 1)),
  ((1, 7), (16, 0, 0)),
  ((1, 12), (17, 0, 0)),
  ((1, 10), (7, 0, 0)),
  ((1, 13), (7, 0, 0)),
  ((1, 11), (1, 4, 2)),
  ((1, 21), (1, 3, 2)),
  ((1, 23), (1, 6, 2)),
  ((1, 14), (9, 0, 0)),
  ((1, 16), (8, 0, 0)),
  ((1, 17), (13, 0, 0)),
  ((1, 22), (13, 0, 0)),
  ((1, 18), (11, 0, 0)),
  ((1, 19), (12, 0, 0)),
  ((1, 20), (6, 0, 0)),
  ((1, 25), (3, 0, 0)),
  ((1, 31), (5, 0, 0)),
  ((2, 98), (1, 6, 0)),
  ((2, 102), (1, 5, 0)),
  ((2, 100), (1, 5, 2)),
  ((2, 8), (1, 6, 2)),
  ((2, 127), (1, 6, 2)),
  ((2, 117), (1, 5, 4)),
  ((2, 108), (1, 5, 5)),
  ((2, 99), (1, 5, 6)),
  ((2, 121), (4, 0, 0)),
  ((2, 112), (10, 0, 0)),
  ((2, 45), (15, 0, 0)),
  ((3, 0), (8, 0, 0)),
  ((4, 0), (9, 0, 0)),
  ((5, 0), (1, 2, 0)),
  ((6, 0), (1, 1, 0)),
  ((7, 0), (1, 3, 0)),
  ((8, 0), (1, 4, 0)),
  ((9, 0), (1, 2, 1))]

def emK (p : Int × Int) : D := .agg [.int .i64 p.1, .int .i32 p.2]
def emV (a : Int × Int × Int) : D := .agg [.int .i64 a.1, .int .i64 a.2.1, .int .i64 a.2.2, .int .i32 0]
def emMap : D := .mapd (emTab.map fun p => emK p.1) (emTab.map fun p => emV p.2)

/-- What is known of functions by other means: those that build maps. -/
def orcTab : List (Nat × D) :=
  []

def orcs (f : FuncId) (args : List D) : Option D := match orcTab.find? (fun p => p.1 == f) with
  | some p => match args with
    | [] => some p.2
    | _ => none
  | none => none

/-- An element of three cells is put into a list. -/
def insD (args : List D) (h : List Blk) : Option (D × List Blk) := match args with
  | [.ref b 0 n 3 g false, .int .i64 i, .ref v 0 1 3 3 true] => match h[b]?, h[v]? with
    | some kb, some kv => if (g = n * 3 ∧ kb.cs.length = n * 3 ∧ kb.fz = 0 ∧ kb.box = false) ∧ (kv.cs.length = 3 ∧ kv.box = false) ∧ b ≠ v ∧ 0 ≤ i ∧ i.toNat < n ∧ (n + 1) * 56 ≤ 140737488355328 then
        some (.ref b 0 (n + 1) 3 ((n + 1) * 3) false, h.set b ⟨kb.cs.take (i.toNat * 3) ++ kv.cs ++ kb.cs.drop (i.toNat * 3), 0, false⟩) else none
    | _, _ => none
  | _ => none

/-- The same, with a store. -/
def orfs (f : FuncId) (args : List D) (h : List Blk) : Option (D × List Blk) :=
  none

noncomputable def W (n : Nat) : E.Calls := evF Tryd.prog modes orcs orfs nxs 1125899906842624 n

theorem runs {n f : Nat} {x : XF} {args : List D} {r : D} (hx : cFunc Tryd.prog f = some x) (hm : modes f = m0 := by kernel_rfl) (ho : orcs f args = none := by rfl)
    (ha : aw ((W n).at m0) 1125899906842624 x.body ⟨args0 args, []⟩ (retQ x.res (gives r))) : (W (n + 1)).pc f args = some r := pc_of_aw ho hx (by rw [hm]; exact ha)

/-- The same of a function that calls some others otherwise. -/
theorem runsM {n f : Nat} {x : XF} {args : List D} {r : D} (hx : cFunc Tryd.prog f = some x) (ho : orcs f args = none := by rfl)
    (ha : aw ((W n).at (modes f)) 1125899906842624 x.body ⟨args0 args, []⟩ (retQ x.res (gives r))) : (W (n + 1)).pc f args = some r := pc_of_aw ho hx ha

theorem owns {n f : Nat} {x : XF} {args : List D} {r : D} {h' : List Blk} (hx : cFunc Tryd.prog f = some x)
    (ha : aw ((W n).at (modes f)) 1125899906842624 x.body ⟨args0 args, []⟩ (retQ x.res (fun d h => d = r ∧ h = h'))) : (W (n + 1)).oc f args = some (r, h') := oc_of_aw hx ha

theorem inline {n f : Nat} {x : XF} {args : List D} {h : List Blk} {K : D × List Blk → Prop} (hx : cFunc Tryd.prog f = some x) (ho : orfs f args h = none := by rfl)
    (ha : aw ((W n).at (modes f)) 1125899906842624 x.body ⟨args0 args, h⟩ (retQ x.res (fun d h => K (d, h)))) : oSat ((W (n + 1)).fc f args h) K := fc_of_aw ho hx ha

theorem lends {n f : Nat} {x : XF} {args : List D} {h h' : List Blk} {r : D} (hx : cFunc Tryd.prog f = some x) (ho : orfs f args h = none := by rfl)
    (ha : aw ((W n).at (modes f)) 1125899906842624 x.body ⟨args0 args, h⟩ (retQ x.res (fun d h1 => settleF h.length d h1 = some (r, h')))) : lendS (W (n + 1)) f args h = some (r, h') := by
  have := inline (K := fun p => settleF h.length p.1 p.2 = some (r, h')) hx ho ha
  simp only [lendS]
  cases hf : (W (n + 1)).fc f args h with
  | none => rw [hf] at this; exact this.elim
  | some p => rw [hf] at this; exact this

theorem keeps {n f : Nat} {x : XF} {args : List D} {h h' : List Blk} {r : D} (hx : cFunc Tryd.prog f = some x) (ho : orfs f args h = none := by rfl)
    (ha : aw ((W n).at (modes f)) 1125899906842624 x.body ⟨args0 args, h⟩ (retQ x.res (fun d h1 => E.settle h.length d h1 = some (r, h')))) : lendK (W (n + 1)) f args h = some (r, h') := by
  have := inline (K := fun p => E.settle h.length p.1 p.2 = some (r, h')) hx ho ha
  simp only [lendK]
  cases hf : (W (n + 1)).fc f args h with
  | none => rw [hf] at this; exact this.elim
  | some p => rw [hf] at this; exact this

theorem W_orc {n : Nat} {f : FuncId} {args : List D} {r : D} (h : orcs f args = some r) : (W n).pc f args = some r := by
  unfold W
  cases n with
  | zero => exact h
  | succ n => simp only [evF, h]

theorem W_orf {n : Nat} {f : FuncId} {args : List D} {h : List Blk} {r : D × List Blk} (e : orfs f args h = some r) : (W n).fc f args h = some r := by
  unfold W
  cases n with
  | zero => exact e
  | succ n => simp only [evF, e]

theorem W_nx (n : Nat) : (W n).nx = nxs := by unfold W; cases n <;> rfl

attribute [irreducible] W

end Go.Proofs.YtccinlhenkkpeaaDoor
