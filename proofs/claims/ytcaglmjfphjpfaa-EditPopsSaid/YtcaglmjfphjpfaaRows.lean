/-
  No cell of these rows narrows 'for every input' (looked for: loops, veiled, ifaces, maps, wideKeys, modest, calm, conditions, laid).
  DERIVED. THE GIVEN ROWS OF THIS SEAT. 8 by the template 'for every input the law returns true; each argument reads behind the call as it read before'; 0 by the template 'total and deterministic' (their statements: YtcaglmjfphjpfaaTotals.lean).
  GIVEN WITH THE SEED: the statements are not yours to turn. If you find one false, say at which input.
  Laid BY PROGRAM, IN A SANDBOX (cutbox-rows.mjs): the forced cells as the released guide's own fill.sh prints them over the translation 12a9d44672481da4… (all of the seat's roots in one cut). By AI agents, Wed Nov 11 2026. No macro, syntax, notation, axiom, sorry.
-/
import Derived.Test.YtcaglmjfphjpfaaChecked
import GoSem.Claim
import GoSem.ClaimJoined
import GoSem.ClaimMapViews
import Derived.JoinedTies
import Derived.KernelRfl
namespace Go.Proofs.Ytcaglmjfphjpfaa
/- THE CELL 'sum', in the pinned program and in every row, IS THE sha256 OF THE DUMP (.gsa) THAT YtcaglmjfphjpfaaProg.lean LOADS. Nothing in Lean hashes anything: it is a label: what it is worth is what the hold of that sum in a sandbox is worth. -/
noncomputable def Try.pinned : Pinned := { name := "ytcaglmjfphjpfaa", sum := "12a9d44672481da43ff707568b4602defe0533835af9dcf8f3c863db24c0183d", checked := Try.checked }
namespace Rows
def none {H : Type} : Left H := { results := [], args := [] }

/-- 'typebarlaw20.StashDoes': WHATEVER THE INPUT: true; the input reads as it did. -/
def stashDoesSpec : ChangeSpec := { name := "stashDoes", fn := fun _ => fun
  | [d1, d2, d3, d4] => { results := [.lit (.bool true)], args := [d1, d2, d3, d4] }
  | _ => none }
def stashDoesRow : OpenClaim := { program := "ytcaglmjfphjpfaa", sum := "12a9d44672481da43ff707568b4602defe0533835af9dcf8f3c863db24c0183d", func := "typebar/typebarlaw20.StashDoes", spec := "stashDoes", inPlace := ["slices.overlaps[typebar/api.Slot]"], unfollowed := true, recurses := true, apart := false }
def StashDoesSaid : Prop := stashDoesRow.holds Try.pinned (OpenSpec.ofChange stashDoesSpec)

/-- ITS FALSE NEIGHBOUR: 'it returns false'. Refute it at one input. -/
def stashDoesWrong : ChangeSpec := { name := "stashDoes", fn := fun _ => fun
  | [d1, d2, d3, d4] => { results := [.lit (.bool false)], args := [d1, d2, d3, d4] }
  | _ => none }
def StashDoesWrongFalsely : Prop := stashDoesRow.holds Try.pinned (OpenSpec.ofChange stashDoesWrong)

/-- 'typebarlaw20.StashTells': WHATEVER THE INPUT: true; the input reads as it did. -/
def stashTellsSpec : ChangeSpec := { name := "stashTells", fn := fun _ => fun
  | [d1, d2, d3] => { results := [.lit (.bool true)], args := [d1, d2, d3] }
  | _ => none }
def stashTellsRow : OpenClaim := { program := "ytcaglmjfphjpfaa", sum := "12a9d44672481da43ff707568b4602defe0533835af9dcf8f3c863db24c0183d", func := "typebar/typebarlaw20.StashTells", spec := "stashTells", inPlace := ["slices.overlaps[typebar/api.Slot]"], unfollowed := true, recurses := true, apart := false }
def StashTellsSaid : Prop := stashTellsRow.holds Try.pinned (OpenSpec.ofChange stashTellsSpec)

/-- ITS FALSE NEIGHBOUR: 'it returns false'. Refute it at one input. -/
def stashTellsWrong : ChangeSpec := { name := "stashTells", fn := fun _ => fun
  | [d1, d2, d3] => { results := [.lit (.bool false)], args := [d1, d2, d3] }
  | _ => none }
def StashTellsWrongFalsely : Prop := stashTellsRow.holds Try.pinned (OpenSpec.ofChange stashTellsWrong)

/-- 'typebarlaw23.EditTargets': WHATEVER THE INPUT: true; the input reads as it did. -/
def editTargetsSpec : ChangeSpec := { name := "editTargets", fn := fun _ => fun
  | [d1, d2, d3, d4] => { results := [.lit (.bool true)], args := [d1, d2, d3, d4] }
  | _ => none }
def editTargetsRow : OpenClaim := { program := "ytcaglmjfphjpfaa", sum := "12a9d44672481da43ff707568b4602defe0533835af9dcf8f3c863db24c0183d", func := "typebar/typebarlaw23.EditTargets", spec := "editTargets", unfollowed := true, recurses := true, apart := false }
def EditTargetsSaid : Prop := editTargetsRow.holds Try.pinned (OpenSpec.ofChange editTargetsSpec)

/-- ITS FALSE NEIGHBOUR: 'it returns false'. Refute it at one input. -/
def editTargetsWrong : ChangeSpec := { name := "editTargets", fn := fun _ => fun
  | [d1, d2, d3, d4] => { results := [.lit (.bool false)], args := [d1, d2, d3, d4] }
  | _ => none }
def EditTargetsWrongFalsely : Prop := editTargetsRow.holds Try.pinned (OpenSpec.ofChange editTargetsWrong)

/-- 'typebarlaw23.EditStays': WHATEVER THE INPUT: true; the input reads as it did. -/
def editStaysSpec : ChangeSpec := { name := "editStays", fn := fun _ => fun
  | [d1, d2, d3] => { results := [.lit (.bool true)], args := [d1, d2, d3] }
  | _ => none }
def editStaysRow : OpenClaim := { program := "ytcaglmjfphjpfaa", sum := "12a9d44672481da43ff707568b4602defe0533835af9dcf8f3c863db24c0183d", func := "typebar/typebarlaw23.EditStays", spec := "editStays", unfollowed := true, recurses := true, apart := false }
def EditStaysSaid : Prop := editStaysRow.holds Try.pinned (OpenSpec.ofChange editStaysSpec)

/-- ITS FALSE NEIGHBOUR: 'it returns false'. Refute it at one input. -/
def editStaysWrong : ChangeSpec := { name := "editStays", fn := fun _ => fun
  | [d1, d2, d3] => { results := [.lit (.bool false)], args := [d1, d2, d3] }
  | _ => none }
def EditStaysWrongFalsely : Prop := editStaysRow.holds Try.pinned (OpenSpec.ofChange editStaysWrong)

/-- 'typebarlaw23.EditUndoes': WHATEVER THE INPUT: true; the input reads as it did. -/
def editUndoesSpec : ChangeSpec := { name := "editUndoes", fn := fun _ => fun
  | [d1, d2, d3] => { results := [.lit (.bool true)], args := [d1, d2, d3] }
  | _ => none }
def editUndoesRow : OpenClaim := { program := "ytcaglmjfphjpfaa", sum := "12a9d44672481da43ff707568b4602defe0533835af9dcf8f3c863db24c0183d", func := "typebar/typebarlaw23.EditUndoes", spec := "editUndoes", unfollowed := true, recurses := true, apart := false }
def EditUndoesSaid : Prop := editUndoesRow.holds Try.pinned (OpenSpec.ofChange editUndoesSpec)

/-- ITS FALSE NEIGHBOUR: 'it returns false'. Refute it at one input. -/
def editUndoesWrong : ChangeSpec := { name := "editUndoes", fn := fun _ => fun
  | [d1, d2, d3] => { results := [.lit (.bool false)], args := [d1, d2, d3] }
  | _ => none }
def EditUndoesWrongFalsely : Prop := editUndoesRow.holds Try.pinned (OpenSpec.ofChange editUndoesWrong)

/-- 'typebarlaw23.EditYanks': WHATEVER THE INPUT: true; the input reads as it did. -/
def editYanksSpec : ChangeSpec := { name := "editYanks", fn := fun _ => fun
  | [d1, d2, d3] => { results := [.lit (.bool true)], args := [d1, d2, d3] }
  | _ => none }
def editYanksRow : OpenClaim := { program := "ytcaglmjfphjpfaa", sum := "12a9d44672481da43ff707568b4602defe0533835af9dcf8f3c863db24c0183d", func := "typebar/typebarlaw23.EditYanks", spec := "editYanks", unfollowed := true, recurses := true, apart := false }
def EditYanksSaid : Prop := editYanksRow.holds Try.pinned (OpenSpec.ofChange editYanksSpec)

/-- ITS FALSE NEIGHBOUR: 'it returns false'. Refute it at one input. -/
def editYanksWrong : ChangeSpec := { name := "editYanks", fn := fun _ => fun
  | [d1, d2, d3] => { results := [.lit (.bool false)], args := [d1, d2, d3] }
  | _ => none }
def EditYanksWrongFalsely : Prop := editYanksRow.holds Try.pinned (OpenSpec.ofChange editYanksWrong)

/-- 'typebarlaw23.EditTimes': WHATEVER THE INPUT: true; the input reads as it did. -/
def editTimesSpec : ChangeSpec := { name := "editTimes", fn := fun _ => fun
  | [d1, d2, d3] => { results := [.lit (.bool true)], args := [d1, d2, d3] }
  | _ => none }
def editTimesRow : OpenClaim := { program := "ytcaglmjfphjpfaa", sum := "12a9d44672481da43ff707568b4602defe0533835af9dcf8f3c863db24c0183d", func := "typebar/typebarlaw23.EditTimes", spec := "editTimes", unfollowed := true, recurses := true, apart := false }
def EditTimesSaid : Prop := editTimesRow.holds Try.pinned (OpenSpec.ofChange editTimesSpec)

/-- ITS FALSE NEIGHBOUR: 'it returns false'. Refute it at one input. -/
def editTimesWrong : ChangeSpec := { name := "editTimes", fn := fun _ => fun
  | [d1, d2, d3] => { results := [.lit (.bool false)], args := [d1, d2, d3] }
  | _ => none }
def EditTimesWrongFalsely : Prop := editTimesRow.holds Try.pinned (OpenSpec.ofChange editTimesWrong)

/-- 'typebarlaw23.EditPops': WHATEVER THE INPUT: true; the input reads as it did. -/
def editPopsSpec : ChangeSpec := { name := "editPops", fn := fun _ => fun
  | [d] => { results := [.lit (.bool true)], args := [d] }
  | _ => none }
def editPopsRow : OpenClaim := { program := "ytcaglmjfphjpfaa", sum := "12a9d44672481da43ff707568b4602defe0533835af9dcf8f3c863db24c0183d", func := "typebar/typebarlaw23.EditPops", spec := "editPops", unfollowed := true, recurses := true, apart := false }
def EditPopsSaid : Prop := editPopsRow.holds Try.pinned (OpenSpec.ofChange editPopsSpec)

/-- ITS FALSE NEIGHBOUR: 'it returns false'. Refute it at one input. -/
def editPopsWrong : ChangeSpec := { name := "editPops", fn := fun _ => fun
  | [d] => { results := [.lit (.bool false)], args := [d] }
  | _ => none }
def EditPopsWrongFalsely : Prop := editPopsRow.holds Try.pinned (OpenSpec.ofChange editPopsWrong)

/- THE SECOND FORM. 'bulk': how many values and letters a reading holds, each counted each time it is reached (what is shared counts as often as it is met; a slice's spare places count too). A statement '..UptoSaid' is the law's where the arguments, and the package variables that the reading takes, are together of bulk at most 1048576: NARROWER than '..Said'. Prove '..Said' where nothing that the law and all that it calls make is longer than what came in: it says more and counts as full. Else prove '..UptoSaid'. A law counts once. -/
mutual
def uptoBulk {H : Type} : DataW H → Nat
  | .lit (.string bytes) => bytes.length + 1
  | .lit _ => 1
  | .nil => 1
  | .ptr d => uptoBulk d + 1
  | .slice elems spare => uptoBulkAll elems + uptoBulkAll spare + 1
  | .agg parts => uptoBulkAll parts + 1
  | .iface _ d => uptoBulk d + 1
  | .map entries => uptoBulkEntries entries + 1
  | .held _ => 1
def uptoBulkAll {H : Type} : List (DataW H) → Nat
  | [] => 0
  | d :: r => uptoBulk d + uptoBulkAll r
def uptoBulkEntries {H : Type} : List (Lit × DataW H) → Nat
  | [] => 0
  | x :: r => uptoBulkEntry x + uptoBulkEntries r
def uptoBulkEntry {H : Type} : Lit × DataW H → Nat
  | (.string bytes, d) => bytes.length + uptoBulk d + 1
  | (_, d) => uptoBulk d + 1
 end
def uptoSmall : (H : Type) → List (DataW H) → Bool := fun _ ds => decide (uptoBulkAll ds ≤ 1048576)
def OpenSpec.upto (s : _root_.Go.ChangeSpec) : _root_.Go.OpenSpec := { _root_.Go.OpenSpec.ofChange s with cond := some uptoSmall }

/-- 'typebarlaw20.StashDoes', WHERE WHAT IT READS IS OF BULK AT MOST 1048576: true; the input reads as it did. -/
def stashDoesUptoRow : OpenClaim := { program := "ytcaglmjfphjpfaa", sum := "12a9d44672481da43ff707568b4602defe0533835af9dcf8f3c863db24c0183d", func := "typebar/typebarlaw20.StashDoes", spec := "stashDoes", inPlace := ["slices.overlaps[typebar/api.Slot]"], unfollowed := true, recurses := true, apart := false, narrowed := true }
def StashDoesUptoSaid : Prop := stashDoesUptoRow.holds Try.pinned (OpenSpec.upto stashDoesSpec)

/-- 'typebarlaw20.StashTells', WHERE WHAT IT READS IS OF BULK AT MOST 1048576: true; the input reads as it did. -/
def stashTellsUptoRow : OpenClaim := { program := "ytcaglmjfphjpfaa", sum := "12a9d44672481da43ff707568b4602defe0533835af9dcf8f3c863db24c0183d", func := "typebar/typebarlaw20.StashTells", spec := "stashTells", inPlace := ["slices.overlaps[typebar/api.Slot]"], unfollowed := true, recurses := true, apart := false, narrowed := true }
def StashTellsUptoSaid : Prop := stashTellsUptoRow.holds Try.pinned (OpenSpec.upto stashTellsSpec)

/-- 'typebarlaw23.EditTargets', WHERE WHAT IT READS IS OF BULK AT MOST 1048576: true; the input reads as it did. -/
def editTargetsUptoRow : OpenClaim := { program := "ytcaglmjfphjpfaa", sum := "12a9d44672481da43ff707568b4602defe0533835af9dcf8f3c863db24c0183d", func := "typebar/typebarlaw23.EditTargets", spec := "editTargets", unfollowed := true, recurses := true, apart := false, narrowed := true }
def EditTargetsUptoSaid : Prop := editTargetsUptoRow.holds Try.pinned (OpenSpec.upto editTargetsSpec)

/-- 'typebarlaw23.EditStays', WHERE WHAT IT READS IS OF BULK AT MOST 1048576: true; the input reads as it did. -/
def editStaysUptoRow : OpenClaim := { program := "ytcaglmjfphjpfaa", sum := "12a9d44672481da43ff707568b4602defe0533835af9dcf8f3c863db24c0183d", func := "typebar/typebarlaw23.EditStays", spec := "editStays", unfollowed := true, recurses := true, apart := false, narrowed := true }
def EditStaysUptoSaid : Prop := editStaysUptoRow.holds Try.pinned (OpenSpec.upto editStaysSpec)

/-- 'typebarlaw23.EditUndoes', WHERE WHAT IT READS IS OF BULK AT MOST 1048576: true; the input reads as it did. -/
def editUndoesUptoRow : OpenClaim := { program := "ytcaglmjfphjpfaa", sum := "12a9d44672481da43ff707568b4602defe0533835af9dcf8f3c863db24c0183d", func := "typebar/typebarlaw23.EditUndoes", spec := "editUndoes", unfollowed := true, recurses := true, apart := false, narrowed := true }
def EditUndoesUptoSaid : Prop := editUndoesUptoRow.holds Try.pinned (OpenSpec.upto editUndoesSpec)

/-- 'typebarlaw23.EditYanks', WHERE WHAT IT READS IS OF BULK AT MOST 1048576: true; the input reads as it did. -/
def editYanksUptoRow : OpenClaim := { program := "ytcaglmjfphjpfaa", sum := "12a9d44672481da43ff707568b4602defe0533835af9dcf8f3c863db24c0183d", func := "typebar/typebarlaw23.EditYanks", spec := "editYanks", unfollowed := true, recurses := true, apart := false, narrowed := true }
def EditYanksUptoSaid : Prop := editYanksUptoRow.holds Try.pinned (OpenSpec.upto editYanksSpec)

/-- 'typebarlaw23.EditTimes', WHERE WHAT IT READS IS OF BULK AT MOST 1048576: true; the input reads as it did. -/
def editTimesUptoRow : OpenClaim := { program := "ytcaglmjfphjpfaa", sum := "12a9d44672481da43ff707568b4602defe0533835af9dcf8f3c863db24c0183d", func := "typebar/typebarlaw23.EditTimes", spec := "editTimes", unfollowed := true, recurses := true, apart := false, narrowed := true }
def EditTimesUptoSaid : Prop := editTimesUptoRow.holds Try.pinned (OpenSpec.upto editTimesSpec)

/-- 'typebarlaw23.EditPops', WHERE WHAT IT READS IS OF BULK AT MOST 1048576: true; the input reads as it did. -/
def editPopsUptoRow : OpenClaim := { program := "ytcaglmjfphjpfaa", sum := "12a9d44672481da43ff707568b4602defe0533835af9dcf8f3c863db24c0183d", func := "typebar/typebarlaw23.EditPops", spec := "editPops", unfollowed := true, recurses := true, apart := false, narrowed := true }
def EditPopsUptoSaid : Prop := editPopsUptoRow.holds Try.pinned (OpenSpec.upto editPopsSpec)

end Rows
end Go.Proofs.Ytcaglmjfphjpfaa
