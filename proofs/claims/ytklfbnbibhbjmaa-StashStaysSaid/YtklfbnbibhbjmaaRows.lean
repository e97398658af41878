/-
  No cell of these rows narrows 'for every input' (looked for: loops, veiled, ifaces, maps, wideKeys, modest, calm, conditions, laid).
  DERIVED. THE GIVEN ROWS OF THIS SEAT. 4 by the template 'for every input the law returns true; each argument reads behind the call as it read before'; 0 by the template 'total and deterministic' (their statements: YtklfbnbibhbjmaaTotals.lean).
  GIVEN WITH THE SEED: the statements are not yours to turn. If you find one false, say at which input.
  Laid BY PROGRAM, IN A SANDBOX (cutbox-rows.mjs): the forced cells as the released guide's own fill.sh prints them over the translation 78f63954ed6693cf… (all of the seat's roots in one cut). By AI agents, Wed Nov 11 2026. No macro, syntax, notation, axiom, sorry.
-/
import Derived.Test.YtklfbnbibhbjmaaChecked
import GoSem.Claim
import GoSem.ClaimJoined
import GoSem.ClaimMapViews
import Derived.JoinedTies
import Derived.KernelRfl
namespace Go.Proofs.Ytklfbnbibhbjmaa
/- THE CELL 'sum', in the pinned program and in every row, IS THE sha256 OF THE DUMP (.gsa) THAT YtklfbnbibhbjmaaProg.lean LOADS. Nothing in Lean hashes anything: it is a label: what it is worth is what the hold of that sum in a sandbox is worth. -/
noncomputable def Try.pinned : Pinned := { name := "ytklfbnbibhbjmaa", sum := "78f63954ed6693cf408d7da257b8dc6b2167ec0b3e2745d95c153c59fd9e2fac", checked := Try.checked }
namespace Rows
def none {H : Type} : Left H := { results := [], args := [] }

/-- 'typebarlaw20.StashDoes': WHATEVER THE INPUT: true; the input reads as it did. -/
def stashDoesSpec : ChangeSpec := { name := "stashDoes", fn := fun _ => fun
  | [d1, d2, d3, d4] => { results := [.lit (.bool true)], args := [d1, d2, d3, d4] }
  | _ => none }
def stashDoesRow : OpenClaim := { program := "ytklfbnbibhbjmaa", sum := "78f63954ed6693cf408d7da257b8dc6b2167ec0b3e2745d95c153c59fd9e2fac", func := "typebar/typebarlaw20.StashDoes", spec := "stashDoes", inPlace := ["slices.overlaps[typebar/api.Slot]"], unfollowed := true, recurses := true, apart := false }
def StashDoesSaid : Prop := stashDoesRow.holds Try.pinned (OpenSpec.ofChange stashDoesSpec)

/-- ITS FALSE NEIGHBOUR: 'it returns false'. Refute it at one input. -/
def stashDoesWrong : ChangeSpec := { name := "stashDoes", fn := fun _ => fun
  | [d1, d2, d3, d4] => { results := [.lit (.bool false)], args := [d1, d2, d3, d4] }
  | _ => none }
def StashDoesWrongFalsely : Prop := stashDoesRow.holds Try.pinned (OpenSpec.ofChange stashDoesWrong)

/-- 'typebarlaw20.StashTells': WHATEVER THE INPUT: true; the input reads as it did. -/
def stashTellsSpec : ChangeSpec := { name := "stashTells", fn := fun _ => fun
  | [d1, d2, d3] => { results := [.lit (.bool true)], args := [d1, d2, d3] }
  | _ => none }
def stashTellsRow : OpenClaim := { program := "ytklfbnbibhbjmaa", sum := "78f63954ed6693cf408d7da257b8dc6b2167ec0b3e2745d95c153c59fd9e2fac", func := "typebar/typebarlaw20.StashTells", spec := "stashTells", inPlace := ["slices.overlaps[typebar/api.Slot]"], unfollowed := true, recurses := true, apart := false }
def StashTellsSaid : Prop := stashTellsRow.holds Try.pinned (OpenSpec.ofChange stashTellsSpec)

/-- ITS FALSE NEIGHBOUR: 'it returns false'. Refute it at one input. -/
def stashTellsWrong : ChangeSpec := { name := "stashTells", fn := fun _ => fun
  | [d1, d2, d3] => { results := [.lit (.bool false)], args := [d1, d2, d3] }
  | _ => none }
def StashTellsWrongFalsely : Prop := stashTellsRow.holds Try.pinned (OpenSpec.ofChange stashTellsWrong)

/-- 'typebarlaw20.StashBack': WHATEVER THE INPUT: true; the input reads as it did. -/
def stashBackSpec : ChangeSpec := { name := "stashBack", fn := fun _ => fun
  | [d1, d2, d3, d4, d5] => { results := [.lit (.bool true)], args := [d1, d2, d3, d4, d5] }
  | _ => none }
def stashBackRow : OpenClaim := { program := "ytklfbnbibhbjmaa", sum := "78f63954ed6693cf408d7da257b8dc6b2167ec0b3e2745d95c153c59fd9e2fac", func := "typebar/typebarlaw20.StashBack", spec := "stashBack", inPlace := ["slices.overlaps[typebar/api.Slot]"], unfollowed := true, recurses := true, apart := false }
def StashBackSaid : Prop := stashBackRow.holds Try.pinned (OpenSpec.ofChange stashBackSpec)

/-- ITS FALSE NEIGHBOUR: 'it returns false'. Refute it at one input. -/
def stashBackWrong : ChangeSpec := { name := "stashBack", fn := fun _ => fun
  | [d1, d2, d3, d4, d5] => { results := [.lit (.bool false)], args := [d1, d2, d3, d4, d5] }
  | _ => none }
def StashBackWrongFalsely : Prop := stashBackRow.holds Try.pinned (OpenSpec.ofChange stashBackWrong)

/-- 'typebarlaw20.StashStays': WHATEVER THE INPUT: true; the input reads as it did. -/
def stashStaysSpec : ChangeSpec := { name := "stashStays", fn := fun _ => fun
  | [d1, d2, d3, d4] => { results := [.lit (.bool true)], args := [d1, d2, d3, d4] }
  | _ => none }
def stashStaysRow : OpenClaim := { program := "ytklfbnbibhbjmaa", sum := "78f63954ed6693cf408d7da257b8dc6b2167ec0b3e2745d95c153c59fd9e2fac", func := "typebar/typebarlaw20.StashStays", spec := "stashStays", inPlace := ["slices.overlaps[typebar/api.Slot]"], unfollowed := true, recurses := true, apart := false }
def StashStaysSaid : Prop := stashStaysRow.holds Try.pinned (OpenSpec.ofChange stashStaysSpec)

/-- ITS FALSE NEIGHBOUR: 'it returns false'. Refute it at one input. -/
def stashStaysWrong : ChangeSpec := { name := "stashStays", fn := fun _ => fun
  | [d1, d2, d3, d4] => { results := [.lit (.bool false)], args := [d1, d2, d3, d4] }
  | _ => none }
def StashStaysWrongFalsely : Prop := stashStaysRow.holds Try.pinned (OpenSpec.ofChange stashStaysWrong)

/- THE SECOND FORM. 'bulk': how many values and letters a reading holds, each counted each time it is reached (what is shared counts as often as it is met; a slice's spare places count too). A statement '..UptoSaid' is the law's where the arguments, and the package variables that the reading takes, are together of bulk at most 1048576: NARROWER than '..Said'. Prove '..Said' where nothing that the law and all that it calls make is longer than what came in: it says more and counts as full. Else prove '..UptoSaid'. A law counts once. -/
mutual
def uptoBulk {H : Type} : DataW H → Nat
  | .lit (.string bytes) => bytes.length + 1
  | .lit _ => 1
  | .nil => 1
  | .ptr d => uptoBulk d + 1
  | .slice elems spare => uptoBulkAll elems + uptoBulkAll spare + 1
  | .agg parts => uptoBulkAll parts + 1
  | .iface _ d => uptoBulk d + 1
  | .map entries => uptoBulkEntries entries + 1
  | .held _ => 1
def uptoBulkAll {H : Type} : List (DataW H) → Nat
  | [] => 0
  | d :: r => uptoBulk d + uptoBulkAll r
def uptoBulkEntries {H : Type} : List (Lit × DataW H) → Nat
  | [] => 0
  | x :: r => uptoBulkEntry x + uptoBulkEntries r
def uptoBulkEntry {H : Type} : Lit × DataW H → Nat
  | (.string bytes, d) => bytes.length + uptoBulk d + 1
  | (_, d) => uptoBulk d + 1
 end
def uptoSmall : (H : Type) → List (DataW H) → Bool := fun _ ds => decide (uptoBulkAll ds ≤ 1048576)
def OpenSpec.upto (s : _root_.Go.ChangeSpec) : _root_.Go.OpenSpec := { _root_.Go.OpenSpec.ofChange s with cond := some uptoSmall }

/-- 'typebarlaw20.StashDoes', WHERE WHAT IT READS IS OF BULK AT MOST 1048576: true; the input reads as it did. -/
def stashDoesUptoRow : OpenClaim := { program := "ytklfbnbibhbjmaa", sum := "78f63954ed6693cf408d7da257b8dc6b2167ec0b3e2745d95c153c59fd9e2fac", func := "typebar/typebarlaw20.StashDoes", spec := "stashDoes", inPlace := ["slices.overlaps[typebar/api.Slot]"], unfollowed := true, recurses := true, apart := false, narrowed := true }
def StashDoesUptoSaid : Prop := stashDoesUptoRow.holds Try.pinned (OpenSpec.upto stashDoesSpec)

/-- 'typebarlaw20.StashTells', WHERE WHAT IT READS IS OF BULK AT MOST 1048576: true; the input reads as it did. -/
def stashTellsUptoRow : OpenClaim := { program := "ytklfbnbibhbjmaa", sum := "78f63954ed6693cf408d7da257b8dc6b2167ec0b3e2745d95c153c59fd9e2fac", func := "typebar/typebarlaw20.StashTells", spec := "stashTells", inPlace := ["slices.overlaps[typebar/api.Slot]"], unfollowed := true, recurses := true, apart := false, narrowed := true }
def StashTellsUptoSaid : Prop := stashTellsUptoRow.holds Try.pinned (OpenSpec.upto stashTellsSpec)

/-- 'typebarlaw20.StashBack', WHERE WHAT IT READS IS OF BULK AT MOST 1048576: true; the input reads as it did. -/
def stashBackUptoRow : OpenClaim := { program := "ytklfbnbibhbjmaa", sum := "78f63954ed6693cf408d7da257b8dc6b2167ec0b3e2745d95c153c59fd9e2fac", func := "typebar/typebarlaw20.StashBack", spec := "stashBack", inPlace := ["slices.overlaps[typebar/api.Slot]"], unfollowed := true, recurses := true, apart := false, narrowed := true }
def StashBackUptoSaid : Prop := stashBackUptoRow.holds Try.pinned (OpenSpec.upto stashBackSpec)

/-- 'typebarlaw20.StashStays', WHERE WHAT IT READS IS OF BULK AT MOST 1048576: true; the input reads as it did. -/
def stashStaysUptoRow : OpenClaim := { program := "ytklfbnbibhbjmaa", sum := "78f63954ed6693cf408d7da257b8dc6b2167ec0b3e2745d95c153c59fd9e2fac", func := "typebar/typebarlaw20.StashStays", spec := "stashStays", inPlace := ["slices.overlaps[typebar/api.Slot]"], unfollowed := true, recurses := true, apart := false, narrowed := true }
def StashStaysUptoSaid : Prop := stashStaysUptoRow.holds Try.pinned (OpenSpec.upto stashStaysSpec)

end Rows
end Go.Proofs.Ytklfbnbibhbjmaa
