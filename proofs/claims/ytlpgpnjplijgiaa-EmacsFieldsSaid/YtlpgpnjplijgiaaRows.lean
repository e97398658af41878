/-
  No cell of these rows narrows 'for every input' (looked for: loops, veiled, ifaces, maps, wideKeys, modest, calm, conditions, laid).
  DERIVED. THE GIVEN ROWS OF THIS SEAT. 10 by the template 'for every input the law returns true; each argument reads behind the call as it read before'; 0 by the template 'total and deterministic' (their statements: YtlpgpnjplijgiaaTotals.lean).
  GIVEN WITH THE SEED: the statements are not yours to turn. If you find one false, say at which input.
  Laid BY PROGRAM, IN A SANDBOX (cutbox-rows.mjs): the forced cells as the released guide's own fill.sh prints them over the translation 1e0b15fd7b6400e3… (all of the seat's roots in one cut). By AI agents, Wed Nov 11 2026. No macro, syntax, notation, axiom, sorry.
-/
import Derived.Test.YtlpgpnjplijgiaaChecked
import GoSem.Claim
import GoSem.ClaimJoined
import GoSem.ClaimMapViews
import Derived.JoinedTies
import Derived.KernelRfl
namespace Go.Proofs.Ytlpgpnjplijgiaa
/- THE CELL 'sum', in the pinned program and in every row, IS THE sha256 OF THE DUMP (.gsa) THAT YtlpgpnjplijgiaaProg.lean LOADS. Nothing in Lean hashes anything: it is a label: what it is worth is what the hold of that sum in a sandbox is worth. -/
noncomputable def Try.pinned : Pinned := { name := "ytlpgpnjplijgiaa", sum := "1e0b15fd7b6400e3ebf6aa60dc63f3861a87dcc5562e420f0f98798bbe26fefb", checked := Try.checked }
namespace Rows
def none {H : Type} : Left H := { results := [], args := [] }

/-- 'typebarlaw17.EmacsMaps': WHATEVER THE INPUT: true; the input reads as it did. -/
def emacsMapsSpec : ChangeSpec := { name := "emacsMaps", fn := fun _ => fun
  | [d] => { results := [.lit (.bool true)], args := [d] }
  | _ => none }
def emacsMapsRow : OpenClaim := { program := "ytlpgpnjplijgiaa", sum := "1e0b15fd7b6400e3ebf6aa60dc63f3861a87dcc5562e420f0f98798bbe26fefb", func := "typebar/typebarlaw17.EmacsMaps", spec := "emacsMaps", unfollowed := true, recurses := true, plainKeys := false, apart := false }
def EmacsMapsSaid : Prop := emacsMapsRow.holds Try.pinned (OpenSpec.ofChange emacsMapsSpec)

/-- ITS FALSE NEIGHBOUR: 'it returns false'. Refute it at one input. -/
def emacsMapsWrong : ChangeSpec := { name := "emacsMaps", fn := fun _ => fun
  | [d] => { results := [.lit (.bool false)], args := [d] }
  | _ => none }
def EmacsMapsWrongFalsely : Prop := emacsMapsRow.holds Try.pinned (OpenSpec.ofChange emacsMapsWrong)

/-- 'typebarlaw17.EmacsInserts': WHATEVER THE INPUT: true; the input reads as it did. -/
def emacsInsertsSpec : ChangeSpec := { name := "emacsInserts", fn := fun _ => fun
  | [d] => { results := [.lit (.bool true)], args := [d] }
  | _ => none }
def emacsInsertsRow : OpenClaim := { program := "ytlpgpnjplijgiaa", sum := "1e0b15fd7b6400e3ebf6aa60dc63f3861a87dcc5562e420f0f98798bbe26fefb", func := "typebar/typebarlaw17.EmacsInserts", spec := "emacsInserts", unfollowed := true, recurses := true, plainKeys := false, apart := false }
def EmacsInsertsSaid : Prop := emacsInsertsRow.holds Try.pinned (OpenSpec.ofChange emacsInsertsSpec)

/-- ITS FALSE NEIGHBOUR: 'it returns false'. Refute it at one input. -/
def emacsInsertsWrong : ChangeSpec := { name := "emacsInserts", fn := fun _ => fun
  | [d] => { results := [.lit (.bool false)], args := [d] }
  | _ => none }
def EmacsInsertsWrongFalsely : Prop := emacsInsertsRow.holds Try.pinned (OpenSpec.ofChange emacsInsertsWrong)

/-- 'typebarlaw17.EmacsFields': WHATEVER THE INPUT: true; the input reads as it did. -/
def emacsFieldsSpec : ChangeSpec := { name := "emacsFields", fn := fun _ => fun
  | [d] => { results := [.lit (.bool true)], args := [d] }
  | _ => none }
def emacsFieldsRow : OpenClaim := { program := "ytlpgpnjplijgiaa", sum := "1e0b15fd7b6400e3ebf6aa60dc63f3861a87dcc5562e420f0f98798bbe26fefb", func := "typebar/typebarlaw17.EmacsFields", spec := "emacsFields", unfollowed := true, recurses := true, plainKeys := false, apart := false }
def EmacsFieldsSaid : Prop := emacsFieldsRow.holds Try.pinned (OpenSpec.ofChange emacsFieldsSpec)

/-- ITS FALSE NEIGHBOUR: 'it returns false'. Refute it at one input. -/
def emacsFieldsWrong : ChangeSpec := { name := "emacsFields", fn := fun _ => fun
  | [d] => { results := [.lit (.bool false)], args := [d] }
  | _ => none }
def EmacsFieldsWrongFalsely : Prop := emacsFieldsRow.holds Try.pinned (OpenSpec.ofChange emacsFieldsWrong)

/-- 'typebarlaw21.FindPlaces': WHATEVER THE INPUT: true; the input reads as it did. -/
def findPlacesSpec : ChangeSpec := { name := "findPlaces", fn := fun _ => fun
  | [d1, d2] => { results := [.lit (.bool true)], args := [d1, d2] }
  | _ => none }
def findPlacesRow : OpenClaim := { program := "ytlpgpnjplijgiaa", sum := "1e0b15fd7b6400e3ebf6aa60dc63f3861a87dcc5562e420f0f98798bbe26fefb", func := "typebar/typebarlaw21.FindPlaces", spec := "findPlaces", unfollowed := true, recurses := true, plainKeys := false, apart := false }
def FindPlacesSaid : Prop := findPlacesRow.holds Try.pinned (OpenSpec.ofChange findPlacesSpec)

/-- ITS FALSE NEIGHBOUR: 'it returns false'. Refute it at one input. -/
def findPlacesWrong : ChangeSpec := { name := "findPlaces", fn := fun _ => fun
  | [d1, d2] => { results := [.lit (.bool false)], args := [d1, d2] }
  | _ => none }
def FindPlacesWrongFalsely : Prop := findPlacesRow.holds Try.pinned (OpenSpec.ofChange findPlacesWrong)

/-- 'typebarlaw21.FindDoes': WHATEVER THE INPUT: true; the input reads as it did. -/
def findDoesSpec : ChangeSpec := { name := "findDoes", fn := fun _ => fun
  | [d1, d2, d3] => { results := [.lit (.bool true)], args := [d1, d2, d3] }
  | _ => none }
def findDoesRow : OpenClaim := { program := "ytlpgpnjplijgiaa", sum := "1e0b15fd7b6400e3ebf6aa60dc63f3861a87dcc5562e420f0f98798bbe26fefb", func := "typebar/typebarlaw21.FindDoes", spec := "findDoes", unfollowed := true, recurses := true, plainKeys := false, apart := false }
def FindDoesSaid : Prop := findDoesRow.holds Try.pinned (OpenSpec.ofChange findDoesSpec)

/-- ITS FALSE NEIGHBOUR: 'it returns false'. Refute it at one input. -/
def findDoesWrong : ChangeSpec := { name := "findDoes", fn := fun _ => fun
  | [d1, d2, d3] => { results := [.lit (.bool false)], args := [d1, d2, d3] }
  | _ => none }
def FindDoesWrongFalsely : Prop := findDoesRow.holds Try.pinned (OpenSpec.ofChange findDoesWrong)

/-- 'typebarlaw21.FindBegins': WHATEVER THE INPUT: true; the input reads as it did. -/
def findBeginsSpec : ChangeSpec := { name := "findBegins", fn := fun _ => fun
  | [d1, d2, d3] => { results := [.lit (.bool true)], args := [d1, d2, d3] }
  | _ => none }
def findBeginsRow : OpenClaim := { program := "ytlpgpnjplijgiaa", sum := "1e0b15fd7b6400e3ebf6aa60dc63f3861a87dcc5562e420f0f98798bbe26fefb", func := "typebar/typebarlaw21.FindBegins", spec := "findBegins", unfollowed := true, recurses := true, plainKeys := false, apart := false }
def FindBeginsSaid : Prop := findBeginsRow.holds Try.pinned (OpenSpec.ofChange findBeginsSpec)

/-- ITS FALSE NEIGHBOUR: 'it returns false'. Refute it at one input. -/
def findBeginsWrong : ChangeSpec := { name := "findBegins", fn := fun _ => fun
  | [d1, d2, d3] => { results := [.lit (.bool false)], args := [d1, d2, d3] }
  | _ => none }
def FindBeginsWrongFalsely : Prop := findBeginsRow.holds Try.pinned (OpenSpec.ofChange findBeginsWrong)

/-- 'typebarlaw21.FindNearest': WHATEVER THE INPUT: true; the input reads as it did. -/
def findNearestSpec : ChangeSpec := { name := "findNearest", fn := fun _ => fun
  | [d1, d2, d3] => { results := [.lit (.bool true)], args := [d1, d2, d3] }
  | _ => none }
def findNearestRow : OpenClaim := { program := "ytlpgpnjplijgiaa", sum := "1e0b15fd7b6400e3ebf6aa60dc63f3861a87dcc5562e420f0f98798bbe26fefb", func := "typebar/typebarlaw21.FindNearest", spec := "findNearest", unfollowed := true, recurses := true, plainKeys := false, apart := false }
def FindNearestSaid : Prop := findNearestRow.holds Try.pinned (OpenSpec.ofChange findNearestSpec)

/-- ITS FALSE NEIGHBOUR: 'it returns false'. Refute it at one input. -/
def findNearestWrong : ChangeSpec := { name := "findNearest", fn := fun _ => fun
  | [d1, d2, d3] => { results := [.lit (.bool false)], args := [d1, d2, d3] }
  | _ => none }
def FindNearestWrongFalsely : Prop := findNearestRow.holds Try.pinned (OpenSpec.ofChange findNearestWrong)

/-- 'typebarlaw21.FindLonger': WHATEVER THE INPUT: true; the input reads as it did. -/
def findLongerSpec : ChangeSpec := { name := "findLonger", fn := fun _ => fun
  | [d1, d2, d3, d4] => { results := [.lit (.bool true)], args := [d1, d2, d3, d4] }
  | _ => none }
def findLongerRow : OpenClaim := { program := "ytlpgpnjplijgiaa", sum := "1e0b15fd7b6400e3ebf6aa60dc63f3861a87dcc5562e420f0f98798bbe26fefb", func := "typebar/typebarlaw21.FindLonger", spec := "findLonger", unfollowed := true, recurses := true, plainKeys := false, apart := false }
def FindLongerSaid : Prop := findLongerRow.holds Try.pinned (OpenSpec.ofChange findLongerSpec)

/-- ITS FALSE NEIGHBOUR: 'it returns false'. Refute it at one input. -/
def findLongerWrong : ChangeSpec := { name := "findLonger", fn := fun _ => fun
  | [d1, d2, d3, d4] => { results := [.lit (.bool false)], args := [d1, d2, d3, d4] }
  | _ => none }
def FindLongerWrongFalsely : Prop := findLongerRow.holds Try.pinned (OpenSpec.ofChange findLongerWrong)

/-- 'typebarlaw20.StashBack': WHATEVER THE INPUT: true; the input reads as it did. -/
def stashBackSpec : ChangeSpec := { name := "stashBack", fn := fun _ => fun
  | [d1, d2, d3, d4, d5] => { results := [.lit (.bool true)], args := [d1, d2, d3, d4, d5] }
  | _ => none }
def stashBackRow : OpenClaim := { program := "ytlpgpnjplijgiaa", sum := "1e0b15fd7b6400e3ebf6aa60dc63f3861a87dcc5562e420f0f98798bbe26fefb", func := "typebar/typebarlaw20.StashBack", spec := "stashBack", inPlace := ["slices.overlaps[typebar/api.Slot]"], unfollowed := true, recurses := true, plainKeys := false, apart := false }
def StashBackSaid : Prop := stashBackRow.holds Try.pinned (OpenSpec.ofChange stashBackSpec)

/-- ITS FALSE NEIGHBOUR: 'it returns false'. Refute it at one input. -/
def stashBackWrong : ChangeSpec := { name := "stashBack", fn := fun _ => fun
  | [d1, d2, d3, d4, d5] => { results := [.lit (.bool false)], args := [d1, d2, d3, d4, d5] }
  | _ => none }
def StashBackWrongFalsely : Prop := stashBackRow.holds Try.pinned (OpenSpec.ofChange stashBackWrong)

/-- 'typebarlaw20.StashStays': WHATEVER THE INPUT: true; the input reads as it did. -/
def stashStaysSpec : ChangeSpec := { name := "stashStays", fn := fun _ => fun
  | [d1, d2, d3, d4] => { results := [.lit (.bool true)], args := [d1, d2, d3, d4] }
  | _ => none }
def stashStaysRow : OpenClaim := { program := "ytlpgpnjplijgiaa", sum := "1e0b15fd7b6400e3ebf6aa60dc63f3861a87dcc5562e420f0f98798bbe26fefb", func := "typebar/typebarlaw20.StashStays", spec := "stashStays", inPlace := ["slices.overlaps[typebar/api.Slot]"], unfollowed := true, recurses := true, plainKeys := false, apart := false }
def StashStaysSaid : Prop := stashStaysRow.holds Try.pinned (OpenSpec.ofChange stashStaysSpec)

/-- ITS FALSE NEIGHBOUR: 'it returns false'. Refute it at one input. -/
def stashStaysWrong : ChangeSpec := { name := "stashStays", fn := fun _ => fun
  | [d1, d2, d3, d4] => { results := [.lit (.bool false)], args := [d1, d2, d3, d4] }
  | _ => none }
def StashStaysWrongFalsely : Prop := stashStaysRow.holds Try.pinned (OpenSpec.ofChange stashStaysWrong)

/- THE SECOND FORM. 'bulk': how many values and letters a reading holds, each counted each time it is reached (what is shared counts as often as it is met; a slice's spare places count too). A statement '..UptoSaid' is the law's where the arguments, and the package variables that the reading takes, are together of bulk at most 1048576: NARROWER than '..Said'. Prove '..Said' where nothing that the law and all that it calls make is longer than what came in: it says more and counts as full. Else prove '..UptoSaid'. A law counts once. -/
mutual
def uptoBulk {H : Type} : DataW H → Nat
  | .lit (.string bytes) => bytes.length + 1
  | .lit _ => 1
  | .nil => 1
  | .ptr d => uptoBulk d + 1
  | .slice elems spare => uptoBulkAll elems + uptoBulkAll spare + 1
  | .agg parts => uptoBulkAll parts + 1
  | .iface _ d => uptoBulk d + 1
  | .map entries => uptoBulkEntries entries + 1
  | .held _ => 1
def uptoBulkAll {H : Type} : List (DataW H) → Nat
  | [] => 0
  | d :: r => uptoBulk d + uptoBulkAll r
def uptoBulkEntries {H : Type} : List (Lit × DataW H) → Nat
  | [] => 0
  | x :: r => uptoBulkEntry x + uptoBulkEntries r
def uptoBulkEntry {H : Type} : Lit × DataW H → Nat
  | (.string bytes, d) => bytes.length + uptoBulk d + 1
  | (_, d) => uptoBulk d + 1
 end
def uptoSmall : (H : Type) → List (DataW H) → Bool := fun _ ds => decide (uptoBulkAll ds ≤ 1048576)
def OpenSpec.upto (s : _root_.Go.ChangeSpec) : _root_.Go.OpenSpec := { _root_.Go.OpenSpec.ofChange s with cond := some uptoSmall }

/-- 'typebarlaw17.EmacsMaps', WHERE WHAT IT READS IS OF BULK AT MOST 1048576: true; the input reads as it did. -/
def emacsMapsUptoRow : OpenClaim := { program := "ytlpgpnjplijgiaa", sum := "1e0b15fd7b6400e3ebf6aa60dc63f3861a87dcc5562e420f0f98798bbe26fefb", func := "typebar/typebarlaw17.EmacsMaps", spec := "emacsMaps", unfollowed := true, recurses := true, plainKeys := false, apart := false, narrowed := true }
def EmacsMapsUptoSaid : Prop := emacsMapsUptoRow.holds Try.pinned (OpenSpec.upto emacsMapsSpec)

/-- 'typebarlaw17.EmacsInserts', WHERE WHAT IT READS IS OF BULK AT MOST 1048576: true; the input reads as it did. -/
def emacsInsertsUptoRow : OpenClaim := { program := "ytlpgpnjplijgiaa", sum := "1e0b15fd7b6400e3ebf6aa60dc63f3861a87dcc5562e420f0f98798bbe26fefb", func := "typebar/typebarlaw17.EmacsInserts", spec := "emacsInserts", unfollowed := true, recurses := true, plainKeys := false, apart := false, narrowed := true }
def EmacsInsertsUptoSaid : Prop := emacsInsertsUptoRow.holds Try.pinned (OpenSpec.upto emacsInsertsSpec)

/-- 'typebarlaw17.EmacsFields', WHERE WHAT IT READS IS OF BULK AT MOST 1048576: true; the input reads as it did. -/
def emacsFieldsUptoRow : OpenClaim := { program := "ytlpgpnjplijgiaa", sum := "1e0b15fd7b6400e3ebf6aa60dc63f3861a87dcc5562e420f0f98798bbe26fefb", func := "typebar/typebarlaw17.EmacsFields", spec := "emacsFields", unfollowed := true, recurses := true, plainKeys := false, apart := false, narrowed := true }
def EmacsFieldsUptoSaid : Prop := emacsFieldsUptoRow.holds Try.pinned (OpenSpec.upto emacsFieldsSpec)

/-- 'typebarlaw21.FindPlaces', WHERE WHAT IT READS IS OF BULK AT MOST 1048576: true; the input reads as it did. -/
def findPlacesUptoRow : OpenClaim := { program := "ytlpgpnjplijgiaa", sum := "1e0b15fd7b6400e3ebf6aa60dc63f3861a87dcc5562e420f0f98798bbe26fefb", func := "typebar/typebarlaw21.FindPlaces", spec := "findPlaces", unfollowed := true, recurses := true, plainKeys := false, apart := false, narrowed := true }
def FindPlacesUptoSaid : Prop := findPlacesUptoRow.holds Try.pinned (OpenSpec.upto findPlacesSpec)

/-- 'typebarlaw21.FindDoes', WHERE WHAT IT READS IS OF BULK AT MOST 1048576: true; the input reads as it did. -/
def findDoesUptoRow : OpenClaim := { program := "ytlpgpnjplijgiaa", sum := "1e0b15fd7b6400e3ebf6aa60dc63f3861a87dcc5562e420f0f98798bbe26fefb", func := "typebar/typebarlaw21.FindDoes", spec := "findDoes", unfollowed := true, recurses := true, plainKeys := false, apart := false, narrowed := true }
def FindDoesUptoSaid : Prop := findDoesUptoRow.holds Try.pinned (OpenSpec.upto findDoesSpec)

/-- 'typebarlaw21.FindBegins', WHERE WHAT IT READS IS OF BULK AT MOST 1048576: true; the input reads as it did. -/
def findBeginsUptoRow : OpenClaim := { program := "ytlpgpnjplijgiaa", sum := "1e0b15fd7b6400e3ebf6aa60dc63f3861a87dcc5562e420f0f98798bbe26fefb", func := "typebar/typebarlaw21.FindBegins", spec := "findBegins", unfollowed := true, recurses := true, plainKeys := false, apart := false, narrowed := true }
def FindBeginsUptoSaid : Prop := findBeginsUptoRow.holds Try.pinned (OpenSpec.upto findBeginsSpec)

/-- 'typebarlaw21.FindNearest', WHERE WHAT IT READS IS OF BULK AT MOST 1048576: true; the input reads as it did. -/
def findNearestUptoRow : OpenClaim := { program := "ytlpgpnjplijgiaa", sum := "1e0b15fd7b6400e3ebf6aa60dc63f3861a87dcc5562e420f0f98798bbe26fefb", func := "typebar/typebarlaw21.FindNearest", spec := "findNearest", unfollowed := true, recurses := true, plainKeys := false, apart := false, narrowed := true }
def FindNearestUptoSaid : Prop := findNearestUptoRow.holds Try.pinned (OpenSpec.upto findNearestSpec)

/-- 'typebarlaw21.FindLonger', WHERE WHAT IT READS IS OF BULK AT MOST 1048576: true; the input reads as it did. -/
def findLongerUptoRow : OpenClaim := { program := "ytlpgpnjplijgiaa", sum := "1e0b15fd7b6400e3ebf6aa60dc63f3861a87dcc5562e420f0f98798bbe26fefb", func := "typebar/typebarlaw21.FindLonger", spec := "findLonger", unfollowed := true, recurses := true, plainKeys := false, apart := false, narrowed := true }
def FindLongerUptoSaid : Prop := findLongerUptoRow.holds Try.pinned (OpenSpec.upto findLongerSpec)

/-- 'typebarlaw20.StashBack', WHERE WHAT IT READS IS OF BULK AT MOST 1048576: true; the input reads as it did. -/
def stashBackUptoRow : OpenClaim := { program := "ytlpgpnjplijgiaa", sum := "1e0b15fd7b6400e3ebf6aa60dc63f3861a87dcc5562e420f0f98798bbe26fefb", func := "typebar/typebarlaw20.StashBack", spec := "stashBack", inPlace := ["slices.overlaps[typebar/api.Slot]"], unfollowed := true, recurses := true, plainKeys := false, apart := false, narrowed := true }
def StashBackUptoSaid : Prop := stashBackUptoRow.holds Try.pinned (OpenSpec.upto stashBackSpec)

/-- 'typebarlaw20.StashStays', WHERE WHAT IT READS IS OF BULK AT MOST 1048576: true; the input reads as it did. -/
def stashStaysUptoRow : OpenClaim := { program := "ytlpgpnjplijgiaa", sum := "1e0b15fd7b6400e3ebf6aa60dc63f3861a87dcc5562e420f0f98798bbe26fefb", func := "typebar/typebarlaw20.StashStays", spec := "stashStays", inPlace := ["slices.overlaps[typebar/api.Slot]"], unfollowed := true, recurses := true, plainKeys := false, apart := false, narrowed := true }
def StashStaysUptoSaid : Prop := stashStaysUptoRow.holds Try.pinned (OpenSpec.upto stashStaysSpec)

end Rows
end Go.Proofs.Ytlpgpnjplijgiaa
