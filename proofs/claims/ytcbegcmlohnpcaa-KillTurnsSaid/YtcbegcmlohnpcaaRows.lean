/-
  No cell of these rows narrows 'for every input' (looked for: loops, veiled, ifaces, maps, wideKeys, modest, calm, conditions, laid).
  DERIVED. THE GIVEN ROWS OF THIS SEAT. 12 by the template 'for every input the law returns true; each argument reads behind the call as it read before'; 0 by the template 'total and deterministic' (their statements: YtcbegcmlohnpcaaTotals.lean).
  GIVEN WITH THE SEED: the statements are not yours to turn. If you find one false, say at which input.
  Laid BY PROGRAM, IN A SANDBOX (cutbox-rows.mjs): the forced cells as the released guide's own fill.sh prints them over the translation ad062efe78eabd9a… (all of the seat's roots in one cut). By AI agents, Wed Nov 11 2026. No macro, syntax, notation, axiom, sorry.
-/
import Derived.Test.YtcbegcmlohnpcaaChecked
import GoSem.Claim
import GoSem.ClaimJoined
import GoSem.ClaimMapViews
import Derived.JoinedTies
import Derived.KernelRfl
namespace Go.Proofs.Ytcbegcmlohnpcaa
/- THE CELL 'sum', in the pinned program and in every row, IS THE sha256 OF THE DUMP (.gsa) THAT YtcbegcmlohnpcaaProg.lean LOADS. Nothing in Lean hashes anything: it is a label: what it is worth is what the hold of that sum in a sandbox is worth. -/
noncomputable def Try.pinned : Pinned := { name := "ytcbegcmlohnpcaa", sum := "ad062efe78eabd9ab05731834dc84bd79c721ba5177d704ac03e990faee92873", checked := Try.checked }
namespace Rows
def none {H : Type} : Left H := { results := [], args := [] }

/-- 'typebarlaw17.EmacsMaps': WHATEVER THE INPUT: true; the input reads as it did. -/
def emacsMapsSpec : ChangeSpec := { name := "emacsMaps", fn := fun _ => fun
  | [d] => { results := [.lit (.bool true)], args := [d] }
  | _ => none }
def emacsMapsRow : OpenClaim := { program := "ytcbegcmlohnpcaa", sum := "ad062efe78eabd9ab05731834dc84bd79c721ba5177d704ac03e990faee92873", func := "typebar/typebarlaw17.EmacsMaps", spec := "emacsMaps", unfollowed := true, recurses := true, plainKeys := false, apart := false }
def EmacsMapsSaid : Prop := emacsMapsRow.holds Try.pinned (OpenSpec.ofChange emacsMapsSpec)

/-- ITS FALSE NEIGHBOUR: 'it returns false'. Refute it at one input. -/
def emacsMapsWrong : ChangeSpec := { name := "emacsMaps", fn := fun _ => fun
  | [d] => { results := [.lit (.bool false)], args := [d] }
  | _ => none }
def EmacsMapsWrongFalsely : Prop := emacsMapsRow.holds Try.pinned (OpenSpec.ofChange emacsMapsWrong)

/-- 'typebarlaw17.EmacsInserts': WHATEVER THE INPUT: true; the input reads as it did. -/
def emacsInsertsSpec : ChangeSpec := { name := "emacsInserts", fn := fun _ => fun
  | [d] => { results := [.lit (.bool true)], args := [d] }
  | _ => none }
def emacsInsertsRow : OpenClaim := { program := "ytcbegcmlohnpcaa", sum := "ad062efe78eabd9ab05731834dc84bd79c721ba5177d704ac03e990faee92873", func := "typebar/typebarlaw17.EmacsInserts", spec := "emacsInserts", unfollowed := true, recurses := true, plainKeys := false, apart := false }
def EmacsInsertsSaid : Prop := emacsInsertsRow.holds Try.pinned (OpenSpec.ofChange emacsInsertsSpec)

/-- ITS FALSE NEIGHBOUR: 'it returns false'. Refute it at one input. -/
def emacsInsertsWrong : ChangeSpec := { name := "emacsInserts", fn := fun _ => fun
  | [d] => { results := [.lit (.bool false)], args := [d] }
  | _ => none }
def EmacsInsertsWrongFalsely : Prop := emacsInsertsRow.holds Try.pinned (OpenSpec.ofChange emacsInsertsWrong)

/-- 'typebarlaw17.EmacsFields': WHATEVER THE INPUT: true; the input reads as it did. -/
def emacsFieldsSpec : ChangeSpec := { name := "emacsFields", fn := fun _ => fun
  | [d] => { results := [.lit (.bool true)], args := [d] }
  | _ => none }
def emacsFieldsRow : OpenClaim := { program := "ytcbegcmlohnpcaa", sum := "ad062efe78eabd9ab05731834dc84bd79c721ba5177d704ac03e990faee92873", func := "typebar/typebarlaw17.EmacsFields", spec := "emacsFields", unfollowed := true, recurses := true, plainKeys := false, apart := false }
def EmacsFieldsSaid : Prop := emacsFieldsRow.holds Try.pinned (OpenSpec.ofChange emacsFieldsSpec)

/-- ITS FALSE NEIGHBOUR: 'it returns false'. Refute it at one input. -/
def emacsFieldsWrong : ChangeSpec := { name := "emacsFields", fn := fun _ => fun
  | [d] => { results := [.lit (.bool false)], args := [d] }
  | _ => none }
def EmacsFieldsWrongFalsely : Prop := emacsFieldsRow.holds Try.pinned (OpenSpec.ofChange emacsFieldsWrong)

/-- 'typebarlaw12.KillAdds': WHATEVER THE INPUT: true; the input reads as it did. -/
def killAddsSpec : ChangeSpec := { name := "killAdds", fn := fun _ => fun
  | [d1, d2, d3] => { results := [.lit (.bool true)], args := [d1, d2, d3] }
  | _ => none }
def killAddsRow : OpenClaim := { program := "ytcbegcmlohnpcaa", sum := "ad062efe78eabd9ab05731834dc84bd79c721ba5177d704ac03e990faee92873", func := "typebar/typebarlaw12.KillAdds", spec := "killAdds", plainKeys := false, apart := false }
def KillAddsSaid : Prop := killAddsRow.holds Try.pinned (OpenSpec.ofChange killAddsSpec)

/-- ITS FALSE NEIGHBOUR: 'it returns false'. Refute it at one input. -/
def killAddsWrong : ChangeSpec := { name := "killAdds", fn := fun _ => fun
  | [d1, d2, d3] => { results := [.lit (.bool false)], args := [d1, d2, d3] }
  | _ => none }
def KillAddsWrongFalsely : Prop := killAddsRow.holds Try.pinned (OpenSpec.ofChange killAddsWrong)

/-- 'typebarlaw12.KillGets': WHATEVER THE INPUT: true; the input reads as it did. -/
def killGetsSpec : ChangeSpec := { name := "killGets", fn := fun _ => fun
  | [d1, d2] => { results := [.lit (.bool true)], args := [d1, d2] }
  | _ => none }
def killGetsRow : OpenClaim := { program := "ytcbegcmlohnpcaa", sum := "ad062efe78eabd9ab05731834dc84bd79c721ba5177d704ac03e990faee92873", func := "typebar/typebarlaw12.KillGets", spec := "killGets", plainKeys := false, apart := false }
def KillGetsSaid : Prop := killGetsRow.holds Try.pinned (OpenSpec.ofChange killGetsSpec)

/-- ITS FALSE NEIGHBOUR: 'it returns false'. Refute it at one input. -/
def killGetsWrong : ChangeSpec := { name := "killGets", fn := fun _ => fun
  | [d1, d2] => { results := [.lit (.bool false)], args := [d1, d2] }
  | _ => none }
def KillGetsWrongFalsely : Prop := killGetsRow.holds Try.pinned (OpenSpec.ofChange killGetsWrong)

/-- 'typebarlaw12.KillNewest': WHATEVER THE INPUT: true; the input reads as it did. -/
def killNewestSpec : ChangeSpec := { name := "killNewest", fn := fun _ => fun
  | [d1, d2, d3] => { results := [.lit (.bool true)], args := [d1, d2, d3] }
  | _ => none }
def killNewestRow : OpenClaim := { program := "ytcbegcmlohnpcaa", sum := "ad062efe78eabd9ab05731834dc84bd79c721ba5177d704ac03e990faee92873", func := "typebar/typebarlaw12.KillNewest", spec := "killNewest", plainKeys := false, apart := false }
def KillNewestSaid : Prop := killNewestRow.holds Try.pinned (OpenSpec.ofChange killNewestSpec)

/-- ITS FALSE NEIGHBOUR: 'it returns false'. Refute it at one input. -/
def killNewestWrong : ChangeSpec := { name := "killNewest", fn := fun _ => fun
  | [d1, d2, d3] => { results := [.lit (.bool false)], args := [d1, d2, d3] }
  | _ => none }
def KillNewestWrongFalsely : Prop := killNewestRow.holds Try.pinned (OpenSpec.ofChange killNewestWrong)

/-- 'typebarlaw12.KillTurns': WHATEVER THE INPUT: true; the input reads as it did. -/
def killTurnsSpec : ChangeSpec := { name := "killTurns", fn := fun _ => fun
  | [d1, d2] => { results := [.lit (.bool true)], args := [d1, d2] }
  | _ => none }
def killTurnsRow : OpenClaim := { program := "ytcbegcmlohnpcaa", sum := "ad062efe78eabd9ab05731834dc84bd79c721ba5177d704ac03e990faee92873", func := "typebar/typebarlaw12.KillTurns", spec := "killTurns", plainKeys := false, apart := false }
def KillTurnsSaid : Prop := killTurnsRow.holds Try.pinned (OpenSpec.ofChange killTurnsSpec)

/-- ITS FALSE NEIGHBOUR: 'it returns false'. Refute it at one input. -/
def killTurnsWrong : ChangeSpec := { name := "killTurns", fn := fun _ => fun
  | [d1, d2] => { results := [.lit (.bool false)], args := [d1, d2] }
  | _ => none }
def KillTurnsWrongFalsely : Prop := killTurnsRow.holds Try.pinned (OpenSpec.ofChange killTurnsWrong)

/-- 'typebarlaw10.GapDoes': WHATEVER THE INPUT: true; the input reads as it did. -/
def gapDoesSpec : ChangeSpec := { name := "gapDoes", fn := fun _ => fun
  | [d1, d2, d3] => { results := [.lit (.bool true)], args := [d1, d2, d3] }
  | _ => none }
def gapDoesRow : OpenClaim := { program := "ytcbegcmlohnpcaa", sum := "ad062efe78eabd9ab05731834dc84bd79c721ba5177d704ac03e990faee92873", func := "typebar/typebarlaw10.GapDoes", spec := "gapDoes", plainKeys := false, apart := false }
def GapDoesSaid : Prop := gapDoesRow.holds Try.pinned (OpenSpec.ofChange gapDoesSpec)

/-- ITS FALSE NEIGHBOUR: 'it returns false'. Refute it at one input. -/
def gapDoesWrong : ChangeSpec := { name := "gapDoes", fn := fun _ => fun
  | [d1, d2, d3] => { results := [.lit (.bool false)], args := [d1, d2, d3] }
  | _ => none }
def GapDoesWrongFalsely : Prop := gapDoesRow.holds Try.pinned (OpenSpec.ofChange gapDoesWrong)

/-- 'typebarlaw10.GapInserts': WHATEVER THE INPUT: true; the input reads as it did. -/
def gapInsertsSpec : ChangeSpec := { name := "gapInserts", fn := fun _ => fun
  | [d1, d2] => { results := [.lit (.bool true)], args := [d1, d2] }
  | _ => none }
def gapInsertsRow : OpenClaim := { program := "ytcbegcmlohnpcaa", sum := "ad062efe78eabd9ab05731834dc84bd79c721ba5177d704ac03e990faee92873", func := "typebar/typebarlaw10.GapInserts", spec := "gapInserts", plainKeys := false, apart := false }
def GapInsertsSaid : Prop := gapInsertsRow.holds Try.pinned (OpenSpec.ofChange gapInsertsSpec)

/-- ITS FALSE NEIGHBOUR: 'it returns false'. Refute it at one input. -/
def gapInsertsWrong : ChangeSpec := { name := "gapInserts", fn := fun _ => fun
  | [d1, d2] => { results := [.lit (.bool false)], args := [d1, d2] }
  | _ => none }
def GapInsertsWrongFalsely : Prop := gapInsertsRow.holds Try.pinned (OpenSpec.ofChange gapInsertsWrong)

/-- 'typebarlaw10.GapCuts': WHATEVER THE INPUT: true; the input reads as it did. -/
def gapCutsSpec : ChangeSpec := { name := "gapCuts", fn := fun _ => fun
  | [d1, d2] => { results := [.lit (.bool true)], args := [d1, d2] }
  | _ => none }
def gapCutsRow : OpenClaim := { program := "ytcbegcmlohnpcaa", sum := "ad062efe78eabd9ab05731834dc84bd79c721ba5177d704ac03e990faee92873", func := "typebar/typebarlaw10.GapCuts", spec := "gapCuts", plainKeys := false, apart := false }
def GapCutsSaid : Prop := gapCutsRow.holds Try.pinned (OpenSpec.ofChange gapCutsSpec)

/-- ITS FALSE NEIGHBOUR: 'it returns false'. Refute it at one input. -/
def gapCutsWrong : ChangeSpec := { name := "gapCuts", fn := fun _ => fun
  | [d1, d2] => { results := [.lit (.bool false)], args := [d1, d2] }
  | _ => none }
def GapCutsWrongFalsely : Prop := gapCutsRow.holds Try.pinned (OpenSpec.ofChange gapCutsWrong)

/-- 'typebarlaw10.GapStays': WHATEVER THE INPUT: true; the input reads as it did. -/
def gapStaysSpec : ChangeSpec := { name := "gapStays", fn := fun _ => fun
  | [d1, d2, d3] => { results := [.lit (.bool true)], args := [d1, d2, d3] }
  | _ => none }
def gapStaysRow : OpenClaim := { program := "ytcbegcmlohnpcaa", sum := "ad062efe78eabd9ab05731834dc84bd79c721ba5177d704ac03e990faee92873", func := "typebar/typebarlaw10.GapStays", spec := "gapStays", plainKeys := false, apart := false }
def GapStaysSaid : Prop := gapStaysRow.holds Try.pinned (OpenSpec.ofChange gapStaysSpec)

/-- ITS FALSE NEIGHBOUR: 'it returns false'. Refute it at one input. -/
def gapStaysWrong : ChangeSpec := { name := "gapStays", fn := fun _ => fun
  | [d1, d2, d3] => { results := [.lit (.bool false)], args := [d1, d2, d3] }
  | _ => none }
def GapStaysWrongFalsely : Prop := gapStaysRow.holds Try.pinned (OpenSpec.ofChange gapStaysWrong)

/-- 'typebarlaw10.GapBack': WHATEVER THE INPUT: true; the input reads as it did. -/
def gapBackSpec : ChangeSpec := { name := "gapBack", fn := fun _ => fun
  | [d1, d2, d3] => { results := [.lit (.bool true)], args := [d1, d2, d3] }
  | _ => none }
def gapBackRow : OpenClaim := { program := "ytcbegcmlohnpcaa", sum := "ad062efe78eabd9ab05731834dc84bd79c721ba5177d704ac03e990faee92873", func := "typebar/typebarlaw10.GapBack", spec := "gapBack", plainKeys := false, apart := false }
def GapBackSaid : Prop := gapBackRow.holds Try.pinned (OpenSpec.ofChange gapBackSpec)

/-- ITS FALSE NEIGHBOUR: 'it returns false'. Refute it at one input. -/
def gapBackWrong : ChangeSpec := { name := "gapBack", fn := fun _ => fun
  | [d1, d2, d3] => { results := [.lit (.bool false)], args := [d1, d2, d3] }
  | _ => none }
def GapBackWrongFalsely : Prop := gapBackRow.holds Try.pinned (OpenSpec.ofChange gapBackWrong)

/- THE SECOND FORM. 'bulk': how many values and letters a reading holds, each counted each time it is reached (what is shared counts as often as it is met; a slice's spare places count too). A statement '..UptoSaid' is the law's where the arguments, and the package variables that the reading takes, are together of bulk at most 1048576: NARROWER than '..Said'. Prove '..Said' where nothing that the law and all that it calls make is longer than what came in: it says more and counts as full. Else prove '..UptoSaid'. A law counts once. -/
mutual
def uptoBulk {H : Type} : DataW H → Nat
  | .lit (.string bytes) => bytes.length + 1
  | .lit _ => 1
  | .nil => 1
  | .ptr d => uptoBulk d + 1
  | .slice elems spare => uptoBulkAll elems + uptoBulkAll spare + 1
  | .agg parts => uptoBulkAll parts + 1
  | .iface _ d => uptoBulk d + 1
  | .map entries => uptoBulkEntries entries + 1
  | .held _ => 1
def uptoBulkAll {H : Type} : List (DataW H) → Nat
  | [] => 0
  | d :: r => uptoBulk d + uptoBulkAll r
def uptoBulkEntries {H : Type} : List (Lit × DataW H) → Nat
  | [] => 0
  | x :: r => uptoBulkEntry x + uptoBulkEntries r
def uptoBulkEntry {H : Type} : Lit × DataW H → Nat
  | (.string bytes, d) => bytes.length + uptoBulk d + 1
  | (_, d) => uptoBulk d + 1
 end
def uptoSmall : (H : Type) → List (DataW H) → Bool := fun _ ds => decide (uptoBulkAll ds ≤ 1048576)
def OpenSpec.upto (s : _root_.Go.ChangeSpec) : _root_.Go.OpenSpec := { _root_.Go.OpenSpec.ofChange s with cond := some uptoSmall }

/-- 'typebarlaw17.EmacsMaps', WHERE WHAT IT READS IS OF BULK AT MOST 1048576: true; the input reads as it did. -/
def emacsMapsUptoRow : OpenClaim := { program := "ytcbegcmlohnpcaa", sum := "ad062efe78eabd9ab05731834dc84bd79c721ba5177d704ac03e990faee92873", func := "typebar/typebarlaw17.EmacsMaps", spec := "emacsMaps", unfollowed := true, recurses := true, plainKeys := false, apart := false, narrowed := true }
def EmacsMapsUptoSaid : Prop := emacsMapsUptoRow.holds Try.pinned (OpenSpec.upto emacsMapsSpec)

/-- 'typebarlaw17.EmacsInserts', WHERE WHAT IT READS IS OF BULK AT MOST 1048576: true; the input reads as it did. -/
def emacsInsertsUptoRow : OpenClaim := { program := "ytcbegcmlohnpcaa", sum := "ad062efe78eabd9ab05731834dc84bd79c721ba5177d704ac03e990faee92873", func := "typebar/typebarlaw17.EmacsInserts", spec := "emacsInserts", unfollowed := true, recurses := true, plainKeys := false, apart := false, narrowed := true }
def EmacsInsertsUptoSaid : Prop := emacsInsertsUptoRow.holds Try.pinned (OpenSpec.upto emacsInsertsSpec)

/-- 'typebarlaw17.EmacsFields', WHERE WHAT IT READS IS OF BULK AT MOST 1048576: true; the input reads as it did. -/
def emacsFieldsUptoRow : OpenClaim := { program := "ytcbegcmlohnpcaa", sum := "ad062efe78eabd9ab05731834dc84bd79c721ba5177d704ac03e990faee92873", func := "typebar/typebarlaw17.EmacsFields", spec := "emacsFields", unfollowed := true, recurses := true, plainKeys := false, apart := false, narrowed := true }
def EmacsFieldsUptoSaid : Prop := emacsFieldsUptoRow.holds Try.pinned (OpenSpec.upto emacsFieldsSpec)

/-- 'typebarlaw12.KillAdds', WHERE WHAT IT READS IS OF BULK AT MOST 1048576: true; the input reads as it did. -/
def killAddsUptoRow : OpenClaim := { program := "ytcbegcmlohnpcaa", sum := "ad062efe78eabd9ab05731834dc84bd79c721ba5177d704ac03e990faee92873", func := "typebar/typebarlaw12.KillAdds", spec := "killAdds", plainKeys := false, apart := false, narrowed := true }
def KillAddsUptoSaid : Prop := killAddsUptoRow.holds Try.pinned (OpenSpec.upto killAddsSpec)

/-- 'typebarlaw12.KillGets', WHERE WHAT IT READS IS OF BULK AT MOST 1048576: true; the input reads as it did. -/
def killGetsUptoRow : OpenClaim := { program := "ytcbegcmlohnpcaa", sum := "ad062efe78eabd9ab05731834dc84bd79c721ba5177d704ac03e990faee92873", func := "typebar/typebarlaw12.KillGets", spec := "killGets", plainKeys := false, apart := false, narrowed := true }
def KillGetsUptoSaid : Prop := killGetsUptoRow.holds Try.pinned (OpenSpec.upto killGetsSpec)

/-- 'typebarlaw12.KillNewest', WHERE WHAT IT READS IS OF BULK AT MOST 1048576: true; the input reads as it did. -/
def killNewestUptoRow : OpenClaim := { program := "ytcbegcmlohnpcaa", sum := "ad062efe78eabd9ab05731834dc84bd79c721ba5177d704ac03e990faee92873", func := "typebar/typebarlaw12.KillNewest", spec := "killNewest", plainKeys := false, apart := false, narrowed := true }
def KillNewestUptoSaid : Prop := killNewestUptoRow.holds Try.pinned (OpenSpec.upto killNewestSpec)

/-- 'typebarlaw12.KillTurns', WHERE WHAT IT READS IS OF BULK AT MOST 1048576: true; the input reads as it did. -/
def killTurnsUptoRow : OpenClaim := { program := "ytcbegcmlohnpcaa", sum := "ad062efe78eabd9ab05731834dc84bd79c721ba5177d704ac03e990faee92873", func := "typebar/typebarlaw12.KillTurns", spec := "killTurns", plainKeys := false, apart := false, narrowed := true }
def KillTurnsUptoSaid : Prop := killTurnsUptoRow.holds Try.pinned (OpenSpec.upto killTurnsSpec)

/-- 'typebarlaw10.GapDoes', WHERE WHAT IT READS IS OF BULK AT MOST 1048576: true; the input reads as it did. -/
def gapDoesUptoRow : OpenClaim := { program := "ytcbegcmlohnpcaa", sum := "ad062efe78eabd9ab05731834dc84bd79c721ba5177d704ac03e990faee92873", func := "typebar/typebarlaw10.GapDoes", spec := "gapDoes", plainKeys := false, apart := false, narrowed := true }
def GapDoesUptoSaid : Prop := gapDoesUptoRow.holds Try.pinned (OpenSpec.upto gapDoesSpec)

/-- 'typebarlaw10.GapInserts', WHERE WHAT IT READS IS OF BULK AT MOST 1048576: true; the input reads as it did. -/
def gapInsertsUptoRow : OpenClaim := { program := "ytcbegcmlohnpcaa", sum := "ad062efe78eabd9ab05731834dc84bd79c721ba5177d704ac03e990faee92873", func := "typebar/typebarlaw10.GapInserts", spec := "gapInserts", plainKeys := false, apart := false, narrowed := true }
def GapInsertsUptoSaid : Prop := gapInsertsUptoRow.holds Try.pinned (OpenSpec.upto gapInsertsSpec)

/-- 'typebarlaw10.GapCuts', WHERE WHAT IT READS IS OF BULK AT MOST 1048576: true; the input reads as it did. -/
def gapCutsUptoRow : OpenClaim := { program := "ytcbegcmlohnpcaa", sum := "ad062efe78eabd9ab05731834dc84bd79c721ba5177d704ac03e990faee92873", func := "typebar/typebarlaw10.GapCuts", spec := "gapCuts", plainKeys := false, apart := false, narrowed := true }
def GapCutsUptoSaid : Prop := gapCutsUptoRow.holds Try.pinned (OpenSpec.upto gapCutsSpec)

/-- 'typebarlaw10.GapStays', WHERE WHAT IT READS IS OF BULK AT MOST 1048576: true; the input reads as it did. -/
def gapStaysUptoRow : OpenClaim := { program := "ytcbegcmlohnpcaa", sum := "ad062efe78eabd9ab05731834dc84bd79c721ba5177d704ac03e990faee92873", func := "typebar/typebarlaw10.GapStays", spec := "gapStays", plainKeys := false, apart := false, narrowed := true }
def GapStaysUptoSaid : Prop := gapStaysUptoRow.holds Try.pinned (OpenSpec.upto gapStaysSpec)

/-- 'typebarlaw10.GapBack', WHERE WHAT IT READS IS OF BULK AT MOST 1048576: true; the input reads as it did. -/
def gapBackUptoRow : OpenClaim := { program := "ytcbegcmlohnpcaa", sum := "ad062efe78eabd9ab05731834dc84bd79c721ba5177d704ac03e990faee92873", func := "typebar/typebarlaw10.GapBack", spec := "gapBack", plainKeys := false, apart := false, narrowed := true }
def GapBackUptoSaid : Prop := gapBackUptoRow.holds Try.pinned (OpenSpec.upto gapBackSpec)

end Rows
end Go.Proofs.Ytcbegcmlohnpcaa
