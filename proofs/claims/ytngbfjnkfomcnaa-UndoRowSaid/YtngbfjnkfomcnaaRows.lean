/-
  No cell of these rows narrows 'for every input' (looked for: loops, veiled, ifaces, maps, wideKeys, modest, calm, conditions, laid).
  DERIVED. THE GIVEN ROWS OF THIS SEAT. 12 by the template 'for every input the law returns true; each argument reads behind the call as it read before'; 0 by the template 'total and deterministic' (their statements: YtngbfjnkfomcnaaTotals.lean).
  GIVEN WITH THE SEED: the statements are not yours to turn. If you find one false, say at which input.
  Laid BY PROGRAM, IN A SANDBOX (cutbox-rows.mjs): the forced cells as the released guide's own fill.sh prints them over the translation 41fabe9fc09d695f… (all of the seat's roots in one cut). By AI agents, Wed Nov 11 2026. No macro, syntax, notation, axiom, sorry.
-/
import Derived.Test.YtngbfjnkfomcnaaChecked
import GoSem.Claim
import GoSem.ClaimJoined
import GoSem.ClaimMapViews
import Derived.JoinedTies
import Derived.KernelRfl
namespace Go.Proofs.Ytngbfjnkfomcnaa
/- THE CELL 'sum', in the pinned program and in every row, IS THE sha256 OF THE DUMP (.gsa) THAT YtngbfjnkfomcnaaProg.lean LOADS. Nothing in Lean hashes anything: it is a label: what it is worth is what the hold of that sum in a sandbox is worth. -/
noncomputable def Try.pinned : Pinned := { name := "ytngbfjnkfomcnaa", sum := "41fabe9fc09d695f65ce33c7d4a48e5fd6534af228698a96b42f5d7fc4bfaef4", checked := Try.checked }
namespace Rows
def none {H : Type} : Left H := { results := [], args := [] }

/-- 'typebarlaw13.UndoDoes': WHATEVER THE INPUT: true; the input reads as it did. -/
def undoDoesSpec : ChangeSpec := { name := "undoDoes", fn := fun _ => fun
  | [d1, d2] => { results := [.lit (.bool true)], args := [d1, d2] }
  | _ => none }
def undoDoesRow : OpenClaim := { program := "ytngbfjnkfomcnaa", sum := "41fabe9fc09d695f65ce33c7d4a48e5fd6534af228698a96b42f5d7fc4bfaef4", func := "typebar/typebarlaw13.UndoDoes", spec := "undoDoes", apart := false }
def UndoDoesSaid : Prop := undoDoesRow.holds Try.pinned (OpenSpec.ofChange undoDoesSpec)

/-- ITS FALSE NEIGHBOUR: 'it returns false'. Refute it at one input. -/
def undoDoesWrong : ChangeSpec := { name := "undoDoes", fn := fun _ => fun
  | [d1, d2] => { results := [.lit (.bool false)], args := [d1, d2] }
  | _ => none }
def UndoDoesWrongFalsely : Prop := undoDoesRow.holds Try.pinned (OpenSpec.ofChange undoDoesWrong)

/-- 'typebarlaw13.UndoBack': WHATEVER THE INPUT: true; the input reads as it did. -/
def undoBackSpec : ChangeSpec := { name := "undoBack", fn := fun _ => fun
  | [d1, d2] => { results := [.lit (.bool true)], args := [d1, d2] }
  | _ => none }
def undoBackRow : OpenClaim := { program := "ytngbfjnkfomcnaa", sum := "41fabe9fc09d695f65ce33c7d4a48e5fd6534af228698a96b42f5d7fc4bfaef4", func := "typebar/typebarlaw13.UndoBack", spec := "undoBack", apart := false }
def UndoBackSaid : Prop := undoBackRow.holds Try.pinned (OpenSpec.ofChange undoBackSpec)

/-- ITS FALSE NEIGHBOUR: 'it returns false'. Refute it at one input. -/
def undoBackWrong : ChangeSpec := { name := "undoBack", fn := fun _ => fun
  | [d1, d2] => { results := [.lit (.bool false)], args := [d1, d2] }
  | _ => none }
def UndoBackWrongFalsely : Prop := undoBackRow.holds Try.pinned (OpenSpec.ofChange undoBackWrong)

/-- 'typebarlaw13.UndoRow': WHATEVER THE INPUT: true; the input reads as it did. -/
def undoRowSpec : ChangeSpec := { name := "undoRow", fn := fun _ => fun
  | [d] => { results := [.lit (.bool true)], args := [d] }
  | _ => none }
def undoRowRow : OpenClaim := { program := "ytngbfjnkfomcnaa", sum := "41fabe9fc09d695f65ce33c7d4a48e5fd6534af228698a96b42f5d7fc4bfaef4", func := "typebar/typebarlaw13.UndoRow", spec := "undoRow", apart := false }
def UndoRowSaid : Prop := undoRowRow.holds Try.pinned (OpenSpec.ofChange undoRowSpec)

/-- ITS FALSE NEIGHBOUR: 'it returns false'. Refute it at one input. -/
def undoRowWrong : ChangeSpec := { name := "undoRow", fn := fun _ => fun
  | [d] => { results := [.lit (.bool false)], args := [d] }
  | _ => none }
def UndoRowWrongFalsely : Prop := undoRowRow.holds Try.pinned (OpenSpec.ofChange undoRowWrong)

/-- 'typebarlaw14.ShapeCases': WHATEVER THE INPUT: true; the input reads as it did. -/
def shapeCasesSpec : ChangeSpec := { name := "shapeCases", fn := fun _ => fun
  | [d] => { results := [.lit (.bool true)], args := [d] }
  | _ => none }
def shapeCasesRow : OpenClaim := { program := "ytngbfjnkfomcnaa", sum := "41fabe9fc09d695f65ce33c7d4a48e5fd6534af228698a96b42f5d7fc4bfaef4", func := "typebar/typebarlaw14.ShapeCases", spec := "shapeCases", apart := false }
def ShapeCasesSaid : Prop := shapeCasesRow.holds Try.pinned (OpenSpec.ofChange shapeCasesSpec)

/-- ITS FALSE NEIGHBOUR: 'it returns false'. Refute it at one input. -/
def shapeCasesWrong : ChangeSpec := { name := "shapeCases", fn := fun _ => fun
  | [d] => { results := [.lit (.bool false)], args := [d] }
  | _ => none }
def ShapeCasesWrongFalsely : Prop := shapeCasesRow.holds Try.pinned (OpenSpec.ofChange shapeCasesWrong)

/-- 'typebarlaw14.ShapeDoes': WHATEVER THE INPUT: true; the input reads as it did. -/
def shapeDoesSpec : ChangeSpec := { name := "shapeDoes", fn := fun _ => fun
  | [d1, d2, d3, d4] => { results := [.lit (.bool true)], args := [d1, d2, d3, d4] }
  | _ => none }
def shapeDoesRow : OpenClaim := { program := "ytngbfjnkfomcnaa", sum := "41fabe9fc09d695f65ce33c7d4a48e5fd6534af228698a96b42f5d7fc4bfaef4", func := "typebar/typebarlaw14.ShapeDoes", spec := "shapeDoes", apart := false }
def ShapeDoesSaid : Prop := shapeDoesRow.holds Try.pinned (OpenSpec.ofChange shapeDoesSpec)

/-- ITS FALSE NEIGHBOUR: 'it returns false'. Refute it at one input. -/
def shapeDoesWrong : ChangeSpec := { name := "shapeDoes", fn := fun _ => fun
  | [d1, d2, d3, d4] => { results := [.lit (.bool false)], args := [d1, d2, d3, d4] }
  | _ => none }
def ShapeDoesWrongFalsely : Prop := shapeDoesRow.holds Try.pinned (OpenSpec.ofChange shapeDoesWrong)

/-- 'typebarlaw14.ShapeSwaps': WHATEVER THE INPUT: true; the input reads as it did. -/
def shapeSwapsSpec : ChangeSpec := { name := "shapeSwaps", fn := fun _ => fun
  | [d] => { results := [.lit (.bool true)], args := [d] }
  | _ => none }
def shapeSwapsRow : OpenClaim := { program := "ytngbfjnkfomcnaa", sum := "41fabe9fc09d695f65ce33c7d4a48e5fd6534af228698a96b42f5d7fc4bfaef4", func := "typebar/typebarlaw14.ShapeSwaps", spec := "shapeSwaps", apart := false }
def ShapeSwapsSaid : Prop := shapeSwapsRow.holds Try.pinned (OpenSpec.ofChange shapeSwapsSpec)

/-- ITS FALSE NEIGHBOUR: 'it returns false'. Refute it at one input. -/
def shapeSwapsWrong : ChangeSpec := { name := "shapeSwaps", fn := fun _ => fun
  | [d] => { results := [.lit (.bool false)], args := [d] }
  | _ => none }
def ShapeSwapsWrongFalsely : Prop := shapeSwapsRow.holds Try.pinned (OpenSpec.ofChange shapeSwapsWrong)

/-- 'typebarlaw14.ShapeOnly': WHATEVER THE INPUT: true; the input reads as it did. -/
def shapeOnlySpec : ChangeSpec := { name := "shapeOnly", fn := fun _ => fun
  | [d1, d2, d3, d4] => { results := [.lit (.bool true)], args := [d1, d2, d3, d4] }
  | _ => none }
def shapeOnlyRow : OpenClaim := { program := "ytngbfjnkfomcnaa", sum := "41fabe9fc09d695f65ce33c7d4a48e5fd6534af228698a96b42f5d7fc4bfaef4", func := "typebar/typebarlaw14.ShapeOnly", spec := "shapeOnly", apart := false }
def ShapeOnlySaid : Prop := shapeOnlyRow.holds Try.pinned (OpenSpec.ofChange shapeOnlySpec)

/-- ITS FALSE NEIGHBOUR: 'it returns false'. Refute it at one input. -/
def shapeOnlyWrong : ChangeSpec := { name := "shapeOnly", fn := fun _ => fun
  | [d1, d2, d3, d4] => { results := [.lit (.bool false)], args := [d1, d2, d3, d4] }
  | _ => none }
def ShapeOnlyWrongFalsely : Prop := shapeOnlyRow.holds Try.pinned (OpenSpec.ofChange shapeOnlyWrong)

/-- 'typebarlaw19.PastAdds': WHATEVER THE INPUT: true; the input reads as it did. -/
def pastAddsSpec : ChangeSpec := { name := "pastAdds", fn := fun _ => fun
  | [d1, d2] => { results := [.lit (.bool true)], args := [d1, d2] }
  | _ => none }
def pastAddsRow : OpenClaim := { program := "ytngbfjnkfomcnaa", sum := "41fabe9fc09d695f65ce33c7d4a48e5fd6534af228698a96b42f5d7fc4bfaef4", func := "typebar/typebarlaw19.PastAdds", spec := "pastAdds", unfollowed := true, recurses := true, apart := false }
def PastAddsSaid : Prop := pastAddsRow.holds Try.pinned (OpenSpec.ofChange pastAddsSpec)

/-- ITS FALSE NEIGHBOUR: 'it returns false'. Refute it at one input. -/
def pastAddsWrong : ChangeSpec := { name := "pastAdds", fn := fun _ => fun
  | [d1, d2] => { results := [.lit (.bool false)], args := [d1, d2] }
  | _ => none }
def PastAddsWrongFalsely : Prop := pastAddsRow.holds Try.pinned (OpenSpec.ofChange pastAddsWrong)

/-- 'typebarlaw19.PastGets': WHATEVER THE INPUT: true; the input reads as it did. -/
def pastGetsSpec : ChangeSpec := { name := "pastGets", fn := fun _ => fun
  | [d1, d2, d3] => { results := [.lit (.bool true)], args := [d1, d2, d3] }
  | _ => none }
def pastGetsRow : OpenClaim := { program := "ytngbfjnkfomcnaa", sum := "41fabe9fc09d695f65ce33c7d4a48e5fd6534af228698a96b42f5d7fc4bfaef4", func := "typebar/typebarlaw19.PastGets", spec := "pastGets", unfollowed := true, recurses := true, apart := false }
def PastGetsSaid : Prop := pastGetsRow.holds Try.pinned (OpenSpec.ofChange pastGetsSpec)

/-- ITS FALSE NEIGHBOUR: 'it returns false'. Refute it at one input. -/
def pastGetsWrong : ChangeSpec := { name := "pastGets", fn := fun _ => fun
  | [d1, d2, d3] => { results := [.lit (.bool false)], args := [d1, d2, d3] }
  | _ => none }
def PastGetsWrongFalsely : Prop := pastGetsRow.holds Try.pinned (OpenSpec.ofChange pastGetsWrong)

/-- 'typebarlaw19.PastStays': WHATEVER THE INPUT: true; the input reads as it did. -/
def pastStaysSpec : ChangeSpec := { name := "pastStays", fn := fun _ => fun
  | [d1, d2] => { results := [.lit (.bool true)], args := [d1, d2] }
  | _ => none }
def pastStaysRow : OpenClaim := { program := "ytngbfjnkfomcnaa", sum := "41fabe9fc09d695f65ce33c7d4a48e5fd6534af228698a96b42f5d7fc4bfaef4", func := "typebar/typebarlaw19.PastStays", spec := "pastStays", unfollowed := true, recurses := true, apart := false }
def PastStaysSaid : Prop := pastStaysRow.holds Try.pinned (OpenSpec.ofChange pastStaysSpec)

/-- ITS FALSE NEIGHBOUR: 'it returns false'. Refute it at one input. -/
def pastStaysWrong : ChangeSpec := { name := "pastStays", fn := fun _ => fun
  | [d1, d2] => { results := [.lit (.bool false)], args := [d1, d2] }
  | _ => none }
def PastStaysWrongFalsely : Prop := pastStaysRow.holds Try.pinned (OpenSpec.ofChange pastStaysWrong)

/-- 'typebarlaw19.PastOnce': WHATEVER THE INPUT: true; the input reads as it did. -/
def pastOnceSpec : ChangeSpec := { name := "pastOnce", fn := fun _ => fun
  | [d1, d2] => { results := [.lit (.bool true)], args := [d1, d2] }
  | _ => none }
def pastOnceRow : OpenClaim := { program := "ytngbfjnkfomcnaa", sum := "41fabe9fc09d695f65ce33c7d4a48e5fd6534af228698a96b42f5d7fc4bfaef4", func := "typebar/typebarlaw19.PastOnce", spec := "pastOnce", unfollowed := true, recurses := true, apart := false }
def PastOnceSaid : Prop := pastOnceRow.holds Try.pinned (OpenSpec.ofChange pastOnceSpec)

/-- ITS FALSE NEIGHBOUR: 'it returns false'. Refute it at one input. -/
def pastOnceWrong : ChangeSpec := { name := "pastOnce", fn := fun _ => fun
  | [d1, d2] => { results := [.lit (.bool false)], args := [d1, d2] }
  | _ => none }
def PastOnceWrongFalsely : Prop := pastOnceRow.holds Try.pinned (OpenSpec.ofChange pastOnceWrong)

/-- 'typebarlaw14.ShapeBack': WHATEVER THE INPUT: true; the input reads as it did. -/
def shapeBackSpec : ChangeSpec := { name := "shapeBack", fn := fun _ => fun
  | [d] => { results := [.lit (.bool true)], args := [d] }
  | _ => none }
def shapeBackRow : OpenClaim := { program := "ytngbfjnkfomcnaa", sum := "41fabe9fc09d695f65ce33c7d4a48e5fd6534af228698a96b42f5d7fc4bfaef4", func := "typebar/typebarlaw14.ShapeBack", spec := "shapeBack", apart := false }
def ShapeBackSaid : Prop := shapeBackRow.holds Try.pinned (OpenSpec.ofChange shapeBackSpec)

/-- ITS FALSE NEIGHBOUR: 'it returns false'. Refute it at one input. -/
def shapeBackWrong : ChangeSpec := { name := "shapeBack", fn := fun _ => fun
  | [d] => { results := [.lit (.bool false)], args := [d] }
  | _ => none }
def ShapeBackWrongFalsely : Prop := shapeBackRow.holds Try.pinned (OpenSpec.ofChange shapeBackWrong)

/- THE SECOND FORM. 'bulk': how many values and letters a reading holds, each counted each time it is reached (what is shared counts as often as it is met; a slice's spare places count too). A statement '..UptoSaid' is the law's where the arguments, and the package variables that the reading takes, are together of bulk at most 1048576: NARROWER than '..Said'. Prove '..Said' where nothing that the law and all that it calls make is longer than what came in: it says more and counts as full. Else prove '..UptoSaid'. A law counts once. -/
mutual
def uptoBulk {H : Type} : DataW H → Nat
  | .lit (.string bytes) => bytes.length + 1
  | .lit _ => 1
  | .nil => 1
  | .ptr d => uptoBulk d + 1
  | .slice elems spare => uptoBulkAll elems + uptoBulkAll spare + 1
  | .agg parts => uptoBulkAll parts + 1
  | .iface _ d => uptoBulk d + 1
  | .map entries => uptoBulkEntries entries + 1
  | .held _ => 1
def uptoBulkAll {H : Type} : List (DataW H) → Nat
  | [] => 0
  | d :: r => uptoBulk d + uptoBulkAll r
def uptoBulkEntries {H : Type} : List (Lit × DataW H) → Nat
  | [] => 0
  | x :: r => uptoBulkEntry x + uptoBulkEntries r
def uptoBulkEntry {H : Type} : Lit × DataW H → Nat
  | (.string bytes, d) => bytes.length + uptoBulk d + 1
  | (_, d) => uptoBulk d + 1
 end
def uptoSmall : (H : Type) → List (DataW H) → Bool := fun _ ds => decide (uptoBulkAll ds ≤ 1048576)
def OpenSpec.upto (s : _root_.Go.ChangeSpec) : _root_.Go.OpenSpec := { _root_.Go.OpenSpec.ofChange s with cond := some uptoSmall }

/-- 'typebarlaw13.UndoDoes', WHERE WHAT IT READS IS OF BULK AT MOST 1048576: true; the input reads as it did. -/
def undoDoesUptoRow : OpenClaim := { program := "ytngbfjnkfomcnaa", sum := "41fabe9fc09d695f65ce33c7d4a48e5fd6534af228698a96b42f5d7fc4bfaef4", func := "typebar/typebarlaw13.UndoDoes", spec := "undoDoes", apart := false, narrowed := true }
def UndoDoesUptoSaid : Prop := undoDoesUptoRow.holds Try.pinned (OpenSpec.upto undoDoesSpec)

/-- 'typebarlaw13.UndoBack', WHERE WHAT IT READS IS OF BULK AT MOST 1048576: true; the input reads as it did. -/
def undoBackUptoRow : OpenClaim := { program := "ytngbfjnkfomcnaa", sum := "41fabe9fc09d695f65ce33c7d4a48e5fd6534af228698a96b42f5d7fc4bfaef4", func := "typebar/typebarlaw13.UndoBack", spec := "undoBack", apart := false, narrowed := true }
def UndoBackUptoSaid : Prop := undoBackUptoRow.holds Try.pinned (OpenSpec.upto undoBackSpec)

/-- 'typebarlaw13.UndoRow', WHERE WHAT IT READS IS OF BULK AT MOST 1048576: true; the input reads as it did. -/
def undoRowUptoRow : OpenClaim := { program := "ytngbfjnkfomcnaa", sum := "41fabe9fc09d695f65ce33c7d4a48e5fd6534af228698a96b42f5d7fc4bfaef4", func := "typebar/typebarlaw13.UndoRow", spec := "undoRow", apart := false, narrowed := true }
def UndoRowUptoSaid : Prop := undoRowUptoRow.holds Try.pinned (OpenSpec.upto undoRowSpec)

/-- 'typebarlaw14.ShapeCases', WHERE WHAT IT READS IS OF BULK AT MOST 1048576: true; the input reads as it did. -/
def shapeCasesUptoRow : OpenClaim := { program := "ytngbfjnkfomcnaa", sum := "41fabe9fc09d695f65ce33c7d4a48e5fd6534af228698a96b42f5d7fc4bfaef4", func := "typebar/typebarlaw14.ShapeCases", spec := "shapeCases", apart := false, narrowed := true }
def ShapeCasesUptoSaid : Prop := shapeCasesUptoRow.holds Try.pinned (OpenSpec.upto shapeCasesSpec)

/-- 'typebarlaw14.ShapeDoes', WHERE WHAT IT READS IS OF BULK AT MOST 1048576: true; the input reads as it did. -/
def shapeDoesUptoRow : OpenClaim := { program := "ytngbfjnkfomcnaa", sum := "41fabe9fc09d695f65ce33c7d4a48e5fd6534af228698a96b42f5d7fc4bfaef4", func := "typebar/typebarlaw14.ShapeDoes", spec := "shapeDoes", apart := false, narrowed := true }
def ShapeDoesUptoSaid : Prop := shapeDoesUptoRow.holds Try.pinned (OpenSpec.upto shapeDoesSpec)

/-- 'typebarlaw14.ShapeSwaps', WHERE WHAT IT READS IS OF BULK AT MOST 1048576: true; the input reads as it did. -/
def shapeSwapsUptoRow : OpenClaim := { program := "ytngbfjnkfomcnaa", sum := "41fabe9fc09d695f65ce33c7d4a48e5fd6534af228698a96b42f5d7fc4bfaef4", func := "typebar/typebarlaw14.ShapeSwaps", spec := "shapeSwaps", apart := false, narrowed := true }
def ShapeSwapsUptoSaid : Prop := shapeSwapsUptoRow.holds Try.pinned (OpenSpec.upto shapeSwapsSpec)

/-- 'typebarlaw14.ShapeOnly', WHERE WHAT IT READS IS OF BULK AT MOST 1048576: true; the input reads as it did. -/
def shapeOnlyUptoRow : OpenClaim := { program := "ytngbfjnkfomcnaa", sum := "41fabe9fc09d695f65ce33c7d4a48e5fd6534af228698a96b42f5d7fc4bfaef4", func := "typebar/typebarlaw14.ShapeOnly", spec := "shapeOnly", apart := false, narrowed := true }
def ShapeOnlyUptoSaid : Prop := shapeOnlyUptoRow.holds Try.pinned (OpenSpec.upto shapeOnlySpec)

/-- 'typebarlaw19.PastAdds', WHERE WHAT IT READS IS OF BULK AT MOST 1048576: true; the input reads as it did. -/
def pastAddsUptoRow : OpenClaim := { program := "ytngbfjnkfomcnaa", sum := "41fabe9fc09d695f65ce33c7d4a48e5fd6534af228698a96b42f5d7fc4bfaef4", func := "typebar/typebarlaw19.PastAdds", spec := "pastAdds", unfollowed := true, recurses := true, apart := false, narrowed := true }
def PastAddsUptoSaid : Prop := pastAddsUptoRow.holds Try.pinned (OpenSpec.upto pastAddsSpec)

/-- 'typebarlaw19.PastGets', WHERE WHAT IT READS IS OF BULK AT MOST 1048576: true; the input reads as it did. -/
def pastGetsUptoRow : OpenClaim := { program := "ytngbfjnkfomcnaa", sum := "41fabe9fc09d695f65ce33c7d4a48e5fd6534af228698a96b42f5d7fc4bfaef4", func := "typebar/typebarlaw19.PastGets", spec := "pastGets", unfollowed := true, recurses := true, apart := false, narrowed := true }
def PastGetsUptoSaid : Prop := pastGetsUptoRow.holds Try.pinned (OpenSpec.upto pastGetsSpec)

/-- 'typebarlaw19.PastStays', WHERE WHAT IT READS IS OF BULK AT MOST 1048576: true; the input reads as it did. -/
def pastStaysUptoRow : OpenClaim := { program := "ytngbfjnkfomcnaa", sum := "41fabe9fc09d695f65ce33c7d4a48e5fd6534af228698a96b42f5d7fc4bfaef4", func := "typebar/typebarlaw19.PastStays", spec := "pastStays", unfollowed := true, recurses := true, apart := false, narrowed := true }
def PastStaysUptoSaid : Prop := pastStaysUptoRow.holds Try.pinned (OpenSpec.upto pastStaysSpec)

/-- 'typebarlaw19.PastOnce', WHERE WHAT IT READS IS OF BULK AT MOST 1048576: true; the input reads as it did. -/
def pastOnceUptoRow : OpenClaim := { program := "ytngbfjnkfomcnaa", sum := "41fabe9fc09d695f65ce33c7d4a48e5fd6534af228698a96b42f5d7fc4bfaef4", func := "typebar/typebarlaw19.PastOnce", spec := "pastOnce", unfollowed := true, recurses := true, apart := false, narrowed := true }
def PastOnceUptoSaid : Prop := pastOnceUptoRow.holds Try.pinned (OpenSpec.upto pastOnceSpec)

/-- 'typebarlaw14.ShapeBack', WHERE WHAT IT READS IS OF BULK AT MOST 1048576: true; the input reads as it did. -/
def shapeBackUptoRow : OpenClaim := { program := "ytngbfjnkfomcnaa", sum := "41fabe9fc09d695f65ce33c7d4a48e5fd6534af228698a96b42f5d7fc4bfaef4", func := "typebar/typebarlaw14.ShapeBack", spec := "shapeBack", apart := false, narrowed := true }
def ShapeBackUptoSaid : Prop := shapeBackUptoRow.holds Try.pinned (OpenSpec.upto shapeBackSpec)

end Rows
end Go.Proofs.Ytngbfjnkfomcnaa
