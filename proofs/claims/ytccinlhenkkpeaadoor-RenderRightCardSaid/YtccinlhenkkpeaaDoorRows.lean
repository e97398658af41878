/-
  NARROWER THAN 'FOR EVERY INPUT', by the rows' own cells (each row's printed sentence says how): RenderPoint: laid · RenderRight: laid.
  DERIVED. THE GIVEN ROWS OF THIS SEAT. 2 by the template 'for every input the law returns true; each argument reads behind the call as it read before'; 0 by the template 'total and deterministic' (their statements: YtccinlhenkkpeaaDoorTotals.lean).
  GIVEN WITH THE SEED: the statements are not yours to turn. If you find one false, say at which input.
  Laid BY PROGRAM, IN A SANDBOX (cutbox-rows.mjs): the forced cells as the released guide's own fill.sh prints them over the translation 84e89e19b799a3ea… (all of the seat's roots in one cut). By AI agents, Wed Nov 11 2026. No macro, syntax, notation, axiom, sorry.
-/
import Derived.Test.YtccinlhenkkpeaaDoorChecked
import GoSem.Claim
import GoSem.ClaimJoined
import GoSem.ClaimMapViews
import Derived.JoinedTies
import Derived.KernelRfl
namespace Go.Proofs.YtccinlhenkkpeaaDoor
/- THE CELL 'sum', in the pinned program and in every row, IS THE sha256 OF THE DUMP (.gsa) THAT YtccinlhenkkpeaaDoorProg.lean LOADS. Nothing in Lean hashes anything: it is a label: what it is worth is what the hold of that sum in a sandbox is worth. -/
noncomputable def Tryd.pinned : Pinned := { name := "ytccinlhenkkpeaadoor", sum := "84e89e19b799a3eafcb0431de33aa9e56ab2baf2f3d4c9b2f590cfa16dd86012", checked := Tryd.checked }
namespace Rows
def none {H : Type} : Left H := { results := [], args := [] }

/- WHAT THE LISTED PACKAGE-LEVEL VARIABLES READ AS WHEN THE CALL BEGINS. Each datum BY PROGRAM (the guide's laid-datum.mjs) off the statement by which the dump's own 'gosem.cut.vars' lays the variable. In a bare row this is a premise. The card (YtccinlhenkkpeaaDoorCards.lean) ties it to the program's text. -/
def laid_typebar_wide_spans {H : Type} : DataW H := .agg [.agg [.lit (.int .i32 4352), .lit (.int .i32 4447)], .agg [.lit (.int .i32 11904), .lit (.int .i32 12350)], .agg [.lit (.int .i32 12353), .lit (.int .i32 42191)], .agg [.lit (.int .i32 44032), .lit (.int .i32 55203)], .agg [.lit (.int .i32 63744), .lit (.int .i32 64255)], .agg [.lit (.int .i32 65072), .lit (.int .i32 65135)], .agg [.lit (.int .i32 65281), .lit (.int .i32 65376)], .agg [.lit (.int .i32 65504), .lit (.int .i32 65510)], .agg [.lit (.int .i32 127744), .lit (.int .i32 128591)], .agg [.lit (.int .i32 129280), .lit (.int .i32 129535)], .agg [.lit (.int .i32 131072), .lit (.int .i32 262141)]]

/-- 'typebarlaw26.RenderPoint': WHATEVER THE INPUT: true; the input reads as it did. -/
def renderPointSpec : ChangeSpec := { name := "renderPoint", fn := fun _ => fun
  | [d1, d2] => { results := [.lit (.bool true)], args := [d1, d2] }
  | _ => none }
def renderPointRow : OpenClaim := { program := "ytccinlhenkkpeaadoor", sum := "84e89e19b799a3eafcb0431de33aa9e56ab2baf2f3d4c9b2f590cfa16dd86012", func := "typebar/typebarlaw26.RenderPoint", spec := "renderPoint", unfollowed := true, recurses := true, named := ["typebar/wide.spans"], apart := false, laid := [("typebar/wide.spans", laid_typebar_wide_spans)] }
def RenderPointSaid : Prop := renderPointRow.holds Tryd.pinned (OpenSpec.ofChange renderPointSpec)

/-- ITS FALSE NEIGHBOUR: 'it returns false'. Refute it at one input. -/
def renderPointWrong : ChangeSpec := { name := "renderPoint", fn := fun _ => fun
  | [d1, d2] => { results := [.lit (.bool false)], args := [d1, d2] }
  | _ => none }
def RenderPointWrongFalsely : Prop := renderPointRow.holds Tryd.pinned (OpenSpec.ofChange renderPointWrong)

/-- 'typebarlaw26.RenderRight': WHATEVER THE INPUT: true; the input reads as it did. -/
def renderRightSpec : ChangeSpec := { name := "renderRight", fn := fun _ => fun
  | [d1, d2, d3] => { results := [.lit (.bool true)], args := [d1, d2, d3] }
  | _ => none }
def renderRightRow : OpenClaim := { program := "ytccinlhenkkpeaadoor", sum := "84e89e19b799a3eafcb0431de33aa9e56ab2baf2f3d4c9b2f590cfa16dd86012", func := "typebar/typebarlaw26.RenderRight", spec := "renderRight", unfollowed := true, recurses := true, named := ["typebar/wide.spans"], apart := false, laid := [("typebar/wide.spans", laid_typebar_wide_spans)] }
def RenderRightSaid : Prop := renderRightRow.holds Tryd.pinned (OpenSpec.ofChange renderRightSpec)

/-- ITS FALSE NEIGHBOUR: 'it returns false'. Refute it at one input. -/
def renderRightWrong : ChangeSpec := { name := "renderRight", fn := fun _ => fun
  | [d1, d2, d3] => { results := [.lit (.bool false)], args := [d1, d2, d3] }
  | _ => none }
def RenderRightWrongFalsely : Prop := renderRightRow.holds Tryd.pinned (OpenSpec.ofChange renderRightWrong)

/- THE SECOND FORM. 'bulk': how many values and letters a reading holds, each counted each time it is reached (what is shared counts as often as it is met; a slice's spare places count too). A statement '..UptoSaid' is the law's where the arguments, and the package variables that the reading takes, are together of bulk at most 1048576: NARROWER than '..Said'. Prove '..Said' where nothing that the law and all that it calls make is longer than what came in: it says more and counts as full. Else prove '..UptoSaid'. A law counts once. -/
mutual
def uptoBulk {H : Type} : DataW H → Nat
  | .lit (.string bytes) => bytes.length + 1
  | .lit _ => 1
  | .nil => 1
  | .ptr d => uptoBulk d + 1
  | .slice elems spare => uptoBulkAll elems + uptoBulkAll spare + 1
  | .agg parts => uptoBulkAll parts + 1
  | .iface _ d => uptoBulk d + 1
  | .map entries => uptoBulkEntries entries + 1
  | .held _ => 1
def uptoBulkAll {H : Type} : List (DataW H) → Nat
  | [] => 0
  | d :: r => uptoBulk d + uptoBulkAll r
def uptoBulkEntries {H : Type} : List (Lit × DataW H) → Nat
  | [] => 0
  | x :: r => uptoBulkEntry x + uptoBulkEntries r
def uptoBulkEntry {H : Type} : Lit × DataW H → Nat
  | (.string bytes, d) => bytes.length + uptoBulk d + 1
  | (_, d) => uptoBulk d + 1
 end
def uptoSmall : (H : Type) → List (DataW H) → Bool := fun _ ds => decide (uptoBulkAll ds ≤ 1048576)
def OpenSpec.upto (s : _root_.Go.ChangeSpec) : _root_.Go.OpenSpec := { _root_.Go.OpenSpec.ofChange s with cond := some uptoSmall }

/-- 'typebarlaw26.RenderPoint', WHERE WHAT IT READS IS OF BULK AT MOST 1048576: true; the input reads as it did. -/
def renderPointUptoRow : OpenClaim := { program := "ytccinlhenkkpeaadoor", sum := "84e89e19b799a3eafcb0431de33aa9e56ab2baf2f3d4c9b2f590cfa16dd86012", func := "typebar/typebarlaw26.RenderPoint", spec := "renderPoint", unfollowed := true, recurses := true, named := ["typebar/wide.spans"], apart := false, laid := [("typebar/wide.spans", laid_typebar_wide_spans)], narrowed := true }
def RenderPointUptoSaid : Prop := renderPointUptoRow.holds Tryd.pinned (OpenSpec.upto renderPointSpec)

/-- 'typebarlaw26.RenderRight', WHERE WHAT IT READS IS OF BULK AT MOST 1048576: true; the input reads as it did. -/
def renderRightUptoRow : OpenClaim := { program := "ytccinlhenkkpeaadoor", sum := "84e89e19b799a3eafcb0431de33aa9e56ab2baf2f3d4c9b2f590cfa16dd86012", func := "typebar/typebarlaw26.RenderRight", spec := "renderRight", unfollowed := true, recurses := true, named := ["typebar/wide.spans"], apart := false, laid := [("typebar/wide.spans", laid_typebar_wide_spans)], narrowed := true }
def RenderRightUptoSaid : Prop := renderRightUptoRow.holds Tryd.pinned (OpenSpec.upto renderRightSpec)

end Rows
end Go.Proofs.YtccinlhenkkpeaaDoor
