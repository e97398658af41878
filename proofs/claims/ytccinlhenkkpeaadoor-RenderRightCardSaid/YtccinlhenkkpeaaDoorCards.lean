/-
  DERIVED. GIVEN WITH THE SEED: THE CARDS: each row of YtccinlhenkkpeaaDoorRows.lean that lists a variable, with what it lists TIED to the program's text (the seventh form; the later family's looks); each row that meets fmt, with fmt's text TOLD by the authors' own Lean function (tested against real Go, not proved from fmt's source: count such statements apart). THE CARD IS WHAT COUNTS. Prove the row's statement (the work); the ties are given (YtccinlhenkkpeaaDoorTie.lean); close each card by the builder's one call (the guide's Derived/Test/ToyasCard.lean, 'card_holds'). Laid BY PROGRAM, IN A SANDBOX (cutbox-door.mjs). By AI agents, Wed Nov 11 2026. No macro, syntax, notation, axiom, sorry.
-/
import Derived.Test.YtccinlhenkkpeaaDoorRows
import GoSem.ClaimSeven
namespace Go.Proofs.YtccinlhenkkpeaaDoor
namespace Rows

/-- THE TIED CARD OF 'typebarlaw26.RenderPoint'. -/
def renderPointCard : Claim7 := { stood := { row := renderPointRow, standIns := [], harness := (true, "0c1fc643cf411797e105a24ad7c34e02ce1c32b4141937302814d38ae8359138"), looks := false }, kinds := [], alts := [], laidByText := true, laidKinds := [.data], laidTests := true, laidLooks := .later }
def RenderPointCardSaid : Prop := Claim7.holds Tryd.pinned (.plain (OpenSpec.ofChange renderPointSpec)) renderPointCard

/-- THE TIED CARD OF 'typebarlaw26.RenderRight'. -/
def renderRightCard : Claim7 := { stood := { row := renderRightRow, standIns := [], harness := (true, "0c1fc643cf411797e105a24ad7c34e02ce1c32b4141937302814d38ae8359138"), looks := false }, kinds := [], alts := [], laidByText := true, laidKinds := [.data], laidTests := true, laidLooks := .later }
def RenderRightCardSaid : Prop := Claim7.holds Tryd.pinned (.plain (OpenSpec.ofChange renderRightSpec)) renderRightCard

/-- THE SECOND FORM's CARD OF 'typebarlaw26.RenderPoint'. -/
def renderPointUptoCard : Claim7 := { stood := { row := renderPointUptoRow, standIns := [], harness := (true, "0c1fc643cf411797e105a24ad7c34e02ce1c32b4141937302814d38ae8359138"), looks := false }, kinds := [], alts := [], laidByText := true, laidKinds := [.data], laidTests := true, laidLooks := .later }
def RenderPointUptoCardSaid : Prop := Claim7.holds Tryd.pinned (.plain (OpenSpec.upto renderPointSpec)) renderPointUptoCard

/-- THE SECOND FORM's CARD OF 'typebarlaw26.RenderRight'. -/
def renderRightUptoCard : Claim7 := { stood := { row := renderRightUptoRow, standIns := [], harness := (true, "0c1fc643cf411797e105a24ad7c34e02ce1c32b4141937302814d38ae8359138"), looks := false }, kinds := [], alts := [], laidByText := true, laidKinds := [.data], laidTests := true, laidLooks := .later }
def RenderRightUptoCardSaid : Prop := Claim7.holds Tryd.pinned (.plain (OpenSpec.upto renderRightSpec)) renderRightUptoCard
end Rows
end Go.Proofs.YtccinlhenkkpeaaDoor
