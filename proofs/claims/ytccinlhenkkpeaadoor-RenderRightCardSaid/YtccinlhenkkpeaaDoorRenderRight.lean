/- The statement RenderRight: whatever the input, the function answers true, and the input reads as it did; the package variable of wide signs is what the program's text lays. No other conditions. -/
import Derived.Test.YtccinlhenkkpeaaDoorTyp
import Derived.Test.YtccinlhenkkpeaaDoorRows
import Derived.Test.YtccinlhenkkpeaaDoorCards
import Derived.Test.YtccinlhenkkpeaaDoorTie
import Derived.Test.YtccinlhenkkpeaaDoorGlob
import Derived.SevenTiedAt
import Derived.Test.YtccinlhenkkpeaaDoorArgR
import Derived.Test.YtccinlhenkkpeaaDoorRenO
namespace Go.Proofs.YtccinlhenkkpeaaDoor.renderRightDone
open Go E
open Go.ChangeShapes Go.WideShapes Go.ChangeAt Go.RowKit

theorem own : ownKnob Tryd.prog.godebug = none := by kernel_rfl
theorem laidOut : laidOutB Tryd.prog = true := by kernel_rfl

theorem law : Law Tryd.prog 4 [45, 3, 3] := by
  intro xs hx
  obtain ⟨x1, xs1, rfl, h1, hx1⟩ := args_cons hx
  obtain ⟨e, rfl⟩ := arg_editor h1
  obtain ⟨x2, xs2, rfl, h2, hx2⟩ := args_cons hx1
  obtain ⟨w, rfl, _⟩ := arg_num h2
  obtain ⟨x3, xs3, rfl, h3, hx3⟩ := args_cons hx2
  obtain ⟨h, rfl, _⟩ := arg_num h3
  rw [args_nil hx3]
  exact (W_sound _).pc _ _ _ (pc_RenderRight 0 e w h)

abbrev laidV : List (String × DataW Unit) := [("typebar/wide.spans", Rows.laid_typebar_wide_spans)]

/-- The start that the text itself leaves meets the condition. -/
theorem door_met (os : Os) (args : Array Value) : laidMetH Tryd.prog laidV ((World.doorLaid Tryd.prog 400 os).forCall (fun _ _ => 0) ⟨#[], args, []⟩).memory :=
  laidMetH_of_parts3 (fuel := 8) (laidMet_of_run' 8 (by kernel_rfl) (by kernel_rfl)) (by kernel_rfl) (by kernel_rfl)

set_option maxRecDepth 100000 in
theorem lifted (os : Os) (started : os.Started) (H : Type) (enc : TypeId × Value → H) :
    ReturnsInHanded {} Tryd.checked os 4 .any (fun w args => (Rows.renderRightSpec.pre enc Tryd.prog Tryd.f4 [] false w args ∧ laidMetH Tryd.prog laidV w) ∧ sizedMet enc Tryd.prog Tryd.f4 (OpenSpec.ofChange Rows.renderRightSpec) false w args) (Rows.renderRightSpec.post enc Tryd.prog Tryd.f4 false true false false) :=
  law_laid (C := Tryd.checked) (fn := Tryd.f4) (s := Rows.renderRightSpec) (enc := enc) (laid := laidV) (tb := 4) own started (by kernel_rfl) Tryd.func4
    (ChangeSpec.witness_shaped (enc := enc) (C := Tryd.checked) (os := os) (X := fun w _ => laidMetH Tryd.prog laidV w) false (World.doorLaid Tryd.prog 400 os) #[.agg #[.slice none 0 0, .slice none 0 0, .slice none 0 0, .slice none 0 0, .int .i64 0, .int .i64 0, .int .i64 0, .bool false, .bool false, .int .i64 0, .int .i64 0, .int .i64 0, .int .i64 0, .bool false, .int .i64 0, .int .i64 0, .slice none 0 0, .int .i64 0, .slice none 0 0, .bool false, .bool false, .slice none 0 0, .int .i64 0, .bool false, .int .i64 0, .int .i64 0, .int .i64 0], .int .i64 0, .int .i64 0] 8 rfl (World.shaped_of_RefB (by kernel_rfl) (by kernel_rfl)) (by kernel_rfl) (by kernel_rfl) (by kernel_rfl) (door_met os _))
    rfl (fun ds hd => by
      rw [show Tryd.f4.params.size = [45, 3, 3].length from by kernel_rfl] at hd
      match ds, hd with
      | [d1, d2, d3], _ => rfl) laidOut (by kernel_rfl) (by kernel_rfl) (by kernel_rfl) law glob_laid

theorem over : Rows.RenderRightSaid :=
  OpenClaim.holds_of_wide 4 Tryd.f4 rfl rfl rfl rfl rfl rfl rfl ⟨rfl, rfl, rfl, rfl, rfl⟩ rfl rfl rfl rfl rfl (by kernel_rfl) Tryd.func4 (by kernel_rfl)
    (of_decide_eq_true (by kernel_rfl)) (by unfold Func.isWrapper; first | (rw [if_pos (by decide +kernel)]; kernel_rfl) | (rw [if_neg (by decide +kernel)]; exact ⟨rfl, rfl⟩))
    (fun os started H enc _ => lifted os started H enc)

/-- The statement: the tied card. -/
theorem proved : Rows.RenderRightCardSaid :=
  Claim7.holds_tied_plain_at .later [] [.data] true (true, "0c1fc643cf411797e105a24ad7c34e02ce1c32b4141937302814d38ae8359138") false
    over (fun _ h => by cases h) (by kernel_rfl) (fun _ h => by cases h) renderRight_row_tie rfl ⟨rfl, rfl⟩ (by kernel_rfl) rfl
    (fun f fn hf hfn => by
      obtain rfl : f = 4 := Option.some.inj ((show Tryd.prog.funcNamed "typebar/typebarlaw26.RenderRight" = some 4 by kernel_rfl).symm.trans hf) |>.symm
      obtain rfl : fn = Tryd.f4 := (Option.some.inj (Tryd.func4.symm.trans hfn)).symm
      exact ⟨by kernel_rfl, fun j t ht => by
        rw [Tryd.params4] at ht
        have hm : t ∈ [45, 3, 3] := by simpa using Array.mem_of_getElem? ht
        have hall : ([45, 3, 3].all fun u => !Tryd.prog.wantsStandIn u) = true := by kernel_rfl
        exact (show Tryd.prog.wantsStandIn t = false by simpa using List.all_eq_true.1 hall t hm)⟩)
    (by kernel_rfl)

end Go.Proofs.YtccinlhenkkpeaaDoor.renderRightDone
