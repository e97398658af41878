/- The statement ShapeBack: whatever the input, the function answers true, and the input reads as it did. No conditions. -/
import Derived.Test.YtngbfjnkfomcnaaTyp
import Derived.Test.YtngbfjnkfomcnaaRows
import Derived.Test.YtngbfjnkfomcnaaArgs
import Derived.Test.YtngbfjnkfomcnaaShapeE
namespace Go.Proofs.Ytngbfjnkfomcnaa.shapeBackDone
open Go E
open Go.ChangeShapes Go.WideShapes Go.ChangeAt Go.RowKit

theorem own : ownKnob Try.prog.godebug = none := by kernel_rfl

theorem laidOut : laidOutB Try.prog = true := by kernel_rfl

theorem law : Law Try.prog 14 [27] := by
  intro xs hx
  obtain ⟨x1, xs1, rfl, h1, hx1⟩ := args_cons hx
  obtain ⟨g, rfl, _, _⟩ := arg_gap h1
  rw [args_nil hx1]
  exact (W_sound _).pc _ _ _ (pc_ShapeBack 0 g)

set_option maxRecDepth 100000 in
theorem lifted (os : Os) (started : os.Started) (H : Type) (enc : TypeId × Value → H) :
    ReturnsInHanded {} Try.checked os 14 .any (Rows.shapeBackSpec.pre6 enc Try.prog Try.f14 Rows.shapeBackRow.domain false) (Rows.shapeBackSpec.post enc Try.prog Try.f14 false true false false) :=
  law_lifted (C := Try.checked) (fn := Try.f14) (s := Rows.shapeBackSpec) (enc := enc) (conds := Rows.shapeBackRow.domain) (tb := 4) own started (by kernel_rfl) Try.func14
    (ChangeSpec.witness6 (enc := enc) (C := Try.checked) false ⟨#[], #[.agg #[.slice none 0 0, .slice none 0 0]], []⟩ 8 (by kernel_rfl) (by kernel_rfl) (by kernel_rfl) (by kernel_rfl))
    rfl (fun ds hd => by
      rw [show Try.f14.params.size = [27].length from by kernel_rfl] at hd
      match ds, hd with
      | [d1], _ => rfl) laidOut (by kernel_rfl) (by kernel_rfl) (by kernel_rfl) law

theorem over : Rows.shapeBackRow.holds Try.pinned (OpenSpec.ofChange Rows.shapeBackSpec) :=
  OpenClaim.holds_of_wide 14 Try.f14 rfl rfl rfl rfl rfl rfl rfl ⟨rfl, rfl, rfl, rfl, rfl⟩ rfl rfl rfl rfl rfl (by kernel_rfl) Try.func14 (by kernel_rfl)
    (of_decide_eq_true (by kernel_rfl)) (by unfold Func.isWrapper; first | (rw [if_pos (by decide +kernel)]; kernel_rfl) | (rw [if_neg (by decide +kernel)]; exact ⟨rfl, rfl⟩))
    (fun os started H enc _ => lifted os started H enc)

/-- The statement. -/
theorem proved : Rows.ShapeBackSaid := over

end Go.Proofs.Ytngbfjnkfomcnaa.shapeBackDone
