/- The statement EditPops: whatever the input, the function answers true, and the input reads as it did. No conditions. -/
import Derived.Test.YtcaglmjfphjpfaaTyp
import Derived.Test.YtcaglmjfphjpfaaRows
import Derived.Test.YtcaglmjfphjpfaaEditM
import Derived.Test.YtcaglmjfphjpfaaArgE
namespace Go.Proofs.Ytcaglmjfphjpfaa.editPopsDone
open Go E
open Go.ChangeShapes Go.WideShapes Go.ChangeAt Go.RowKit

theorem own : ownKnob Try.prog.godebug = none := by kernel_rfl
theorem laidOut : laidOutB Try.prog = true := by kernel_rfl

theorem law : Law Try.prog 10 [53] := by
  intro xs hx
  obtain ⟨x1, xs1, rfl, h1, hx1⟩ := args_cons hx
  obtain ⟨e, rfl, hs, hsi⟩ := arg_edit h1
  rw [args_nil hx1]
  exact (W_sound _).pc _ _ _ (pc_EditPops 0 e)

set_option maxRecDepth 100000 in
theorem lifted (os : Os) (started : os.Started) (H : Type) (enc : TypeId × Value → H) :
    ReturnsInHanded {} Try.checked os 10 .any (Rows.editPopsSpec.pre6 enc Try.prog Try.f10 Rows.editPopsRow.domain false) (Rows.editPopsSpec.post enc Try.prog Try.f10 false true false false) :=
  law_lifted (C := Try.checked) (fn := Try.f10) (s := Rows.editPopsSpec) (enc := enc) (conds := Rows.editPopsRow.domain) (tb := 4) own started (by kernel_rfl) Try.func10
    (ChangeSpec.witness6 (enc := enc) (C := Try.checked) false ⟨#[], #[.agg #[.slice none 0 0, .slice none 0 0, .slice none 0 0, .slice none 0 0, .int .i64 0, .int .i64 0, .int .i64 0]], []⟩ 8 (by kernel_rfl) (by kernel_rfl) (by kernel_rfl) (by kernel_rfl))
    rfl (fun ds hd => by
      rw [show Try.f10.params.size = [53].length from by kernel_rfl] at hd
      match ds, hd with
      | [d1], _ => rfl) laidOut (by kernel_rfl) (by kernel_rfl) (by kernel_rfl) law

theorem over : Rows.editPopsRow.holds Try.pinned (OpenSpec.ofChange Rows.editPopsSpec) :=
  OpenClaim.holds_of_wide 10 Try.f10 rfl rfl rfl rfl rfl rfl rfl ⟨rfl, rfl, rfl, rfl, rfl⟩ rfl rfl rfl rfl rfl (by kernel_rfl) Try.func10 (by kernel_rfl)
    (of_decide_eq_true (by kernel_rfl)) (by unfold Func.isWrapper; first | (rw [if_pos (by decide +kernel)]; kernel_rfl) | (rw [if_neg (by decide +kernel)]; exact ⟨rfl, rfl⟩))
    (fun os started H enc _ => lifted os started H enc)

/-- The statement. -/
theorem proved : Rows.EditPopsSaid := over

end Go.Proofs.Ytcaglmjfphjpfaa.editPopsDone
