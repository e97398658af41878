/- The statement EditTargets: whatever the input, the function answers true, and the input reads as it did. No conditions. -/
import Derived.Test.YtcaglmjfphjpfaaTyp
import Derived.Test.YtcaglmjfphjpfaaRows
import Derived.Test.YtcaglmjfphjpfaaEditB
import Derived.Test.YtcaglmjfphjpfaaArgs
namespace Go.Proofs.Ytcaglmjfphjpfaa.editTargetsDone
open Go E
open Go.ChangeShapes Go.WideShapes Go.ChangeAt Go.RowKit

theorem own : ownKnob Try.prog.godebug = none := by kernel_rfl
theorem laidOut : laidOutB Try.prog = true := by kernel_rfl

theorem law : Law Try.prog 5 [28, 3, 3, 3] := by
  intro xs hx
  obtain ⟨x1, xs1, rfl, h1, hx1⟩ := args_cons hx
  obtain ⟨l, rfl, _⟩ := arg_runes h1
  obtain ⟨x2, xs2, rfl, h2, hx2⟩ := args_cons hx1
  obtain ⟨a, rfl, _⟩ := arg_num h2
  obtain ⟨x3, xs3, rfl, h3, hx3⟩ := args_cons hx2
  obtain ⟨mv, rfl, _⟩ := arg_num h3
  obtain ⟨x4, xs4, rfl, h4, hx4⟩ := args_cons hx3
  obtain ⟨k, rfl, _⟩ := arg_num h4
  rw [args_nil hx4]
  exact (W_sound _).pc _ _ _ (pc_EditTargets 0 l a mv k)

set_option maxRecDepth 100000 in
theorem lifted (os : Os) (started : os.Started) (H : Type) (enc : TypeId × Value → H) :
    ReturnsInHanded {} Try.checked os 5 .any (Rows.editTargetsSpec.pre6 enc Try.prog Try.f5 Rows.editTargetsRow.domain false) (Rows.editTargetsSpec.post enc Try.prog Try.f5 false true false false) :=
  law_lifted (C := Try.checked) (fn := Try.f5) (s := Rows.editTargetsSpec) (enc := enc) (conds := Rows.editTargetsRow.domain) (tb := 4) own started (by kernel_rfl) Try.func5
    (ChangeSpec.witness6 (enc := enc) (C := Try.checked) false ⟨#[], #[.slice none 0 0, .int .i64 0, .int .i64 0, .int .i64 0], []⟩ 8 (by kernel_rfl) (by kernel_rfl) (by kernel_rfl) (by kernel_rfl))
    rfl (fun ds hd => by
      rw [show Try.f5.params.size = [28, 3, 3, 3].length from by kernel_rfl] at hd
      match ds, hd with
      | [d1, d2, d3, d4], _ => rfl) laidOut (by kernel_rfl) (by kernel_rfl) (by kernel_rfl) law

theorem over : Rows.editTargetsRow.holds Try.pinned (OpenSpec.ofChange Rows.editTargetsSpec) :=
  OpenClaim.holds_of_wide 5 Try.f5 rfl rfl rfl rfl rfl rfl rfl ⟨rfl, rfl, rfl, rfl, rfl⟩ rfl rfl rfl rfl rfl (by kernel_rfl) Try.func5 (by kernel_rfl)
    (of_decide_eq_true (by kernel_rfl)) (by unfold Func.isWrapper; first | (rw [if_pos (by decide +kernel)]; kernel_rfl) | (rw [if_neg (by decide +kernel)]; exact ⟨rfl, rfl⟩))
    (fun os started H enc _ => lifted os started H enc)

/-- The statement. -/
theorem proved : Rows.EditTargetsSaid := over

end Go.Proofs.Ytcaglmjfphjpfaa.editTargetsDone
