/- The statement EditDoes: whatever the input, the function answers true, and the input reads as it did. No conditions. -/
import Derived.Test.YtcaglmjfphjpfaaGreatTyp
import Derived.Test.YtcaglmjfphjpfaaGreatRows
import Derived.Test.YtcaglmjfphjpfaaGreatEditS
import Derived.Test.YtcaglmjfphjpfaaGreatArgE
namespace Go.Proofs.YtcaglmjfphjpfaaGreat.editDoesDone
open Go E
open Go.ChangeShapes Go.WideShapes Go.ChangeAt Go.RowKit

theorem own : ownKnob Tryz.prog.godebug = none := by kernel_rfl
theorem laidOut : laidOutB Tryz.prog = true := by kernel_rfl

theorem law : Law Tryz.prog 3 [32, 34, 3] := by
  intro xs hx
  obtain ⟨x1, xs1, rfl, h1, hx1⟩ := args_cons hx
  obtain ⟨e, rfl, hs, hsi⟩ := arg_edit h1
  obtain ⟨x2, xs2, rfl, h2, hx2⟩ := args_cons hx1
  obtain ⟨a, rfl⟩ := arg_act h2
  obtain ⟨x3, xs3, rfl, h3, hx3⟩ := args_cons hx2
  obtain ⟨k, rfl, _⟩ := arg_num h3
  rw [args_nil hx3]
  exact (W_sound _).pc _ _ _ (pc_EditDoes 0 e a k)

set_option maxRecDepth 100000 in
theorem lifted (os : Os) (started : os.Started) (H : Type) (enc : TypeId × Value → H) :
    ReturnsInHanded {} Tryz.checked os 3 .any (Rows.editDoesSpec.pre6 enc Tryz.prog Tryz.f3 Rows.editDoesRow.domain false) (Rows.editDoesSpec.post enc Tryz.prog Tryz.f3 false true false false) :=
  law_lifted (C := Tryz.checked) (fn := Tryz.f3) (s := Rows.editDoesSpec) (enc := enc) (conds := Rows.editDoesRow.domain) (tb := 4) own started (by kernel_rfl) Tryz.func3
    (ChangeSpec.witness6 (enc := enc) (C := Tryz.checked) false ⟨#[], #[.agg #[.slice none 0 0, .slice none 0 0, .slice none 0 0, .slice none 0 0, .int .i64 0, .int .i64 0, .int .i64 0], .agg #[.int .i64 0, .int .i64 0, .int .i64 0, .int .i32 0], .int .i64 0], []⟩ 8 (by kernel_rfl) (by kernel_rfl) (by kernel_rfl) (by kernel_rfl))
    rfl (fun ds hd => by
      rw [show Tryz.f3.params.size = [32, 34, 3].length from by kernel_rfl] at hd
      match ds, hd with
      | [d1, d2, d3], _ => rfl) laidOut (by kernel_rfl) (by kernel_rfl) (by kernel_rfl) law

theorem over : Rows.editDoesRow.holds Tryz.pinned (OpenSpec.ofChange Rows.editDoesSpec) :=
  OpenClaim.holds_of_wide 3 Tryz.f3 rfl rfl rfl rfl rfl rfl rfl ⟨rfl, rfl, rfl, rfl, rfl⟩ rfl rfl rfl rfl rfl (by kernel_rfl) Tryz.func3 (by kernel_rfl)
    (of_decide_eq_true (by kernel_rfl)) (by unfold Func.isWrapper; first | (rw [if_pos (by decide +kernel)]; kernel_rfl) | (rw [if_neg (by decide +kernel)]; exact ⟨rfl, rfl⟩))
    (fun os started H enc _ => lifted os started H enc)

/-- The statement. -/
theorem proved : Rows.EditDoesSaid := over

end Go.Proofs.YtcaglmjfphjpfaaGreat.editDoesDone
