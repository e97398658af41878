/- The statement EmacsFields: whatever the input, the function answers true, and the input reads as it did. No conditions. -/
import Derived.Test.YtlpgpnjplijgiaaTyp
import Derived.Test.YtlpgpnjplijgiaaRows
import Derived.Test.YtlpgpnjplijgiaaEmacsB
namespace Go.Proofs.Ytlpgpnjplijgiaa.emacsFieldsDone
open Go E
open Go.ChangeShapes Go.WideShapes Go.ChangeAt Go.RowKit

theorem own : ownKnob Try.prog.godebug = none := by kernel_rfl
theorem laidOut : laidOutB Try.prog = true := by kernel_rfl

theorem law : Law Try.prog 5 [23] := by
  intro xs hx
  obtain ⟨x1, xs1, rfl, h1, hx1⟩ := args_cons hx
  obtain ⟨k, r, rfl⟩ := arg_key h1
  rw [args_nil hx1]
  exact (W_sound _).pc _ _ _ (pc_EmacsFields 0 k r)

set_option maxRecDepth 100000 in
theorem lifted (os : Os) (started : os.Started) (H : Type) (enc : TypeId × Value → H) :
    ReturnsInHanded {} Try.checked os 5 .any (Rows.emacsFieldsSpec.pre6 enc Try.prog Try.f5 Rows.emacsFieldsRow.domain false) (Rows.emacsFieldsSpec.post enc Try.prog Try.f5 false true false false) :=
  law_lifted (C := Try.checked) (fn := Try.f5) (s := Rows.emacsFieldsSpec) (enc := enc) (conds := Rows.emacsFieldsRow.domain) (tb := 4) own started (by kernel_rfl) Try.func5
    (ChangeSpec.witness6 (enc := enc) (C := Try.checked) false ⟨#[], #[.agg #[.int .i64 0, .int .i32 0]], []⟩ 8 (by kernel_rfl) (by kernel_rfl) (by kernel_rfl) (by kernel_rfl))
    rfl (fun ds hd => by
      rw [show Try.f5.params.size = [23].length from by kernel_rfl] at hd
      match ds, hd with
      | [d1], _ => rfl) laidOut (by kernel_rfl) (by kernel_rfl) (by kernel_rfl) law

theorem over : Rows.emacsFieldsRow.holds Try.pinned (OpenSpec.ofChange Rows.emacsFieldsSpec) :=
  OpenClaim.holds_of_wide 5 Try.f5 rfl rfl rfl rfl rfl rfl rfl ⟨rfl, rfl, rfl, rfl, rfl⟩ rfl rfl rfl rfl rfl (by kernel_rfl) Try.func5 (by kernel_rfl)
    (of_decide_eq_true (by kernel_rfl)) (by unfold Func.isWrapper; first | (rw [if_pos (by decide +kernel)]; kernel_rfl) | (rw [if_neg (by decide +kernel)]; exact ⟨rfl, rfl⟩))
    (fun os started H enc _ => lifted os started H enc)

/-- The statement. -/
theorem proved : Rows.EmacsFieldsSaid := over

end Go.Proofs.Ytlpgpnjplijgiaa.emacsFieldsDone
