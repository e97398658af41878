/- The statement EmacsInserts: whatever the input, the function answers true, and the input reads as it did. No conditions. -/
import Derived.Test.YtlpgpnjplijgiaaTyp
import Derived.Test.YtlpgpnjplijgiaaRows
import Derived.Test.YtlpgpnjplijgiaaEmacsB
namespace Go.Proofs.Ytlpgpnjplijgiaa.emacsInsertsDone
open Go E
open Go.ChangeShapes Go.WideShapes Go.ChangeAt Go.RowKit

theorem own : ownKnob Try.prog.godebug = none := by kernel_rfl
theorem laidOut : laidOutB Try.prog = true := by kernel_rfl

theorem law : Law Try.prog 4 [21] := by
  intro xs hx
  obtain ⟨x1, xs1, rfl, h1, hx1⟩ := args_cons hx
  obtain ⟨r, rfl, _⟩ := arg_rune h1
  rw [args_nil hx1]
  exact (W_sound _).pc _ _ _ (pc_EmacsInserts 0 r)

set_option maxRecDepth 100000 in
theorem lifted (os : Os) (started : os.Started) (H : Type) (enc : TypeId × Value → H) :
    ReturnsInHanded {} Try.checked os 4 .any (Rows.emacsInsertsSpec.pre6 enc Try.prog Try.f4 Rows.emacsInsertsRow.domain false) (Rows.emacsInsertsSpec.post enc Try.prog Try.f4 false true false false) :=
  law_lifted (C := Try.checked) (fn := Try.f4) (s := Rows.emacsInsertsSpec) (enc := enc) (conds := Rows.emacsInsertsRow.domain) (tb := 4) own started (by kernel_rfl) Try.func4
    (ChangeSpec.witness6 (enc := enc) (C := Try.checked) false ⟨#[], #[.int .i32 0], []⟩ 8 (by kernel_rfl) (by kernel_rfl) (by kernel_rfl) (by kernel_rfl))
    rfl (fun ds hd => by
      rw [show Try.f4.params.size = [21].length from by kernel_rfl] at hd
      match ds, hd with
      | [d1], _ => rfl) laidOut (by kernel_rfl) (by kernel_rfl) (by kernel_rfl) law

theorem over : Rows.emacsInsertsRow.holds Try.pinned (OpenSpec.ofChange Rows.emacsInsertsSpec) :=
  OpenClaim.holds_of_wide 4 Try.f4 rfl rfl rfl rfl rfl rfl rfl ⟨rfl, rfl, rfl, rfl, rfl⟩ rfl rfl rfl rfl rfl (by kernel_rfl) Try.func4 (by kernel_rfl)
    (of_decide_eq_true (by kernel_rfl)) (by unfold Func.isWrapper; first | (rw [if_pos (by decide +kernel)]; kernel_rfl) | (rw [if_neg (by decide +kernel)]; exact ⟨rfl, rfl⟩))
    (fun os started H enc _ => lifted os started H enc)

/-- The statement. -/
theorem proved : Rows.EmacsInsertsSaid := over

end Go.Proofs.Ytlpgpnjplijgiaa.emacsInsertsDone
