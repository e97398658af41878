/- The statement GapInserts: whatever the input, the function answers true, and the input reads as it did. No conditions. -/
import Derived.Test.YtcbegcmlohnpcaaTyp
import Derived.Test.YtcbegcmlohnpcaaRows
import Derived.Test.YtcbegcmlohnpcaaGapC
namespace Go.Proofs.Ytcbegcmlohnpcaa.gapInsertsDone
open Go E
open Go.ChangeShapes Go.WideShapes Go.ChangeAt Go.RowKit

theorem own : ownKnob Try.prog.godebug = none := by kernel_rfl
theorem laidOut : laidOutB Try.prog = true := by kernel_rfl

theorem law : Law Try.prog 11 [46, 33] := by
  intro xs hx
  obtain ⟨x1, xs1, rfl, h1, hx1⟩ := args_cons hx
  obtain ⟨g, rfl, _, _⟩ := arg_gap h1
  obtain ⟨x2, xs2, rfl, h2, hx2⟩ := args_cons hx1
  obtain ⟨l, rfl, _⟩ := arg_runes h2
  rw [args_nil hx2]
  exact (W_sound _).pc _ _ _ (pc_GapInserts 0 g l)

set_option maxRecDepth 100000 in
theorem lifted (os : Os) (started : os.Started) (H : Type) (enc : TypeId × Value → H) :
    ReturnsInHanded {} Try.checked os 11 .any (Rows.gapInsertsSpec.pre6 enc Try.prog Try.f11 Rows.gapInsertsRow.domain false) (Rows.gapInsertsSpec.post enc Try.prog Try.f11 false true false false) :=
  law_lifted (C := Try.checked) (fn := Try.f11) (s := Rows.gapInsertsSpec) (enc := enc) (conds := Rows.gapInsertsRow.domain) (tb := 4) own started (by kernel_rfl) Try.func11
    (ChangeSpec.witness6 (enc := enc) (C := Try.checked) false ⟨#[], #[.agg #[.slice none 0 0, .slice none 0 0], .slice none 0 0], []⟩ 8 (by kernel_rfl) (by kernel_rfl) (by kernel_rfl) (by kernel_rfl))
    rfl (fun ds hd => by
      rw [show Try.f11.params.size = [46, 33].length from by kernel_rfl] at hd
      match ds, hd with
      | [d1, d2], _ => rfl) laidOut (by kernel_rfl) (by kernel_rfl) (by kernel_rfl) law

theorem over : Rows.gapInsertsRow.holds Try.pinned (OpenSpec.ofChange Rows.gapInsertsSpec) :=
  OpenClaim.holds_of_wide 11 Try.f11 rfl rfl rfl rfl rfl rfl rfl ⟨rfl, rfl, rfl, rfl, rfl⟩ rfl rfl rfl rfl rfl (by kernel_rfl) Try.func11 (by kernel_rfl)
    (of_decide_eq_true (by kernel_rfl)) (by unfold Func.isWrapper; first | (rw [if_pos (by decide +kernel)]; kernel_rfl) | (rw [if_neg (by decide +kernel)]; exact ⟨rfl, rfl⟩))
    (fun os started H enc _ => lifted os started H enc)

/-- The statement. -/
theorem proved : Rows.GapInsertsSaid := over

end Go.Proofs.Ytcbegcmlohnpcaa.gapInsertsDone
