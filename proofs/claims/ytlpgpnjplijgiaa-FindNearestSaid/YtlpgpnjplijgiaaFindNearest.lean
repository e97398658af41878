/- The statement FindNearest: whatever the input, the function answers true, and the input reads as it did. No conditions. -/
import Derived.Test.YtlpgpnjplijgiaaTyp
import Derived.Test.YtlpgpnjplijgiaaRows
import Derived.Test.YtlpgpnjplijgiaaArgF
import Derived.Test.YtlpgpnjplijgiaaFindD
namespace Go.Proofs.Ytlpgpnjplijgiaa.findNearestDone
open Go E
open Go.ChangeShapes Go.WideShapes Go.ChangeAt Go.RowKit

theorem own : ownKnob Try.prog.godebug = none := by kernel_rfl
theorem laidOut : laidOutB Try.prog = true := by kernel_rfl

theorem law : Law Try.prog 9 [35, 30, 3] := by
  intro xs hx
  obtain ⟨x1, xs1, rfl, h1, hx1⟩ := args_cons hx
  obtain ⟨p, rfl, hp⟩ := arg_pastF h1
  obtain ⟨x2, xs2, rfl, h2, hx2⟩ := args_cons hx1
  obtain ⟨l, rfl, hl⟩ := arg_runesF h2
  obtain ⟨x3, xs3, rfl, h3, hx3⟩ := args_cons hx2
  obtain ⟨i, rfl, hi⟩ := arg_num h3
  rw [args_nil hx3]
  exact (W_sound _).pc _ _ _ (pc_FindNearest 0 p l i hp hl hi)

set_option maxRecDepth 100000 in
theorem lifted (os : Os) (started : os.Started) (H : Type) (enc : TypeId × Value → H) :
    ReturnsInHanded {} Try.checked os 9 .any (Rows.findNearestSpec.pre6 enc Try.prog Try.f9 Rows.findNearestRow.domain false) (Rows.findNearestSpec.post enc Try.prog Try.f9 false true false false) :=
  law_lifted (C := Try.checked) (fn := Try.f9) (s := Rows.findNearestSpec) (enc := enc) (conds := Rows.findNearestRow.domain) (tb := 4) own started (by kernel_rfl) Try.func9
    (ChangeSpec.witness6 (enc := enc) (C := Try.checked) false ⟨#[], #[.agg #[.int .i64 0, .int .i64 0, .slice none 0 0], .slice none 0 0, .int .i64 0], []⟩ 8 (by kernel_rfl) (by kernel_rfl) (by kernel_rfl) (by kernel_rfl))
    rfl (fun ds hd => by
      rw [show Try.f9.params.size = [35, 30, 3].length from by kernel_rfl] at hd
      match ds, hd with
      | [d1, d2, d3], _ => rfl) laidOut (by kernel_rfl) (by kernel_rfl) (by kernel_rfl) law

theorem over : Rows.findNearestRow.holds Try.pinned (OpenSpec.ofChange Rows.findNearestSpec) :=
  OpenClaim.holds_of_wide 9 Try.f9 rfl rfl rfl rfl rfl rfl rfl ⟨rfl, rfl, rfl, rfl, rfl⟩ rfl rfl rfl rfl rfl (by kernel_rfl) Try.func9 (by kernel_rfl)
    (of_decide_eq_true (by kernel_rfl)) (by unfold Func.isWrapper; first | (rw [if_pos (by decide +kernel)]; kernel_rfl) | (rw [if_neg (by decide +kernel)]; exact ⟨rfl, rfl⟩))
    (fun os started H enc _ => lifted os started H enc)

/-- The statement. -/
theorem proved : Rows.FindNearestSaid := over

end Go.Proofs.Ytlpgpnjplijgiaa.findNearestDone
