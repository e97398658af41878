/- The statement FindLonger: whatever the input, the function answers true, and the input reads as it did. No conditions. -/
import Derived.Test.YtlpgpnjplijgiaaTyp
import Derived.Test.YtlpgpnjplijgiaaRows
import Derived.Test.YtlpgpnjplijgiaaArgF
import Derived.Test.YtlpgpnjplijgiaaFindD
namespace Go.Proofs.Ytlpgpnjplijgiaa.findLongerDone
open Go E
open Go.ChangeShapes Go.WideShapes Go.ChangeAt Go.RowKit

theorem own : ownKnob Try.prog.godebug = none := by kernel_rfl
theorem laidOut : laidOutB Try.prog = true := by kernel_rfl

theorem law : Law Try.prog 10 [35, 30, 30, 3] := by
  intro xs hx
  obtain ⟨x1, xs1, rfl, h1, hx1⟩ := args_cons hx
  obtain ⟨p, rfl, hp⟩ := arg_pastF h1
  obtain ⟨x2, xs2, rfl, h2, hx2⟩ := args_cons hx1
  obtain ⟨l, rfl, hl⟩ := arg_runesF h2
  obtain ⟨x3, xs3, rfl, h3, hx3⟩ := args_cons hx2
  obtain ⟨m, rfl, _⟩ := arg_runes h3
  obtain ⟨x4, xs4, rfl, h4, hx4⟩ := args_cons hx3
  obtain ⟨i, rfl, hi⟩ := arg_num h4
  rw [args_nil hx4]
  exact (W_sound _).pc _ _ _ (pc_FindLonger 0 p l m i hi)

set_option maxRecDepth 100000 in
theorem lifted (os : Os) (started : os.Started) (H : Type) (enc : TypeId × Value → H) :
    ReturnsInHanded {} Try.checked os 10 .any (Rows.findLongerSpec.pre6 enc Try.prog Try.f10 Rows.findLongerRow.domain false) (Rows.findLongerSpec.post enc Try.prog Try.f10 false true false false) :=
  law_lifted (C := Try.checked) (fn := Try.f10) (s := Rows.findLongerSpec) (enc := enc) (conds := Rows.findLongerRow.domain) (tb := 4) own started (by kernel_rfl) Try.func10
    (ChangeSpec.witness6 (enc := enc) (C := Try.checked) false ⟨#[], #[.agg #[.int .i64 0, .int .i64 0, .slice none 0 0], .slice none 0 0, .slice none 0 0, .int .i64 0], []⟩ 8 (by kernel_rfl) (by kernel_rfl) (by kernel_rfl) (by kernel_rfl))
    rfl (fun ds hd => by
      rw [show Try.f10.params.size = [35, 30, 30, 3].length from by kernel_rfl] at hd
      match ds, hd with
      | [d1, d2, d3, d4], _ => rfl) laidOut (by kernel_rfl) (by kernel_rfl) (by kernel_rfl) law

theorem over : Rows.findLongerRow.holds Try.pinned (OpenSpec.ofChange Rows.findLongerSpec) :=
  OpenClaim.holds_of_wide 10 Try.f10 rfl rfl rfl rfl rfl rfl rfl ⟨rfl, rfl, rfl, rfl, rfl⟩ rfl rfl rfl rfl rfl (by kernel_rfl) Try.func10 (by kernel_rfl)
    (of_decide_eq_true (by kernel_rfl)) (by unfold Func.isWrapper; first | (rw [if_pos (by decide +kernel)]; kernel_rfl) | (rw [if_neg (by decide +kernel)]; exact ⟨rfl, rfl⟩))
    (fun os started H enc _ => lifted os started H enc)

/-- The statement. -/
theorem proved : Rows.FindLongerSaid := over

end Go.Proofs.Ytlpgpnjplijgiaa.findLongerDone
