/- The statement StashStays: whatever the input, the function answers true, and the input reads as it did. No conditions. -/
import Derived.Test.YtklfbnbibhbjmaaTyp
import Derived.Test.YtklfbnbibhbjmaaRows
import Derived.Test.YtklfbnbibhbjmaaArgS
import Derived.Test.YtklfbnbibhbjmaaStashI
namespace Go.Proofs.Ytklfbnbibhbjmaa.stashStaysDone
open Go E
open Go.ChangeShapes Go.WideShapes Go.ChangeAt Go.RowKit

theorem own : ownKnob Try.prog.godebug = none := by kernel_rfl
theorem laidOut : laidOutB Try.prog = true := by kernel_rfl

theorem law : Law Try.prog 6 [24, 27, 30, 3] := by
  intro xs hx
  obtain ⟨x1, xs1, rfl, h1, hx1⟩ := args_cons hx
  obtain ⟨s, rfl⟩ := arg_stash h1
  obtain ⟨x2, xs2, rfl, h2, hx2⟩ := args_cons hx1
  obtain ⟨p, rfl⟩ := arg_past h2
  obtain ⟨x3, xs3, rfl, h3, hx3⟩ := args_cons hx2
  obtain ⟨g, rfl, _⟩ := arg_gap h3
  obtain ⟨x4, xs4, rfl, h4, hx4⟩ := args_cons hx3
  obtain ⟨i, rfl, _⟩ := arg_num h4
  rw [args_nil hx4]
  exact (W_sound _).pc _ _ _ (pc_StashStays 0 s p g i)

set_option maxRecDepth 100000 in
theorem lifted (os : Os) (started : os.Started) (H : Type) (enc : TypeId × Value → H) :
    ReturnsInHanded {} Try.checked os 6 .any (Rows.stashStaysSpec.pre6 enc Try.prog Try.f6 Rows.stashStaysRow.domain false) (Rows.stashStaysSpec.post enc Try.prog Try.f6 false true false false) :=
  law_lifted (C := Try.checked) (fn := Try.f6) (s := Rows.stashStaysSpec) (enc := enc) (conds := Rows.stashStaysRow.domain) (tb := 4) own started (by kernel_rfl) Try.func6
    (ChangeSpec.witness6 (enc := enc) (C := Try.checked) false ⟨#[], #[.agg #[.int .i64 0, .slice none 0 0], .agg #[.int .i64 0, .int .i64 0, .slice none 0 0], .agg #[.slice none 0 0, .slice none 0 0], .int .i64 0], []⟩ 8 (by kernel_rfl) (by kernel_rfl) (by kernel_rfl) (by kernel_rfl))
    rfl (fun ds hd => by
      rw [show Try.f6.params.size = [24, 27, 30, 3].length from by kernel_rfl] at hd
      match ds, hd with
      | [d1, d2, d3, d4], _ => rfl) laidOut (by kernel_rfl) (by kernel_rfl) (by kernel_rfl) law

theorem over : Rows.stashStaysRow.holds Try.pinned (OpenSpec.ofChange Rows.stashStaysSpec) :=
  OpenClaim.holds_of_wide 6 Try.f6 rfl rfl rfl rfl rfl rfl rfl ⟨rfl, rfl, rfl, rfl, rfl⟩ rfl rfl rfl rfl rfl (by kernel_rfl) Try.func6 (by kernel_rfl)
    (of_decide_eq_true (by kernel_rfl)) (by unfold Func.isWrapper; first | (rw [if_pos (by decide +kernel)]; kernel_rfl) | (rw [if_neg (by decide +kernel)]; exact ⟨rfl, rfl⟩))
    (fun os started H enc _ => lifted os started H enc)

/-- The statement. -/
theorem proved : Rows.StashStaysSaid := over

end Go.Proofs.Ytklfbnbibhbjmaa.stashStaysDone
