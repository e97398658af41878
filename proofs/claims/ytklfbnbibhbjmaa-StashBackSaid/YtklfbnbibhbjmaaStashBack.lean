/- The statement StashBack: whatever the input, the function answers true, and the input reads as it did. No conditions. -/
import Derived.Test.YtklfbnbibhbjmaaTyp
import Derived.Test.YtklfbnbibhbjmaaRows
import Derived.Test.YtklfbnbibhbjmaaArgS
import Derived.Test.YtklfbnbibhbjmaaStashI
namespace Go.Proofs.Ytklfbnbibhbjmaa.stashBackDone
open Go E
open Go.ChangeShapes Go.WideShapes Go.ChangeAt Go.RowKit

theorem own : ownKnob Try.prog.godebug = none := by kernel_rfl
theorem laidOut : laidOutB Try.prog = true := by kernel_rfl

theorem law : Law Try.prog 5 [24, 27, 30, 30, 3] := by
  intro xs hx
  obtain ⟨x1, xs1, rfl, h1, hx1⟩ := args_cons hx
  obtain ⟨s, rfl⟩ := arg_stash h1
  obtain ⟨x2, xs2, rfl, h2, hx2⟩ := args_cons hx1
  obtain ⟨p, rfl⟩ := arg_past h2
  obtain ⟨x3, xs3, rfl, h3, hx3⟩ := args_cons hx2
  obtain ⟨g, rfl, _⟩ := arg_gap h3
  obtain ⟨x4, xs4, rfl, h4, hx4⟩ := args_cons hx3
  obtain ⟨h, rfl, _⟩ := arg_gap h4
  obtain ⟨x5, xs5, rfl, h5, hx5⟩ := args_cons hx4
  obtain ⟨i, rfl, _⟩ := arg_num h5
  rw [args_nil hx5]
  exact (W_sound _).pc _ _ _ (pc_StashBack 0 s p g h i)

set_option maxRecDepth 100000 in
theorem lifted (os : Os) (started : os.Started) (H : Type) (enc : TypeId × Value → H) :
    ReturnsInHanded {} Try.checked os 5 .any (Rows.stashBackSpec.pre6 enc Try.prog Try.f5 Rows.stashBackRow.domain false) (Rows.stashBackSpec.post enc Try.prog Try.f5 false true false false) :=
  law_lifted (C := Try.checked) (fn := Try.f5) (s := Rows.stashBackSpec) (enc := enc) (conds := Rows.stashBackRow.domain) (tb := 4) own started (by kernel_rfl) Try.func5
    (ChangeSpec.witness6 (enc := enc) (C := Try.checked) false ⟨#[], #[.agg #[.int .i64 0, .slice none 0 0], .agg #[.int .i64 0, .int .i64 0, .slice none 0 0], .agg #[.slice none 0 0, .slice none 0 0], .agg #[.slice none 0 0, .slice none 0 0], .int .i64 0], []⟩ 8 (by kernel_rfl) (by kernel_rfl) (by kernel_rfl) (by kernel_rfl))
    rfl (fun ds hd => by
      rw [show Try.f5.params.size = [24, 27, 30, 30, 3].length from by kernel_rfl] at hd
      match ds, hd with
      | [d1, d2, d3, d4, d5], _ => rfl) laidOut (by kernel_rfl) (by kernel_rfl) (by kernel_rfl) law

theorem over : Rows.stashBackRow.holds Try.pinned (OpenSpec.ofChange Rows.stashBackSpec) :=
  OpenClaim.holds_of_wide 5 Try.f5 rfl rfl rfl rfl rfl rfl rfl ⟨rfl, rfl, rfl, rfl, rfl⟩ rfl rfl rfl rfl rfl (by kernel_rfl) Try.func5 (by kernel_rfl)
    (of_decide_eq_true (by kernel_rfl)) (by unfold Func.isWrapper; first | (rw [if_pos (by decide +kernel)]; kernel_rfl) | (rw [if_neg (by decide +kernel)]; exact ⟨rfl, rfl⟩))
    (fun os started H enc _ => lifted os started H enc)

/-- The statement. -/
theorem proved : Rows.StashBackSaid := over

end Go.Proofs.Ytklfbnbibhbjmaa.stashBackDone
