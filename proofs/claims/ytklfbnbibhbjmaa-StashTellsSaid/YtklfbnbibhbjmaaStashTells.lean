/- The statement StashTells: whatever the input, the function answers true, and the input reads as it did. No conditions. -/
import Derived.Test.YtklfbnbibhbjmaaTyp
import Derived.Test.YtklfbnbibhbjmaaRows
import Derived.Test.YtklfbnbibhbjmaaArgS
import Derived.Test.YtklfbnbibhbjmaaStashG
namespace Go.Proofs.Ytklfbnbibhbjmaa.stashTellsDone
open Go E
open Go.ChangeShapes Go.WideShapes Go.ChangeAt Go.RowKit

theorem own : ownKnob Try.prog.godebug = none := by kernel_rfl
theorem laidOut : laidOutB Try.prog = true := by kernel_rfl

theorem law : Law Try.prog 4 [24, 27, 3] := by
  intro xs hx
  obtain ⟨x1, xs1, rfl, h1, hx1⟩ := args_cons hx
  obtain ⟨s, rfl⟩ := arg_stash h1
  obtain ⟨x2, xs2, rfl, h2, hx2⟩ := args_cons hx1
  obtain ⟨p, rfl⟩ := arg_past h2
  obtain ⟨x3, xs3, rfl, h3, hx3⟩ := args_cons hx2
  obtain ⟨i, rfl, _⟩ := arg_num h3
  rw [args_nil hx3]
  exact (W_sound _).pc _ _ _ (pc_StashTells 0 s p i)

set_option maxRecDepth 100000 in
theorem lifted (os : Os) (started : os.Started) (H : Type) (enc : TypeId × Value → H) :
    ReturnsInHanded {} Try.checked os 4 .any (Rows.stashTellsSpec.pre6 enc Try.prog Try.f4 Rows.stashTellsRow.domain false) (Rows.stashTellsSpec.post enc Try.prog Try.f4 false true false false) :=
  law_lifted (C := Try.checked) (fn := Try.f4) (s := Rows.stashTellsSpec) (enc := enc) (conds := Rows.stashTellsRow.domain) (tb := 4) own started (by kernel_rfl) Try.func4
    (ChangeSpec.witness6 (enc := enc) (C := Try.checked) false ⟨#[], #[.agg #[.int .i64 0, .slice none 0 0], .agg #[.int .i64 0, .int .i64 0, .slice none 0 0], .int .i64 0], []⟩ 8 (by kernel_rfl) (by kernel_rfl) (by kernel_rfl) (by kernel_rfl))
    rfl (fun ds hd => by
      rw [show Try.f4.params.size = [24, 27, 3].length from by kernel_rfl] at hd
      match ds, hd with
      | [d1, d2, d3], _ => rfl) laidOut (by kernel_rfl) (by kernel_rfl) (by kernel_rfl) law

theorem over : Rows.stashTellsRow.holds Try.pinned (OpenSpec.ofChange Rows.stashTellsSpec) :=
  OpenClaim.holds_of_wide 4 Try.f4 rfl rfl rfl rfl rfl rfl rfl ⟨rfl, rfl, rfl, rfl, rfl⟩ rfl rfl rfl rfl rfl (by kernel_rfl) Try.func4 (by kernel_rfl)
    (of_decide_eq_true (by kernel_rfl)) (by unfold Func.isWrapper; first | (rw [if_pos (by decide +kernel)]; kernel_rfl) | (rw [if_neg (by decide +kernel)]; exact ⟨rfl, rfl⟩))
    (fun os started H enc _ => lifted os started H enc)

/-- The statement. -/
theorem proved : Rows.StashTellsSaid := over

end Go.Proofs.Ytklfbnbibhbjmaa.stashTellsDone
