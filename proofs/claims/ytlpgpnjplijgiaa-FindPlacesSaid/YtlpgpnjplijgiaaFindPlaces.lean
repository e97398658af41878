/- The statement FindPlaces: whatever the input, the function answers true, and the input reads as it did. No conditions. -/
import Derived.Test.YtlpgpnjplijgiaaTyp
import Derived.Test.YtlpgpnjplijgiaaRows
import Derived.Test.YtlpgpnjplijgiaaArgF
import Derived.Test.YtlpgpnjplijgiaaFindD
namespace Go.Proofs.Ytlpgpnjplijgiaa.findPlacesDone
open Go E
open Go.ChangeShapes Go.WideShapes Go.ChangeAt Go.RowKit

theorem own : ownKnob Try.prog.godebug = none := by kernel_rfl
theorem laidOut : laidOutB Try.prog = true := by kernel_rfl

theorem law : Law Try.prog 6 [30, 30] := by
  intro xs hx
  obtain ⟨x1, xs1, rfl, h1, hx1⟩ := args_cons hx
  obtain ⟨l, rfl, _⟩ := arg_runes h1
  obtain ⟨x2, xs2, rfl, h2, hx2⟩ := args_cons hx1
  obtain ⟨p, rfl, _⟩ := arg_runes h2
  rw [args_nil hx2]
  exact (W_sound _).pc _ _ _ (pc_FindPlaces 0 l p)

set_option maxRecDepth 100000 in
theorem lifted (os : Os) (started : os.Started) (H : Type) (enc : TypeId × Value → H) :
    ReturnsInHanded {} Try.checked os 6 .any (Rows.findPlacesSpec.pre6 enc Try.prog Try.f6 Rows.findPlacesRow.domain false) (Rows.findPlacesSpec.post enc Try.prog Try.f6 false true false false) :=
  law_lifted (C := Try.checked) (fn := Try.f6) (s := Rows.findPlacesSpec) (enc := enc) (conds := Rows.findPlacesRow.domain) (tb := 4) own started (by kernel_rfl) Try.func6
    (ChangeSpec.witness6 (enc := enc) (C := Try.checked) false ⟨#[], #[.slice none 0 0, .slice none 0 0], []⟩ 8 (by kernel_rfl) (by kernel_rfl) (by kernel_rfl) (by kernel_rfl))
    rfl (fun ds hd => by
      rw [show Try.f6.params.size = [30, 30].length from by kernel_rfl] at hd
      match ds, hd with
      | [d1, d2], _ => rfl) laidOut (by kernel_rfl) (by kernel_rfl) (by kernel_rfl) law

theorem over : Rows.findPlacesRow.holds Try.pinned (OpenSpec.ofChange Rows.findPlacesSpec) :=
  OpenClaim.holds_of_wide 6 Try.f6 rfl rfl rfl rfl rfl rfl rfl ⟨rfl, rfl, rfl, rfl, rfl⟩ rfl rfl rfl rfl rfl (by kernel_rfl) Try.func6 (by kernel_rfl)
    (of_decide_eq_true (by kernel_rfl)) (by unfold Func.isWrapper; first | (rw [if_pos (by decide +kernel)]; kernel_rfl) | (rw [if_neg (by decide +kernel)]; exact ⟨rfl, rfl⟩))
    (fun os started H enc _ => lifted os started H enc)

/-- The statement. -/
theorem proved : Rows.FindPlacesSaid := over

end Go.Proofs.Ytlpgpnjplijgiaa.findPlacesDone
