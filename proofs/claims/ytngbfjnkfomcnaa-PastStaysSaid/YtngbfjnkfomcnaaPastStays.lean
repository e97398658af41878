/- The statement PastStays: whatever the input, the function answers true, and the input reads as it did. No conditions. -/
import Derived.Test.YtngbfjnkfomcnaaTyp
import Derived.Test.YtngbfjnkfomcnaaRows
import Derived.Test.YtngbfjnkfomcnaaArgP
import Derived.Test.YtngbfjnkfomcnaaPastF
namespace Go.Proofs.Ytngbfjnkfomcnaa.pastStaysDone
open Go E
open Go.ChangeShapes Go.WideShapes Go.ChangeAt Go.RowKit

theorem own : ownKnob Try.prog.godebug = none := by kernel_rfl
theorem laidOut : laidOutB Try.prog = true := by kernel_rfl

theorem law : Law Try.prog 12 [49, 25] := by
  intro xs hx
  obtain ⟨x1, xs1, rfl, h1, hx1⟩ := args_cons hx
  obtain ⟨p, rfl⟩ := arg_past h1
  obtain ⟨x2, xs2, rfl, h2, hx2⟩ := args_cons hx1
  obtain ⟨l, rfl, _⟩ := arg_runes h2
  rw [args_nil hx2]
  exact (W_sound _).pc _ _ _ (pc_PastStays 0 p l)

set_option maxRecDepth 100000 in
theorem lifted (os : Os) (started : os.Started) (H : Type) (enc : TypeId × Value → H) :
    ReturnsInHanded {} Try.checked os 12 .any (Rows.pastStaysSpec.pre6 enc Try.prog Try.f12 Rows.pastStaysRow.domain false) (Rows.pastStaysSpec.post enc Try.prog Try.f12 false true false false) :=
  law_lifted (C := Try.checked) (fn := Try.f12) (s := Rows.pastStaysSpec) (enc := enc) (conds := Rows.pastStaysRow.domain) (tb := 4) own started (by kernel_rfl) Try.func12
    (ChangeSpec.witness6 (enc := enc) (C := Try.checked) false ⟨#[], #[.agg #[.int .i64 0, .int .i64 0, .slice none 0 0], .slice none 0 0], []⟩ 8 (by kernel_rfl) (by kernel_rfl) (by kernel_rfl) (by kernel_rfl))
    rfl (fun ds hd => by
      rw [show Try.f12.params.size = [49, 25].length from by kernel_rfl] at hd
      match ds, hd with
      | [d1, d2], _ => rfl) laidOut (by kernel_rfl) (by kernel_rfl) (by kernel_rfl) law

theorem over : Rows.pastStaysRow.holds Try.pinned (OpenSpec.ofChange Rows.pastStaysSpec) :=
  OpenClaim.holds_of_wide 12 Try.f12 rfl rfl rfl rfl rfl rfl rfl ⟨rfl, rfl, rfl, rfl, rfl⟩ rfl rfl rfl rfl rfl (by kernel_rfl) Try.func12 (by kernel_rfl)
    (of_decide_eq_true (by kernel_rfl)) (by unfold Func.isWrapper; first | (rw [if_pos (by decide +kernel)]; kernel_rfl) | (rw [if_neg (by decide +kernel)]; exact ⟨rfl, rfl⟩))
    (fun os started H enc _ => lifted os started H enc)

/-- The statement. -/
theorem proved : Rows.PastStaysSaid := over

end Go.Proofs.Ytngbfjnkfomcnaa.pastStaysDone
