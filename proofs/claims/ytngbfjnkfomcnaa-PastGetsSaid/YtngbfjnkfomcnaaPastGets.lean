/- The statement PastGets: whatever the input, the function answers true, and the input reads as it did. No conditions. -/
import Derived.Test.YtngbfjnkfomcnaaTyp
import Derived.Test.YtngbfjnkfomcnaaRows
import Derived.Test.YtngbfjnkfomcnaaArgP
import Derived.Test.YtngbfjnkfomcnaaPastB
namespace Go.Proofs.Ytngbfjnkfomcnaa.pastGetsDone
open Go E
open Go.ChangeShapes Go.WideShapes Go.ChangeAt Go.RowKit

theorem own : ownKnob Try.prog.godebug = none := by kernel_rfl
theorem laidOut : laidOutB Try.prog = true := by kernel_rfl

theorem law : Law Try.prog 11 [49, 3, 3] := by
  intro xs hx
  obtain ⟨x1, xs1, rfl, h1, hx1⟩ := args_cons hx
  obtain ⟨p, rfl⟩ := arg_past h1
  obtain ⟨x2, xs2, rfl, h2, hx2⟩ := args_cons hx1
  obtain ⟨i, rfl, _⟩ := arg_num h2
  obtain ⟨x3, xs3, rfl, h3, hx3⟩ := args_cons hx2
  obtain ⟨dup, rfl, _⟩ := arg_num h3
  rw [args_nil hx3]
  exact (W_sound _).pc _ _ _ (pc_PastGets 0 p i dup)

set_option maxRecDepth 100000 in
theorem lifted (os : Os) (started : os.Started) (H : Type) (enc : TypeId × Value → H) :
    ReturnsInHanded {} Try.checked os 11 .any (Rows.pastGetsSpec.pre6 enc Try.prog Try.f11 Rows.pastGetsRow.domain false) (Rows.pastGetsSpec.post enc Try.prog Try.f11 false true false false) :=
  law_lifted (C := Try.checked) (fn := Try.f11) (s := Rows.pastGetsSpec) (enc := enc) (conds := Rows.pastGetsRow.domain) (tb := 4) own started (by kernel_rfl) Try.func11
    (ChangeSpec.witness6 (enc := enc) (C := Try.checked) false ⟨#[], #[.agg #[.int .i64 0, .int .i64 0, .slice none 0 0], .int .i64 0, .int .i64 0], []⟩ 8 (by kernel_rfl) (by kernel_rfl) (by kernel_rfl) (by kernel_rfl))
    rfl (fun ds hd => by
      rw [show Try.f11.params.size = [49, 3, 3].length from by kernel_rfl] at hd
      match ds, hd with
      | [d1, d2, d3], _ => rfl) laidOut (by kernel_rfl) (by kernel_rfl) (by kernel_rfl) law

theorem over : Rows.pastGetsRow.holds Try.pinned (OpenSpec.ofChange Rows.pastGetsSpec) :=
  OpenClaim.holds_of_wide 11 Try.f11 rfl rfl rfl rfl rfl rfl rfl ⟨rfl, rfl, rfl, rfl, rfl⟩ rfl rfl rfl rfl rfl (by kernel_rfl) Try.func11 (by kernel_rfl)
    (of_decide_eq_true (by kernel_rfl)) (by unfold Func.isWrapper; first | (rw [if_pos (by decide +kernel)]; kernel_rfl) | (rw [if_neg (by decide +kernel)]; exact ⟨rfl, rfl⟩))
    (fun os started H enc _ => lifted os started H enc)

/-- The statement. -/
theorem proved : Rows.PastGetsSaid := over

end Go.Proofs.Ytngbfjnkfomcnaa.pastGetsDone
