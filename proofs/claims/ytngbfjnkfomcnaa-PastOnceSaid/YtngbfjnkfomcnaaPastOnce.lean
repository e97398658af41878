/- The statement PastOnce: whatever the input, the function answers true, and the input reads as it did. No conditions. -/
import Derived.Test.YtngbfjnkfomcnaaTyp
import Derived.Test.YtngbfjnkfomcnaaRows
import Derived.Test.YtngbfjnkfomcnaaArgP
import Derived.Test.YtngbfjnkfomcnaaPastF
namespace Go.Proofs.Ytngbfjnkfomcnaa.pastOnceDone
open Go E
open Go.ChangeShapes Go.WideShapes Go.ChangeAt Go.RowKit

theorem own : ownKnob Try.prog.godebug = none := by kernel_rfl
theorem laidOut : laidOutB Try.prog = true := by kernel_rfl

theorem law : Law Try.prog 13 [3, 47] := by
  intro xs hx
  obtain ⟨x1, xs1, rfl, h1, hx1⟩ := args_cons hx
  obtain ⟨room, rfl, _⟩ := arg_num h1
  obtain ⟨x2, xs2, rfl, h2, hx2⟩ := args_cons hx1
  obtain ⟨l, rfl⟩ := arg_lines h2
  rw [args_nil hx2]
  exact (W_sound _).pc _ _ _ (pc_PastOnce 0 room l)

set_option maxRecDepth 100000 in
theorem lifted (os : Os) (started : os.Started) (H : Type) (enc : TypeId × Value → H) :
    ReturnsInHanded {} Try.checked os 13 .any (Rows.pastOnceSpec.pre6 enc Try.prog Try.f13 Rows.pastOnceRow.domain false) (Rows.pastOnceSpec.post enc Try.prog Try.f13 false true false false) :=
  law_lifted (C := Try.checked) (fn := Try.f13) (s := Rows.pastOnceSpec) (enc := enc) (conds := Rows.pastOnceRow.domain) (tb := 4) own started (by kernel_rfl) Try.func13
    (ChangeSpec.witness6 (enc := enc) (C := Try.checked) false ⟨#[], #[.int .i64 0, .slice none 0 0], []⟩ 8 (by kernel_rfl) (by kernel_rfl) (by kernel_rfl) (by kernel_rfl))
    rfl (fun ds hd => by
      rw [show Try.f13.params.size = [3, 47].length from by kernel_rfl] at hd
      match ds, hd with
      | [d1, d2], _ => rfl) laidOut (by kernel_rfl) (by kernel_rfl) (by kernel_rfl) law

theorem over : Rows.pastOnceRow.holds Try.pinned (OpenSpec.ofChange Rows.pastOnceSpec) :=
  OpenClaim.holds_of_wide 13 Try.f13 rfl rfl rfl rfl rfl rfl rfl ⟨rfl, rfl, rfl, rfl, rfl⟩ rfl rfl rfl rfl rfl (by kernel_rfl) Try.func13 (by kernel_rfl)
    (of_decide_eq_true (by kernel_rfl)) (by unfold Func.isWrapper; first | (rw [if_pos (by decide +kernel)]; kernel_rfl) | (rw [if_neg (by decide +kernel)]; exact ⟨rfl, rfl⟩))
    (fun os started H enc _ => lifted os started H enc)

/-- The statement. -/
theorem proved : Rows.PastOnceSaid := over

end Go.Proofs.Ytngbfjnkfomcnaa.pastOnceDone
