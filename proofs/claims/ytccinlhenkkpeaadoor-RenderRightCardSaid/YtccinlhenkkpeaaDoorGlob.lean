/- What the package variables hold when a call begins. -/
import Derived.Test.YtccinlhenkkpeaaDoorLift
import Derived.Test.YtccinlhenkkpeaaDoorRows
import Derived.LaidMore
import Derived.MakeChecks
namespace Go.Proofs.YtccinlhenkkpeaaDoor
open Go E

/-- Where wide signs are, as the variable holds it. -/
def spansL : List (List Int) := [[4352, 4447], [11904, 12350], [12353, 42191], [44032, 55203], [63744, 64255], [65072, 65135], [65281, 65376], [65504, 65510], [127744, 128591], [129280, 129535], [131072, 262141]]

theorem spansL_datum : (Rows.laid_typebar_wide_spans : DataW Unit) = .agg (spansL.map fun l => .agg (l.map fun n => .lit (.int .i32 n))) := rfl

/-- The cells, out of what is read there. -/
theorem glob_laid (W : World) (h : laidMetH Tryd.prog [("typebar/wide.spans", Rows.laid_typebar_wide_spans)] W) : Glob W (fun b _ => b < W.heap.size) := by
  rw [MakeChecks.laidMetH_plain _ _ _ (by kernel_rfl)] at h
  obtain ⟨ps, ⟨g0, t0, cs0, f0, p0, q0, hg0, ht0, hv0, hd0, _, _⟩, _, _⟩ := h
  obtain rfl := Option.some.inj ((show Tryd.prog.globalNamed "typebar/wide.spans" = some 0 by kernel_rfl).symm.trans hg0)
  obtain rfl := Option.some.inj ((show (Tryd.prog.globals[0]?).map (·.type) = some 95 by kernel_rfl).symm.trans ht0)
  rw [spansL_datum] at hd0
  have hcs := arr_rows (k := .i32) (ls := spansL) (n := 2) (e := 94) (i := 21) (by kernel_rfl) (by kernel_rfl) (by kernel_rfl) (by kernel_rfl) (by kernel_rfl) (by kernel_rfl) (by decide) hd0
  intro g cs hg
  have hg' : g = 0 ∧ cs = spansL.flatten.map (D.int .i32) := by
    simp only [glob, GT, List.find?_cons, List.find?_nil] at hg
    split at hg
    · rename_i e
      simp only [Option.map_some, Option.some.injEq] at hg
      exact ⟨(beq_iff_eq.1 e).symm, hg.symm⟩
    · simp at hg
  obtain ⟨rfl, rfl⟩ := hg'
  refine ⟨spansL.flatten.map (Value.int .i32), .inr ⟨_, 0, rfl, fun j v hj => ?_⟩, by decide, ?_⟩
  · have hc := World.var?_cell hg0 hv0 j
    rw [← hcs] at hj
    have e : cs0[j]? = some v := by simpa using hj
    rw [Nat.zero_add]
    refine ⟨hc.trans e, ?_⟩
    by_cases hlt : 0 < W.heap.size
    · exact hlt
    · exfalso
      rw [e] at hc
      simp [World.cell?, Array.getElem?_eq_none (Nat.le_of_not_lt hlt)] at hc
  · have key : ∀ l : List Int, RepL W (fun b _ => b < W.heap.size) [] [] (l.map (D.int .i32)) (l.map (Value.int .i32)) := by
      intro l
      induction l with
      | nil => simp [RepL]
      | cons x r ih =>
        simp only [List.map_cons, RepL]
        exact ⟨_, _, rfl, by simp only [Rep], ih⟩
    exact key _

end Go.Proofs.YtccinlhenkkpeaaDoor
