/- What an editor shows. -/
import Derived.Test.YtccinlhenkkpeaaDoorRenF
namespace Go.Proofs.YtccinlhenkkpeaaDoor
open Go E
set_option linter.unusedSimpArgs false
set_option linter.unusedVariables false
set_option maxRecDepth 100000

def aheadS (f : SrM) : List Int := (if f.fore then 47 else 63) :: f.pat ++ [58, 32]

/-- What an editor shows: what stands ahead, and the line. -/
def eShown (e : EditorM) : List Int × Gap :=
  if edrIs e = true then
    (if e.F.on then (aheadS e.F, if e.F.hit then (gapOf (e.P.L.getD e.F.i.toNat []) e.F.at_).1 else e.E.G)
     else (if e.vm = 1 then [58, 32] else [62, 32], e.E.G))
  else ([], ⟨[], []⟩)

theorem hit_in {e : EditorM} (h : edrIs e = true) (h1 : e.F.on = true) (h2 : e.F.hit = true) : 0 ≤ e.F.i ∧ e.F.i < e.P.L.length := by
  simp only [edrIs, h1, h2, if_true, skIs, Bool.and_eq_true, decide_eq_true_eq] at h
  have := h.2.2.2.1
  simp only [pGet] at this
  split at this
  · exact absurd this (by decide)
  split at this
  · exact absurd this (by decide)
  · omega

theorem app1_nil (b0 b1 : Blk) (c : Int) : appD [b0, b1] 1 4 (.arr 1 true [.int .i32 c]) (row runeC false []) = some (.arr 1 true [.int .i32 c], [b0, b1]) := by
  simp [appD]

theorem app2_nil (b0 b1 : Blk) (c : Int) : appD [b0, b1] 1 4 (.arr 1 true [.int .i32 c]) (.arr 2 true [.int .i32 58, .int .i32 32]) = some (.ref 2 0 3 1 3 false, [b0, b1, ⟨cells runeC [c, 58, 32], 0, false⟩]) := by
  simp [appD, contents]

theorem app1_row (b0 b1 : Blk) (c : Int) {X : List Int} (h : X ≠ []) (hl : X.length < 2000000) : appD [b0, b1] 1 4 (.arr 1 true [.int .i32 c]) (rn X) = some (.ref 2 0 (X.length + 1) 1 (X.length + 1) false, [b0, b1, ⟨cells runeC (c :: X), 0, false⟩]) := by
  have e : D.arr 1 true [.int .i32 c] = row runeC true [c] := rfl
  rw [e, appD_row (by rfl), if_neg h, if_pos ⟨rfl, by simp; omega, by simp; omega⟩]
  simp [Nat.add_comm]

theorem app2_row (b0 b1 : Blk) (c : Int) (X : List Int) (hl : X.length < 2000000) : appD [b0, b1, ⟨cells runeC (c :: X), 0, false⟩] 1 4 (.ref 2 0 (X.length + 1) 1 (X.length + 1) false) (.arr 2 true [.int .i32 58, .int .i32 32]) = some (.ref 2 0 (X.length + 3) 1 (X.length + 3) false, [b0, b1, ⟨cells runeC (c :: X ++ [58, 32]), 0, false⟩]) := by
  simp [appD, contents]
  omega

theorem pc_editor_Shown (n : Nat) (e : EditorM) (h : EdrSmall e) : (W (n + 11)).pc 7 [edrD e] = some (.tup [rn (eShown e).1, gD (eShown e).2]) := by
  apply runs c_editor_Shown
  have hI := pc_editor_Is n e h
  have hf := h.f
  have hpl := h.p.1
  cases hi : edrIs e
  · rw [hi] at hI
    have hs : eShown e = ([], ⟨[], []⟩) := by simp [eShown, hi]
    rw [hs]
    simp [X_editor_Shown, hI]
    all_goals rfl
  · rw [hi] at hI
    cases hon : e.F.on
    · by_cases hv : e.vm = 1
      · have hs : eShown e = ([58, 32], e.E.G) := by simp [eShown, hi, hon, hv]
        rw [hs]
        simp only [edrD, hon, hv] at hI
        simp [X_editor_Shown, hI, hon, hv]
        repeat' (first
          | simp (disch := omega) only [wrap_i64, wrap_i32]
          | (simp (disch := first | omega | assumption | (simp only [i64, i32]; omega) | (simp <;> omega) | fail) only [loadD_cpr, loadD_cprs, List.take_of_length_le]; simp [*, hI, hon, hv])
          | (with_reducible refine And.intro ?_ ?_; focus first | omega | decide)
          | (with_reducible refine split_ite (fun hp => ?_) (fun hp => ?_) <;> (try simp at hp) <;> simp [*, hI, hon, hv])
          | (with_reducible refine split_ite1 (fun hp => ?_) (fun hp => ?_) <;> (try simp at hp) <;> simp [*, hI, hon, hv])
          | (refine split_cond (by simp) (fun hp => ?_) (fun hp => ?_) <;> simp at hp <;> simp [*, hI, hon, hv])
          | (refine split_ops (by simp) (fun hp => ?_) (fun hp => ?_) <;> simp at hp <;> simp [*, hI, hon, hv])
          | (refine split_opsD (by simp) (fun hp => ?_) (fun hp => ?_) <;> simp at hp <;> simp [*, hI, hon, hv])
          | (refine split_pick (by simp) (fun hp => ?_) (fun hp => ?_) <;> simp at hp <;> simp [*, hI, hon, hv])
          | omega
          | decide
          | (simp [*, hI, hon, hv]))
        all_goals rfl
      · have hs : eShown e = ([62, 32], e.E.G) := by simp [eShown, hi, hon, hv]
        rw [hs]
        simp only [edrD, hon] at hI
        simp [X_editor_Shown, hI, hon, hv]
        repeat' (first
          | simp (disch := omega) only [wrap_i64, wrap_i32]
          | (simp (disch := first | omega | assumption | (simp only [i64, i32]; omega) | (simp <;> omega) | fail) only [loadD_cpr, loadD_cprs, List.take_of_length_le]; simp [*, hI, hon, hv])
          | (with_reducible refine And.intro ?_ ?_; focus first | omega | decide)
          | (with_reducible refine split_ite (fun hp => ?_) (fun hp => ?_) <;> (try simp at hp) <;> simp [*, hI, hon, hv])
          | (with_reducible refine split_ite1 (fun hp => ?_) (fun hp => ?_) <;> (try simp at hp) <;> simp [*, hI, hon, hv])
          | (refine split_cond (by simp) (fun hp => ?_) (fun hp => ?_) <;> simp at hp <;> simp [*, hI, hon, hv])
          | (refine split_ops (by simp) (fun hp => ?_) (fun hp => ?_) <;> simp at hp <;> simp [*, hI, hon, hv])
          | (refine split_opsD (by simp) (fun hp => ?_) (fun hp => ?_) <;> simp at hp <;> simp [*, hI, hon, hv])
          | (refine split_pick (by simp) (fun hp => ?_) (fun hp => ?_) <;> simp at hp <;> simp [*, hI, hon, hv])
          | omega
          | decide
          | (simp [*, hI, hon, hv]))
        all_goals rfl
    · by_cases hpat : e.F.pat = []
      · cases hh : e.F.hit
        · have hs : eShown e = ((if e.F.fore then 47 else 63) :: [58, 32], e.E.G) := by simp [eShown, aheadS, hi, hon, hh, hpat]
          rw [hs]
          simp only [edrD, hon, hh, hpat] at hI
          simp [X_editor_Shown, hI, hon, hh, hpat]
          repeat' (first
            | simp (disch := omega) only [wrap_i64, wrap_i32]
            | (simp (disch := first | omega | assumption | (simp only [i64, i32]; omega) | (simp <;> omega) | fail) only [loadD_cpr, loadD_cprs, List.take_of_length_le]; simp [*, hI, hon, hh, hpat, app1_nil, app2_nil])
            | (with_reducible refine And.intro ?_ ?_; focus first | omega | decide)
            | (with_reducible refine split_ite (fun hp => ?_) (fun hp => ?_) <;> (try simp at hp) <;> simp [*, hI, hon, hh, hpat, app1_nil, app2_nil])
            | (with_reducible refine split_ite1 (fun hp => ?_) (fun hp => ?_) <;> (try simp at hp) <;> simp [*, hI, hon, hh, hpat, app1_nil, app2_nil])
            | (refine split_cond (by simp) (fun hp => ?_) (fun hp => ?_) <;> simp at hp <;> simp [*, hI, hon, hh, hpat, app1_nil, app2_nil])
            | (refine split_ops (by simp) (fun hp => ?_) (fun hp => ?_) <;> simp at hp <;> simp [*, hI, hon, hh, hpat, app1_nil, app2_nil])
            | (refine split_opsD (by simp) (fun hp => ?_) (fun hp => ?_) <;> simp at hp <;> simp [*, hI, hon, hh, hpat, app1_nil, app2_nil])
            | (refine split_pick (by simp) (fun hp => ?_) (fun hp => ?_) <;> simp at hp <;> simp [*, hI, hon, hh, hpat, app1_nil, app2_nil])
            | omega
            | decide
            | (simp [*, hI, hon, hh, hpat, app1_nil, app2_nil]))
          all_goals rfl
        · have hs : eShown e = ((if e.F.fore then 47 else 63) :: [58, 32], (gapOf (e.P.L.getD e.F.i.toNat []) e.F.at_).1) := by simp [eShown, aheadS, hi, hon, hh, hpat]
          rw [hs]
          obtain ⟨i1, i2⟩ := hit_in hi hon hh
          have i3 : e.F.i.toNat < e.P.L.length := by omega
          have hO := pc_gap_Of (n + 6) e.P.L[e.F.i.toNat] e.F.at_ (h.p.2 _ (List.getElem_mem i3))
          rw [getD_at i3]
          simp only [edrD, hon, hh, hpat] at hI
          simp [X_editor_Shown, hI, hon, hh, hpat]
          repeat' (first
            | simp (disch := omega) only [wrap_i64, wrap_i32]
            | (simp (disch := first | omega | assumption | (simp only [i64, i32]; omega) | (simp <;> omega) | fail) only [loadD_cpr, loadD_cprs, List.take_of_length_le]; simp [*, hI, hon, hh, hpat, i1, i2, hO, app1_nil, app2_nil])
            | (with_reducible refine And.intro ?_ ?_; focus first | omega | decide)
            | (with_reducible refine split_ite (fun hp => ?_) (fun hp => ?_) <;> (try simp at hp) <;> simp [*, hI, hon, hh, hpat, i1, i2, hO, app1_nil, app2_nil])
            | (with_reducible refine split_ite1 (fun hp => ?_) (fun hp => ?_) <;> (try simp at hp) <;> simp [*, hI, hon, hh, hpat, i1, i2, hO, app1_nil, app2_nil])
            | (refine split_cond (by simp) (fun hp => ?_) (fun hp => ?_) <;> simp at hp <;> simp [*, hI, hon, hh, hpat, i1, i2, hO, app1_nil, app2_nil])
            | (refine split_ops (by simp) (fun hp => ?_) (fun hp => ?_) <;> simp at hp <;> simp [*, hI, hon, hh, hpat, i1, i2, hO, app1_nil, app2_nil])
            | (refine split_opsD (by simp) (fun hp => ?_) (fun hp => ?_) <;> simp at hp <;> simp [*, hI, hon, hh, hpat, i1, i2, hO, app1_nil, app2_nil])
            | (refine split_pick (by simp) (fun hp => ?_) (fun hp => ?_) <;> simp at hp <;> simp [*, hI, hon, hh, hpat, i1, i2, hO, app1_nil, app2_nil])
            | omega
            | decide
            | (simp [*, hI, hon, hh, hpat, i1, i2, hO, app1_nil, app2_nil]))
          all_goals rfl
      · cases hh : e.F.hit
        · have hs : eShown e = ((if e.F.fore then 47 else 63) :: e.F.pat ++ [58, 32], e.E.G) := by simp [eShown, aheadS, hi, hon, hh]
          rw [hs]
          simp only [edrD, hon, hh] at hI
          have hp1 := fun b0 b1 c => app1_row b0 b1 c hpat (by omega)
          have hp2 := fun b0 b1 c => app2_row b0 b1 c e.F.pat (by omega)
          simp [X_editor_Shown, hI, hon, hh]
          repeat' (first
            | simp (disch := omega) only [wrap_i64, wrap_i32]
            | (simp (disch := first | omega | assumption | (simp only [i64, i32]; omega) | (simp <;> omega) | fail) only [loadD_cpr, loadD_cprs, List.take_of_length_le]; simp [*, hI, hon, hh, hp1, hp2])
            | (with_reducible refine And.intro ?_ ?_; focus first | omega | decide)
            | (with_reducible refine split_ite (fun hp => ?_) (fun hp => ?_) <;> (try simp at hp) <;> simp [*, hI, hon, hh, hp1, hp2])
            | (with_reducible refine split_ite1 (fun hp => ?_) (fun hp => ?_) <;> (try simp at hp) <;> simp [*, hI, hon, hh, hp1, hp2])
            | (refine split_cond (by simp) (fun hp => ?_) (fun hp => ?_) <;> simp at hp <;> simp [*, hI, hon, hh, hp1, hp2])
            | (refine split_ops (by simp) (fun hp => ?_) (fun hp => ?_) <;> simp at hp <;> simp [*, hI, hon, hh, hp1, hp2])
            | (refine split_opsD (by simp) (fun hp => ?_) (fun hp => ?_) <;> simp at hp <;> simp [*, hI, hon, hh, hp1, hp2])
            | (refine split_pick (by simp) (fun hp => ?_) (fun hp => ?_) <;> simp at hp <;> simp [*, hI, hon, hh, hp1, hp2])
            | omega
            | decide
            | (simp [*, hI, hon, hh, hp1, hp2]))
          all_goals first | rfl | exact row_is (by simp) (by simp [List.take_of_length_le])
        · have hs : eShown e = ((if e.F.fore then 47 else 63) :: e.F.pat ++ [58, 32], (gapOf (e.P.L.getD e.F.i.toNat []) e.F.at_).1) := by simp [eShown, aheadS, hi, hon, hh]
          rw [hs]
          obtain ⟨i1, i2⟩ := hit_in hi hon hh
          have i3 : e.F.i.toNat < e.P.L.length := by omega
          have hO := pc_gap_Of (n + 6) e.P.L[e.F.i.toNat] e.F.at_ (h.p.2 _ (List.getElem_mem i3))
          rw [getD_at i3]
          simp only [edrD, hon, hh] at hI
          have hp1 := fun b0 b1 c => app1_row b0 b1 c hpat (by omega)
          have hp2 := fun b0 b1 c => app2_row b0 b1 c e.F.pat (by omega)
          simp [X_editor_Shown, hI, hon, hh]
          repeat' (first
            | simp (disch := omega) only [wrap_i64, wrap_i32]
            | (simp (disch := first | omega | assumption | (simp only [i64, i32]; omega) | (simp <;> omega) | fail) only [loadD_cpr, loadD_cprs, List.take_of_length_le]; simp [*, hI, hon, hh, i1, i2, hO, hp1, hp2])
            | (with_reducible refine And.intro ?_ ?_; focus first | omega | decide)
            | (with_reducible refine split_ite (fun hp => ?_) (fun hp => ?_) <;> (try simp at hp) <;> simp [*, hI, hon, hh, i1, i2, hO, hp1, hp2])
            | (with_reducible refine split_ite1 (fun hp => ?_) (fun hp => ?_) <;> (try simp at hp) <;> simp [*, hI, hon, hh, i1, i2, hO, hp1, hp2])
            | (refine split_cond (by simp) (fun hp => ?_) (fun hp => ?_) <;> simp at hp <;> simp [*, hI, hon, hh, i1, i2, hO, hp1, hp2])
            | (refine split_ops (by simp) (fun hp => ?_) (fun hp => ?_) <;> simp at hp <;> simp [*, hI, hon, hh, i1, i2, hO, hp1, hp2])
            | (refine split_opsD (by simp) (fun hp => ?_) (fun hp => ?_) <;> simp at hp <;> simp [*, hI, hon, hh, i1, i2, hO, hp1, hp2])
            | (refine split_pick (by simp) (fun hp => ?_) (fun hp => ?_) <;> simp at hp <;> simp [*, hI, hon, hh, i1, i2, hO, hp1, hp2])
            | omega
            | decide
            | (simp [*, hI, hon, hh, i1, i2, hO, hp1, hp2]))
          all_goals first | rfl | exact row_is (by simp) (by simp [List.take_of_length_le])

end Go.Proofs.YtccinlhenkkpeaaDoor
