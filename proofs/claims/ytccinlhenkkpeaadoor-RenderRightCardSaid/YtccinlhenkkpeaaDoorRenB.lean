/- What the functions of layer 4 compute. -/
import Derived.Test.YtccinlhenkkpeaaDoorRenA
namespace Go.Proofs.YtccinlhenkkpeaaDoor
open Go E
set_option linter.unusedSimpArgs false
set_option linter.unusedVariables false

/-- Where a sign begins, that is laid from a place on. -/
def fromF (w at_ : Nat) (r : Int) : Nat := if w - at_ % w < widthR r then at_ + (w - at_ % w) else at_

def nextF (w at_ : Nat) (r : Int) : Nat := fromF w at_ r + widthR r

def placesF (w : Nat) : Nat → List Int → List Int
  | _, [] => []
  | a, r :: l => (fromF w a r : Int) :: placesF w (nextF w a r) l

def endF (w : Nat) : Nat → List Int → Nat
  | a, [] => a
  | a, r :: l => endF w (nextF w a r) l

def cellsF (w : Nat) : Nat → List Int → List (Int × Int)
  | _, [] => []
  | a, r :: l => List.replicate (fromF w a r - a) (32, 0) ++ cellsR r ++ cellsF w (nextF w a r) l

theorem width_12 (r : Int) : widthR r = 1 ∨ widthR r = 2 := by simp only [widthR]; split <;> simp

theorem from_le {w a : Nat} (hw : 2 ≤ w) (r : Int) : a ≤ fromF w a r ∧ fromF w a r ≤ a + 1 := by
  have := width_12 r
  have := Nat.mod_lt a (show 0 < w by omega)
  simp only [fromF]
  split <;> omega

theorem placesF_length (w : Nat) : ∀ (l : List Int) (a : Nat), (placesF w a l).length = l.length
  | [], _ => rfl
  | r :: l, a => by simp [placesF, placesF_length w l]

def intC : Cell Int := ⟨fun s => [.int .i64 s], 1, fun _ => rfl, fun a b h => by simpa using h, fun _ => by simp⟩

@[simp] theorem intC_sz : intC.sz = 1 := id rfl
@[simp] theorem intC_enc (s : Int) : intC.enc s = [.int .i64 s] := rfl

abbrev irn (l : List Int) : D := row intC false l

theorem ls_layer_1 (n w a : Nat) (r : Int) (hw : 2 ≤ w ∧ w ≤ 80) (ha : a ≤ 100000) :
    lendS (W (n + 3)) 44 [.int .i32 r, .ptr 0 0 1, .ptr 1 0 1] [⟨[.int .i64 w], 0, true⟩, ⟨[.int .i64 a], 0, true⟩] =
    some (.tup [.int .i64 (fromF w a r), .int .i64 (nextF w a r)], [⟨[.int .i64 w], 0, true⟩, ⟨[.int .i64 (nextF w a r)], 0, true⟩]) := by
  apply lends c_flow_layer_1
  have hk := pc_wide_Width n r
  have hmd : modes 44 45 = 0 := id rfl
  have h12 := width_12 r
  have hm := Nat.mod_lt a (show 0 < w by omega)
  have e1 : (a : Int).tmod w = (a : Int) % w := Int.tmod_eq_emod_of_nonneg (by omega)
  have e2 : IntKind.i64.wrap ((w : Int) - (a : Int) % w) = (w - a % w : Nat) := by
    rw [show ((w : Int) - (a : Int) % w) = (w - a % w : Nat) by omega]
    exact wrap_i64 (by omega)
  have hw0 : ¬ w = 0 := by omega
  by_cases hc : w - a % w < widthR r
  · have hc' : ((w - a % w : Nat) : Int) < widthR r := by omega
    have e3 : IntKind.i64.wrap ((a : Int) + (w - a % w : Nat)) = (fromF w a r : Nat) := by rw [wrap_i64 (by omega), fromF, if_pos hc]; omega
    have e4 : IntKind.i64.wrap ((fromF w a r : Int) + widthR r) = (nextF w a r : Nat) := by have := from_le (a := a) hw.1 r; rw [wrap_i64 (by omega)]; simp [nextF]
    simp [X_flow_layer_1, hmd, hk, e1, e2, hw0, hc', e3, e4, putAt, settleF_def, settle_def]
  · have hc' : ¬ ((w - a % w : Nat) : Int) < widthR r := by omega
    have e3 : fromF w a r = a := by rw [fromF, if_neg hc]
    have e4 : IntKind.i64.wrap ((a : Int) + widthR r) = (nextF w a r : Nat) := by rw [wrap_i64 (by omega)]; simp [nextF, e3]
    simp [X_flow_layer_1, hmd, hk, e1, e2, hw0, hc', e3, e4, putAt, settleF_def, settle_def]

theorem lk_layer (n : Nat) (w a : Int) : lendK (W (n + 1)) 31 [.int .i64 w, .int .i64 a] [] =
    some (.fn (.func 44) [] [.ptr 0 0 1, .ptr 1 0 1], [⟨[.int .i64 w], 0, true⟩, ⟨[.int .i64 a], 0, true⟩]) := by
  apply keeps c_flow_layer
  simp [X_flow_layer, settle_def]

theorem pc_flow_check (n : Nat) (w a : Int) : (W (n + 1)).pc 30 [.int .i64 w, .int .i64 a] = some (eD (if w < 2 ∨ 80 < w then 4 else if a < 0 ∨ 9999 < a then 1 else 0)) := by
  apply runs c_flow_check
  simp [X_flow_check]
  repeat' (first
    | simp (disch := omega) only [wrap_i64, wrap_i32]
    | (simp (disch := first | omega | assumption | (simp only [i64, i32]; omega) | (simp <;> omega) | fail) only [loadD_cpr, loadD_cprs, List.take_of_length_le]; simp [*])
    | (with_reducible refine And.intro ?_ ?_; focus first | omega | decide)
    | (with_reducible refine split_ite (fun hp => ?_) (fun hp => ?_) <;> (try simp at hp) <;> simp [*])
    | (with_reducible refine split_ite1 (fun hp => ?_) (fun hp => ?_) <;> (try simp at hp) <;> simp [*])
    | (refine split_cond (by simp) (fun hp => ?_) (fun hp => ?_) <;> simp at hp <;> simp [*])
    | (refine split_ops (by simp) (fun hp => ?_) (fun hp => ?_) <;> simp at hp <;> simp [*])
    | (refine split_opsD (by simp) (fun hp => ?_) (fun hp => ?_) <;> simp at hp <;> simp [*])
    | (refine split_pick (by simp) (fun hp => ?_) (fun hp => ?_) <;> simp at hp <;> simp [*])
    | omega
    | decide
    | (simp [*]))
  all_goals grind

end Go.Proofs.YtccinlhenkkpeaaDoor
