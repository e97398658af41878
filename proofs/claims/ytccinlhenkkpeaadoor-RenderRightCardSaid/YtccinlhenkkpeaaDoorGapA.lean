/- What the program's functions of layers 1 and 10 compute. -/
import Derived.Test.YtccinlhenkkpeaaDoorW
namespace Go.Proofs.YtccinlhenkkpeaaDoor
open Go E
set_option linter.unusedSimpArgs false
set_option linter.unusedVariables false

@[simp] theorem pc_ValidRune (n : Nat) (r : Int) : (W (n + 1)).pc 46 [.int .i32 r] = some (.bool (isR r)) := by
  apply runs c_utf8_ValidRune
  simp [X_utf8_ValidRune, *]
  repeat' (first
    | simp (disch := omega) only [wrap_i64, wrap_i32]
    | (simp (disch := first | omega | assumption | (simp only [i64, i32]; omega) | (simp <;> omega) | fail) only [loadD_cpr, loadD_cprs, List.take_of_length_le]; simp [*])
    | (with_reducible refine And.intro ?_ ?_; focus first | omega | decide)
    | (with_reducible refine split_ite (fun hp => ?_) (fun hp => ?_) <;> (try simp at hp) <;> simp [*])
    | (with_reducible refine split_ite1 (fun hp => ?_) (fun hp => ?_) <;> (try simp at hp) <;> simp [*])
    | (refine split_cond (by simp) (fun hp => ?_) (fun hp => ?_) <;> simp at hp <;> simp [*])
    | (refine split_ops (by simp) (fun hp => ?_) (fun hp => ?_) <;> simp at hp <;> simp [*])
    | (refine split_opsD (by simp) (fun hp => ?_) (fun hp => ?_) <;> simp at hp <;> simp [*])
    | (refine split_pick (by simp) (fun hp => ?_) (fun hp => ?_) <;> simp at hp <;> simp [*])
    | omega
    | decide
    | (simp [*]))
  all_goals grind [isR]

@[simp] theorem pc_glyph_Is (n : Nat) (r : Int) : (W (n + 2)).pc 34 [.int .i32 r] = some (.bool (isR r)) := by
  apply runs c_glyph_Is
  simp [X_glyph_Is, *]


@[simp] theorem pc_signs (n : Nat) (l : List Int) (hl : l.length < 2000000) : (W (n + 3)).pc 32 [rn l] = some (.bool (allR l)) := by
  apply runs c_gap_signs
  simp [X_gap_signs, *]
  refine aw_rounds (fun m st => ∃ i : Nat, st.t 5 = rn l ∧ st.t 6 = .int .i64 l.length ∧ st.t 7 = .int .i64 i ∧ st.h = [] ∧ i ≤ l.length ∧ m = l.length - i + 1 ∧ Keep (allR l = allR (l.drop i))) ?_ ?_ (n := l.length + 1) (by omega) ?_
  · rintro st ⟨i, hi⟩; omega
  · rintro J m ⟨t, h⟩ ⟨i, h5, h6, h7, hh, hi, hm, hq⟩ hJ
    simp at h5 h6 h7 hh
    subst hh
    simp [h5, h6, h7]
    repeat' (first
      | simp (disch := omega) only [wrap_i64, wrap_i32]
      | (simp (disch := first | omega | assumption | (simp only [i64, i32]; omega) | (simp <;> omega) | fail) only [loadD_cpr, loadD_cprs, List.take_of_length_le]; simp [*])
      | (with_reducible refine And.intro ?_ ?_; focus first | omega | decide)
      | (with_reducible refine split_ite (fun hp => ?_) (fun hp => ?_) <;> (try simp at hp) <;> simp [*])
      | (with_reducible refine split_ite1 (fun hp => ?_) (fun hp => ?_) <;> (try simp at hp) <;> simp [*])
      | (refine split_cond (by simp) (fun hp => ?_) (fun hp => ?_) <;> simp at hp <;> simp [*])
      | (refine split_ops (by simp) (fun hp => ?_) (fun hp => ?_) <;> simp at hp <;> simp [*])
      | (refine split_opsD (by simp) (fun hp => ?_) (fun hp => ?_) <;> simp at hp <;> simp [*])
      | (refine split_pick (by simp) (fun hp => ?_) (fun hp => ?_) <;> simp at hp <;> simp [*])
      | omega
      | decide
      | (simp [*]))
    · rw [hq.out, allR_drop (by omega)]; simp [*]
    · exact hJ.out _ ⟨i + 1, by simp [*], by simp [*], by simp, by simp, by omega, by omega, ⟨by rw [hq.out, allR_drop (by omega)]; simp [*]⟩⟩
    · rw [hq.out, List.drop_of_length_le (by omega)]; rfl
  · exact ⟨0, by simp, by simp, by simp, by simp, by simp, by simp, ⟨by simp⟩⟩



structure Gap where
  A : List Int
  B : List Int
  deriving DecidableEq

def gapC : Cell Gap := ⟨fun g => [rn g.A, rn g.B], 2, fun _ => rfl, fun a b h => by cases a; cases b; simpa using h, fun _ => by simp⟩

@[simp] theorem gapC_sz : gapC.sz = 2 := id rfl

@[simp] theorem gapC_enc (g : Gap) : gapC.enc g = [rn g.A, rn g.B] := rfl

abbrev gD (g : Gap) : D := .agg [rn g.A, rn g.B]

def gapIs (g : Gap) : Bool := decide (g.A.length + g.B.length ≤ 200) && allR g.A && allR g.B

def gSmall (g : Gap) : Prop := g.A.length < 2000000 ∧ g.B.length < 2000000

@[simp] theorem pc_gap_Is (n : Nat) (g : Gap) (hA : g.A.length < 2000000) (hB : g.B.length < 2000000) : (W (n + 4)).pc 36 [gD g] = some (.bool (gapIs g)) := by
  apply runs c_gap_Is
  simp [X_gap_Is, *]
  repeat' (first
    | simp (disch := omega) only [wrap_i64, wrap_i32]
    | (simp (disch := first | omega | assumption | (simp only [i64, i32]; omega) | (simp <;> omega) | fail) only [loadD_cpr, loadD_cprs, List.take_of_length_le]; simp [*])
    | (with_reducible refine And.intro ?_ ?_; focus first | omega | decide)
    | (with_reducible refine split_ite (fun hp => ?_) (fun hp => ?_) <;> (try simp at hp) <;> simp [*])
    | (with_reducible refine split_ite1 (fun hp => ?_) (fun hp => ?_) <;> (try simp at hp) <;> simp [*])
    | (refine split_cond (by simp) (fun hp => ?_) (fun hp => ?_) <;> simp at hp <;> simp [*])
    | (refine split_ops (by simp) (fun hp => ?_) (fun hp => ?_) <;> simp at hp <;> simp [*])
    | (refine split_opsD (by simp) (fun hp => ?_) (fun hp => ?_) <;> simp at hp <;> simp [*])
    | (refine split_pick (by simp) (fun hp => ?_) (fun hp => ?_) <;> simp at hp <;> simp [*])
    | omega
    | decide
    | (simp [*]))
  all_goals grind [gapIs]


@[simp] theorem pc_gap_Text (n : Nat) (g : Gap) (hA : g.A.length < 2000000) (hB : g.B.length < 2000000) : (W (n + 1)).pc 15 [gD g] = some (rn (g.A ++ g.B)) := by
  apply runs c_gap_Text
  simp [X_gap_Text, *]
  repeat' (first
    | simp (disch := omega) only [wrap_i64, wrap_i32]
    | (simp (disch := first | omega | assumption | (simp only [i64, i32]; omega) | (simp <;> omega) | fail) only [loadD_cpr, loadD_cprs, List.take_of_length_le]; simp [*])
    | (with_reducible refine And.intro ?_ ?_; focus first | omega | decide)
    | (with_reducible refine split_ite (fun hp => ?_) (fun hp => ?_) <;> (try simp at hp) <;> simp [*])
    | (with_reducible refine split_ite1 (fun hp => ?_) (fun hp => ?_) <;> (try simp at hp) <;> simp [*])
    | (refine split_cond (by simp) (fun hp => ?_) (fun hp => ?_) <;> simp at hp <;> simp [*])
    | (refine split_ops (by simp) (fun hp => ?_) (fun hp => ?_) <;> simp at hp <;> simp [*])
    | (refine split_opsD (by simp) (fun hp => ?_) (fun hp => ?_) <;> simp at hp <;> simp [*])
    | (refine split_pick (by simp) (fun hp => ?_) (fun hp => ?_) <;> simp at hp <;> simp [*])
    | omega
    | decide
    | (simp [*]))
  all_goals trace_state

theorem nilR (b : Bool) : D.arr 0 b [] = row runeC b [] := rfl


abbrev eD (e : Int) : D := .int .i64 e

def gapSplit (l : List Int) (k : Nat) : Gap := ⟨l.take k, l.drop k⟩

@[simp] theorem pc_gap_split (n : Nat) (l : List Int) (x : Int) (h0 : 0 ≤ x) (h1 : x ≤ l.length) : (W (n + 1)).pc 33 [rn l, .int .i64 x] = some (gD (gapSplit l x.toNat)) := by
  apply runs c_gap_split
  simp [X_gap_split, nilR, *]
  repeat' (first
    | simp (disch := omega) only [wrap_i64, wrap_i32]
    | (simp (disch := first | omega | assumption | (simp only [i64, i32]; omega) | (simp <;> omega) | fail) only [loadD_cpr, loadD_cprs, List.take_of_length_le]; simp [*, nilR])
    | (with_reducible refine And.intro ?_ ?_; focus first | omega | decide)
    | (with_reducible refine split_ite (fun hp => ?_) (fun hp => ?_) <;> (try simp at hp) <;> simp [*, nilR])
    | (with_reducible refine split_ite1 (fun hp => ?_) (fun hp => ?_) <;> (try simp at hp) <;> simp [*, nilR])
    | (refine split_cond (by simp) (fun hp => ?_) (fun hp => ?_) <;> simp at hp <;> simp [*, nilR])
    | (refine split_ops (by simp) (fun hp => ?_) (fun hp => ?_) <;> simp at hp <;> simp [*, nilR])
    | (refine split_opsD (by simp) (fun hp => ?_) (fun hp => ?_) <;> simp at hp <;> simp [*, nilR])
    | (refine split_pick (by simp) (fun hp => ?_) (fun hp => ?_) <;> simp at hp <;> simp [*, nilR])
    | omega
    | decide
    | (simp [*, nilR]))
  all_goals simp [gapSplit]

def gapOf (l : List Int) (x : Int) : Gap × Int :=
  if allR l = false ∨ x < 0 ∨ l.length < x then (⟨[], []⟩, 1) else if 200 < l.length then (⟨[], []⟩, 5) else (gapSplit l x.toNat, 0)

@[simp] theorem pc_gap_Of (n : Nat) (l : List Int) (x : Int) (hl : l.length < 2000000) : (W (n + 4)).pc 18 [rn l, .int .i64 x] = some (.tup [gD (gapOf l x).1, eD (gapOf l x).2]) := by
  apply runs c_gap_Of
  simp [X_gap_Of, nilR, *]
  repeat' (first
    | simp (disch := omega) only [wrap_i64, wrap_i32]
    | (simp (disch := first | omega | assumption | (simp only [i64, i32]; omega) | (simp <;> omega) | fail) only [loadD_cpr, loadD_cprs, List.take_of_length_le, pc_gap_split]; simp [*, nilR])
    | (with_reducible refine And.intro ?_ ?_; focus first | omega | decide)
    | (with_reducible refine split_ite (fun hp => ?_) (fun hp => ?_) <;> (try simp at hp) <;> simp [*, nilR])
    | (with_reducible refine split_ite1 (fun hp => ?_) (fun hp => ?_) <;> (try simp at hp) <;> simp [*, nilR])
    | (refine split_cond (by simp) (fun hp => ?_) (fun hp => ?_) <;> simp at hp <;> simp [*, nilR])
    | (refine split_ops (by simp) (fun hp => ?_) (fun hp => ?_) <;> simp at hp <;> simp [*, nilR])
    | (refine split_opsD (by simp) (fun hp => ?_) (fun hp => ?_) <;> simp at hp <;> simp [*, nilR])
    | (refine split_pick (by simp) (fun hp => ?_) (fun hp => ?_) <;> simp at hp <;> simp [*, nilR])
    | omega
    | decide
    | (simp [*, nilR]))
  all_goals grind [gapOf]


def gapInsert (g : Gap) (l : List Int) : Gap × Int :=
  if gapIs g = false ∨ allR l = false then (⟨[], []⟩, 1) else if 200 < g.A.length + g.B.length + l.length then (⟨[], []⟩, 5) else (⟨g.A ++ l, g.B⟩, 0)



end Go.Proofs.YtccinlhenkkpeaaDoor
