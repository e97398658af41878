/- What the program's functions of layers 1 and 10 compute. -/
import Derived.Test.YtklfbnbibhbjmaaW
namespace Go.Proofs.Ytklfbnbibhbjmaa
open Go E
set_option linter.unusedSimpArgs false
set_option linter.unusedVariables false

@[simp] theorem pc_ValidRune (n : Nat) (r : Int) : (W (n + 1)).pc 43 [.int .i32 r] = some (.bool (isR r)) := by
  apply runs c_utf8_ValidRune
  simp [X_utf8_ValidRune, *]
  repeat' (first
    | simp (disch := omega) only [wrap_i64, wrap_i32]
    | (simp (disch := first | omega | assumption | (simp only [i64, i32]; omega) | (simp <;> omega) | fail) only [loadD_cpr, loadD_cprs, List.take_of_length_le]; simp [*])
    | (with_reducible refine And.intro ?_ ?_; focus first | omega | decide)
    | (with_reducible refine split_ite (fun hp => ?_) (fun hp => ?_) <;> (try simp at hp) <;> simp [*])
    | (with_reducible refine split_ite1 (fun hp => ?_) (fun hp => ?_) <;> (try simp at hp) <;> simp [*])
    | (refine split_cond (by simp) (fun hp => ?_) (fun hp => ?_) <;> simp at hp <;> simp [*])
    | (refine split_ops (by simp) (fun hp => ?_) (fun hp => ?_) <;> simp at hp <;> simp [*])
    | (refine split_opsD (by simp) (fun hp => ?_) (fun hp => ?_) <;> simp at hp <;> simp [*])
    | (refine split_pick (by simp) (fun hp => ?_) (fun hp => ?_) <;> simp at hp <;> simp [*])
    | omega
    | decide
    | (simp [*]))
  all_goals grind [isR]

@[simp] theorem pc_glyph_Is (n : Nat) (r : Int) : (W (n + 2)).pc 37 [.int .i32 r] = some (.bool (isR r)) := by
  apply runs c_glyph_Is
  simp [X_glyph_Is, *]

@[simp] theorem pc_ref01_Is (n : Nat) (r : Int) : (W (n + 1)).pc 40 [.int .i32 r] = some (.bool (isR r)) := by
  apply runs c_typebarref01_Is
  simp [X_typebarref01_Is, *]
  repeat' (first
    | simp (disch := omega) only [wrap_i64, wrap_i32]
    | (simp (disch := first | omega | assumption | (simp only [i64, i32]; omega) | (simp <;> omega) | fail) only [loadD_cpr, loadD_cprs, List.take_of_length_le]; simp [*])
    | (with_reducible refine And.intro ?_ ?_; focus first | omega | decide)
    | (with_reducible refine split_ite (fun hp => ?_) (fun hp => ?_) <;> (try simp at hp) <;> simp [*])
    | (with_reducible refine split_ite1 (fun hp => ?_) (fun hp => ?_) <;> (try simp at hp) <;> simp [*])
    | (refine split_cond (by simp) (fun hp => ?_) (fun hp => ?_) <;> simp at hp <;> simp [*])
    | (refine split_ops (by simp) (fun hp => ?_) (fun hp => ?_) <;> simp at hp <;> simp [*])
    | (refine split_opsD (by simp) (fun hp => ?_) (fun hp => ?_) <;> simp at hp <;> simp [*])
    | (refine split_pick (by simp) (fun hp => ?_) (fun hp => ?_) <;> simp at hp <;> simp [*])
    | omega
    | decide
    | (simp [*]))
  all_goals grind [isR]

@[simp] theorem pc_signs (n : Nat) (l : List Int) (hl : l.length < 2000000) : (W (n + 3)).pc 27 [rn l] = some (.bool (allR l)) := by
  apply runs c_gap_signs
  simp [X_gap_signs, *]
  refine aw_rounds (fun m st => ∃ i : Nat, st.t 5 = rn l ∧ st.t 6 = .int .i64 l.length ∧ st.t 7 = .int .i64 i ∧ st.h = [] ∧ i ≤ l.length ∧ m = l.length - i + 1 ∧ Keep (allR l = allR (l.drop i))) ?_ ?_ (n := l.length + 1) (by omega) ?_
  · rintro st ⟨i, hi⟩; omega
  · rintro J m ⟨t, h⟩ ⟨i, h5, h6, h7, hh, hi, hm, hq⟩ hJ
    simp at h5 h6 h7 hh
    subst hh
    simp [h5, h6, h7]
    repeat' (first
      | simp (disch := omega) only [wrap_i64, wrap_i32]
      | (simp (disch := first | omega | assumption | (simp only [i64, i32]; omega) | (simp <;> omega) | fail) only [loadD_cpr, loadD_cprs, List.take_of_length_le]; simp [*])
      | (with_reducible refine And.intro ?_ ?_; focus first | omega | decide)
      | (with_reducible refine split_ite (fun hp => ?_) (fun hp => ?_) <;> (try simp at hp) <;> simp [*])
      | (with_reducible refine split_ite1 (fun hp => ?_) (fun hp => ?_) <;> (try simp at hp) <;> simp [*])
      | (refine split_cond (by simp) (fun hp => ?_) (fun hp => ?_) <;> simp at hp <;> simp [*])
      | (refine split_ops (by simp) (fun hp => ?_) (fun hp => ?_) <;> simp at hp <;> simp [*])
      | (refine split_opsD (by simp) (fun hp => ?_) (fun hp => ?_) <;> simp at hp <;> simp [*])
      | (refine split_pick (by simp) (fun hp => ?_) (fun hp => ?_) <;> simp at hp <;> simp [*])
      | omega
      | decide
      | (simp [*]))
    · rw [hq.out, allR_drop (by omega)]; simp [*]
    · exact hJ.out _ ⟨i + 1, by simp [*], by simp [*], by simp, by simp, by omega, by omega, ⟨by rw [hq.out, allR_drop (by omega)]; simp [*]⟩⟩
    · rw [hq.out, List.drop_of_length_le (by omega)]; rfl
  · exact ⟨0, by simp, by simp, by simp, by simp, by simp, by simp, ⟨by simp⟩⟩

@[simp] theorem pc_ref01_All (n : Nat) (l : List Int) (hl : l.length < 2000000) : (W (n + 2)).pc 32 [rn l] = some (.bool (allR l)) := by
  apply runs c_typebarref01_All
  simp [X_typebarref01_All, *]
  refine aw_rounds (fun m st => ∃ i : Nat, st.t 0 = rn l ∧ st.t 3 = .int .i64 i ∧ st.h = [] ∧ i ≤ l.length ∧ m = l.length - i + 1 ∧ Keep (allR l = allR (l.drop i))) ?_ ?_ (n := l.length + 1) (by omega) ?_
  · rintro st ⟨i, hi⟩; omega
  · rintro J m ⟨t, h⟩ ⟨i, h0, h3, hh, hi, hm, hq⟩ hJ
    simp at h0 h3 hh
    subst hh
    simp [h0, h3]
    repeat' (first
      | simp (disch := omega) only [wrap_i64, wrap_i32]
      | (simp (disch := first | omega | assumption | (simp only [i64, i32]; omega) | (simp <;> omega) | fail) only [loadD_cpr, loadD_cprs, List.take_of_length_le]; simp [*])
      | (with_reducible refine And.intro ?_ ?_; focus first | omega | decide)
      | (with_reducible refine split_ite (fun hp => ?_) (fun hp => ?_) <;> (try simp at hp) <;> simp [*])
      | (with_reducible refine split_ite1 (fun hp => ?_) (fun hp => ?_) <;> (try simp at hp) <;> simp [*])
      | (refine split_cond (by simp) (fun hp => ?_) (fun hp => ?_) <;> simp at hp <;> simp [*])
      | (refine split_ops (by simp) (fun hp => ?_) (fun hp => ?_) <;> simp at hp <;> simp [*])
      | (refine split_opsD (by simp) (fun hp => ?_) (fun hp => ?_) <;> simp at hp <;> simp [*])
      | (refine split_pick (by simp) (fun hp => ?_) (fun hp => ?_) <;> simp at hp <;> simp [*])
      | omega
      | decide
      | (simp [*]))
    · rw [hq.out, allR_drop (by omega)]; simp [*]
    · exact hJ.out _ ⟨i + 1, by simp [*], by simp, by simp, by omega, by omega, ⟨by rw [hq.out, allR_drop (by omega)]; simp [*]⟩⟩
    · rw [hq.out, List.drop_of_length_le (by omega)]; rfl
  · exact ⟨0, by simp, by simp, by simp, by simp, by simp, ⟨by simp⟩⟩

@[simp] theorem pc_ref01_Same (n : Nat) (l r : List Int) (hl : l.length < 2000000) : (W (n + 1)).pc 24 [rn l, rn r] = some (.bool (decide (l = r))) := by
  apply runs c_typebarref01_Same
  simp [X_typebarref01_Same, *]
  repeat' (first
    | simp (disch := omega) only [wrap_i64, wrap_i32]
    | (simp (disch := first | omega | assumption | (simp only [i64, i32]; omega) | (simp <;> omega) | fail) only [loadD_cpr, loadD_cprs, List.take_of_length_le]; simp [*])
    | (with_reducible refine And.intro ?_ ?_; focus first | omega | decide)
    | (with_reducible refine split_ite (fun hp => ?_) (fun hp => ?_) <;> (try simp at hp) <;> simp [*])
    | (with_reducible refine split_ite1 (fun hp => ?_) (fun hp => ?_) <;> (try simp at hp) <;> simp [*])
    | (refine split_cond (by simp) (fun hp => ?_) (fun hp => ?_) <;> simp at hp <;> simp [*])
    | (refine split_ops (by simp) (fun hp => ?_) (fun hp => ?_) <;> simp at hp <;> simp [*])
    | (refine split_opsD (by simp) (fun hp => ?_) (fun hp => ?_) <;> simp at hp <;> simp [*])
    | (refine split_pick (by simp) (fun hp => ?_) (fun hp => ?_) <;> simp at hp <;> simp [*])
    | omega
    | decide
    | (simp [*]))
  · intro e; subst e; simp at *
  refine aw_rounds (fun m st => ∃ i : Nat, st.t 0 = rn l ∧ st.t 1 = rn r ∧ st.t 5 = .int .i64 i ∧ st.h = [] ∧ i ≤ l.length ∧ m = l.length - i + 1 ∧ Keep (l.take i = r.take i)) ?_ ?_ (n := l.length + 1) (by omega) ?_
  · rintro st ⟨i, hi⟩; omega
  · rintro J m ⟨t, h⟩ ⟨i, h0, h1, h5, hh, hi, hm, hq⟩ hJ
    simp at h0 h1 h5 hh
    subst hh
    simp [h0, h1, h5]
    repeat' (first
      | simp (disch := omega) only [wrap_i64, wrap_i32]
      | (simp (disch := first | omega | assumption | (simp only [i64, i32]; omega) | (simp <;> omega) | fail) only [loadD_cpr, loadD_cprs, List.take_of_length_le]; simp [*])
      | (with_reducible refine And.intro ?_ ?_; focus first | omega | decide)
      | (with_reducible refine split_ite (fun hp => ?_) (fun hp => ?_) <;> (try simp at hp) <;> simp [*])
      | (with_reducible refine split_ite1 (fun hp => ?_) (fun hp => ?_) <;> (try simp at hp) <;> simp [*])
      | (refine split_cond (by simp) (fun hp => ?_) (fun hp => ?_) <;> simp at hp <;> simp [*])
      | (refine split_ops (by simp) (fun hp => ?_) (fun hp => ?_) <;> simp at hp <;> simp [*])
      | (refine split_opsD (by simp) (fun hp => ?_) (fun hp => ?_) <;> simp at hp <;> simp [*])
      | (refine split_pick (by simp) (fun hp => ?_) (fun hp => ?_) <;> simp at hp <;> simp [*])
      | omega
      | decide
      | (simp [*]))
    · intro e; subst e; simp at *
    · exact hJ.out _ ⟨i + 1, by simp [*], by simp [*], by simp, by simp, by omega, by omega, ⟨by rw [← List.take_append_getElem (by omega), ← List.take_append_getElem (by omega), hq.out, hp]⟩⟩
    · have := hq.out
      rwa [List.take_of_length_le (by omega), List.take_of_length_le (by omega)] at this
  · exact ⟨0, by simp, by simp, by simp, by simp, by simp, by simp, ⟨by simp⟩⟩

structure Gap where
  A : List Int
  B : List Int
  deriving DecidableEq

def gapC : Cell Gap := ⟨fun g => [rn g.A, rn g.B], 2, fun _ => rfl, fun a b h => by cases a; cases b; simpa using h, fun _ => by simp⟩

@[simp] theorem gapC_sz : gapC.sz = 2 := id rfl

@[simp] theorem gapC_enc (g : Gap) : gapC.enc g = [rn g.A, rn g.B] := rfl

abbrev gD (g : Gap) : D := .agg [rn g.A, rn g.B]

def gapIs (g : Gap) : Bool := decide (g.A.length + g.B.length ≤ 200) && allR g.A && allR g.B

def gSmall (g : Gap) : Prop := g.A.length < 2000000 ∧ g.B.length < 2000000

@[simp] theorem pc_gap_Is (n : Nat) (g : Gap) (hA : g.A.length < 2000000) (hB : g.B.length < 2000000) : (W (n + 4)).pc 19 [gD g] = some (.bool (gapIs g)) := by
  apply runs c_gap_Is
  simp [X_gap_Is, *]
  repeat' (first
    | simp (disch := omega) only [wrap_i64, wrap_i32]
    | (simp (disch := first | omega | assumption | (simp only [i64, i32]; omega) | (simp <;> omega) | fail) only [loadD_cpr, loadD_cprs, List.take_of_length_le]; simp [*])
    | (with_reducible refine And.intro ?_ ?_; focus first | omega | decide)
    | (with_reducible refine split_ite (fun hp => ?_) (fun hp => ?_) <;> (try simp at hp) <;> simp [*])
    | (with_reducible refine split_ite1 (fun hp => ?_) (fun hp => ?_) <;> (try simp at hp) <;> simp [*])
    | (refine split_cond (by simp) (fun hp => ?_) (fun hp => ?_) <;> simp at hp <;> simp [*])
    | (refine split_ops (by simp) (fun hp => ?_) (fun hp => ?_) <;> simp at hp <;> simp [*])
    | (refine split_opsD (by simp) (fun hp => ?_) (fun hp => ?_) <;> simp at hp <;> simp [*])
    | (refine split_pick (by simp) (fun hp => ?_) (fun hp => ?_) <;> simp at hp <;> simp [*])
    | omega
    | decide
    | (simp [*]))
  all_goals grind [gapIs]

@[simp] theorem pc_ref10_Is (n : Nat) (g : Gap) (hA : g.A.length < 2000000) (hB : g.B.length < 2000000) : (W (n + 3)).pc 23 [gD g] = some (.bool (gapIs g)) := by
  apply runs c_typebarref10_Is
  simp [X_typebarref10_Is, *]
  repeat' (first
    | simp (disch := omega) only [wrap_i64, wrap_i32]
    | (simp (disch := first | omega | assumption | (simp only [i64, i32]; omega) | (simp <;> omega) | fail) only [loadD_cpr, loadD_cprs, List.take_of_length_le]; simp [*])
    | (with_reducible refine And.intro ?_ ?_; focus first | omega | decide)
    | (with_reducible refine split_ite (fun hp => ?_) (fun hp => ?_) <;> (try simp at hp) <;> simp [*])
    | (with_reducible refine split_ite1 (fun hp => ?_) (fun hp => ?_) <;> (try simp at hp) <;> simp [*])
    | (refine split_cond (by simp) (fun hp => ?_) (fun hp => ?_) <;> simp at hp <;> simp [*])
    | (refine split_ops (by simp) (fun hp => ?_) (fun hp => ?_) <;> simp at hp <;> simp [*])
    | (refine split_opsD (by simp) (fun hp => ?_) (fun hp => ?_) <;> simp at hp <;> simp [*])
    | (refine split_pick (by simp) (fun hp => ?_) (fun hp => ?_) <;> simp at hp <;> simp [*])
    | omega
    | decide
    | (simp [*]))
  all_goals grind [gapIs]


theorem nilR (b : Bool) : D.arr 0 b [] = row runeC b [] := rfl


abbrev eD (e : Int) : D := .int .i64 e

def gapSplit (l : List Int) (k : Nat) : Gap := ⟨l.take k, l.drop k⟩


def gapOf (l : List Int) (x : Int) : Gap × Int :=
  if allR l = false ∨ x < 0 ∨ l.length < x then (⟨[], []⟩, 1) else if 200 < l.length then (⟨[], []⟩, 5) else (gapSplit l x.toNat, 0)



def gapInsert (g : Gap) (l : List Int) : Gap × Int :=
  if gapIs g = false ∨ allR l = false then (⟨[], []⟩, 1) else if 200 < g.A.length + g.B.length + l.length then (⟨[], []⟩, 5) else (⟨g.A ++ l, g.B⟩, 0)



end Go.Proofs.Ytklfbnbibhbjmaa
