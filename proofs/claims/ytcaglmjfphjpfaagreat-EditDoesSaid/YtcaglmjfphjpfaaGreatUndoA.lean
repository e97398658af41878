/- What the functions of layer 13 compute. -/
import Derived.Test.YtcaglmjfphjpfaaGreatSlices
import Derived.Test.YtcaglmjfphjpfaaGreatTyp
namespace Go.Proofs.YtcaglmjfphjpfaaGreat
open Go E
set_option linter.unusedSimpArgs false
set_option linter.unusedVariables false

abbrev grn (L : List Gap) : D := row gapC false L

abbrev uD (L : List Gap) : D := .agg [grn L]

theorem nilG (b : Bool) : D.arr 0 b [] = row gapC b [] := rfl

def uIs (L : List Gap) : Bool := decide (L.length ≤ 16) && L.all gapIs

def smallU (L : List Gap) : Prop := L.length < 2000000 ∧ ∀ g ∈ L, g.A.length < 2000000 ∧ g.B.length < 2000000

def g0 : Gap := ⟨[], []⟩

/-- The last line, if there is one. -/
def lastG (L : List Gap) : Gap := match L.getLast? with
  | some g => g
  | none => g0

theorem lastG_at {L : List Gap} (h : 0 < L.length) : lastG L = L[L.length - 1] := by
  simp only [lastG]
  rw [List.getLast?_eq_getElem?, List.getElem?_eq_getElem (by omega)]

theorem lastG_mem {L : List Gap} (h : 0 < L.length) : lastG L ∈ L := by
  rw [lastG_at h]; exact List.getElem_mem _

theorem lastG_len {L : List Gap} (h : smallU L) : (lastG L).A.length < 2000000 ∧ (lastG L).B.length < 2000000 := by
  by_cases h0 : 0 < L.length
  · exact h.2 _ (lastG_mem h0)
  · have : L = [] := List.eq_nil_of_length_eq_zero (by omega)
    subst this; simp [lastG, g0]

@[simp] theorem pc_undo_Is (n : Nat) (L : List Gap) (hL : smallU L) : (W (n + 5)).pc 34 [uD L] = some (.bool (uIs L)) := by
  apply runs c_undo_Is
  obtain ⟨hL, hl⟩ := hL
  simp [X_undo_Is]
  refine aw_rounds (fun m st => ∃ i : Nat, st.t 1 = .ptr 0 0 1 ∧ st.t 6 = grn L ∧ st.t 7 = .int .i64 L.length ∧ st.t 8 = .int .i64 i ∧ (∃ R, st.h = ⟨[grn L], 0, true⟩ :: R) ∧ i ≤ L.length ∧ m = L.length - i + 1 ∧ Keep (L.all gapIs = (L.drop i).all gapIs)) ?_ ?_ (n := L.length - (0) + 1) (by first | omega | (simp; omega)) ?_
  · rintro st ⟨i, hx⟩; omega
  rotate_left
  · exact ⟨0, by first | (simp [*]; done) | (simp [*]; omega) | rfl, by first | (simp [*]; done) | (simp [*]; omega) | rfl, by first | (simp [*]; done) | (simp [*]; omega) | rfl, by first | (simp [*]; done) | (simp [*]; omega) | rfl, ⟨_, rfl⟩, by first | omega | (simp; omega) | simp [*], by first | rfl | (simp; done) | omega, ⟨by simp⟩⟩
  rintro Ja ma ⟨t, h⟩ ⟨i, ea1, ea6, ea7, ea8, ⟨Ra, hha⟩, fa1, hma, hqa⟩ hJa
  simp only [] at ea1 ea6 ea7 ea8 hha
  subst hha
  simp [ea1, ea6, ea7, ea8]
  have hs : ∀ h : i < L.length, L[i].A.length < 2000000 ∧ L[i].B.length < 2000000 := fun h => hl _ (List.getElem_mem h)
  repeat' (first
    | simp (disch := omega) only [wrap_i64, wrap_i32]
    | (simp (disch := first | omega | assumption | (simp only [i64, i32]; omega) | (simp <;> omega) | fail) only [loadD_cpr, loadD_cprs, List.take_of_length_le, pc_gap_Is]; simp [*])
    | (with_reducible refine And.intro ?_ ?_; focus first | omega | decide)
    | (with_reducible refine split_ite (fun hp => ?_) (fun hp => ?_) <;> (try simp at hp) <;> simp [*])
    | (with_reducible refine split_ite1 (fun hp => ?_) (fun hp => ?_) <;> (try simp at hp) <;> simp [*])
    | (refine split_cond (by simp) (fun hp => ?_) (fun hp => ?_) <;> simp at hp <;> simp [*])
    | (refine split_ops (by simp) (fun hp => ?_) (fun hp => ?_) <;> simp at hp <;> simp [*])
    | (refine split_opsD (by simp) (fun hp => ?_) (fun hp => ?_) <;> simp at hp <;> simp [*])
    | (refine split_pick (by simp) (fun hp => ?_) (fun hp => ?_) <;> simp at hp <;> simp [*])
    | omega
    | decide
    | (simp [*]))
  · simp only [uIs, all_no (by assumption) hp, Bool.and_false]
  · exact hJa.out _ ⟨i + 1, by first | (simp [*]; done) | (simp [*]; omega) | rfl, by first | (simp [*]; done) | (simp [*]; omega) | rfl, by first | (simp [*]; done) | (simp [*]; omega) | rfl, by first | (simp [*]; done) | (simp [*]; omega) | rfl, ⟨_, rfl⟩, by first | omega | (simp; omega) | simp [*], by omega, ⟨by rw [hqa.out, all_at (by omega)]; simp [*]⟩⟩
  · have := hqa.out
    simp [uIs, *, drop_end]; omega

@[simp] theorem pc_ref13_Is (n : Nat) (L : List Gap) (hL : smallU L) : (W (n + 5)).pc 37 [uD L] = some (.bool (uIs L)) := by
  apply runs c_typebarref13_Is
  obtain ⟨hL, hl⟩ := hL
  simp [X_typebarref13_Is]
  repeat' (first
    | simp (disch := omega) only [wrap_i64, wrap_i32]
    | (simp (disch := first | omega | assumption | (simp only [i64, i32]; omega) | (simp <;> omega) | fail) only [loadD_cpr, loadD_cprs, List.take_of_length_le]; simp [*])
    | (with_reducible refine And.intro ?_ ?_; focus first | omega | decide)
    | (with_reducible refine split_ite (fun hp => ?_) (fun hp => ?_) <;> (try simp at hp) <;> simp [*])
    | (with_reducible refine split_ite1 (fun hp => ?_) (fun hp => ?_) <;> (try simp at hp) <;> simp [*])
    | (refine split_cond (by simp) (fun hp => ?_) (fun hp => ?_) <;> simp at hp <;> simp [*])
    | (refine split_ops (by simp) (fun hp => ?_) (fun hp => ?_) <;> simp at hp <;> simp [*])
    | (refine split_opsD (by simp) (fun hp => ?_) (fun hp => ?_) <;> simp at hp <;> simp [*])
    | (refine split_pick (by simp) (fun hp => ?_) (fun hp => ?_) <;> simp at hp <;> simp [*])
    | omega
    | decide
    | (simp [*]))
  · grind [uIs]
  refine aw_rounds (fun m st => ∃ i : Nat, st.t 1 = .ptr 0 0 1 ∧ st.t 3 = .int .i64 i ∧ st.h = [⟨[grn L], 0, true⟩] ∧ i ≤ L.length ∧ m = L.length - i + 1 ∧ Keep (L.all gapIs = (L.drop i).all gapIs)) ?_ ?_ (n := L.length - (0) + 1) (by first | omega | (simp; omega)) ?_
  · rintro st ⟨i, hx⟩; omega
  rotate_left
  · exact ⟨0, by first | (simp [*]; done) | (simp [*]; omega) | rfl, by first | (simp [*]; done) | (simp [*]; omega) | rfl, by first | (simp [*]; done) | (simp [*]; omega) | rfl, by first | omega | (simp; omega) | simp [*], by first | rfl | (simp; done) | omega, ⟨by simp⟩⟩
  rintro Ja ma ⟨t, h⟩ ⟨i, ea1, ea3, hha, fa1, hma, hqa⟩ hJa
  simp only [] at ea1 ea3 hha
  subst hha
  simp [ea1, ea3]
  have hs : ∀ h : i < L.length, L[i].A.length < 2000000 ∧ L[i].B.length < 2000000 := fun h => hl _ (List.getElem_mem h)
  repeat' (first
    | simp (disch := omega) only [wrap_i64, wrap_i32]
    | (simp (disch := first | omega | assumption | (simp only [i64, i32]; omega) | (simp <;> omega) | fail) only [loadD_cpr, loadD_cprs, List.take_of_length_le, pc_ref10_Is]; simp [*])
    | (with_reducible refine And.intro ?_ ?_; focus first | omega | decide)
    | (with_reducible refine split_ite (fun hp => ?_) (fun hp => ?_) <;> (try simp at hp) <;> simp [*])
    | (with_reducible refine split_ite1 (fun hp => ?_) (fun hp => ?_) <;> (try simp at hp) <;> simp [*])
    | (refine split_cond (by simp) (fun hp => ?_) (fun hp => ?_) <;> simp at hp <;> simp [*])
    | (refine split_ops (by simp) (fun hp => ?_) (fun hp => ?_) <;> simp at hp <;> simp [*])
    | (refine split_opsD (by simp) (fun hp => ?_) (fun hp => ?_) <;> simp at hp <;> simp [*])
    | (refine split_pick (by simp) (fun hp => ?_) (fun hp => ?_) <;> simp at hp <;> simp [*])
    | omega
    | decide
    | (simp [*]))
  · simp only [uIs, all_no (by assumption) hp, Bool.and_false]
  · exact hJa.out _ ⟨i + 1, by first | (simp [*]; done) | (simp [*]; omega) | rfl, by first | (simp [*]; done) | (simp [*]; omega) | rfl, by first | (simp [*]; done) | (simp [*]; omega) | rfl, by first | omega | (simp; omega) | simp [*], by omega, ⟨by rw [hqa.out, all_at (by omega)]; simp [*]⟩⟩
  · have := hqa.out
    simp [uIs, *, drop_end]; omega

@[simp] theorem pc_undo_last (n : Nat) (L : List Gap) (hL : L.length < 2000000) : (W (n + 1)).pc 73 [grn L] = some (.tup [gD (lastG L), .bool (decide (L ≠ []))]) := by
  apply runs c_undo_last_api_Gap
  by_cases h0 : L = []
  · subst h0
    simp [X_undo_last_api_Gap, nilR, g0, lastG]
  · have hn : 0 < L.length := List.length_pos_iff.2 h0
    have e2 : ((L.length : Int) - 1).toNat = L.length - 1 := by omega
    simp [X_undo_last_api_Gap, nilR, h0, lastG_at hn]
    repeat' (first
      | simp (disch := omega) only [wrap_i64, wrap_i32]
      | (simp (disch := first | omega | assumption | (simp only [i64, i32]; omega) | (simp <;> omega) | fail) only [loadD_cpr, loadD_cprs, List.take_of_length_le]; simp [*, nilR, e2])
      | (with_reducible refine And.intro ?_ ?_; focus first | omega | decide)
      | (with_reducible refine split_ite (fun hp => ?_) (fun hp => ?_) <;> (try simp at hp) <;> simp [*, nilR, e2])
      | (with_reducible refine split_ite1 (fun hp => ?_) (fun hp => ?_) <;> (try simp at hp) <;> simp [*, nilR, e2])
      | (refine split_cond (by simp) (fun hp => ?_) (fun hp => ?_) <;> simp at hp <;> simp [*, nilR, e2])
      | (refine split_ops (by simp) (fun hp => ?_) (fun hp => ?_) <;> simp at hp <;> simp [*, nilR, e2])
      | (refine split_opsD (by simp) (fun hp => ?_) (fun hp => ?_) <;> simp at hp <;> simp [*, nilR, e2])
      | (refine split_pick (by simp) (fun hp => ?_) (fun hp => ?_) <;> simp at hp <;> simp [*, nilR, e2])
      | omega
      | decide
      | (simp [*, nilR, e2]))

@[simp] theorem pc_undo_ending (n : Nat) (L : List Gap) (k : Int) (hL : L.length < 2000000) (hk : 0 ≤ k ∧ k < 2000000) : (W (n + 1)).pc 93 [grn L, .int .i64 k] = some (grn (L.drop (L.length - k.toNat))) := by
  apply runs c_undo_ending_api_Gap
  simp [X_undo_ending_api_Gap, nilG]
  repeat' (first
    | simp (disch := omega) only [wrap_i64, wrap_i32]
    | (simp (disch := first | omega | assumption | (simp only [i64, i32]; omega) | (simp <;> omega) | fail) only [loadD_cpr, loadD_cprs, List.take_of_length_le]; simp [*])
    | (with_reducible refine And.intro ?_ ?_; focus first | omega | decide)
    | (with_reducible refine split_ite (fun hp => ?_) (fun hp => ?_) <;> (try simp at hp) <;> simp [*])
    | (with_reducible refine split_ite1 (fun hp => ?_) (fun hp => ?_) <;> (try simp at hp) <;> simp [*])
    | (refine split_cond (by simp) (fun hp => ?_) (fun hp => ?_) <;> simp at hp <;> simp [*])
    | (refine split_ops (by simp) (fun hp => ?_) (fun hp => ?_) <;> simp at hp <;> simp [*])
    | (refine split_opsD (by simp) (fun hp => ?_) (fun hp => ?_) <;> simp at hp <;> simp [*])
    | (refine split_pick (by simp) (fun hp => ?_) (fun hp => ?_) <;> simp at hp <;> simp [*])
    | omega
    | decide
    | (simp [*]))
  all_goals rw [show (max 0 ((L.length : Int) - k)).toNat = L.length - k.toNat by omega]

def uPush (L : List Gap) (g : Gap) : List Gap :=
  if uIs L = false ∨ gapIs g = false then L else
  if L ≠ [] ∧ (lastG L).A = g.A ∧ (lastG L).B = g.B then L else L.drop (L.length - 15) ++ [g]

@[simp] theorem pc_undo_Push (n : Nat) (L : List Gap) (g : Gap) (hL : smallU L) (hA : g.A.length < 2000000) (hB : g.B.length < 2000000) : (W (n + 6)).pc 69 [uD L, gD g] = some (uD (uPush L g)) := by
  apply runsM c_undo_Push
  have hL1 := hL.1
  have hmode : modes 69 92 = 1 := id rfl
  have hm1 : modes 69 34 = 0 := id rfl
  have hm2 : modes 69 32 = 0 := id rfl
  have hm3 : modes 69 73 = 0 := id rfl
  have hm4 : modes 69 93 = 0 := id rfl
  have hm5 : modes 69 91 = 0 := id rfl
  cases hk : uIs L
  · simp [X_undo_Push, nilG, hL, hk, uPush, hm1]
  cases ho : gapIs g
  · simp [X_undo_Push, nilG, hL, hk, ho, hA, hB, uPush, hm1, hm2]
    repeat' (first
      | simp (disch := omega) only [wrap_i64, wrap_i32]
      | (simp (disch := first | omega | assumption | (simp only [i64, i32]; omega) | (simp <;> omega) | fail) only [loadD_cpr, loadD_cprs, List.take_of_length_le]; simp [*, nilG])
      | (with_reducible refine And.intro ?_ ?_; focus first | omega | decide)
      | (with_reducible refine split_ite (fun hp => ?_) (fun hp => ?_) <;> (try simp at hp) <;> simp [*, nilG])
      | (with_reducible refine split_ite1 (fun hp => ?_) (fun hp => ?_) <;> (try simp at hp) <;> simp [*, nilG])
      | (refine split_cond (by simp) (fun hp => ?_) (fun hp => ?_) <;> simp at hp <;> simp [*, nilG])
      | (refine split_ops (by simp) (fun hp => ?_) (fun hp => ?_) <;> simp at hp <;> simp [*, nilG])
      | (refine split_opsD (by simp) (fun hp => ?_) (fun hp => ?_) <;> simp at hp <;> simp [*, nilG])
      | (refine split_pick (by simp) (fun hp => ?_) (fun hp => ?_) <;> simp at hp <;> simp [*, nilG])
      | omega
      | decide
      | (simp [*, nilG]))
  have hl16 : L.length ≤ 16 := by simp [uIs] at hk; exact hk.1
  have ⟨hsm, hsm2⟩ := lastG_len hL
  by_cases h0 : L = []
  · subst h0
    simp [X_undo_Push, nilR, hL, hk, ho, hA, hB, hm1, hm2, hm3, hm4, hm5, hmode, hL1, oc_Clone_Gap, own1_fresh, freshD, freshH]
    repeat' (first
      | simp (disch := omega) only [wrap_i64, wrap_i32]
      | (simp (disch := first | omega | assumption | (simp only [i64, i32]; omega) | (simp <;> omega) | fail) only [loadD_cpr, loadD_cprs, List.take_of_length_le]; simp [*, nilR])
      | (with_reducible refine And.intro ?_ ?_; focus first | omega | decide)
      | (with_reducible refine split_ite (fun hp => ?_) (fun hp => ?_) <;> (try simp at hp) <;> simp [*, nilR])
      | (with_reducible refine split_ite1 (fun hp => ?_) (fun hp => ?_) <;> (try simp at hp) <;> simp [*, nilR])
      | (refine split_cond (by simp) (fun hp => ?_) (fun hp => ?_) <;> simp at hp <;> simp [*, nilR])
      | (refine split_ops (by simp) (fun hp => ?_) (fun hp => ?_) <;> simp at hp <;> simp [*, nilR])
      | (refine split_opsD (by simp) (fun hp => ?_) (fun hp => ?_) <;> simp at hp <;> simp [*, nilR])
      | (refine split_pick (by simp) (fun hp => ?_) (fun hp => ?_) <;> simp at hp <;> simp [*, nilR])
      | omega
      | decide
      | (simp [*, nilR]))
    have e : uPush [] g = [g] := by simp [uPush, hk, ho]
    rw [e]
    rfl
  have hn : 0 < L.length := List.length_pos_iff.2 h0
  have hd : L.length - 15 < L.length := by omega
  have e3 : (L.length - (L.length - 15)) * 2 + 2 = (L.length - (L.length - 15) + 1) * 2 := by omega
  simp [X_undo_Push, nilR, hL, hk, ho, hA, hB, hm1, hm2, hm3, hm4, hm5, hmode, hL1, h0]
  repeat' (first
    | simp (disch := omega) only [wrap_i64, wrap_i32]
    | (simp (disch := first | omega | assumption | (simp only [i64, i32]; omega) | (simp <;> omega) | fail) only [loadD_cpr, loadD_cprs, List.take_of_length_le, oc_Clone_Gap, pc_Equal_rune]; simp [*, nilR, own1_fresh])
    | (with_reducible refine And.intro ?_ ?_; focus first | omega | decide)
    | (with_reducible refine split_ite (fun hp => ?_) (fun hp => ?_) <;> (try simp at hp) <;> simp [*, nilR, own1_fresh])
    | (with_reducible refine split_ite1 (fun hp => ?_) (fun hp => ?_) <;> (try simp at hp) <;> simp [*, nilR, own1_fresh])
    | (refine split_cond (by simp) (fun hp => ?_) (fun hp => ?_) <;> simp at hp <;> simp [*, nilR, own1_fresh])
    | (refine split_ops (by simp) (fun hp => ?_) (fun hp => ?_) <;> simp at hp <;> simp [*, nilR, own1_fresh])
    | (refine split_opsD (by simp) (fun hp => ?_) (fun hp => ?_) <;> simp at hp <;> simp [*, nilR, own1_fresh])
    | (refine split_pick (by simp) (fun hp => ?_) (fun hp => ?_) <;> simp at hp <;> simp [*, nilR, own1_fresh])
    | omega
    | decide
    | (simp [*, nilR, own1_fresh]))
  · rw [uPush, if_neg (by simp [hk, ho]), if_pos ⟨h0, by assumption, hp⟩]
  · have e : uPush L g = L.drop (L.length - 15) ++ [g] := by
      rw [uPush, if_neg (by simp [hk, ho]), if_neg (by rintro ⟨_, _, h3⟩; contradiction)]
    rw [e]
    refine row_is (by simp <;> omega) ?_
    rw [List.take_of_length_le (by simp <;> omega)]
    simp
  · have e : uPush L g = L.drop (L.length - 15) ++ [g] := by
      rw [uPush, if_neg (by simp [hk, ho]), if_neg (by rintro ⟨_, h3, _⟩; contradiction)]
    rw [e]
    refine row_is (by simp <;> omega) ?_
    rw [List.take_of_length_le (by simp <;> omega)]
    simp

@[simp] theorem pc_ref13_Push (n : Nat) (L : List Gap) (g : Gap) (hL : smallU L) (hA : g.A.length < 2000000) (hB : g.B.length < 2000000) : (W (n + 6)).pc 20 [uD L, gD g] = some (uD (uPush L g)) := by
  apply runs c_typebarref13_Push
  have hL1 := hL.1
  cases hk : uIs L
  · simp [X_typebarref13_Push, nilG, hL, hk, uPush]
  cases ho : gapIs g
  · simp [X_typebarref13_Push, nilG, hL, hk, ho, hA, hB, uPush]
    repeat' (first
      | simp (disch := omega) only [wrap_i64, wrap_i32]
      | (simp (disch := first | omega | assumption | (simp only [i64, i32]; omega) | (simp <;> omega) | fail) only [loadD_cpr, loadD_cprs, List.take_of_length_le]; simp [*, nilG])
      | (with_reducible refine And.intro ?_ ?_; focus first | omega | decide)
      | (with_reducible refine split_ite (fun hp => ?_) (fun hp => ?_) <;> (try simp at hp) <;> simp [*, nilG])
      | (with_reducible refine split_ite1 (fun hp => ?_) (fun hp => ?_) <;> (try simp at hp) <;> simp [*, nilG])
      | (refine split_cond (by simp) (fun hp => ?_) (fun hp => ?_) <;> simp at hp <;> simp [*, nilG])
      | (refine split_ops (by simp) (fun hp => ?_) (fun hp => ?_) <;> simp at hp <;> simp [*, nilG])
      | (refine split_opsD (by simp) (fun hp => ?_) (fun hp => ?_) <;> simp at hp <;> simp [*, nilG])
      | (refine split_pick (by simp) (fun hp => ?_) (fun hp => ?_) <;> simp at hp <;> simp [*, nilG])
      | omega
      | decide
      | (simp [*, nilG]))
  have hl16 : L.length ≤ 16 := by simp [uIs] at hk; exact hk.1
  have ⟨hsm, hsm2⟩ := lastG_len hL
  by_cases h0 : L = []
  · subst h0
    simp [X_typebarref13_Push, hL, hk, ho, hA, hB, hL1]
    repeat' (first
      | simp (disch := omega) only [wrap_i64, wrap_i32]
      | (simp (disch := first | omega | assumption | (simp only [i64, i32]; omega) | (simp <;> omega) | fail) only [loadD_cpr, loadD_cprs, List.take_of_length_le]; simp [*])
      | (with_reducible refine And.intro ?_ ?_; focus first | omega | decide)
      | (with_reducible refine split_ite (fun hp => ?_) (fun hp => ?_) <;> (try simp at hp) <;> simp [*])
      | (with_reducible refine split_ite1 (fun hp => ?_) (fun hp => ?_) <;> (try simp at hp) <;> simp [*])
      | (refine split_cond (by simp) (fun hp => ?_) (fun hp => ?_) <;> simp at hp <;> simp [*])
      | (refine split_ops (by simp) (fun hp => ?_) (fun hp => ?_) <;> simp at hp <;> simp [*])
      | (refine split_opsD (by simp) (fun hp => ?_) (fun hp => ?_) <;> simp at hp <;> simp [*])
      | (refine split_pick (by simp) (fun hp => ?_) (fun hp => ?_) <;> simp at hp <;> simp [*])
      | omega
      | decide
      | (simp [*]))
    have e : uPush [] g = [g] := by simp [uPush, hk, ho]
    rw [e]
    rfl
  have hn : 0 < L.length := List.length_pos_iff.2 h0
  have e1 : ((L.length : Int) - 1).toNat = L.length - 1 := by omega
  have e2 := lastG_at hn
  rw [e2] at hsm hsm2
  have e3 : L.length * 2 + 2 = (L.length + 1) * 2 := by omega
  simp [X_typebarref13_Push, hL, hk, ho, hA, hB, hL1, h0, hn]
  have e4 : 2 + L.length * 2 ≤ (L.length + 1) * 2 := by omega
  repeat' (first
    | simp (disch := omega) only [wrap_i64, wrap_i32]
    | (simp (disch := first | omega | assumption | (simp only [i64, i32]; omega) | (simp <;> omega) | fail) only [loadD_cpr, loadD_cprs, List.take_of_length_le, pc_ref10_Same]; simp [*, e1])
    | (with_reducible refine And.intro ?_ ?_; focus first | omega | decide)
    | (with_reducible refine split_ite (fun hp => ?_) (fun hp => ?_) <;> (try simp at hp) <;> simp [*, e1])
    | (with_reducible refine split_ite1 (fun hp => ?_) (fun hp => ?_) <;> (try simp at hp) <;> simp [*, e1])
    | (refine split_cond (by simp) (fun hp => ?_) (fun hp => ?_) <;> simp at hp <;> simp [*, e1])
    | (refine split_ops (by simp) (fun hp => ?_) (fun hp => ?_) <;> simp at hp <;> simp [*, e1])
    | (refine split_opsD (by simp) (fun hp => ?_) (fun hp => ?_) <;> simp at hp <;> simp [*, e1])
    | (refine split_pick (by simp) (fun hp => ?_) (fun hp => ?_) <;> simp at hp <;> simp [*, e1])
    | omega
    | decide
    | (simp [*, e1]))
  all_goals try rename L[L.length - 1].A = g.A → ¬L[L.length - 1].B = g.B => hp1
  · rw [uPush, if_neg (by simp [hk, ho]), if_pos ⟨h0, by rw [e2]; exact hp⟩]
  · have e : uPush L g = L.drop 1 ++ [g] := by
      rw [uPush, if_neg (by simp [hk, ho]), if_neg (by rintro ⟨_, h3, h4⟩; rw [e2] at h3 h4; exact hp1 h3 h4), show L.length - 15 = 1 by omega]
    have e5 : cells gapC L ++ [row runeC false g.A, row runeC false g.B] = cells gapC (L ++ [g]) := by simp
    rw [e, e5]
    have e6 : ∀ cs : List D, List.take (L.length * 2) (List.drop 2 cs) = List.take (L.length * gapC.sz) (List.drop (1 * gapC.sz) cs) := fun _ => rfl
    rw [e6, cells_drop, cells_take, List.take_of_length_le (by simp), List.drop_append_of_le_length (by omega)]
    exact row_is (by simp <;> omega) rfl
  · have e : uPush L g = L ++ [g] := by
      rw [uPush, if_neg (by simp [hk, ho]), if_neg (by rintro ⟨_, h3, h4⟩; rw [e2] at h3 h4; exact hp1 h3 h4), show L.length - 15 = 0 by omega]; rfl
    rw [e]
    refine row_is (by simp <;> omega) ?_
    rw [List.take_of_length_le (by simp <;> omega)]
    simp

def uPop (L : List Gap) : List Gap × Gap × Int := if uIs L = false then ([], g0, 1) else if L = [] then ([], g0, 6) else (L.take (L.length - 1), lastG L, 0)

@[simp] theorem pc_undo_Pop (n : Nat) (L : List Gap) (hL : smallU L) : (W (n + 6)).pc 47 [uD L] = some (.tup [uD (uPop L).1, gD (uPop L).2.1, eD (uPop L).2.2]) := by
  apply runs c_undo_Pop
  have hL1 := hL.1
  cases hk : uIs L
  · simp [X_undo_Pop, nilR, hL, hk, uPop, g0]
    rfl
  by_cases h0 : L = []
  · subst h0
    simp [X_undo_Pop, nilR, hL, hk, uPop, g0]
    exact ⟨by decide, rfl, rfl, rfl⟩
  have hn : 0 < L.length := List.length_pos_iff.2 h0
  simp [X_undo_Pop, nilR, hL, hL1, hk, uPop, h0]
  repeat' (first
    | simp (disch := omega) only [wrap_i64, wrap_i32]
    | (simp (disch := first | omega | assumption | (simp only [i64, i32]; omega) | (simp <;> omega) | fail) only [loadD_cpr, loadD_cprs, List.take_of_length_le]; simp [*, nilR])
    | (with_reducible refine And.intro ?_ ?_; focus first | omega | decide)
    | (with_reducible refine split_ite (fun hp => ?_) (fun hp => ?_) <;> (try simp at hp) <;> simp [*, nilR])
    | (with_reducible refine split_ite1 (fun hp => ?_) (fun hp => ?_) <;> (try simp at hp) <;> simp [*, nilR])
    | (refine split_cond (by simp) (fun hp => ?_) (fun hp => ?_) <;> simp at hp <;> simp [*, nilR])
    | (refine split_ops (by simp) (fun hp => ?_) (fun hp => ?_) <;> simp at hp <;> simp [*, nilR])
    | (refine split_opsD (by simp) (fun hp => ?_) (fun hp => ?_) <;> simp at hp <;> simp [*, nilR])
    | (refine split_pick (by simp) (fun hp => ?_) (fun hp => ?_) <;> simp at hp <;> simp [*, nilR])
    | omega
    | decide
    | (simp [*, nilR]))
  all_goals trace_state

@[simp] theorem pc_ref13_Pop (n : Nat) (L : List Gap) (hL : smallU L) : (W (n + 6)).pc 25 [uD L] = some (.tup [uD (uPop L).1, gD (uPop L).2.1, eD (uPop L).2.2]) := by
  apply runs c_typebarref13_Pop
  have hL1 := hL.1
  cases hk : uIs L
  · simp [X_typebarref13_Pop, nilR, hL, hk, uPop, g0]
    rfl
  by_cases h0 : L = []
  · subst h0
    simp [X_typebarref13_Pop, nilR, hL, hk, uPop, g0]
    rfl
  have hn : 0 < L.length := List.length_pos_iff.2 h0
  have e1 : ((L.length : Int) - 1).toNat = L.length - 1 := by omega
  simp [X_typebarref13_Pop, nilR, hL, hL1, hk, uPop, h0, lastG_at hn]
  repeat' (first
    | simp (disch := omega) only [wrap_i64, wrap_i32]
    | (simp (disch := first | omega | assumption | (simp only [i64, i32]; omega) | (simp <;> omega) | fail) only [loadD_cpr, loadD_cprs, List.take_of_length_le]; simp [*, nilR, e1])
    | (with_reducible refine And.intro ?_ ?_; focus first | omega | decide)
    | (with_reducible refine split_ite (fun hp => ?_) (fun hp => ?_) <;> (try simp at hp) <;> simp [*, nilR, e1])
    | (with_reducible refine split_ite1 (fun hp => ?_) (fun hp => ?_) <;> (try simp at hp) <;> simp [*, nilR, e1])
    | (refine split_cond (by simp) (fun hp => ?_) (fun hp => ?_) <;> simp at hp <;> simp [*, nilR, e1])
    | (refine split_ops (by simp) (fun hp => ?_) (fun hp => ?_) <;> simp at hp <;> simp [*, nilR, e1])
    | (refine split_opsD (by simp) (fun hp => ?_) (fun hp => ?_) <;> simp at hp <;> simp [*, nilR, e1])
    | (refine split_pick (by simp) (fun hp => ?_) (fun hp => ?_) <;> simp at hp <;> simp [*, nilR, e1])
    | omega
    | decide
    | (simp [*, nilR, e1]))
  all_goals trace_state

end Go.Proofs.YtcaglmjfphjpfaaGreat
