/- What is right, of lines of any size; what an act does. -/
import Derived.Test.YtcaglmjfphjpfaaGreatEditD
namespace Go.Proofs.YtcaglmjfphjpfaaGreat
open Go E
set_option linter.unusedSimpArgs false
set_option linter.unusedVariables false
set_option maxRecDepth 100000

theorem pc_signsB (n : Nat) (l : List Int) (hl : l.length < 70368744177664) : (W (n + 3)).pc 61 [rn l] = some (.bool (allR l)) := by
  apply runs c_gap_signs
  simp [X_gap_signs, *]
  refine aw_rounds (fun m st => ∃ i : Nat, st.t 5 = rn l ∧ st.t 6 = .int .i64 l.length ∧ st.t 7 = .int .i64 i ∧ st.h = [] ∧ i ≤ l.length ∧ m = l.length - i + 1 ∧ Keep (allR l = allR (l.drop i))) ?_ ?_ (n := l.length + 1) (by omega) ?_
  · rintro st ⟨i, hi⟩; omega
  · rintro J m ⟨t, h⟩ ⟨i, h5, h6, h7, hh, hi, hm, hq⟩ hJ
    simp at h5 h6 h7 hh
    subst hh
    simp [h5, h6, h7]
    repeat' (first
      | simp (disch := omega) only [wrap_i64, wrap_i32]
      | (simp (disch := first | omega | assumption | (simp only [i64, i32]; omega) | (simp <;> omega) | fail) only [loadD_cpr, loadD_cprs, List.take_of_length_le]; simp [*])
      | (with_reducible refine And.intro ?_ ?_; focus first | omega | decide)
      | (with_reducible refine split_ite (fun hp => ?_) (fun hp => ?_) <;> (try simp at hp) <;> simp [*])
      | (with_reducible refine split_ite1 (fun hp => ?_) (fun hp => ?_) <;> (try simp at hp) <;> simp [*])
      | (refine split_cond (by simp) (fun hp => ?_) (fun hp => ?_) <;> simp at hp <;> simp [*])
      | (refine split_ops (by simp) (fun hp => ?_) (fun hp => ?_) <;> simp at hp <;> simp [*])
      | (refine split_opsD (by simp) (fun hp => ?_) (fun hp => ?_) <;> simp at hp <;> simp [*])
      | (refine split_pick (by simp) (fun hp => ?_) (fun hp => ?_) <;> simp at hp <;> simp [*])
      | omega
      | decide
      | (simp [*]))
    · rw [hq.out, allR_drop (by omega)]; simp [*]
    · exact hJ.out _ ⟨i + 1, by simp [*], by simp [*], by simp, by simp, by omega, by omega, ⟨by rw [hq.out, allR_drop (by omega)]; simp [*]⟩⟩
    · rw [hq.out, List.drop_of_length_le (by omega)]; rfl
  · exact ⟨0, by simp, by simp, by simp, by simp, by simp, by simp, ⟨by simp⟩⟩

theorem pc_gap_IsB (n : Nat) (g : Gap) (hA : g.A.length < 70368744177664) (hB : g.B.length < 70368744177664) : (W (n + 4)).pc 32 [gD g] = some (.bool (gapIs g)) := by
  apply runs c_gap_Is
  have s1 := pc_signsB n g.A hA
  have s2 := pc_signsB n g.B hB
  simp [X_gap_Is, *]
  repeat' (first
    | simp (disch := omega) only [wrap_i64, wrap_i32]
    | (simp (disch := first | omega | assumption | (simp only [i64, i32]; omega) | (simp <;> omega) | fail) only [loadD_cpr, loadD_cprs, List.take_of_length_le]; simp [*])
    | (with_reducible refine And.intro ?_ ?_; focus first | omega | decide)
    | (with_reducible refine split_ite (fun hp => ?_) (fun hp => ?_) <;> (try simp at hp) <;> simp [*])
    | (with_reducible refine split_ite1 (fun hp => ?_) (fun hp => ?_) <;> (try simp at hp) <;> simp [*])
    | (refine split_cond (by simp) (fun hp => ?_) (fun hp => ?_) <;> simp at hp <;> simp [*])
    | (refine split_ops (by simp) (fun hp => ?_) (fun hp => ?_) <;> simp at hp <;> simp [*])
    | (refine split_opsD (by simp) (fun hp => ?_) (fun hp => ?_) <;> simp at hp <;> simp [*])
    | (refine split_pick (by simp) (fun hp => ?_) (fun hp => ?_) <;> simp at hp <;> simp [*])
    | omega
    | decide
    | (simp [*]))
  all_goals grind [gapIs]

theorem pc_kill_oneB (n : Nat) (l : List Int) (hl : l.length < 70368744177664) : (W (n + 3)).pc 62 [rn l] = some (.bool (kOne l)) := by
  apply runs c_kill_one
  simp [X_kill_one]
  refine aw_rounds (fun m st => ∃ i : Nat, st.t 0 = rn l ∧ st.t 5 = rn l ∧ st.t 6 = .int .i64 l.length ∧ st.t 7 = .int .i64 i ∧ st.h = [] ∧ i ≤ l.length ∧ m = l.length - i + 1 ∧ Keep (allR l = allR (l.drop i))) ?_ ?_ (n := l.length - (0) + 1) (by first | omega | (simp; omega)) ?_
  · rintro st ⟨i, hx⟩; omega
  rotate_left
  · exact ⟨0, by first | (simp [*]; done) | (simp [*]; omega) | rfl, by first | (simp [*]; done) | (simp [*]; omega) | rfl, by first | (simp [*]; done) | (simp [*]; omega) | rfl, by first | (simp [*]; done) | (simp [*]; omega) | rfl, by first | (simp [*]; done) | (simp [*]; omega) | rfl, by first | omega | (simp; omega) | simp [*], by first | rfl | (simp; done) | omega, ⟨by simp⟩⟩
  rintro Ja ma ⟨t, h⟩ ⟨i, ea0, ea5, ea6, ea7, hha, fa1, hma, hqa⟩ hJa
  simp only [] at ea0 ea5 ea6 ea7 hha
  subst hha
  simp [ea0, ea5, ea6, ea7]
  repeat' (first
    | simp (disch := omega) only [wrap_i64, wrap_i32]
    | (simp (disch := first | omega | assumption | (simp only [i64, i32]; omega) | (simp <;> omega) | fail) only [loadD_cpr, loadD_cprs, List.take_of_length_le]; simp [*])
    | (with_reducible refine And.intro ?_ ?_; focus first | omega | decide)
    | (with_reducible refine split_ite (fun hp => ?_) (fun hp => ?_) <;> (try simp at hp) <;> simp [*])
    | (with_reducible refine split_ite1 (fun hp => ?_) (fun hp => ?_) <;> (try simp at hp) <;> simp [*])
    | (refine split_cond (by simp) (fun hp => ?_) (fun hp => ?_) <;> simp at hp <;> simp [*])
    | (refine split_ops (by simp) (fun hp => ?_) (fun hp => ?_) <;> simp at hp <;> simp [*])
    | (refine split_opsD (by simp) (fun hp => ?_) (fun hp => ?_) <;> simp at hp <;> simp [*])
    | (refine split_pick (by simp) (fun hp => ?_) (fun hp => ?_) <;> simp at hp <;> simp [*])
    | omega
    | decide
    | (simp [*]))
  · simp [kOne, allR_no (by assumption) hp]
  · exact hJa.out _ ⟨i + 1, by first | (simp [*]; done) | (simp [*]; omega) | rfl, by first | (simp [*]; done) | (simp [*]; omega) | rfl, by first | (simp [*]; done) | (simp [*]; omega) | rfl, by first | (simp [*]; done) | (simp [*]; omega) | rfl, by first | (simp [*]; done) | (simp [*]; omega) | rfl, by first | omega | (simp; omega) | simp [*], by omega, ⟨by rw [hqa.out, allR_drop (by omega)]; simp [*]⟩⟩
  · have := hqa.out
    simp [kOne, *, drop_end]; omega

def smallB (L : List (List Int)) : Prop := L.length < 70368744177664 ∧ ∀ l ∈ L, l.length < 70368744177664

theorem pc_kill_IsB (n : Nat) (L : List (List Int)) (hL : smallB L) : (W (n + 4)).pc 33 [kD L] = some (.bool (kIs L)) := by
  apply runs c_kill_Is
  obtain ⟨hL, hl⟩ := hL
  simp [X_kill_Is]
  refine aw_rounds (fun m st => ∃ i : Nat, st.t 1 = .ptr 0 0 1 ∧ st.t 6 = rrn L ∧ st.t 7 = .int .i64 L.length ∧ st.t 8 = .int .i64 i ∧ st.h = [⟨[rrn L], 0, true⟩] ∧ i ≤ L.length ∧ m = L.length - i + 1 ∧ Keep (L.all kOne = (L.drop i).all kOne)) ?_ ?_ (n := L.length - (0) + 1) (by first | omega | (simp; omega)) ?_
  · rintro st ⟨i, hx⟩; omega
  rotate_left
  · exact ⟨0, by first | (simp [*]; done) | (simp [*]; omega) | rfl, by first | (simp [*]; done) | (simp [*]; omega) | rfl, by first | (simp [*]; done) | (simp [*]; omega) | rfl, by first | (simp [*]; done) | (simp [*]; omega) | rfl, by first | (simp [*]; done) | (simp [*]; omega) | rfl, by first | omega | (simp; omega) | simp [*], by first | rfl | (simp; done) | omega, ⟨by simp⟩⟩
  rintro Ja ma ⟨t, h⟩ ⟨i, ea1, ea6, ea7, ea8, hha, fa1, hma, hqa⟩ hJa
  simp only [] at ea1 ea6 ea7 ea8 hha
  subst hha
  simp [ea1, ea6, ea7, ea8]
  have hs : ∀ h : i < L.length, L[i].length < 70368744177664 := fun h => hl _ (List.getElem_mem h)
  repeat' (first
    | simp (disch := omega) only [wrap_i64, wrap_i32]
    | (simp (disch := first | omega | assumption | (simp only [i64, i32]; omega) | (simp <;> omega) | fail) only [loadD_cpr, loadD_cprs, List.take_of_length_le]; simp [*, pc_kill_oneB])
    | (with_reducible refine And.intro ?_ ?_; focus first | omega | decide)
    | (with_reducible refine split_ite (fun hp => ?_) (fun hp => ?_) <;> (try simp at hp) <;> simp [*, pc_kill_oneB])
    | (with_reducible refine split_ite1 (fun hp => ?_) (fun hp => ?_) <;> (try simp at hp) <;> simp [*, pc_kill_oneB])
    | (refine split_cond (by simp) (fun hp => ?_) (fun hp => ?_) <;> simp at hp <;> simp [*, pc_kill_oneB])
    | (refine split_ops (by simp) (fun hp => ?_) (fun hp => ?_) <;> simp at hp <;> simp [*, pc_kill_oneB])
    | (refine split_opsD (by simp) (fun hp => ?_) (fun hp => ?_) <;> simp at hp <;> simp [*, pc_kill_oneB])
    | (refine split_pick (by simp) (fun hp => ?_) (fun hp => ?_) <;> simp at hp <;> simp [*, pc_kill_oneB])
    | omega
    | decide
    | (simp [*, pc_kill_oneB]))
  · simp only [kIs, all_no (by assumption) hp, Bool.and_false]
  · exact hJa.out _ ⟨i + 1, by first | (simp [*]; done) | (simp [*]; omega) | rfl, by first | (simp [*]; done) | (simp [*]; omega) | rfl, by first | (simp [*]; done) | (simp [*]; omega) | rfl, by first | (simp [*]; done) | (simp [*]; omega) | rfl, by first | (simp [*]; done) | (simp [*]; omega) | rfl, by first | omega | (simp; omega) | simp [*], by omega, ⟨by rw [hqa.out, all_at (by omega)]; simp [*]⟩⟩
  · have := hqa.out
    simp [kIs, *, drop_end]; omega

def smallUB (L : List Gap) : Prop := L.length < 70368744177664 ∧ ∀ g ∈ L, g.A.length < 70368744177664 ∧ g.B.length < 70368744177664

theorem pc_undo_IsB (n : Nat) (L : List Gap) (hL : smallUB L) : (W (n + 5)).pc 34 [uD L] = some (.bool (uIs L)) := by
  apply runs c_undo_Is
  obtain ⟨hL, hl⟩ := hL
  simp [X_undo_Is]
  refine aw_rounds (fun m st => ∃ i : Nat, st.t 1 = .ptr 0 0 1 ∧ st.t 6 = grn L ∧ st.t 7 = .int .i64 L.length ∧ st.t 8 = .int .i64 i ∧ (∃ R, st.h = ⟨[grn L], 0, true⟩ :: R) ∧ i ≤ L.length ∧ m = L.length - i + 1 ∧ Keep (L.all gapIs = (L.drop i).all gapIs)) ?_ ?_ (n := L.length - (0) + 1) (by first | omega | (simp; omega)) ?_
  · rintro st ⟨i, hx⟩; omega
  rotate_left
  · exact ⟨0, by first | (simp [*]; done) | (simp [*]; omega) | rfl, by first | (simp [*]; done) | (simp [*]; omega) | rfl, by first | (simp [*]; done) | (simp [*]; omega) | rfl, by first | (simp [*]; done) | (simp [*]; omega) | rfl, ⟨_, rfl⟩, by first | omega | (simp; omega) | simp [*], by first | rfl | (simp; done) | omega, ⟨by simp⟩⟩
  rintro Ja ma ⟨t, h⟩ ⟨i, ea1, ea6, ea7, ea8, ⟨Ra, hha⟩, fa1, hma, hqa⟩ hJa
  simp only [] at ea1 ea6 ea7 ea8 hha
  subst hha
  simp [ea1, ea6, ea7, ea8]
  have hs : ∀ h : i < L.length, L[i].A.length < 70368744177664 ∧ L[i].B.length < 70368744177664 := fun h => hl _ (List.getElem_mem h)
  repeat' (first
    | simp (disch := omega) only [wrap_i64, wrap_i32]
    | (simp (disch := first | omega | assumption | (simp only [i64, i32]; omega) | (simp <;> omega) | fail) only [loadD_cpr, loadD_cprs, List.take_of_length_le]; simp [*, pc_gap_IsB])
    | (with_reducible refine And.intro ?_ ?_; focus first | omega | decide)
    | (with_reducible refine split_ite (fun hp => ?_) (fun hp => ?_) <;> (try simp at hp) <;> simp [*, pc_gap_IsB])
    | (with_reducible refine split_ite1 (fun hp => ?_) (fun hp => ?_) <;> (try simp at hp) <;> simp [*, pc_gap_IsB])
    | (refine split_cond (by simp) (fun hp => ?_) (fun hp => ?_) <;> simp at hp <;> simp [*, pc_gap_IsB])
    | (refine split_ops (by simp) (fun hp => ?_) (fun hp => ?_) <;> simp at hp <;> simp [*, pc_gap_IsB])
    | (refine split_opsD (by simp) (fun hp => ?_) (fun hp => ?_) <;> simp at hp <;> simp [*, pc_gap_IsB])
    | (refine split_pick (by simp) (fun hp => ?_) (fun hp => ?_) <;> simp at hp <;> simp [*, pc_gap_IsB])
    | omega
    | decide
    | (simp [*, pc_gap_IsB]))
  · simp only [uIs, all_no (by assumption) hp, Bool.and_false]
  · exact hJa.out _ ⟨i + 1, by first | (simp [*]; done) | (simp [*]; omega) | rfl, by first | (simp [*]; done) | (simp [*]; omega) | rfl, by first | (simp [*]; done) | (simp [*]; omega) | rfl, by first | (simp [*]; done) | (simp [*]; omega) | rfl, ⟨_, rfl⟩, by first | omega | (simp; omega) | simp [*], by omega, ⟨by rw [hqa.out, all_at (by omega)]; simp [*]⟩⟩
  · have := hqa.out
    simp [uIs, *, drop_end]; omega

/-- A line that is edited, of any size. -/
structure EdSized (e : EditM) : Prop where
  a : e.G.A.length < 70368744177664
  b : e.G.B.length < 70368744177664
  k : smallB e.K
  u : smallUB e.U

theorem pc_edit_Is (n : Nat) (e : EditM) (h : EdSized e) : (W (n + 6)).pc 9 [edD e] = some (.bool (edIs e)) := by
  apply runs c_edit_Is
  have h1 := pc_gap_IsB (n + 1) e.G h.a h.b
  have h2 := pc_kill_IsB (n + 1) e.K h.k
  have h3 := pc_undo_IsB n e.U h.u
  have hk := h.k.1
  have ha := h.a
  simp [X_edit_Is]
  cases q1 : gapIs e.G
  · rw [q1] at h1
    have he : edIs e = false := by simp [edIs, q1]
    repeat' (first
      | simp (disch := omega) only [wrap_i64, wrap_i32]
      | (simp (disch := first | omega | assumption | (simp only [i64, i32]; omega) | (simp <;> omega) | fail) only [loadD_cpr, loadD_cprs, List.take_of_length_le]; simp [*, h1, he])
      | (with_reducible refine And.intro ?_ ?_; focus first | omega | decide)
      | (with_reducible refine split_ite (fun hp => ?_) (fun hp => ?_) <;> (try simp at hp) <;> simp [*, h1, he])
      | (with_reducible refine split_ite1 (fun hp => ?_) (fun hp => ?_) <;> (try simp at hp) <;> simp [*, h1, he])
      | (refine split_cond (by simp) (fun hp => ?_) (fun hp => ?_) <;> simp at hp <;> simp [*, h1, he])
      | (refine split_ops (by simp) (fun hp => ?_) (fun hp => ?_) <;> simp at hp <;> simp [*, h1, he])
      | (refine split_opsD (by simp) (fun hp => ?_) (fun hp => ?_) <;> simp at hp <;> simp [*, h1, he])
      | (refine split_pick (by simp) (fun hp => ?_) (fun hp => ?_) <;> simp at hp <;> simp [*, h1, he])
      | omega
      | decide
      | (simp [*, h1, he]))
  cases q2 : kIs e.K
  · rw [q1] at h1
    rw [q2] at h2
    have he : edIs e = false := by simp [edIs, q2]
    repeat' (first
      | simp (disch := omega) only [wrap_i64, wrap_i32]
      | (simp (disch := first | omega | assumption | (simp only [i64, i32]; omega) | (simp <;> omega) | fail) only [loadD_cpr, loadD_cprs, List.take_of_length_le]; simp [*, h1, h2, he])
      | (with_reducible refine And.intro ?_ ?_; focus first | omega | decide)
      | (with_reducible refine split_ite (fun hp => ?_) (fun hp => ?_) <;> (try simp at hp) <;> simp [*, h1, h2, he])
      | (with_reducible refine split_ite1 (fun hp => ?_) (fun hp => ?_) <;> (try simp at hp) <;> simp [*, h1, h2, he])
      | (refine split_cond (by simp) (fun hp => ?_) (fun hp => ?_) <;> simp at hp <;> simp [*, h1, h2, he])
      | (refine split_ops (by simp) (fun hp => ?_) (fun hp => ?_) <;> simp at hp <;> simp [*, h1, h2, he])
      | (refine split_opsD (by simp) (fun hp => ?_) (fun hp => ?_) <;> simp at hp <;> simp [*, h1, h2, he])
      | (refine split_pick (by simp) (fun hp => ?_) (fun hp => ?_) <;> simp at hp <;> simp [*, h1, h2, he])
      | omega
      | decide
      | (simp [*, h1, h2, he]))
  cases q3 : uIs e.U
  · rw [q1] at h1
    rw [q2] at h2
    rw [q3] at h3
    have he : edIs e = false := by simp [edIs, q3]
    repeat' (first
      | simp (disch := omega) only [wrap_i64, wrap_i32]
      | (simp (disch := first | omega | assumption | (simp only [i64, i32]; omega) | (simp <;> omega) | fail) only [loadD_cpr, loadD_cprs, List.take_of_length_le]; simp [*, h1, h2, h3, he])
      | (with_reducible refine And.intro ?_ ?_; focus first | omega | decide)
      | (with_reducible refine split_ite (fun hp => ?_) (fun hp => ?_) <;> (try simp at hp) <;> simp [*, h1, h2, h3, he])
      | (with_reducible refine split_ite1 (fun hp => ?_) (fun hp => ?_) <;> (try simp at hp) <;> simp [*, h1, h2, h3, he])
      | (refine split_cond (by simp) (fun hp => ?_) (fun hp => ?_) <;> simp at hp <;> simp [*, h1, h2, h3, he])
      | (refine split_ops (by simp) (fun hp => ?_) (fun hp => ?_) <;> simp at hp <;> simp [*, h1, h2, h3, he])
      | (refine split_opsD (by simp) (fun hp => ?_) (fun hp => ?_) <;> simp at hp <;> simp [*, h1, h2, h3, he])
      | (refine split_pick (by simp) (fun hp => ?_) (fun hp => ?_) <;> simp at hp <;> simp [*, h1, h2, h3, he])
      | omega
      | decide
      | (simp [*, h1, h2, h3, he]))
  rw [q1] at h1
  rw [q2] at h2
  rw [q3] at h3
  repeat' (first
    | simp (disch := omega) only [wrap_i64, wrap_i32]
    | (simp (disch := first | omega | assumption | (simp only [i64, i32]; omega) | (simp <;> omega) | fail) only [loadD_cpr, loadD_cprs, List.take_of_length_le]; simp [*, h1, h2, h3])
    | (with_reducible refine And.intro ?_ ?_; focus first | omega | decide)
    | (with_reducible refine split_ite (fun hp => ?_) (fun hp => ?_) <;> (try simp at hp) <;> simp [*, h1, h2, h3])
    | (with_reducible refine split_ite1 (fun hp => ?_) (fun hp => ?_) <;> (try simp at hp) <;> simp [*, h1, h2, h3])
    | (refine split_cond (by simp) (fun hp => ?_) (fun hp => ?_) <;> simp at hp <;> simp [*, h1, h2, h3])
    | (refine split_ops (by simp) (fun hp => ?_) (fun hp => ?_) <;> simp at hp <;> simp [*, h1, h2, h3])
    | (refine split_opsD (by simp) (fun hp => ?_) (fun hp => ?_) <;> simp at hp <;> simp [*, h1, h2, h3])
    | (refine split_pick (by simp) (fun hp => ?_) (fun hp => ?_) <;> simp at hp <;> simp [*, h1, h2, h3])
    | omega
    | decide
    | (simp [*, h1, h2, h3]))
  all_goals
    simp only [edIs, q1, q2, q3, Bool.true_and]
    grind

theorem iterE_in {l : List Int} {mv : Int} (hmv : mv = 1 ∨ mv = 2 ∨ 5 ≤ mv ∧ mv ≤ 9) : ∀ (k : Nat) (a : Int), 0 ≤ a ∧ a ≤ l.length → 0 ≤ iterE l mv k a ∧ iterE l mv k a ≤ l.length
  | 0, a, h => h
  | k + 1, a, h => by
    rw [iterE]
    exact iterE_in hmv k _ (stepE_way l a mv h hmv).1

theorem tgtE_in {l : List Int} {a mv k : Int} (ha : 0 ≤ a ∧ a ≤ l.length) : 0 ≤ (tgtE l a mv k).1 ∧ (tgtE l a mv k).1 ≤ l.length := by
  rw [tgtE]
  split
  · simp
  · rename_i h
    split
    · simp
    · split
      · simp
      · have hmv : mv = 1 ∨ mv = 2 ∨ 5 ≤ mv ∧ mv ≤ 9 := by omega
        split
        · exact iterE_in (oppE_in hmv) _ _ ha
        · exact iterE_in hmv _ _ ha

theorem toE_in {e : EditM} (a : ActM) (n : Int) : 0 ≤ toE e a n ∧ toE e a n ≤ e.G.A.length + e.G.B.length := by
  have := tgtE_in (l := e.G.A ++ e.G.B) (a := e.G.A.length) (mv := a.m) (k := n) (by simp; omega)
  simp only [List.length_append] at this
  simp only [toE]
  omega

theorem ls_move (n : Nat) (e : EditM) (a : ActM) (c : Int) (h : EdOk e) (ho : 0 ≤ a.o ∧ a.o ≤ 6) :
    lendS (W (n + 10)) 13 [.ptr 0 0 19] [⟨wkL e (nowE e) a c, 0, true⟩] = some (eD (moveS e a c).2, [⟨wkL e (moveS e a c).1 a c, 0, true⟩]) := by
  apply lends c_edit_work_move
  obtain ⟨g1, g2, g3⟩ := gapIs_ln h.g
  have m1 : modes 13 39 = 0 := id rfl
  have m2 : modes 13 27 = 0 := id rfl
  have m3 : modes 13 40 = 0 := id rfl
  have m4 : modes 13 41 = 3 := id rfl
  have ht := pc_gap_Text (n + 8) e.G (by omega) (by omega)
  have hT := pc_edit_Target (n + 1) (e.G.A ++ e.G.B) e.G.A.length a.m c (by simp; omega)
  have hG := pc_gap_Go (n + 4) e.G (toE e a c) (by omega) (by omega)
  obtain ⟨t1, t2⟩ := toE_in (e := e) a c
  have hto : (tgtE (e.G.A ++ e.G.B) e.G.A.length a.m c).1 = toE e a c := rfl
  rw [hto] at hT
  generalize (tgtE (e.G.A ++ e.G.B) e.G.A.length a.m c).2 = er at hT
  have hpass := ls_pass n e a c h
  have hlo : loE e a c = loE e a c := rfl
  conv at hlo => rhs; rw [loE]
  have hhi : hiE e a c = hiE e a c := rfl
  conv at hhi => rhs; rw [hiE]
  by_cases o0 : a.o = 0
  · simp only [nowE] at *
    by_cases hz : toE e a c = e.G.A.length
    · rw [hz] at hT
      simp [X_edit_work_move, moveS, nowE, o0, hz, m1, m2, m3, ht, hT, settleF_def, settle_def, putAt, Nat.testBit]
    · simp [X_edit_work_move, moveS, nowE, o0, hz, m1, m2, m3, ht, hT, hG, settleF_def, settle_def, putAt, Nat.testBit]
  · obtain ⟨T, hTo⟩ : ∃ T : Nat, toE e a c = T := ⟨(toE e a c).toNat, by omega⟩
    have ho' : 1 ≤ a.o ∧ a.o ≤ 6 := by omega
    rw [hTo] at hT t1 t2 hlo hhi
    simp only [nowE] at *
    have hLen : (e.G.A ++ e.G.B).length = e.G.A.length + e.G.B.length := List.length_append
    have hAl : (e.G.A ++ e.G.B).length = e.G.A.length + e.G.B.length := hLen
    by_cases m10 : a.m = 10
    · have e1 : loE e a c = 0 := by rw [hlo, if_pos m10]
      have e2 : hiE e a c = ((e.G.A.length + e.G.B.length : Nat) : Int) := by rw [hhi, if_pos m10, hLen]
      rw [m10] at hT
      by_cases hz : e.G.A.length + e.G.B.length = 0
      · have hz1 : e.G.A = [] := List.eq_nil_of_length_eq_zero (by omega)
        have hz2 : e.G.B = [] := List.eq_nil_of_length_eq_zero (by omega)
        have hS : moveS e a c = (nowE e, 7) := by rw [moveS, if_neg o0, e1, e2, if_pos (by omega)]
        rw [hS, nowE]
        rw [hz1, hz2] at hT
        simp only [gD, hz1, hz2, List.append_nil] at ht
        simp only [List.append_nil, List.length_nil, Int.natCast_zero] at hT
        simp [X_edit_work_move, o0, m10, hz1, hz2, m1, m2, m3, ht, hT, settleF_def, settle_def, putAt, Nat.testBit]
      · have hS : moveS e a c = (passE e a.o 0 (e.G.A.length + e.G.B.length) true, 0) := by
          rw [moveS, if_neg o0, e1, e2, if_neg (by omega)]
          simp [m10]
        have hP := hpass 0 (e.G.A.length + e.G.B.length) true (by omega) (by omega) ho'
        rw [hS]
        have q1 : ¬ (0 : Int) = ((e.G.A.length : Int) + (e.G.B.length : Int)) := by omega
        have q2 : ¬ (e.G.A = [] ∧ e.G.B = []) := fun hh => hz (by rw [hh.1, hh.2]; rfl)
        simp only [wkL, m10, Int.natCast_add, Int.natCast_zero] at hP
        simp [X_edit_work_move, o0, m10, q1, m1, m2, m3, m4, ht, hT, settleF_def, settle_def, putAt, Nat.testBit]
        repeat' (first
          | simp (disch := omega) only [wrap_i64, wrap_i32]
          | (simp (disch := first | omega | assumption | (simp only [i64, i32]; omega) | (simp <;> omega) | fail) only [loadD_cpr, loadD_cprs, List.take_of_length_le]; simp [*, m1, m2, m3, m4, ht, hT, m10, q1, hP, lendW_def, back_def, settleF_def, settle_def, Nat.testBit])
          | (with_reducible refine And.intro ?_ ?_; focus first | omega | decide)
          | (with_reducible refine split_ite (fun hp => ?_) (fun hp => ?_) <;> (try simp at hp) <;> simp [*, m1, m2, m3, m4, ht, hT, m10, q1, hP, lendW_def, back_def, settleF_def, settle_def, Nat.testBit])
          | (with_reducible refine split_ite1 (fun hp => ?_) (fun hp => ?_) <;> (try simp at hp) <;> simp [*, m1, m2, m3, m4, ht, hT, m10, q1, hP, lendW_def, back_def, settleF_def, settle_def, Nat.testBit])
          | (refine split_cond (by simp) (fun hp => ?_) (fun hp => ?_) <;> simp at hp <;> simp [*, m1, m2, m3, m4, ht, hT, m10, q1, hP, lendW_def, back_def, settleF_def, settle_def, Nat.testBit])
          | (refine split_ops (by simp) (fun hp => ?_) (fun hp => ?_) <;> simp at hp <;> simp [*, m1, m2, m3, m4, ht, hT, m10, q1, hP, lendW_def, back_def, settleF_def, settle_def, Nat.testBit])
          | (refine split_opsD (by simp) (fun hp => ?_) (fun hp => ?_) <;> simp at hp <;> simp [*, m1, m2, m3, m4, ht, hT, m10, q1, hP, lendW_def, back_def, settleF_def, settle_def, Nat.testBit])
          | (refine split_pick (by simp) (fun hp => ?_) (fun hp => ?_) <;> simp at hp <;> simp [*, m1, m2, m3, m4, ht, hT, m10, q1, hP, lendW_def, back_def, settleF_def, settle_def, Nat.testBit])
          | omega
          | decide
          | (simp [*, m1, m2, m3, m4, ht, hT, m10, q1, hP, lendW_def, back_def, settleF_def, settle_def, Nat.testBit]))
    · by_cases hzz : T = e.G.A.length ∧ True
      · have hzT : T = e.G.A.length := hzz.1
        have e1 : loE e a c = e.G.A.length := by rw [hlo, if_neg m10]; omega
        have e2 : hiE e a c = e.G.A.length := by rw [hhi, if_neg m10, if_neg (by omega)]; omega
        have hS : moveS e a c = (nowE e, 7) := by rw [moveS, if_neg o0, e1, e2, if_pos rfl]
        rw [hS, nowE]
        rw [hzT] at hT
        simp [X_edit_work_move, o0, m10, m1, m2, m3, m4, ht, hT, settleF_def, settle_def, putAt, Nat.testBit]
        repeat' (first
          | simp (disch := omega) only [wrap_i64, wrap_i32]
          | (simp (disch := first | omega | assumption | (simp only [i64, i32]; omega) | (simp <;> omega) | fail) only [loadD_cpr, loadD_cprs, List.take_of_length_le]; simp [*, m10, settleF_def, settle_def])
          | (with_reducible refine And.intro ?_ ?_; focus first | omega | decide)
          | (with_reducible refine split_ite (fun hp => ?_) (fun hp => ?_) <;> (try simp at hp) <;> simp [*, m10, settleF_def, settle_def])
          | (with_reducible refine split_ite1 (fun hp => ?_) (fun hp => ?_) <;> (try simp at hp) <;> simp [*, m10, settleF_def, settle_def])
          | (refine split_cond (by simp) (fun hp => ?_) (fun hp => ?_) <;> simp at hp <;> simp [*, m10, settleF_def, settle_def])
          | (refine split_ops (by simp) (fun hp => ?_) (fun hp => ?_) <;> simp at hp <;> simp [*, m10, settleF_def, settle_def])
          | (refine split_opsD (by simp) (fun hp => ?_) (fun hp => ?_) <;> simp at hp <;> simp [*, m10, settleF_def, settle_def])
          | (refine split_pick (by simp) (fun hp => ?_) (fun hp => ?_) <;> simp at hp <;> simp [*, m10, settleF_def, settle_def])
          | omega
          | decide
          | (simp [*, m10, settleF_def, settle_def]))
      have hTne : T ≠ e.G.A.length := fun hh => hzz ⟨hh, trivial⟩
      by_cases hlt : T < e.G.A.length
      · have e1 : loE e a c = T := by rw [hlo, if_neg m10]; omega
        have e2 : hiE e a c = e.G.A.length := by rw [hhi, if_neg m10, if_neg (by omega)]; omega
        have hS : moveS e a c = (passE e a.o T e.G.A.length false, 0) := by
          rw [moveS, if_neg o0, e1, e2, if_neg (by omega)]
          simp [m10, hTo, Nat.not_lt.2 (Nat.le_of_lt hlt)]
        have hP := hpass T e.G.A.length false (by omega) (by omega) ho'
        rw [hS]
        have w1 : min (e.G.A.length : Int) (T : Int) = T := by omega
        have w2 : max (e.G.A.length : Int) (T : Int) = e.G.A.length := by omega
        have w3 : ¬ (e.G.A.length : Int) < (T : Int) := by omega
        have w4 : ¬ e.G.A.length < T := by omega
        have w5 : ¬ (T : Int) = (e.G.A.length : Int) := by omega
        by_cases m9 : a.m = 9
        · simp only [wkL, m9] at hP
          rw [m9] at hT
          simp [X_edit_work_move, o0, m9, w1, w2, w3, w4, w5, hTne, m1, m2, m3, m4, ht, hT, hP, lendW_def, back_def, settleF_def, settle_def, putAt, Nat.testBit]
        · simp only [wkL] at hP
          simp [X_edit_work_move, o0, m9, m10, w1, w2, w3, w4, w5, hTne, m1, m2, m3, m4, ht, hT, hP, lendW_def, back_def, settleF_def, settle_def, putAt, Nat.testBit]
      · have hgt : e.G.A.length < T := by omega
        have w1 : min (e.G.A.length : Int) (T : Int) = e.G.A.length := by omega
        have w2 : max (e.G.A.length : Int) (T : Int) = T := by omega
        have w3 : (e.G.A.length : Int) < (T : Int) := by omega
        by_cases m9 : a.m = 9
        · obtain ⟨H, hH⟩ : ∃ H : Nat, (H : Int) = min ((T : Int) + 1) (e.G.A.length + e.G.B.length : Nat) := ⟨(min ((T : Int) + 1) (e.G.A.length + e.G.B.length : Nat)).toNat, by omega⟩
          have e1 : loE e a c = e.G.A.length := by rw [hlo, if_neg m10]; omega
          have e2 : hiE e a c = H := by rw [hhi, if_neg m10, if_pos ⟨m9, w3⟩, hLen, hH]
          have hS : moveS e a c = (passE e a.o e.G.A.length H true, 0) := by
            rw [moveS, if_neg o0, e1, e2, if_neg (by omega)]
            simp [hTo, hgt]
          have hP := hpass e.G.A.length H true (by omega) (by omega) ho'
          rw [hS]
          have w4 : min ((T : Int) + 1) ((e.G.A.length : Int) + (e.G.B.length : Int)) = H := by omega
          have w5 : IntKind.i64.wrap ((T : Int) + 1) = (T : Int) + 1 := wrap_i64 (by omega)
          have w6 : ¬ (e.G.A.length : Int) = H := by omega
          have w7 : ¬ e.G.A.length = H := by omega
          simp only [wkL, m9] at hP
          rw [m9] at hT
          simp [X_edit_work_move, o0, m9, w1, w2, w3, w4, w5, w6, w7, hgt, m1, m2, m3, m4, ht, hT, hP, lendW_def, back_def, settleF_def, settle_def, putAt, Nat.testBit]
        · have e1 : loE e a c = e.G.A.length := by rw [hlo, if_neg m10]; omega
          have e2 : hiE e a c = T := by rw [hhi, if_neg m10, if_neg (by omega)]; omega
          have hS : moveS e a c = (passE e a.o e.G.A.length T true, 0) := by
            rw [moveS, if_neg o0, e1, e2, if_neg (by omega)]
            simp [hTo, hgt]
          have hP := hpass e.G.A.length T true (by omega) (by omega) ho'
          rw [hS]
          have w7 : ¬ e.G.A.length = T := by omega
          have w8 : ¬ (e.G.A.length : Int) = (T : Int) := by omega
          simp only [wkL] at hP
          simp [X_edit_work_move, o0, m9, m10, w1, w2, w3, w7, w8, hgt, m1, m2, m3, m4, ht, hT, hP, lendW_def, back_def, settleF_def, settle_def, putAt, Nat.testBit]

end Go.Proofs.YtcaglmjfphjpfaaGreat
