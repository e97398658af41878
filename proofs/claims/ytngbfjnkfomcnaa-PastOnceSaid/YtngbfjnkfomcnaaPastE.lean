/- What the functions of layer 19 compute: the document's answer, and the laws. -/
import Derived.Test.YtngbfjnkfomcnaaPastD
namespace Go.Proofs.Ytngbfjnkfomcnaa
open Go E
set_option linter.unusedSimpArgs false
set_option linter.unusedVariables false

theorem appD_acc3 (b0 b1 b2 : Blk) (X : List (List Int)) (v : List Int) (f : Bool) (hb : X.length < 1000000) : appD (b0 :: b1 :: b2 :: accH rrC X) 1 24 (accS rrC 3 X) (.arr 1 f [row runeC false v]) = some (accS rrC 3 (X ++ [v]), b0 :: b1 :: b2 :: accH rrC (X ++ [v])) := by
  by_cases h : X = []
  · subst h; simp [accH, accS, appD]
  · simp [accH, accS, h, appD, contents]
    omega

/-- What is kept of the first i lines. -/
def kept (dup : Int) (L : List (List Int)) (l : List Int) (i : Nat) : List (List Int) := if dup = 2 then others (L.take i) l else L.take i

theorem kept_len (dup : Int) (L : List (List Int)) (l : List Int) (i : Nat) : (kept dup L l i).length ≤ i := by
  rw [kept]; split
  · exact Nat.le_trans (others_len _ _) (by simp; omega)
  · simp; omega

theorem kept_step {dup : Int} {L : List (List Int)} {l : List Int} {i : Nat} (h : i < L.length) : kept dup L l (i + 1) = if dup = 2 ∧ L[i] = l then kept dup L l i else kept dup L l i ++ [L[i]] := by
  simp only [kept]
  by_cases hd : dup = 2
  · simp only [hd, if_true, true_and]; exact others_take h
  · simp only [hd, if_false, false_and]; exact List.take_succ_eq_append_getElem h

theorem kept_full (dup : Int) (L : List (List Int)) (l : List Int) : kept dup L l L.length = if dup = 2 then others L l else L := by
  simp only [kept, List.take_length]

theorem pc_ref19_Add_1 (n : Nat) (ro : Nat) (L : List (List Int)) (l : List Int) (hp : small L) (hl : l.length < 1000000) (hk : pIs ⟨ro, 1, L⟩ = true) (ho : kOne l = true) : (W (n + 8)).pc 40 [pD ⟨ro, 1, L⟩, rn l] = some (pD (pAdd ⟨ro, 1, L⟩ l)) := by
  apply runs c_typebarref19_Add
  have hkk := Keep.mk hk
  obtain ⟨⟨hr1, hr2, _, _⟩, hr3⟩ : (1 ≤ (ro : Int) ∧ (ro : Int) ≤ 16 ∧ (0 : Int) ≤ 1 ∧ (1 : Int) ≤ 2) ∧ (L.length : Int) ≤ ro := by
    simp only [pIs, pOk, Bool.and_eq_true, decide_eq_true_eq] at hk
    exact hk.1
  have hp' := hp
  obtain ⟨hL1, hL2⟩ := hp'
  have hIs : (W (n + 7)).pc 42 [.agg [.int .i64 (ro : Int), .int .i64 1, rrn L]] = some (.bool true) := by
    have := pc_ref19_Is n ⟨ro, 1, L⟩ hp
    rwa [hk] at this
  have hk0 : ∀ d L, kept d L l 0 = [] := fun d L => by simp [kept, others]
  by_cases h0 : L = []
  · subst h0
    have hpa := pAdd_eq hkk.out ho (by rintro ⟨_, h, _⟩; exact h rfl)
    rw [hpa]
    clear hpa hkk hk0 hk
    simp [X_typebarref19_Add, hIs, hl, ho]
    repeat' (first
      | simp (disch := omega) only [wrap_i64, wrap_i32]
      | (simp (disch := first | omega | assumption | (simp only [i64, i32]; omega) | (simp <;> omega) | fail) only [loadD_cpr, loadD_cprs, List.take_of_length_le, pc_ref01_Same]; simp [*, nilRR, hIs, cells_row_get])
      | (with_reducible refine And.intro ?_ ?_; focus first | omega | decide)
      | (with_reducible refine split_ite (fun hp => ?_) (fun hp => ?_) <;> (try simp at hp) <;> simp [*, nilRR, hIs, cells_row_get])
      | (with_reducible refine split_ite1 (fun hp => ?_) (fun hp => ?_) <;> (try simp at hp) <;> simp [*, nilRR, hIs, cells_row_get])
      | (refine split_cond (by simp) (fun hp => ?_) (fun hp => ?_) <;> simp at hp <;> simp [*, nilRR, hIs, cells_row_get])
      | (refine split_ops (by simp) (fun hp => ?_) (fun hp => ?_) <;> simp at hp <;> simp [*, nilRR, hIs, cells_row_get])
      | (refine split_opsD (by simp) (fun hp => ?_) (fun hp => ?_) <;> simp at hp <;> simp [*, nilRR, hIs, cells_row_get])
      | (refine split_pick (by simp) (fun hp => ?_) (fun hp => ?_) <;> simp at hp <;> simp [*, nilRR, hIs, cells_row_get])
      | omega
      | decide
      | (simp [*, nilRR, hIs, cells_row_get]))
    refine aw_rounds (fun m st => ∃ i : Nat, st = ⟨tab [(1, rn l), (2, .ptr 0 0 3), (4, .ptr 1 0 3), (5, .int .i64 0), (6, .ptr 2 0 3), (7, .int .i64 0)], ⟨[.int .i64 (ro : Int), .int .i64 1, rrn []], 0, true⟩ :: ⟨[.int .i64 0, .int .i64 0, row rrC true []], 0, true⟩ :: ⟨[.int .i64 (ro : Int), .int .i64 1, row rrC true []], 0, true⟩ :: []⟩ ∧ i = 0 ∧ m = 0 + 1 ∧ Keep (True)) ?_ ?_ (n := 0 + 1) (by first | omega | (simp; omega)) ?_
    · rintro st ⟨i, hx⟩; omega
    rotate_left
    · exact ⟨0, by first | rfl | (simp [*, accS, accH]; done) | (simp only [*]; done) | (congr 1 <;> simp [*, accS, accH]; done) | (congr 1 <;> simp [*, accS, accH] <;> rfl), by first | omega | (simp; omega) | simp [*], by first | rfl | (simp; done) | omega, ⟨trivial⟩⟩
    rintro Ja ma _ ⟨i, rfl, fa1, hma, hqa⟩ hJa
    have hr0 : 1 - ro = 0 := by omega
    simp
    repeat' (first
      | simp (disch := omega) only [wrap_i64, wrap_i32]
      | (simp (disch := first | omega | assumption | (simp only [i64, i32]; omega) | (simp <;> omega) | fail) only [loadD_cpr, loadD_cprs, List.take_of_length_le]; simp [*, nilRR])
      | (with_reducible refine And.intro ?_ ?_; focus first | omega | decide)
      | (with_reducible refine split_ite (fun hp => ?_) (fun hp => ?_) <;> (try simp at hp) <;> simp [*, nilRR])
      | (with_reducible refine split_ite1 (fun hp => ?_) (fun hp => ?_) <;> (try simp at hp) <;> simp [*, nilRR])
      | (refine split_cond (by simp) (fun hp => ?_) (fun hp => ?_) <;> simp at hp <;> simp [*, nilRR])
      | (refine split_ops (by simp) (fun hp => ?_) (fun hp => ?_) <;> simp at hp <;> simp [*, nilRR])
      | (refine split_opsD (by simp) (fun hp => ?_) (fun hp => ?_) <;> simp at hp <;> simp [*, nilRR])
      | (refine split_pick (by simp) (fun hp => ?_) (fun hp => ?_) <;> simp at hp <;> simp [*, nilRR])
      | omega
      | decide
      | (simp [*, nilRR]))
    all_goals first | rfl | (simp [hr0]; done) | (rw [hr0]; rfl) | trace_state
  have hn := List.length_pos_iff.2 h0
  have hn1 : L.length - 1 < L.length := by omega
  simp [X_typebarref19_Add, hIs, hl, ho, h0]
  repeat' (first
    | simp (disch := omega) only [wrap_i64, wrap_i32]
    | (simp (disch := first | omega | assumption | (simp only [i64, i32]; omega) | (simp <;> omega) | fail) only [loadD_cpr, loadD_cprs, List.take_of_length_le, pc_ref01_Same]; simp [*, nilRR, hIs, cells_row_get, h0])
    | (with_reducible refine And.intro ?_ ?_; focus first | omega | decide)
    | (with_reducible refine split_ite (fun hp => ?_) (fun hp => ?_) <;> (try simp at hp) <;> simp [*, nilRR, hIs, cells_row_get, h0])
    | (with_reducible refine split_ite1 (fun hp => ?_) (fun hp => ?_) <;> (try simp at hp) <;> simp [*, nilRR, hIs, cells_row_get, h0])
    | (refine split_cond (by simp) (fun hp => ?_) (fun hp => ?_) <;> simp at hp <;> simp [*, nilRR, hIs, cells_row_get, h0])
    | (refine split_ops (by simp) (fun hp => ?_) (fun hp => ?_) <;> simp at hp <;> simp [*, nilRR, hIs, cells_row_get, h0])
    | (refine split_opsD (by simp) (fun hp => ?_) (fun hp => ?_) <;> simp at hp <;> simp [*, nilRR, hIs, cells_row_get, h0])
    | (refine split_pick (by simp) (fun hp => ?_) (fun hp => ?_) <;> simp at hp <;> simp [*, nilRR, hIs, cells_row_get, h0])
    | omega
    | decide
    | (simp [*, nilRR, hIs, cells_row_get, h0]))
  · rw [pAdd_same ⟨rfl, h0, by rw [getD_at hn1]; assumption⟩]; exact ⟨rfl, rfl, rfl⟩
  all_goals first | exact absurd (by assumption) h0 | skip
  refine aw_rounds (fun m st => ∃ i : Nat, st = ⟨tab [(1, rn l), (2, .ptr 0 0 3), (4, .ptr 1 0 3), (5, .int .i64 L.length), (6, .ptr 2 0 3), (7, .int .i64 i)], ⟨[.int .i64 (ro : Int), .int .i64 1, rrn L], 0, true⟩ :: ⟨[.int .i64 0, .int .i64 0, row rrC true []], 0, true⟩ :: ⟨[.int .i64 (ro : Int), .int .i64 1, accS rrC 3 (kept 1 L l i)], 0, true⟩ :: accH rrC (kept 1 L l i)⟩ ∧ i ≤ L.length ∧ m = L.length - i + 1 ∧ Keep (True)) ?_ ?_ (n := L.length - (0) + 1) (by first | omega | (simp; omega)) ?_
  · rintro st ⟨i, hx⟩; omega
  rotate_left
  · exact ⟨0, by first | rfl | (simp [*, accS, accH]; done) | (simp only [*]; done) | (congr 1 <;> simp [*, accS, accH]; done) | (congr 1 <;> simp [*, accS, accH] <;> rfl), by first | omega | (simp; omega) | simp [*], by first | rfl | (simp; done) | omega, ⟨trivial⟩⟩
  rintro Ja ma _ ⟨i, rfl, fa1, hma, hqa⟩ hJa
  have hkl := kept_len 1 L l i
  by_cases hi : i < L.length
  · by_cases hz : L = []
    · exact absurd hi (by simp [hz])
    have hks := kept_step (dup := 1) (l := l) hi
    have hsm := hL2 _ (List.getElem_mem hi)
    by_cases hX : kept 1 L l i = []
    · rw [hX] at hks ⊢
      simp [accS, accH]
      repeat' (first
        | simp (disch := omega) only [wrap_i64, wrap_i32]
        | (simp (disch := first | omega | assumption | (simp only [i64, i32]; omega) | (simp <;> omega) | fail) only [loadD_cpr, loadD_cprs, List.take_of_length_le, pc_ref01_Same]; simp [*, nilRR, accS, accH, cells_row_get])
        | (with_reducible refine And.intro ?_ ?_; focus first | omega | decide)
        | (with_reducible refine split_ite (fun hp => ?_) (fun hp => ?_) <;> (try simp at hp) <;> simp [*, nilRR, accS, accH, cells_row_get])
        | (with_reducible refine split_ite1 (fun hp => ?_) (fun hp => ?_) <;> (try simp at hp) <;> simp [*, nilRR, accS, accH, cells_row_get])
        | (refine split_cond (by simp) (fun hp => ?_) (fun hp => ?_) <;> simp at hp <;> simp [*, nilRR, accS, accH, cells_row_get])
        | (refine split_ops (by simp) (fun hp => ?_) (fun hp => ?_) <;> simp at hp <;> simp [*, nilRR, accS, accH, cells_row_get])
        | (refine split_opsD (by simp) (fun hp => ?_) (fun hp => ?_) <;> simp at hp <;> simp [*, nilRR, accS, accH, cells_row_get])
        | (refine split_pick (by simp) (fun hp => ?_) (fun hp => ?_) <;> simp at hp <;> simp [*, nilRR, accS, accH, cells_row_get])
        | omega
        | decide
        | (simp [*, nilRR, accS, accH, cells_row_get]))
      all_goals first
        | rw [if_pos ⟨by first | rfl | assumption, by assumption⟩] at hks
        | rw [if_neg (by rintro ⟨h1, h2⟩; first | contradiction | (simp at h1; done))] at hks
      all_goals
        exact hJa.out _ ⟨i + 1, by first | rfl | (simp [*, accS, accH]; done) | (simp only [*]; done) | (congr 1 <;> simp [*, accS, accH]; done) | (congr 1 <;> simp [*, accS, accH] <;> rfl), by first | omega | (simp; omega) | simp [*], by omega, ⟨trivial⟩⟩
    · simp [accS, accH, hX]
      repeat' (first
        | simp (disch := omega) only [wrap_i64, wrap_i32]
        | (simp (disch := first | omega | assumption | (simp only [i64, i32]; omega) | (simp <;> omega) | fail) only [loadD_cpr, loadD_cprs, List.take_of_length_le, pc_ref01_Same]; simp [*, nilRR, accS, accH, hX, cells_row_get])
        | (with_reducible refine And.intro ?_ ?_; focus first | omega | decide)
        | (with_reducible refine split_ite (fun hp => ?_) (fun hp => ?_) <;> (try simp at hp) <;> simp [*, nilRR, accS, accH, hX, cells_row_get])
        | (with_reducible refine split_ite1 (fun hp => ?_) (fun hp => ?_) <;> (try simp at hp) <;> simp [*, nilRR, accS, accH, hX, cells_row_get])
        | (refine split_cond (by simp) (fun hp => ?_) (fun hp => ?_) <;> simp at hp <;> simp [*, nilRR, accS, accH, hX, cells_row_get])
        | (refine split_ops (by simp) (fun hp => ?_) (fun hp => ?_) <;> simp at hp <;> simp [*, nilRR, accS, accH, hX, cells_row_get])
        | (refine split_opsD (by simp) (fun hp => ?_) (fun hp => ?_) <;> simp at hp <;> simp [*, nilRR, accS, accH, hX, cells_row_get])
        | (refine split_pick (by simp) (fun hp => ?_) (fun hp => ?_) <;> simp at hp <;> simp [*, nilRR, accS, accH, hX, cells_row_get])
        | omega
        | decide
        | (simp [*, nilRR, accS, accH, hX, cells_row_get]))
      all_goals first
        | rw [if_pos ⟨by first | rfl | assumption, by assumption⟩] at hks
        | rw [if_neg (by rintro ⟨h1, h2⟩; first | contradiction | (simp at h1; done))] at hks
      all_goals
        exact hJa.out _ ⟨i + 1, by first | rfl | (simp [*, accS, accH]; done) | (simp only [*]; done) | (congr 1 <;> simp [*, accS, accH]; done) | (congr 1 <;> simp [*, accS, accH] <;> rfl), by first | omega | (simp; omega) | simp [*], by omega, ⟨trivial⟩⟩
  · have hiL : i = L.length := by omega
    subst hiL
    have hpa := pAdd_eq hkk.out ho (by rintro ⟨_, _, h3⟩; rw [getD_at hn1] at h3; contradiction)
    rw [← kept_full] at hpa
    rw [hpa]
    clear hpa hkk hk0 hIs hk ho
    generalize kept 1 L l L.length = F at hkl ⊢
    have h1 : (1 + F.length ≤ F.length + 1) = True := by simp only [eq_iff_iff, iff_true]; omega
    by_cases hX : F = []
    · subst hX
      have hr0 : 1 - ro = 0 := by omega
      simp [accS, accH]
      repeat' (first
        | simp (disch := omega) only [wrap_i64, wrap_i32]
        | (simp (disch := first | omega | assumption | (simp only [i64, i32]; omega) | (simp <;> omega) | fail) only [loadD_cpr, loadD_cprs, List.take_of_length_le]; simp [*, nilRR])
        | (with_reducible refine And.intro ?_ ?_; focus first | omega | decide)
        | (with_reducible refine split_ite (fun hp => ?_) (fun hp => ?_) <;> (try simp at hp) <;> simp [*, nilRR])
        | (with_reducible refine split_ite1 (fun hp => ?_) (fun hp => ?_) <;> (try simp at hp) <;> simp [*, nilRR])
        | (refine split_cond (by simp) (fun hp => ?_) (fun hp => ?_) <;> simp at hp <;> simp [*, nilRR])
        | (refine split_ops (by simp) (fun hp => ?_) (fun hp => ?_) <;> simp at hp <;> simp [*, nilRR])
        | (refine split_opsD (by simp) (fun hp => ?_) (fun hp => ?_) <;> simp at hp <;> simp [*, nilRR])
        | (refine split_pick (by simp) (fun hp => ?_) (fun hp => ?_) <;> simp at hp <;> simp [*, nilRR])
        | omega
        | decide
        | (simp [*, nilRR]))
      all_goals first | rfl | (simp [hr0]; done) | (rw [hr0]; rfl) | trace_state
    · simp [accS, accH, hX]
      repeat' (first
        | simp (disch := omega) only [wrap_i64, wrap_i32]
        | (simp (disch := first | omega | assumption | (simp only [i64, i32]; omega) | (simp <;> omega) | fail) only [loadD_cpr, loadD_cprs, List.take_of_length_le]; simp [*, hX, h1])
        | (with_reducible refine And.intro ?_ ?_; focus first | omega | decide)
        | (with_reducible refine split_ite (fun hp => ?_) (fun hp => ?_) <;> (try simp at hp) <;> simp [*, hX, h1])
        | (with_reducible refine split_ite1 (fun hp => ?_) (fun hp => ?_) <;> (try simp at hp) <;> simp [*, hX, h1])
        | (refine split_cond (by simp) (fun hp => ?_) (fun hp => ?_) <;> simp at hp <;> simp [*, hX, h1])
        | (refine split_ops (by simp) (fun hp => ?_) (fun hp => ?_) <;> simp at hp <;> simp [*, hX, h1])
        | (refine split_opsD (by simp) (fun hp => ?_) (fun hp => ?_) <;> simp at hp <;> simp [*, hX, h1])
        | (refine split_pick (by simp) (fun hp => ?_) (fun hp => ?_) <;> simp at hp <;> simp [*, hX, h1])
        | omega
        | decide
        | (simp [*, hX, h1]))
      · have hr0 : F.length + 1 - ro = 1 := by omega
        rw [hr0]
        refine row_is (by simp) ?_
        rw [← List.drop_one, lines_end, List.take_of_length_le (by simp)]
      · have hr0 : F.length + 1 - ro = 0 := by omega
        rw [hr0]
        first | exact row_is (by simp) (by rw [List.take_of_length_le (by simp)]; simp) | exact ⟨rfl, rfl, row_is (by simp) (by simp)⟩ | trace_state

theorem pc_ref19_Add_2 (n : Nat) (ro : Nat) (L : List (List Int)) (l : List Int) (hp : small L) (hl : l.length < 1000000) (hk : pIs ⟨ro, 2, L⟩ = true) (ho : kOne l = true) : (W (n + 8)).pc 40 [pD ⟨ro, 2, L⟩, rn l] = some (pD (pAdd ⟨ro, 2, L⟩ l)) := by
  apply runs c_typebarref19_Add
  have hkk := Keep.mk hk
  obtain ⟨⟨hr1, hr2, _, _⟩, hr3⟩ : (1 ≤ (ro : Int) ∧ (ro : Int) ≤ 16 ∧ (0 : Int) ≤ 2 ∧ (2 : Int) ≤ 2) ∧ (L.length : Int) ≤ ro := by
    simp only [pIs, pOk, Bool.and_eq_true, decide_eq_true_eq] at hk
    exact hk.1
  have hp' := hp
  obtain ⟨hL1, hL2⟩ := hp'
  have hIs : (W (n + 7)).pc 42 [.agg [.int .i64 (ro : Int), .int .i64 2, rrn L]] = some (.bool true) := by
    have := pc_ref19_Is n ⟨ro, 2, L⟩ hp
    rwa [hk] at this
  have hk0 : ∀ d L, kept d L l 0 = [] := fun d L => by simp [kept, others]
  simp [X_typebarref19_Add, hIs, hl, ho]
  repeat' (first
    | simp (disch := omega) only [wrap_i64, wrap_i32]
    | (simp (disch := first | omega | assumption | (simp only [i64, i32]; omega) | (simp <;> omega) | fail) only [loadD_cpr, loadD_cprs, List.take_of_length_le, pc_ref01_Same]; simp [*, nilRR, hIs, cells_row_get])
    | (with_reducible refine And.intro ?_ ?_; focus first | omega | decide)
    | (with_reducible refine split_ite (fun hp => ?_) (fun hp => ?_) <;> (try simp at hp) <;> simp [*, nilRR, hIs, cells_row_get])
    | (with_reducible refine split_ite1 (fun hp => ?_) (fun hp => ?_) <;> (try simp at hp) <;> simp [*, nilRR, hIs, cells_row_get])
    | (refine split_cond (by simp) (fun hp => ?_) (fun hp => ?_) <;> simp at hp <;> simp [*, nilRR, hIs, cells_row_get])
    | (refine split_ops (by simp) (fun hp => ?_) (fun hp => ?_) <;> simp at hp <;> simp [*, nilRR, hIs, cells_row_get])
    | (refine split_opsD (by simp) (fun hp => ?_) (fun hp => ?_) <;> simp at hp <;> simp [*, nilRR, hIs, cells_row_get])
    | (refine split_pick (by simp) (fun hp => ?_) (fun hp => ?_) <;> simp at hp <;> simp [*, nilRR, hIs, cells_row_get])
    | omega
    | decide
    | (simp [*, nilRR, hIs, cells_row_get]))
  refine aw_rounds (fun m st => ∃ i : Nat, st = ⟨tab [(1, rn l), (2, .ptr 0 0 3), (4, .ptr 1 0 3), (5, .int .i64 L.length), (6, .ptr 2 0 3), (7, .int .i64 i)], ⟨[.int .i64 (ro : Int), .int .i64 2, rrn L], 0, true⟩ :: ⟨[.int .i64 0, .int .i64 0, row rrC true []], 0, true⟩ :: ⟨[.int .i64 (ro : Int), .int .i64 2, accS rrC 3 (kept 2 L l i)], 0, true⟩ :: accH rrC (kept 2 L l i)⟩ ∧ i ≤ L.length ∧ m = L.length - i + 1 ∧ Keep (True)) ?_ ?_ (n := L.length - (0) + 1) (by first | omega | (simp; omega)) ?_
  · rintro st ⟨i, hx⟩; omega
  rotate_left
  · exact ⟨0, by first | rfl | (simp [*, accS, accH]; done) | (simp only [*]; done) | (congr 1 <;> simp [*, accS, accH]; done) | (congr 1 <;> simp [*, accS, accH] <;> rfl), by first | omega | (simp; omega) | simp [*], by first | rfl | (simp; done) | omega, ⟨trivial⟩⟩
  rintro Ja ma _ ⟨i, rfl, fa1, hma, hqa⟩ hJa
  have hkl := kept_len 2 L l i
  by_cases hi : i < L.length
  · by_cases hz : L = []
    · exact absurd hi (by simp [hz])
    have hks := kept_step (dup := 2) (l := l) hi
    have hsm := hL2 _ (List.getElem_mem hi)
    by_cases hX : kept 2 L l i = []
    · rw [hX] at hks ⊢
      simp [accS, accH]
      repeat' (first
        | simp (disch := omega) only [wrap_i64, wrap_i32]
        | (simp (disch := first | omega | assumption | (simp only [i64, i32]; omega) | (simp <;> omega) | fail) only [loadD_cpr, loadD_cprs, List.take_of_length_le, pc_ref01_Same]; simp [*, nilRR, accS, accH, cells_row_get])
        | (with_reducible refine And.intro ?_ ?_; focus first | omega | decide)
        | (with_reducible refine split_ite (fun hp => ?_) (fun hp => ?_) <;> (try simp at hp) <;> simp [*, nilRR, accS, accH, cells_row_get])
        | (with_reducible refine split_ite1 (fun hp => ?_) (fun hp => ?_) <;> (try simp at hp) <;> simp [*, nilRR, accS, accH, cells_row_get])
        | (refine split_cond (by simp) (fun hp => ?_) (fun hp => ?_) <;> simp at hp <;> simp [*, nilRR, accS, accH, cells_row_get])
        | (refine split_ops (by simp) (fun hp => ?_) (fun hp => ?_) <;> simp at hp <;> simp [*, nilRR, accS, accH, cells_row_get])
        | (refine split_opsD (by simp) (fun hp => ?_) (fun hp => ?_) <;> simp at hp <;> simp [*, nilRR, accS, accH, cells_row_get])
        | (refine split_pick (by simp) (fun hp => ?_) (fun hp => ?_) <;> simp at hp <;> simp [*, nilRR, accS, accH, cells_row_get])
        | omega
        | decide
        | (simp [*, nilRR, accS, accH, cells_row_get]))
      all_goals first
        | rw [if_pos ⟨by first | rfl | assumption, by assumption⟩] at hks
        | rw [if_neg (by rintro ⟨h1, h2⟩; first | contradiction | (simp at h1; done))] at hks
      all_goals
        exact hJa.out _ ⟨i + 1, by first | rfl | (simp [*, accS, accH]; done) | (simp only [*]; done) | (congr 1 <;> simp [*, accS, accH]; done) | (congr 1 <;> simp [*, accS, accH] <;> rfl), by first | omega | (simp; omega) | simp [*], by omega, ⟨trivial⟩⟩
    · simp [accS, accH, hX]
      repeat' (first
        | simp (disch := omega) only [wrap_i64, wrap_i32]
        | (simp (disch := first | omega | assumption | (simp only [i64, i32]; omega) | (simp <;> omega) | fail) only [loadD_cpr, loadD_cprs, List.take_of_length_le, pc_ref01_Same]; simp [*, nilRR, accS, accH, hX, cells_row_get])
        | (with_reducible refine And.intro ?_ ?_; focus first | omega | decide)
        | (with_reducible refine split_ite (fun hp => ?_) (fun hp => ?_) <;> (try simp at hp) <;> simp [*, nilRR, accS, accH, hX, cells_row_get])
        | (with_reducible refine split_ite1 (fun hp => ?_) (fun hp => ?_) <;> (try simp at hp) <;> simp [*, nilRR, accS, accH, hX, cells_row_get])
        | (refine split_cond (by simp) (fun hp => ?_) (fun hp => ?_) <;> simp at hp <;> simp [*, nilRR, accS, accH, hX, cells_row_get])
        | (refine split_ops (by simp) (fun hp => ?_) (fun hp => ?_) <;> simp at hp <;> simp [*, nilRR, accS, accH, hX, cells_row_get])
        | (refine split_opsD (by simp) (fun hp => ?_) (fun hp => ?_) <;> simp at hp <;> simp [*, nilRR, accS, accH, hX, cells_row_get])
        | (refine split_pick (by simp) (fun hp => ?_) (fun hp => ?_) <;> simp at hp <;> simp [*, nilRR, accS, accH, hX, cells_row_get])
        | omega
        | decide
        | (simp [*, nilRR, accS, accH, hX, cells_row_get]))
      all_goals first
        | rw [if_pos ⟨by first | rfl | assumption, by assumption⟩] at hks
        | rw [if_neg (by rintro ⟨h1, h2⟩; first | contradiction | (simp at h1; done))] at hks
      all_goals
        exact hJa.out _ ⟨i + 1, by first | rfl | (simp [*, accS, accH]; done) | (simp only [*]; done) | (congr 1 <;> simp [*, accS, accH]; done) | (congr 1 <;> simp [*, accS, accH] <;> rfl), by first | omega | (simp; omega) | simp [*], by omega, ⟨trivial⟩⟩
  · have hiL : i = L.length := by omega
    subst hiL
    have hpa := pAdd_eq hkk.out ho (by rintro ⟨h3, _⟩; simp at h3)
    rw [← kept_full] at hpa
    rw [hpa]
    clear hpa hkk hk0 hIs hk ho
    generalize kept 2 L l L.length = F at hkl ⊢
    have h1 : (1 + F.length ≤ F.length + 1) = True := by simp only [eq_iff_iff, iff_true]; omega
    by_cases hX : F = []
    · subst hX
      have hr0 : 1 - ro = 0 := by omega
      simp [accS, accH]
      repeat' (first
        | simp (disch := omega) only [wrap_i64, wrap_i32]
        | (simp (disch := first | omega | assumption | (simp only [i64, i32]; omega) | (simp <;> omega) | fail) only [loadD_cpr, loadD_cprs, List.take_of_length_le]; simp [*, nilRR])
        | (with_reducible refine And.intro ?_ ?_; focus first | omega | decide)
        | (with_reducible refine split_ite (fun hp => ?_) (fun hp => ?_) <;> (try simp at hp) <;> simp [*, nilRR])
        | (with_reducible refine split_ite1 (fun hp => ?_) (fun hp => ?_) <;> (try simp at hp) <;> simp [*, nilRR])
        | (refine split_cond (by simp) (fun hp => ?_) (fun hp => ?_) <;> simp at hp <;> simp [*, nilRR])
        | (refine split_ops (by simp) (fun hp => ?_) (fun hp => ?_) <;> simp at hp <;> simp [*, nilRR])
        | (refine split_opsD (by simp) (fun hp => ?_) (fun hp => ?_) <;> simp at hp <;> simp [*, nilRR])
        | (refine split_pick (by simp) (fun hp => ?_) (fun hp => ?_) <;> simp at hp <;> simp [*, nilRR])
        | omega
        | decide
        | (simp [*, nilRR]))
      all_goals first | rfl | (simp [hr0]; done) | (rw [hr0]; rfl) | trace_state
    · simp [accS, accH, hX]
      repeat' (first
        | simp (disch := omega) only [wrap_i64, wrap_i32]
        | (simp (disch := first | omega | assumption | (simp only [i64, i32]; omega) | (simp <;> omega) | fail) only [loadD_cpr, loadD_cprs, List.take_of_length_le]; simp [*, hX, h1])
        | (with_reducible refine And.intro ?_ ?_; focus first | omega | decide)
        | (with_reducible refine split_ite (fun hp => ?_) (fun hp => ?_) <;> (try simp at hp) <;> simp [*, hX, h1])
        | (with_reducible refine split_ite1 (fun hp => ?_) (fun hp => ?_) <;> (try simp at hp) <;> simp [*, hX, h1])
        | (refine split_cond (by simp) (fun hp => ?_) (fun hp => ?_) <;> simp at hp <;> simp [*, hX, h1])
        | (refine split_ops (by simp) (fun hp => ?_) (fun hp => ?_) <;> simp at hp <;> simp [*, hX, h1])
        | (refine split_opsD (by simp) (fun hp => ?_) (fun hp => ?_) <;> simp at hp <;> simp [*, hX, h1])
        | (refine split_pick (by simp) (fun hp => ?_) (fun hp => ?_) <;> simp at hp <;> simp [*, hX, h1])
        | omega
        | decide
        | (simp [*, hX, h1]))
      · have hr0 : F.length + 1 - ro = 1 := by omega
        rw [hr0]
        refine row_is (by simp) ?_
        rw [← List.drop_one, lines_end, List.take_of_length_le (by simp)]
      · have hr0 : F.length + 1 - ro = 0 := by omega
        rw [hr0]
        first | exact row_is (by simp) (by rw [List.take_of_length_le (by simp)]; simp) | exact ⟨rfl, rfl, row_is (by simp) (by simp)⟩ | trace_state

theorem pc_ref19_Add_0 (n : Nat) (ro : Nat) (dup : Int) (L : List (List Int)) (l : List Int) (hp : small L) (hl : l.length < 1000000) (hk : pIs ⟨ro, dup, L⟩ = true) (ho : kOne l = true) (hd1 : dup ≠ 1) (hd2 : dup ≠ 2) : (W (n + 8)).pc 40 [pD ⟨ro, dup, L⟩, rn l] = some (pD (pAdd ⟨ro, dup, L⟩ l)) := by
  apply runs c_typebarref19_Add
  have hkk := Keep.mk hk
  obtain ⟨⟨hr1, hr2, _, _⟩, hr3⟩ : (1 ≤ (ro : Int) ∧ (ro : Int) ≤ 16 ∧ (0 : Int) ≤ dup ∧ (dup : Int) ≤ 2) ∧ (L.length : Int) ≤ ro := by
    simp only [pIs, pOk, Bool.and_eq_true, decide_eq_true_eq] at hk
    exact hk.1
  have hp' := hp
  obtain ⟨hL1, hL2⟩ := hp'
  have hIs : (W (n + 7)).pc 42 [.agg [.int .i64 (ro : Int), .int .i64 dup, rrn L]] = some (.bool true) := by
    have := pc_ref19_Is n ⟨ro, dup, L⟩ hp
    rwa [hk] at this
  have hk0 : ∀ d L, kept d L l 0 = [] := fun d L => by simp [kept, others]
  simp [X_typebarref19_Add, hIs, hl, ho, hd1, hd2]
  repeat' (first
    | simp (disch := omega) only [wrap_i64, wrap_i32]
    | (simp (disch := first | omega | assumption | (simp only [i64, i32]; omega) | (simp <;> omega) | fail) only [loadD_cpr, loadD_cprs, List.take_of_length_le, pc_ref01_Same]; simp [*, nilRR, hIs, cells_row_get])
    | (with_reducible refine And.intro ?_ ?_; focus first | omega | decide)
    | (with_reducible refine split_ite (fun hp => ?_) (fun hp => ?_) <;> (try simp at hp) <;> simp [*, nilRR, hIs, cells_row_get])
    | (with_reducible refine split_ite1 (fun hp => ?_) (fun hp => ?_) <;> (try simp at hp) <;> simp [*, nilRR, hIs, cells_row_get])
    | (refine split_cond (by simp) (fun hp => ?_) (fun hp => ?_) <;> simp at hp <;> simp [*, nilRR, hIs, cells_row_get])
    | (refine split_ops (by simp) (fun hp => ?_) (fun hp => ?_) <;> simp at hp <;> simp [*, nilRR, hIs, cells_row_get])
    | (refine split_opsD (by simp) (fun hp => ?_) (fun hp => ?_) <;> simp at hp <;> simp [*, nilRR, hIs, cells_row_get])
    | (refine split_pick (by simp) (fun hp => ?_) (fun hp => ?_) <;> simp at hp <;> simp [*, nilRR, hIs, cells_row_get])
    | omega
    | decide
    | (simp [*, nilRR, hIs, cells_row_get]))
  refine aw_rounds (fun m st => ∃ i : Nat, st = ⟨tab [(1, rn l), (2, .ptr 0 0 3), (4, .ptr 1 0 3), (5, .int .i64 L.length), (6, .ptr 2 0 3), (7, .int .i64 i)], ⟨[.int .i64 (ro : Int), .int .i64 dup, rrn L], 0, true⟩ :: ⟨[.int .i64 0, .int .i64 0, row rrC true []], 0, true⟩ :: ⟨[.int .i64 (ro : Int), .int .i64 dup, accS rrC 3 (kept dup L l i)], 0, true⟩ :: accH rrC (kept dup L l i)⟩ ∧ i ≤ L.length ∧ m = L.length - i + 1 ∧ Keep (True)) ?_ ?_ (n := L.length - (0) + 1) (by first | omega | (simp; omega)) ?_
  · rintro st ⟨i, hx⟩; omega
  rotate_left
  · exact ⟨0, by first | rfl | (simp [*, accS, accH]; done) | (simp only [*]; done) | (congr 1 <;> simp [*, accS, accH]; done) | (congr 1 <;> simp [*, accS, accH] <;> rfl), by first | omega | (simp; omega) | simp [*], by first | rfl | (simp; done) | omega, ⟨trivial⟩⟩
  rintro Ja ma _ ⟨i, rfl, fa1, hma, hqa⟩ hJa
  have hkl := kept_len dup L l i
  by_cases hi : i < L.length
  · by_cases hz : L = []
    · exact absurd hi (by simp [hz])
    have hks := kept_step (dup := dup) (l := l) hi
    have hsm := hL2 _ (List.getElem_mem hi)
    by_cases hX : kept dup L l i = []
    · rw [hX] at hks ⊢
      simp [accS, accH]
      repeat' (first
        | simp (disch := omega) only [wrap_i64, wrap_i32]
        | (simp (disch := first | omega | assumption | (simp only [i64, i32]; omega) | (simp <;> omega) | fail) only [loadD_cpr, loadD_cprs, List.take_of_length_le, pc_ref01_Same]; simp [*, nilRR, accS, accH, cells_row_get])
        | (with_reducible refine And.intro ?_ ?_; focus first | omega | decide)
        | (with_reducible refine split_ite (fun hp => ?_) (fun hp => ?_) <;> (try simp at hp) <;> simp [*, nilRR, accS, accH, cells_row_get])
        | (with_reducible refine split_ite1 (fun hp => ?_) (fun hp => ?_) <;> (try simp at hp) <;> simp [*, nilRR, accS, accH, cells_row_get])
        | (refine split_cond (by simp) (fun hp => ?_) (fun hp => ?_) <;> simp at hp <;> simp [*, nilRR, accS, accH, cells_row_get])
        | (refine split_ops (by simp) (fun hp => ?_) (fun hp => ?_) <;> simp at hp <;> simp [*, nilRR, accS, accH, cells_row_get])
        | (refine split_opsD (by simp) (fun hp => ?_) (fun hp => ?_) <;> simp at hp <;> simp [*, nilRR, accS, accH, cells_row_get])
        | (refine split_pick (by simp) (fun hp => ?_) (fun hp => ?_) <;> simp at hp <;> simp [*, nilRR, accS, accH, cells_row_get])
        | omega
        | decide
        | (simp [*, nilRR, accS, accH, cells_row_get]))
      all_goals first
        | rw [if_pos ⟨by first | rfl | assumption, by assumption⟩] at hks
        | rw [if_neg (by rintro ⟨h1, h2⟩; first | contradiction | (simp at h1; done))] at hks
      all_goals
        exact hJa.out _ ⟨i + 1, by first | rfl | (simp [*, accS, accH]; done) | (simp only [*]; done) | (congr 1 <;> simp [*, accS, accH]; done) | (congr 1 <;> simp [*, accS, accH] <;> rfl), by first | omega | (simp; omega) | simp [*], by omega, ⟨trivial⟩⟩
    · simp [accS, accH, hX]
      repeat' (first
        | simp (disch := omega) only [wrap_i64, wrap_i32]
        | (simp (disch := first | omega | assumption | (simp only [i64, i32]; omega) | (simp <;> omega) | fail) only [loadD_cpr, loadD_cprs, List.take_of_length_le, pc_ref01_Same]; simp [*, nilRR, accS, accH, hX, cells_row_get])
        | (with_reducible refine And.intro ?_ ?_; focus first | omega | decide)
        | (with_reducible refine split_ite (fun hp => ?_) (fun hp => ?_) <;> (try simp at hp) <;> simp [*, nilRR, accS, accH, hX, cells_row_get])
        | (with_reducible refine split_ite1 (fun hp => ?_) (fun hp => ?_) <;> (try simp at hp) <;> simp [*, nilRR, accS, accH, hX, cells_row_get])
        | (refine split_cond (by simp) (fun hp => ?_) (fun hp => ?_) <;> simp at hp <;> simp [*, nilRR, accS, accH, hX, cells_row_get])
        | (refine split_ops (by simp) (fun hp => ?_) (fun hp => ?_) <;> simp at hp <;> simp [*, nilRR, accS, accH, hX, cells_row_get])
        | (refine split_opsD (by simp) (fun hp => ?_) (fun hp => ?_) <;> simp at hp <;> simp [*, nilRR, accS, accH, hX, cells_row_get])
        | (refine split_pick (by simp) (fun hp => ?_) (fun hp => ?_) <;> simp at hp <;> simp [*, nilRR, accS, accH, hX, cells_row_get])
        | omega
        | decide
        | (simp [*, nilRR, accS, accH, hX, cells_row_get]))
      all_goals first
        | rw [if_pos ⟨by first | rfl | assumption, by assumption⟩] at hks
        | rw [if_neg (by rintro ⟨h1, h2⟩; first | contradiction | (simp at h1; done))] at hks
      all_goals
        exact hJa.out _ ⟨i + 1, by first | rfl | (simp [*, accS, accH]; done) | (simp only [*]; done) | (congr 1 <;> simp [*, accS, accH]; done) | (congr 1 <;> simp [*, accS, accH] <;> rfl), by first | omega | (simp; omega) | simp [*], by omega, ⟨trivial⟩⟩
  · have hiL : i = L.length := by omega
    subst hiL
    have hpa := pAdd_eq hkk.out ho (by rintro ⟨h3, _⟩; contradiction)
    rw [← kept_full] at hpa
    rw [hpa]
    clear hpa hkk hk0 hIs hk ho
    generalize kept dup L l L.length = F at hkl ⊢
    have h1 : (1 + F.length ≤ F.length + 1) = True := by simp only [eq_iff_iff, iff_true]; omega
    by_cases hX : F = []
    · subst hX
      have hr0 : 1 - ro = 0 := by omega
      simp [accS, accH]
      repeat' (first
        | simp (disch := omega) only [wrap_i64, wrap_i32]
        | (simp (disch := first | omega | assumption | (simp only [i64, i32]; omega) | (simp <;> omega) | fail) only [loadD_cpr, loadD_cprs, List.take_of_length_le]; simp [*, nilRR])
        | (with_reducible refine And.intro ?_ ?_; focus first | omega | decide)
        | (with_reducible refine split_ite (fun hp => ?_) (fun hp => ?_) <;> (try simp at hp) <;> simp [*, nilRR])
        | (with_reducible refine split_ite1 (fun hp => ?_) (fun hp => ?_) <;> (try simp at hp) <;> simp [*, nilRR])
        | (refine split_cond (by simp) (fun hp => ?_) (fun hp => ?_) <;> simp at hp <;> simp [*, nilRR])
        | (refine split_ops (by simp) (fun hp => ?_) (fun hp => ?_) <;> simp at hp <;> simp [*, nilRR])
        | (refine split_opsD (by simp) (fun hp => ?_) (fun hp => ?_) <;> simp at hp <;> simp [*, nilRR])
        | (refine split_pick (by simp) (fun hp => ?_) (fun hp => ?_) <;> simp at hp <;> simp [*, nilRR])
        | omega
        | decide
        | (simp [*, nilRR]))
      all_goals first | rfl | (simp [hr0]; done) | (rw [hr0]; rfl) | trace_state
    · simp [accS, accH, hX]
      repeat' (first
        | simp (disch := omega) only [wrap_i64, wrap_i32]
        | (simp (disch := first | omega | assumption | (simp only [i64, i32]; omega) | (simp <;> omega) | fail) only [loadD_cpr, loadD_cprs, List.take_of_length_le]; simp [*, hX, h1])
        | (with_reducible refine And.intro ?_ ?_; focus first | omega | decide)
        | (with_reducible refine split_ite (fun hp => ?_) (fun hp => ?_) <;> (try simp at hp) <;> simp [*, hX, h1])
        | (with_reducible refine split_ite1 (fun hp => ?_) (fun hp => ?_) <;> (try simp at hp) <;> simp [*, hX, h1])
        | (refine split_cond (by simp) (fun hp => ?_) (fun hp => ?_) <;> simp at hp <;> simp [*, hX, h1])
        | (refine split_ops (by simp) (fun hp => ?_) (fun hp => ?_) <;> simp at hp <;> simp [*, hX, h1])
        | (refine split_opsD (by simp) (fun hp => ?_) (fun hp => ?_) <;> simp at hp <;> simp [*, hX, h1])
        | (refine split_pick (by simp) (fun hp => ?_) (fun hp => ?_) <;> simp at hp <;> simp [*, hX, h1])
        | omega
        | decide
        | (simp [*, hX, h1]))
      · have hr0 : F.length + 1 - ro = 1 := by omega
        rw [hr0]
        refine row_is (by simp) ?_
        rw [← List.drop_one, lines_end, List.take_of_length_le (by simp)]
      · have hr0 : F.length + 1 - ro = 0 := by omega
        rw [hr0]
        first | exact row_is (by simp) (by rw [List.take_of_length_le (by simp)]; simp) | exact ⟨rfl, rfl, row_is (by simp) (by simp)⟩ | trace_state

@[simp] theorem pc_ref19_Add (n : Nat) (p : Past) (l : List Int) (hp : small p.L) (hl : l.length < 1000000) : (W (n + 8)).pc 40 [pD p, rn l] = some (pD (pAdd p l)) := by
  cases hk : pIs p
  · apply runs c_typebarref19_Add
    simp [X_typebarref19_Add, hp, hl, hk, pAdd_skip]
    repeat' (first
      | simp (disch := omega) only [wrap_i64, wrap_i32]
      | (simp (disch := first | omega | assumption | (simp only [i64, i32]; omega) | (simp <;> omega) | fail) only [loadD_cpr, loadD_cprs, List.take_of_length_le]; simp [*, nilRR])
      | (with_reducible refine And.intro ?_ ?_; focus first | omega | decide)
      | (with_reducible refine split_ite (fun hp => ?_) (fun hp => ?_) <;> (try simp at hp) <;> simp [*, nilRR])
      | (with_reducible refine split_ite1 (fun hp => ?_) (fun hp => ?_) <;> (try simp at hp) <;> simp [*, nilRR])
      | (refine split_cond (by simp) (fun hp => ?_) (fun hp => ?_) <;> simp at hp <;> simp [*, nilRR])
      | (refine split_ops (by simp) (fun hp => ?_) (fun hp => ?_) <;> simp at hp <;> simp [*, nilRR])
      | (refine split_opsD (by simp) (fun hp => ?_) (fun hp => ?_) <;> simp at hp <;> simp [*, nilRR])
      | (refine split_pick (by simp) (fun hp => ?_) (fun hp => ?_) <;> simp at hp <;> simp [*, nilRR])
      | omega
      | decide
      | (simp [*, nilRR]))
  cases ho : kOne l
  · apply runs c_typebarref19_Add
    simp [X_typebarref19_Add, hp, hl, hk, ho, pAdd_skip]
    repeat' (first
      | simp (disch := omega) only [wrap_i64, wrap_i32]
      | (simp (disch := first | omega | assumption | (simp only [i64, i32]; omega) | (simp <;> omega) | fail) only [loadD_cpr, loadD_cprs, List.take_of_length_le]; simp [*, nilRR])
      | (with_reducible refine And.intro ?_ ?_; focus first | omega | decide)
      | (with_reducible refine split_ite (fun hp => ?_) (fun hp => ?_) <;> (try simp at hp) <;> simp [*, nilRR])
      | (with_reducible refine split_ite1 (fun hp => ?_) (fun hp => ?_) <;> (try simp at hp) <;> simp [*, nilRR])
      | (refine split_cond (by simp) (fun hp => ?_) (fun hp => ?_) <;> simp at hp <;> simp [*, nilRR])
      | (refine split_ops (by simp) (fun hp => ?_) (fun hp => ?_) <;> simp at hp <;> simp [*, nilRR])
      | (refine split_opsD (by simp) (fun hp => ?_) (fun hp => ?_) <;> simp at hp <;> simp [*, nilRR])
      | (refine split_pick (by simp) (fun hp => ?_) (fun hp => ?_) <;> simp at hp <;> simp [*, nilRR])
      | omega
      | decide
      | (simp [*, nilRR]))
  obtain ⟨room, dup, L⟩ := p
  obtain ⟨⟨hr1, _, _, _⟩, _⟩ : (1 ≤ room ∧ room ≤ 16 ∧ 0 ≤ dup ∧ dup ≤ 2) ∧ (L.length : Int) ≤ room := by
    have := hk
    simp only [pIs, pOk, Bool.and_eq_true, decide_eq_true_eq] at this
    exact this.1
  obtain ⟨ro, rfl⟩ := Int.eq_ofNat_of_zero_le (show 0 ≤ room by omega)
  by_cases h1 : dup = 1
  · subst h1; exact pc_ref19_Add_1 n ro L l hp hl hk ho
  by_cases h2 : dup = 2
  · subst h2; exact pc_ref19_Add_2 n ro L l hp hl hk ho
  exact pc_ref19_Add_0 n ro dup L l hp hl hk ho h1 h2

end Go.Proofs.Ytngbfjnkfomcnaa
