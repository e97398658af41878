/- What the law of layer 13 on rows of lines computes. -/
import Derived.Test.YtngbfjnkfomcnaaUndoB
namespace Go.Proofs.Ytngbfjnkfomcnaa
open Go E
set_option linter.unusedSimpArgs false
set_option linter.unusedVariables false

def kStep (K : List Gap) (g : Gap) : List Gap := if gapIs g = true ∧ (K = [] ∨ lastG K ≠ g) then K ++ [g] else K

/-- What was pushed, each that was there already once; and what is there of it. -/
def kU (K : List Gap) : List Gap := K.drop (K.length - 16)

theorem lastG_snoc (K : List Gap) (g : Gap) : lastG (K ++ [g]) = g := by simp [lastG]

theorem lastG_kU {K : List Gap} (h : K ≠ []) : lastG (kU K) = lastG K := by
  have hn := List.length_pos_iff.2 h
  rw [lastG_at (by simp [kU]; omega), lastG_at hn]
  simp only [kU, List.getElem_drop, List.length_drop]
  congr 1; omega

theorem kU_is {K : List Gap} (h : ∀ g ∈ K, gapIs g = true) : uIs (kU K) = true := uIs_mk (by simp [kU]; omega) fun g hg => h g (List.mem_of_mem_drop hg)

theorem kStep_all {K : List Gap} (h : ∀ g ∈ K, gapIs g = true) (g : Gap) : ∀ x ∈ kStep K g, gapIs x = true := by
  intro x hx
  simp only [kStep] at hx
  split at hx
  · rename_i hc
    rcases List.mem_append.1 hx with hx | hx
    · exact h x hx
    · rw [List.mem_singleton.1 hx]; exact hc.1
  · exact h x hx

theorem kU_step {K : List Gap} (h : ∀ g ∈ K, gapIs g = true) (g : Gap) : uPush (kU K) g = kU (kStep K g) := by
  cases hg : gapIs g
  · simp [uPush, kStep, hg]
  · by_cases hK : K = []
    · subst hK; simp [uPush, kStep, hg, kU, uIs]
    · have hne : kU K ≠ [] := by
        have := List.length_pos_iff.2 hK
        intro h0
        have := congrArg List.length h0
        simp [kU] at this; omega
      by_cases hl : lastG K = g
      · rw [uPush, if_neg (by simp [hg, kU_is h]), if_pos ⟨hne, by rw [lastG_kU hK, hl]; simp⟩]
        simp [kStep, hK, hl]
      · rw [uPush, if_neg (by simp [hg, kU_is h]), if_neg (by rintro ⟨_, h3⟩; rw [lastG_kU hK] at h3; exact hl (gap_ext h3))]
        simp only [kStep, hg, hK, hl, false_or, ne_eq, not_false_eq_true, and_self, if_true, kU, List.length_append, List.length_singleton, List.drop_drop, List.length_drop]
        rw [List.drop_append_of_le_length (by omega)]
        congr 2; omega

@[simp] theorem gap_cell {K : List Gap} {i : Nat} (h : i < K.length) : ((cells gapC K).drop (i * 2)).take 2 = [rn K[i].A, rn K[i].B] := by
  have e : (cells gapC K).drop (i * 2) = cells gapC (K.drop i) := cells_drop (E := gapC) K i
  rw [e, cells_at h]
  rfl

/-- What is there behind n pops. -/
def kV (K : List Gap) (n : Nat) : List Gap := (kU K).take ((kU K).length - n)

theorem kU_len (K : List Gap) : (kU K).length = K.length - (K.length - 16) := by simp [kU]

theorem kV_len (K : List Gap) (n : Nat) : (kV K n).length = K.length - (K.length - 16) - n := by simp [kV, kU_len]; try omega

theorem kV_mem {K : List Gap} {n : Nat} {g : Gap} (h : g ∈ kV K n) : g ∈ K := List.mem_of_mem_drop (List.mem_of_mem_take h)

theorem kV_zero (K : List Gap) : kV K 0 = kU K := by simp [kV]

theorem kV_pop {K : List Gap} {n : Nat} (hall : ∀ g ∈ K, gapIs g = true) (h : n < K.length) (h16 : n < 16) : uPop (kV K n) = (kV K (n + 1), K[K.length - 1 - n]'(by omega), 0) := by
  have hl := kV_len K n
  have hu : uIs (kV K n) = true := uIs_mk (by omega) fun g hg => hall g (kV_mem hg)
  have hne : kV K n ≠ [] := by intro h0; rw [h0] at hl; simp at hl; omega
  rw [uPop, if_neg (by simp [hu]), if_neg hne]
  have e1 : (kV K n).take ((kV K n).length - 1) = kV K (n + 1) := by
    simp only [kV, List.take_take, List.length_take]; congr 1; omega
  have e2 : lastG (kV K n) = K[K.length - 1 - n]'(by omega) := by
    rw [lastG_at (by omega)]
    simp only [kV, kU, List.getElem_take, List.getElem_drop]
    congr 1
    simp
    try omega
  rw [e1, e2]

theorem kV_end {K : List Gap} {n : Nat} (h : K.length ≤ n ∨ 16 ≤ n) : uPop (kV K n) = ([], g0, 6) := by
  have hl := kV_len K n
  have h0 : kV K n = [] := List.eq_nil_of_length_eq_zero (by omega)
  rw [h0]; rfl

theorem kV_small {K : List Gap} (n : Nat) (h : ∀ g ∈ K, gapIs g = true ∧ g.A.length ≤ 1000 ∧ g.B.length ≤ 1000) : smallU (kV K n) :=
  ⟨by rw [kV_len]; omega, fun g hg => by have := h g (kV_mem hg); omega⟩

theorem appD_first (b0 : Blk) (g : Gap) : appD [b0] 2 48 (.arr 0 true []) (.arr 1 true [rn g.A, rn g.B]) = some (.ref 1 0 1 2 2 false, [b0, ⟨[rn g.A, rn g.B], 0, false⟩]) := by
  simp [appD]

theorem appD_next (b0 : Blk) (K : List Gap) (g : Gap) (h : K.length < 1000000) : appD [b0, ⟨cells gapC K, 0, false⟩] 2 48 (.ref 1 0 K.length 2 (K.length * 2) false) (.arr 1 true [rn g.A, rn g.B]) =
    some (.ref 1 0 (K.length + 1) 2 ((K.length + 1) * 2) false, [b0, ⟨cells gapC K ++ [rn g.A, rn g.B], 0, false⟩]) := by
  simp [appD, contents]
  omega

set_option maxHeartbeats 1600000 in
theorem pc_UndoRow (n : Nat) (l : List Gap) : (W (n + 14)).pc 5 [grn l] = some (.bool true) := by
  apply runs c_typebarlaw13_UndoRow
  have hbig : (W (n + 13)).pc 15 [.agg [grn l], .agg [.arr 0 false [], .arr 0 false []]] = some (.bool (uBig l g0)) := pc_uBig (n + 12) l g0
  cases hb : uBig l g0
  · obtain ⟨hs, hA, hB, hl, hx⟩ := uBig_small hb
    simp [X_typebarlaw13_UndoRow, pc_undone, hbig, hb]
    clear hbig hb
    refine aw_rounds (fun m st => ∃ i : Nat, ∃ K : List Gap, ∃ b : Bool, st = ⟨tab [(0, grn l), (3, .ptr 0 0 1), (4, accS gapC 1 K), (5, .int .i64 i)], ⟨[row gapC b (kU K)], 0, true⟩ :: accH gapC K⟩ ∧ i ≤ l.length ∧ K.length ≤ i ∧ m = l.length - i + 1 ∧ Keep (∀ g ∈ K, gapIs g = true ∧ g.A.length ≤ 1000 ∧ g.B.length ≤ 1000)) ?_ ?_ (n := l.length - (0) + 1) (by first | omega | (simp; omega)) ?_
    · rintro st ⟨i, K, b, hx⟩; omega
    rotate_left
    · exact ⟨0, [], true, by first | rfl | (simp [*, accS, accH]; done) | (simp only [*]; done) | (congr 1 <;> simp [*, accS, accH]; done) | (congr 1 <;> simp [*, accS, accH] <;> rfl) | (congr 1 <;> congr 1 <;> simp <;> omega), by first | omega | (simp; omega) | simp [*], by first | omega | (simp; omega) | simp [*], by first | rfl | (simp; done) | omega, ⟨by simp⟩⟩
    rintro Ja ma _ ⟨i, K, b, rfl, fa1, fa2, hma, hqa⟩ hJa
    have hq := Keep.mk hqa.out
    have hall : ∀ g ∈ K, gapIs g = true := fun g hg => (hqa.out g hg).1
    have hKU : smallU (kU K) := by have := kV_small 0 hqa.out; rwa [kV_zero] at this
    by_cases hi : i < l.length
    · have hli : l[i].A.length ≤ 1000 ∧ l[i].B.length ≤ 1000 := hx _ (List.getElem_mem hi)
      have hstep := kU_step hall l[i]
      have hnew : Keep (gapIs l[i] = true → ∀ x ∈ K ++ [l[i]], gapIs x = true ∧ x.A.length ≤ 1000 ∧ x.B.length ≤ 1000) := ⟨fun hg x hm => by
        rcases List.mem_append.1 hm with hm | hm
        · exact hqa.out x hm
        · rw [List.mem_singleton.1 hm]; exact ⟨hg, hli⟩⟩
      generalize hg : l[i] = g at *
      have hA1 : g.A.length < 1000000 := by omega
      have hB1 : g.B.length < 1000000 := by omega
      clear hall
      have hskip : gapIs g = false → kStep K g = K := fun h => by simp [kStep, h]
      have hdone : Keep (∀ b : Bool, gapIs g = true → kStep K g = K ++ [g] ∨ kStep K g = K) := ⟨fun b h => by simp only [kStep]; split <;> simp⟩
      by_cases hK : K = []
      · subst hK
        cases hgi : gapIs g
        · rw [hskip hgi] at hstep
          clear hskip
          simp [accS, accH]
          repeat' (first
            | simp (disch := omega) only [wrap_i64, wrap_i32]
            | (simp (disch := first | omega | assumption | (simp only [i64, i32]; omega) | (simp <;> omega) | fail) only [loadD_cpr, loadD_cprs, List.take_of_length_le, pc_undo_Push, pc_gap_Is]; simp [*, hg, gap_cell])
            | (with_reducible refine And.intro ?_ ?_; focus first | omega | decide)
            | (with_reducible refine split_ite (fun hp => ?_) (fun hp => ?_) <;> (try simp at hp) <;> simp [*, hg, gap_cell])
            | (with_reducible refine split_ite1 (fun hp => ?_) (fun hp => ?_) <;> (try simp at hp) <;> simp [*, hg, gap_cell])
            | (refine split_cond (by simp) (fun hp => ?_) (fun hp => ?_) <;> simp at hp <;> simp [*, hg, gap_cell])
            | (refine split_ops (by simp) (fun hp => ?_) (fun hp => ?_) <;> simp at hp <;> simp [*, hg, gap_cell])
            | (refine split_opsD (by simp) (fun hp => ?_) (fun hp => ?_) <;> simp at hp <;> simp [*, hg, gap_cell])
            | (refine split_pick (by simp) (fun hp => ?_) (fun hp => ?_) <;> simp at hp <;> simp [*, hg, gap_cell])
            | omega
            | decide
            | (simp [*, hg, gap_cell]))
          exact hJa.out _ ⟨i + 1, [], false, by first | rfl | (simp [*, accS, accH]; done) | (simp only [*]; done) | (congr 1 <;> simp [*, accS, accH]; done) | (congr 1 <;> simp [*, accS, accH] <;> rfl) | (congr 1 <;> congr 1 <;> simp <;> omega), by first | omega | (simp; omega) | simp [*], by first | omega | (simp; omega) | simp [*], by omega, ⟨hq.out⟩⟩
        · have hst : kStep [] g = [g] := by simp [kStep, hgi]
          rw [hst] at hstep
          clear hskip
          simp [accS, accH]
          repeat' (first
            | simp (disch := omega) only [wrap_i64, wrap_i32]
            | (simp (disch := first | omega | assumption | (simp only [i64, i32]; omega) | (simp <;> omega) | fail) only [loadD_cpr, loadD_cprs, List.take_of_length_le, pc_undo_Push, pc_gap_Is]; simp [*, hg, gap_cell, appD_first])
            | (with_reducible refine And.intro ?_ ?_; focus first | omega | decide)
            | (with_reducible refine split_ite (fun hp => ?_) (fun hp => ?_) <;> (try simp at hp) <;> simp [*, hg, gap_cell, appD_first])
            | (with_reducible refine split_ite1 (fun hp => ?_) (fun hp => ?_) <;> (try simp at hp) <;> simp [*, hg, gap_cell, appD_first])
            | (refine split_cond (by simp) (fun hp => ?_) (fun hp => ?_) <;> simp at hp <;> simp [*, hg, gap_cell, appD_first])
            | (refine split_ops (by simp) (fun hp => ?_) (fun hp => ?_) <;> simp at hp <;> simp [*, hg, gap_cell, appD_first])
            | (refine split_opsD (by simp) (fun hp => ?_) (fun hp => ?_) <;> simp at hp <;> simp [*, hg, gap_cell, appD_first])
            | (refine split_pick (by simp) (fun hp => ?_) (fun hp => ?_) <;> simp at hp <;> simp [*, hg, gap_cell, appD_first])
            | omega
            | decide
            | (simp [*, hg, gap_cell, appD_first]))
          exact hJa.out _ ⟨i + 1, [g], false, by first | rfl | (simp [*, accS, accH]; done) | (simp only [*]; done) | (congr 1 <;> simp [*, accS, accH]; done) | (congr 1 <;> simp [*, accS, accH] <;> rfl) | (congr 1 <;> congr 1 <;> simp <;> omega), by first | omega | (simp; omega) | simp [*], by first | omega | (simp; omega) | simp [*], by omega, ⟨hnew.out hgi⟩⟩
      · have hn := List.length_pos_iff.2 hK
        have e1 : ((K.length : Int) - 1).toNat = K.length - 1 := by omega
        have e3 : K.length < 1000000 := by omega
        have e4 : K.length - 1 < K.length := by omega
        have e2 := Keep.mk (lastG_at hn)
        have e5 : (cells gapC K).drop ((K.length - 1) * 2) = [rn (K[K.length - 1]'e4).A, rn (K[K.length - 1]'e4).B] := by
          have := gap_cell (K := K) (i := K.length - 1) e4
          rwa [List.take_of_length_le (by simp; omega)] at this
        have hm := hq.out _ (lastG_mem hn)
        have hA2 : (lastG K).A.length < 1000000 := by omega
        have hB2 : (lastG K).B.length < 1000000 := by omega
        rw [e2.out] at hA2 hB2
        cases hgi : gapIs g
        · rw [hskip hgi] at hstep
          clear hskip
          simp [accS, accH, hK]
          repeat' (first
            | simp (disch := omega) only [wrap_i64, wrap_i32]
            | (simp (disch := first | omega | assumption | (simp only [i64, i32]; omega) | (simp <;> omega) | fail) only [loadD_cpr, loadD_cprs, List.take_of_length_le, pc_undo_Push, pc_gap_Is]; simp [*, hg, gap_cell])
            | (with_reducible refine And.intro ?_ ?_; focus first | omega | decide)
            | (with_reducible refine split_ite (fun hp => ?_) (fun hp => ?_) <;> (try simp at hp) <;> simp [*, hg, gap_cell])
            | (with_reducible refine split_ite1 (fun hp => ?_) (fun hp => ?_) <;> (try simp at hp) <;> simp [*, hg, gap_cell])
            | (refine split_cond (by simp) (fun hp => ?_) (fun hp => ?_) <;> simp at hp <;> simp [*, hg, gap_cell])
            | (refine split_ops (by simp) (fun hp => ?_) (fun hp => ?_) <;> simp at hp <;> simp [*, hg, gap_cell])
            | (refine split_opsD (by simp) (fun hp => ?_) (fun hp => ?_) <;> simp at hp <;> simp [*, hg, gap_cell])
            | (refine split_pick (by simp) (fun hp => ?_) (fun hp => ?_) <;> simp at hp <;> simp [*, hg, gap_cell])
            | omega
            | decide
            | (simp [*, hg, gap_cell]))
          exact hJa.out _ ⟨i + 1, K, false, by first | rfl | (simp [*, accS, accH]; done) | (simp only [*]; done) | (congr 1 <;> simp [*, accS, accH]; done) | (congr 1 <;> simp [*, accS, accH] <;> rfl) | (congr 1 <;> congr 1 <;> simp <;> omega), by first | omega | (simp; omega) | simp [*], by first | omega | (simp; omega) | simp [*], by omega, ⟨hq.out⟩⟩
        · by_cases hsame : lastG K = g
          · have hst : kStep K g = K := by simp [kStep, hK, hsame]
            rw [hst] at hstep
            rw [e2.out] at hsame
            clear hskip
            simp [accS, accH, hK]
            repeat' (first
              | simp (disch := omega) only [wrap_i64, wrap_i32]
              | (simp (disch := first | omega | assumption | (simp only [i64, i32]; omega) | (simp <;> omega) | fail) only [loadD_cpr, loadD_cprs, List.take_of_length_le, pc_undo_Push, pc_gap_Is, pc_ref10_Same]; simp [*, hg, gap_cell, e1, e5, hsame])
              | (with_reducible refine And.intro ?_ ?_; focus first | omega | decide)
              | (with_reducible refine split_ite (fun hp => ?_) (fun hp => ?_) <;> (try simp at hp) <;> simp [*, hg, gap_cell, e1, e5, hsame])
              | (with_reducible refine split_ite1 (fun hp => ?_) (fun hp => ?_) <;> (try simp at hp) <;> simp [*, hg, gap_cell, e1, e5, hsame])
              | (refine split_cond (by simp) (fun hp => ?_) (fun hp => ?_) <;> simp at hp <;> simp [*, hg, gap_cell, e1, e5, hsame])
              | (refine split_ops (by simp) (fun hp => ?_) (fun hp => ?_) <;> simp at hp <;> simp [*, hg, gap_cell, e1, e5, hsame])
              | (refine split_opsD (by simp) (fun hp => ?_) (fun hp => ?_) <;> simp at hp <;> simp [*, hg, gap_cell, e1, e5, hsame])
              | (refine split_pick (by simp) (fun hp => ?_) (fun hp => ?_) <;> simp at hp <;> simp [*, hg, gap_cell, e1, e5, hsame])
              | omega
              | decide
              | (simp [*, hg, gap_cell, e1, e5, hsame]))
            exact hJa.out _ ⟨i + 1, K, false, by first | rfl | (simp [*, accS, accH]; done) | (simp only [*]; done) | (congr 1 <;> simp [*, accS, accH]; done) | (congr 1 <;> simp [*, accS, accH] <;> rfl) | (congr 1 <;> congr 1 <;> simp <;> omega), by first | omega | (simp; omega) | simp [*], by first | omega | (simp; omega) | simp [*], by omega, ⟨hq.out⟩⟩
          · have hst : kStep K g = K ++ [g] := by simp [kStep, hK, hsame, hgi]
            rw [hst] at hstep
            rw [e2.out] at hsame
            replace hsame : (K[K.length - 1] = g) = False := by simpa using hsame
            clear hskip
            simp [accS, accH, hK]
            repeat' (first
              | simp (disch := omega) only [wrap_i64, wrap_i32]
              | (simp (disch := first | omega | assumption | (simp only [i64, i32]; omega) | (simp <;> omega) | fail) only [loadD_cpr, loadD_cprs, List.take_of_length_le, pc_undo_Push, pc_gap_Is, pc_ref10_Same]; simp [*, hg, gap_cell, e1, e5, hsame, appD_next])
              | (with_reducible refine And.intro ?_ ?_; focus first | omega | decide)
              | (with_reducible refine split_ite (fun hp => ?_) (fun hp => ?_) <;> (try simp at hp) <;> simp [*, hg, gap_cell, e1, e5, hsame, appD_next])
              | (with_reducible refine split_ite1 (fun hp => ?_) (fun hp => ?_) <;> (try simp at hp) <;> simp [*, hg, gap_cell, e1, e5, hsame, appD_next])
              | (refine split_cond (by simp) (fun hp => ?_) (fun hp => ?_) <;> simp at hp <;> simp [*, hg, gap_cell, e1, e5, hsame, appD_next])
              | (refine split_ops (by simp) (fun hp => ?_) (fun hp => ?_) <;> simp at hp <;> simp [*, hg, gap_cell, e1, e5, hsame, appD_next])
              | (refine split_opsD (by simp) (fun hp => ?_) (fun hp => ?_) <;> simp at hp <;> simp [*, hg, gap_cell, e1, e5, hsame, appD_next])
              | (refine split_pick (by simp) (fun hp => ?_) (fun hp => ?_) <;> simp at hp <;> simp [*, hg, gap_cell, e1, e5, hsame, appD_next])
              | omega
              | decide
              | (simp [*, hg, gap_cell, e1, e5, hsame, appD_next]))
            have h3 : ¬ K[K.length - 1] = g := by simpa using hsame
            rotate_left
            · exact absurd (gap_ext (by assumption)) (show ¬ K[K.length - 1] = g by simpa using hsame)
            exact hJa.out _ ⟨i + 1, K ++ [g], false, by first | rfl | (simp [*, accS, accH]; done) | (simp only [*]; done) | (congr 1 <;> simp [*, accS, accH]; done) | (congr 1 <;> simp [*, accS, accH] <;> rfl) | (congr 1 <;> congr 1 <;> simp <;> omega), by first | omega | (simp; omega) | simp [*], by first | omega | (simp; omega) | simp [*], by omega, ⟨hnew.out hgi⟩⟩
    · by_cases hK : K = []
      · subst hK
        have hend := kV_end (K := []) (n := 0) (.inl (by simp))
        rw [kV_zero] at hend
        simp [accS, accH]
        repeat' (first
          | simp (disch := omega) only [wrap_i64, wrap_i32]
          | (simp (disch := first | omega | assumption | (simp only [i64, i32]; omega) | (simp <;> omega) | fail) only [loadD_cpr, loadD_cprs, List.take_of_length_le]; simp [*])
          | (with_reducible refine And.intro ?_ ?_; focus first | omega | decide)
          | (with_reducible refine split_ite (fun hp => ?_) (fun hp => ?_) <;> (try simp at hp) <;> simp [*])
          | (with_reducible refine split_ite1 (fun hp => ?_) (fun hp => ?_) <;> (try simp at hp) <;> simp [*])
          | (refine split_cond (by simp) (fun hp => ?_) (fun hp => ?_) <;> simp at hp <;> simp [*])
          | (refine split_ops (by simp) (fun hp => ?_) (fun hp => ?_) <;> simp at hp <;> simp [*])
          | (refine split_opsD (by simp) (fun hp => ?_) (fun hp => ?_) <;> simp at hp <;> simp [*])
          | (refine split_pick (by simp) (fun hp => ?_) (fun hp => ?_) <;> simp at hp <;> simp [*])
          | omega
          | decide
          | (simp [*]))
        refine aw_rounds (fun m st => ∃ k : Nat, st = ⟨tab [(3, .ptr 0 0 1), (4, .arr 0 true []), (6, .int .i64 k)], ⟨[row gapC b (kU [])], 0, true⟩ :: []⟩ ∧ k = 0 ∧ m = 0 + 1 ∧ Keep (True)) ?_ ?_ (n := 0 + 1) (by first | omega | (simp; omega)) ?_
        · rintro st ⟨k, hx⟩; omega
        rotate_left
        · exact ⟨0, by first | rfl | (simp [*, accS, accH]; done) | (simp only [*]; done) | (congr 1 <;> simp [*, accS, accH]; done) | (congr 1 <;> simp [*, accS, accH] <;> rfl) | (congr 1 <;> congr 1 <;> simp <;> omega), by first | omega | (simp; omega) | simp [*], by first | rfl | (simp; done) | omega, ⟨trivial⟩⟩
        rintro Jb mb _ ⟨k, rfl, fb1, hmb, hqb⟩ hJb
        simp
        repeat' (first
          | simp (disch := omega) only [wrap_i64, wrap_i32]
          | (simp (disch := first | omega | assumption | (simp only [i64, i32]; omega) | (simp <;> omega) | fail) only [loadD_cpr, loadD_cprs, List.take_of_length_le, pc_undo_Pop]; simp [*, hend, pc_undone])
          | (with_reducible refine And.intro ?_ ?_; focus first | omega | decide)
          | (with_reducible refine split_ite (fun hp => ?_) (fun hp => ?_) <;> (try simp at hp) <;> simp [*, hend, pc_undone])
          | (with_reducible refine split_ite1 (fun hp => ?_) (fun hp => ?_) <;> (try simp at hp) <;> simp [*, hend, pc_undone])
          | (refine split_cond (by simp) (fun hp => ?_) (fun hp => ?_) <;> simp at hp <;> simp [*, hend, pc_undone])
          | (refine split_ops (by simp) (fun hp => ?_) (fun hp => ?_) <;> simp at hp <;> simp [*, hend, pc_undone])
          | (refine split_opsD (by simp) (fun hp => ?_) (fun hp => ?_) <;> simp at hp <;> simp [*, hend, pc_undone])
          | (refine split_pick (by simp) (fun hp => ?_) (fun hp => ?_) <;> simp at hp <;> simp [*, hend, pc_undone])
          | omega
          | decide
          | (simp [*, hend, pc_undone]))
        all_goals trace_state
      · have hn := List.length_pos_iff.2 hK
        simp [accS, accH, hK]
        repeat' (first
          | simp (disch := omega) only [wrap_i64, wrap_i32]
          | (simp (disch := first | omega | assumption | (simp only [i64, i32]; omega) | (simp <;> omega) | fail) only [loadD_cpr, loadD_cprs, List.take_of_length_le]; simp [*])
          | (with_reducible refine And.intro ?_ ?_; focus first | omega | decide)
          | (with_reducible refine split_ite (fun hp => ?_) (fun hp => ?_) <;> (try simp at hp) <;> simp [*])
          | (with_reducible refine split_ite1 (fun hp => ?_) (fun hp => ?_) <;> (try simp at hp) <;> simp [*])
          | (refine split_cond (by simp) (fun hp => ?_) (fun hp => ?_) <;> simp at hp <;> simp [*])
          | (refine split_ops (by simp) (fun hp => ?_) (fun hp => ?_) <;> simp at hp <;> simp [*])
          | (refine split_opsD (by simp) (fun hp => ?_) (fun hp => ?_) <;> simp at hp <;> simp [*])
          | (refine split_pick (by simp) (fun hp => ?_) (fun hp => ?_) <;> simp at hp <;> simp [*])
          | omega
          | decide
          | (simp [*]))
        have hz := kV_zero K
        refine aw_rounds (fun m st => ∃ k : Nat, ∃ c : Bool, ∃ R : List Blk, st = ⟨tab [(3, .ptr 0 0 1), (4, .ref 1 0 K.length 2 (K.length * 2) false), (6, .int .i64 k)], ⟨[row gapC c (kV K k)], 0, true⟩ :: ⟨cells gapC K, 0, false⟩ :: R⟩ ∧ k ≤ K.length ∧ k ≤ 16 ∧ m = K.length - k + 1 ∧ Keep (True)) ?_ ?_ (n := K.length - (0) + 1) (by first | omega | (simp; omega)) ?_
        · rintro st ⟨k, c, hx⟩; omega
        rotate_left
        · exact ⟨0, b, _, by first | rfl | (simp [*, accS, accH]; done) | (simp only [*]; done) | (congr 1 <;> simp [*, accS, accH]; done) | (congr 1 <;> simp [*, accS, accH] <;> rfl) | (congr 1 <;> congr 1 <;> simp <;> omega), by first | omega | (simp; omega) | simp [*], by first | omega | (simp; omega) | simp [*], by first | rfl | (simp; done) | omega, ⟨trivial⟩⟩
        rintro Jb mb _ ⟨k, c, Rb, rfl, fb1, fb2, hmb, hqb⟩ hJb
        have hsm := kV_small k hq.out
        clear hz
        by_cases hk : k < K.length ∧ k < 16
        · obtain ⟨hk1, hk2⟩ := hk
          have hp := kV_pop hall hk1 hk2
          have e1 : ((K.length : Int) - 1 - k).toNat = K.length - 1 - k := by omega
          have e4 : K.length - 1 - k < K.length := by omega
          have hm := hq.out _ (List.getElem_mem e4)
          have hA2 : K[K.length - 1 - k].A.length < 1000000 := by omega
          have hB2 : K[K.length - 1 - k].B.length < 1000000 := by omega
          simp
          repeat' (first
            | simp (disch := omega) only [wrap_i64, wrap_i32]
            | (simp (disch := first | omega | assumption | (simp only [i64, i32]; omega) | (simp <;> omega) | fail) only [loadD_cpr, loadD_cprs, List.take_of_length_le, hp, pc_undo_Pop, pc_ref10_Same]; simp [*, hp, gap_cell, e1])
            | (with_reducible refine And.intro ?_ ?_; focus first | omega | decide)
            | (with_reducible refine split_ite (fun hp => ?_) (fun hp => ?_) <;> (try simp at hp) <;> simp [*, hp, gap_cell, e1])
            | (with_reducible refine split_ite1 (fun hp => ?_) (fun hp => ?_) <;> (try simp at hp) <;> simp [*, hp, gap_cell, e1])
            | (refine split_cond (by simp) (fun hp => ?_) (fun hp => ?_) <;> simp at hp <;> simp [*, hp, gap_cell, e1])
            | (refine split_ops (by simp) (fun hp => ?_) (fun hp => ?_) <;> simp at hp <;> simp [*, hp, gap_cell, e1])
            | (refine split_opsD (by simp) (fun hp => ?_) (fun hp => ?_) <;> simp at hp <;> simp [*, hp, gap_cell, e1])
            | (refine split_pick (by simp) (fun hp => ?_) (fun hp => ?_) <;> simp at hp <;> simp [*, hp, gap_cell, e1])
            | omega
            | decide
            | (simp [*, hp, gap_cell, e1]))
          exact hJb.out _ ⟨k + 1, false, _, by first | rfl | (simp [*, accS, accH]; done) | (simp only [*]; done) | (congr 1 <;> simp [*, accS, accH]; done) | (congr 1 <;> simp [*, accS, accH] <;> rfl) | (congr 1 <;> congr 1 <;> simp <;> omega), by first | omega | (simp; omega) | simp [*], by first | omega | (simp; omega) | simp [*], by omega, ⟨trivial⟩⟩
        · have hend := kV_end (K := K) (n := k) (by omega)
          simp
          repeat' (first
            | simp (disch := omega) only [wrap_i64, wrap_i32]
            | (simp (disch := first | omega | assumption | (simp only [i64, i32]; omega) | (simp <;> omega) | fail) only [loadD_cpr, loadD_cprs, List.take_of_length_le, hend, pc_undo_Pop]; simp [*, hend, pc_undone])
            | (with_reducible refine And.intro ?_ ?_; focus first | omega | decide)
            | (with_reducible refine split_ite (fun hp => ?_) (fun hp => ?_) <;> (try simp at hp) <;> simp [*, hend, pc_undone])
            | (with_reducible refine split_ite1 (fun hp => ?_) (fun hp => ?_) <;> (try simp at hp) <;> simp [*, hend, pc_undone])
            | (refine split_cond (by simp) (fun hp => ?_) (fun hp => ?_) <;> simp at hp <;> simp [*, hend, pc_undone])
            | (refine split_ops (by simp) (fun hp => ?_) (fun hp => ?_) <;> simp at hp <;> simp [*, hend, pc_undone])
            | (refine split_opsD (by simp) (fun hp => ?_) (fun hp => ?_) <;> simp at hp <;> simp [*, hend, pc_undone])
            | (refine split_pick (by simp) (fun hp => ?_) (fun hp => ?_) <;> simp at hp <;> simp [*, hend, pc_undone])
            | omega
            | decide
            | (simp [*, hend, pc_undone]))
          all_goals trace_state
  · simp [X_typebarlaw13_UndoRow, pc_undone, hbig, hb]

end Go.Proofs.Ytngbfjnkfomcnaa
