/- What the functions of layer 14 compute: two signs changed about. -/
import Derived.Test.YtcaglmjfphjpfaaGreatShapeA
import Derived.Test.YtcaglmjfphjpfaaGreatTextB
namespace Go.Proofs.YtcaglmjfphjpfaaGreat
open Go E
set_option linter.unusedSimpArgs false
set_option linter.unusedVariables false

def swapL (l : List Int) (k : Nat) : List Int := (l.set (k - 1) (l.getD k 0)).set k (l.getD (k - 1) 0)

def swapAt (g : Gap) : Nat := if g.B.length = 0 then g.A.length - 1 else g.A.length

def gSwap (g : Gap) : Gap × Int :=
  if gapIs g = false then (⟨[], []⟩, 1) else if g.A.length = 0 ∨ g.A.length + g.B.length < 2 then (⟨[], []⟩, 7) else
    (gapSplit (swapL (g.A ++ g.B) (swapAt g)) (swapAt g + 1), 0)

theorem oc_gap_Text (n : Nat) (g : Gap) (hA : g.A.length < 2000000) (hB : g.B.length < 2000000) : (W (n + 1)).oc 39 [gD g] = some (.ref 1 0 (g.A.length + g.B.length) 1 (g.A.length + g.B.length) true, [⟨[rn g.A, rn g.B], 0, true⟩, ⟨cells runeC (g.A ++ g.B), 0, false⟩]) := by
  apply owns c_gap_Text
  simp [X_gap_Text]
  repeat' (first
    | simp (disch := omega) only [wrap_i64, wrap_i32]
    | (simp (disch := first | omega | assumption | (simp only [i64, i32]; omega) | (simp <;> omega) | fail) only [loadD_cpr, loadD_cprs, List.take_of_length_le]; simp [*])
    | (with_reducible refine And.intro ?_ ?_; focus first | omega | decide)
    | (with_reducible refine split_ite (fun hp => ?_) (fun hp => ?_) <;> (try simp at hp) <;> simp [*])
    | (with_reducible refine split_ite1 (fun hp => ?_) (fun hp => ?_) <;> (try simp at hp) <;> simp [*])
    | (refine split_cond (by simp) (fun hp => ?_) (fun hp => ?_) <;> simp at hp <;> simp [*])
    | (refine split_ops (by simp) (fun hp => ?_) (fun hp => ?_) <;> simp at hp <;> simp [*])
    | (refine split_opsD (by simp) (fun hp => ?_) (fun hp => ?_) <;> simp at hp <;> simp [*])
    | (refine split_pick (by simp) (fun hp => ?_) (fun hp => ?_) <;> simp at hp <;> simp [*])
    | omega
    | decide
    | (simp [*]))

theorem swapL_length (l : List Int) (k : Nat) : (swapL l k).length = l.length := by simp [swapL]

theorem swapL_all {l : List Int} {k : Nat} (hk : k < l.length) (h : allR l = true) : allR (swapL l k) = true := by
  simp only [allR, List.all_eq_true] at *
  intro x hx
  simp only [swapL] at hx
  rcases List.mem_or_eq_of_mem_set hx with hx | rfl
  · rcases List.mem_or_eq_of_mem_set hx with hx | rfl
    · exact h x hx
    · rw [getD_at hk]; exact h _ (List.getElem_mem hk)
  · rw [getD_at (by omega)]; exact h _ (List.getElem_mem _)

@[simp] theorem pc_shape_Swap (n : Nat) (g : Gap) (hA : g.A.length < 2000000) (hB : g.B.length < 2000000) : (W (n + 6)).pc 48 [gD g] = some (.tup [gD (gSwap g).1, eD (gSwap g).2]) := by
  apply runsM c_shape_Swap
  have hm1 : modes 48 39 = 1 := id rfl
  have hm2 : modes 48 32 = 0 := id rfl
  have hm3 : modes 48 74 = 0 := id rfl
  rcases gapIs_or g with hg | ⟨hg, hn⟩
  · simp [X_shape_Swap, hm1, hm2, hm3, hg, hA, hB, gSwap]
    rfl
  obtain ⟨_, g2, g3⟩ := gapIs_len hg
  by_cases h0 : g.A.length = 0
  · have h0' : g.A = [] := List.eq_nil_of_length_eq_zero h0
    have hi : (W (n + 5)).pc 32 [.agg [rn [], rn g.B]] = some (.bool true) := by
      have h := pc_gap_Is (n + 1) g hA hB
      have e : gD g = .agg [rn [], rn g.B] := by rw [← h0']
      rw [hg, e] at h
      exact h
    simp [X_shape_Swap, hm1, hm2, hm3, hg, hB, gSwap, h0, h0', hi]
    all_goals first | rfl | trace_state
  by_cases h2 : g.A.length + g.B.length < 2
  · have h0' : ¬ g.A = [] := by intro h; rw [h] at h0; simp at h0
    simp [X_shape_Swap, hm1, hm2, hm3, hg, hA, hB, gSwap, h0, h2]
    repeat' (first
      | simp (disch := omega) only [wrap_i64, wrap_i32]
      | (simp (disch := first | omega | assumption | (simp only [i64, i32]; omega) | (simp <;> omega) | fail) only [loadD_cpr, loadD_cprs, List.take_of_length_le]; simp [*])
      | (with_reducible refine And.intro ?_ ?_; focus first | omega | decide)
      | (with_reducible refine split_ite (fun hp => ?_) (fun hp => ?_) <;> (try simp at hp) <;> simp [*])
      | (with_reducible refine split_ite1 (fun hp => ?_) (fun hp => ?_) <;> (try simp at hp) <;> simp [*])
      | (refine split_cond (by simp) (fun hp => ?_) (fun hp => ?_) <;> simp at hp <;> simp [*])
      | (refine split_ops (by simp) (fun hp => ?_) (fun hp => ?_) <;> simp at hp <;> simp [*])
      | (refine split_opsD (by simp) (fun hp => ?_) (fun hp => ?_) <;> simp at hp <;> simp [*])
      | (refine split_pick (by simp) (fun hp => ?_) (fun hp => ?_) <;> simp at hp <;> simp [*])
      | omega
      | decide
      | (simp [*]))
    all_goals first | rfl | trace_state
  have h0' : ¬ g.A = [] := by intro h; rw [h] at h0; simp at h0
  obtain ⟨k, hk⟩ : ∃ k, k = swapAt g := ⟨_, rfl⟩
  have hk1 : k < g.A.length + g.B.length ∧ 0 < k := by rw [hk, swapAt]; split <;> omega
  have e : gSwap g = (gapSplit (swapL (g.A ++ g.B) k) (k + 1), 0) := by
    rw [gSwap, if_neg (by simp [hg]), if_neg (by omega), hk]
  have hl : (g.A ++ g.B).length = g.A.length + g.B.length := by simp
  have hof : gapOf (swapL (g.A ++ g.B) k) ((k : Int) + 1) = (gapSplit (swapL (g.A ++ g.B) k) (k + 1), 0) := by
    have ha := swapL_all (l := g.A ++ g.B) (k := k) (by omega) (by simp [g2, g3])
    have hs := swapL_length (g.A ++ g.B) k
    rw [gapOf, if_neg (by rw [ha]; simp; omega), if_neg (by omega)]
    congr 2
  have e1 : ((k : Int) - 1).toNat = k - 1 := by omega
  have e2 : k - 1 < g.A.length + g.B.length := by omega
  have hget1 : ((cells runeC g.A ++ cells runeC g.B)[k]?) = some (.int .i32 ((g.A ++ g.B).getD k 0)) := by
    rw [← cells_append, getD_at (by omega)]
    have := cells_at (E := runeC) (l := g.A ++ g.B) (k := k) (by omega)
    rw [← cells_drop1 rfl] at this
    have h3 : (cells runeC (g.A ++ g.B))[k]? = ((cells runeC (g.A ++ g.B)).drop k)[0]? := by rw [List.getElem?_drop]; rfl
    rw [h3, this]; rfl
  have hget2 : ((cells runeC g.A ++ cells runeC g.B)[k - 1]?) = some (.int .i32 ((g.A ++ g.B).getD (k - 1) 0)) := by
    rw [← cells_append, getD_at (by omega)]
    have := cells_at (E := runeC) (l := g.A ++ g.B) (k := k - 1) (by omega)
    rw [← cells_drop1 rfl] at this
    have h3 : (cells runeC (g.A ++ g.B))[k - 1]? = ((cells runeC (g.A ++ g.B)).drop (k - 1))[0]? := by rw [List.getElem?_drop]; rfl
    rw [h3, this]; rfl
  generalize hx1 : (g.A ++ g.B).getD k 0 = x1 at *
  generalize hx2 : (g.A ++ g.B).getD (k - 1) 0 = x2 at *
  have hput : putAt (putAt (cells runeC g.A ++ cells runeC g.B) (k - 1) [.int .i32 x1]) k [.int .i32 x2] = cells runeC (swapL (g.A ++ g.B) k) := by
    rw [← cells_append, putAt_rune _ _ _ (by omega), putAt_rune _ _ _ (by rw [List.length_set]; omega), swapL, hx1, hx2]
  have hput2 : (putAt (cells runeC g.A ++ cells runeC g.B) (k - 1) [.int .i32 x1]).length = g.A.length + g.B.length := by
    rw [← cells_append, putAt_rune _ _ _ (by omega)]; simp
  have hput3 := swapL_length (g.A ++ g.B) k
  rw [hl] at hput3
  rw [e]
  have hIs : (W (n + 5)).pc 32 [.agg [rn g.A, rn g.B]] = some (.bool true) := by
    have := pc_gap_Is (n + 1) g hA hB
    rwa [hg] at this
  have hText : (W (n + 5)).oc 39 [.agg [rn g.A, rn g.B]] = some (.ref 1 0 (g.A.length + g.B.length) 1 (g.A.length + g.B.length) true, [⟨[rn g.A, rn g.B], 0, true⟩, ⟨cells runeC g.A ++ cells runeC g.B, 0, false⟩]) := by
    have := oc_gap_Text (n + 4) g hA hB
    rwa [cells_append] at this
  have hOf : (W (n + 5)).pc 74 [rn (swapL (g.A ++ g.B) k), .int .i64 ((k : Int) + 1)] = some (.tup [gD (gapSplit (swapL (g.A ++ g.B) k) (k + 1)), eD 0]) := by
    have := pc_gap_Of (n + 1) (swapL (g.A ++ g.B) k) ((k : Int) + 1) (by omega)
    rwa [hof] at this
  have htake : List.take (g.A.length + g.B.length) (cells runeC (swapL (g.A ++ g.B) k)) = cells runeC (swapL (g.A ++ g.B) k) := List.take_of_length_le (by simp; omega)
  have hrow : D.arr (g.A.length + g.B.length) false (cells runeC (swapL (g.A ++ g.B) k)) = rn (swapL (g.A ++ g.B) k) := row_is (by omega) rfl
  by_cases hB0 : g.B.length = 0
  · have hka : k = g.A.length - 1 := by rw [hk, swapAt, if_pos hB0]
    have hB1 : g.B = [] := List.eq_nil_of_length_eq_zero hB0
    have hkk := Keep.mk hk
    clear hk
    have e5 : ((g.A.length : Int) - 1).toNat = k := by omega
    have e6 : ((g.A.length : Int) - 1 - 1).toNat = k - 1 := by omega
    have e8 : k < g.A.length := by omega
    have e9 : k - 1 < g.A.length := by omega
    have hkI : (k : Int) + 1 = (g.A.length : Int) := by omega
    have h2' : 2 ≤ (g.A.length : Int) := by omega
    have eg : gD g = .agg [rn g.A, rn []] := by rw [← hB1]
    rw [hkI] at hOf hof
    simp only [hB1, List.append_nil, List.length_nil, Nat.add_zero, cells_nil] at hof hIs hText hOf hget1 hget2 hput hput2 htake hrow hput3 ⊢
    clear hkI hka hk1
    obtain ⟨p1, q1⟩ := List.getElem?_eq_some_iff.1 hget1
    obtain ⟨p2, q2⟩ := List.getElem?_eq_some_iff.1 hget2
    have hsw : (g.A.set (k - 1) x1).set k x2 = swapL g.A k := by
      have h1 : g.A.getD k 0 = x1 := by rw [← hx1, hB1, List.append_nil]
      have h2 : g.A.getD (k - 1) 0 = x2 := by rw [← hx2, hB1, List.append_nil]
      rw [swapL, h1, h2]
    have htake2 : List.take g.A.length (swapL g.A k) = swapL g.A k := List.take_of_length_le (by rw [swapL_length]; omega)
    rw [eg]
    simp [X_shape_Swap, hm1, hm2, hm3, h0', hB1, hIs, hText, hOf]
    repeat' (first
      | simp (disch := omega) only [wrap_i64, wrap_i32]
      | (simp (disch := first | omega | assumption | (simp only [i64, i32]; omega) | (simp <;> omega) | fail) only [loadD_cpr, loadD_cprs, List.take_of_length_le]; simp [*, e1])
      | (with_reducible refine And.intro ?_ ?_; focus first | omega | decide)
      | (with_reducible refine split_ite (fun hp => ?_) (fun hp => ?_) <;> (try simp at hp) <;> simp [*, e1])
      | (with_reducible refine split_ite1 (fun hp => ?_) (fun hp => ?_) <;> (try simp at hp) <;> simp [*, e1])
      | (refine split_cond (by simp) (fun hp => ?_) (fun hp => ?_) <;> simp at hp <;> simp [*, e1])
      | (refine split_ops (by simp) (fun hp => ?_) (fun hp => ?_) <;> simp at hp <;> simp [*, e1])
      | (refine split_opsD (by simp) (fun hp => ?_) (fun hp => ?_) <;> simp at hp <;> simp [*, e1])
      | (refine split_pick (by simp) (fun hp => ?_) (fun hp => ?_) <;> simp at hp <;> simp [*, e1])
      | omega
      | decide
      | (simp [*, e1]))
  · have hka : g.A.length = k := by rw [hk, swapAt, if_neg hB0]
    have hB1 : ¬ g.B = [] := by intro h; rw [h] at hB0; simp at hB0
    have h2' : ¬ ((g.A.length : Int) + (g.B.length : Int) < 2) := by omega
    have hkk := Keep.mk hk
    clear hk
    have htake2 : List.take (k + g.B.length) (swapL (g.A ++ g.B) k) = swapL (g.A ++ g.B) k := List.take_of_length_le (by omega)
    have hrow2 : D.arr (k + g.B.length) false (cells runeC (swapL (g.A ++ g.B) k)) = rn (swapL (g.A ++ g.B) k) := row_is (by omega) rfl
    simp [X_shape_Swap, hm1, hm2, hm3, h0', hB1, hIs, hText, hOf]
    repeat' (first
      | simp (disch := omega) only [wrap_i64, wrap_i32]
      | (simp (disch := first | omega | assumption | (simp only [i64, i32]; omega) | (simp <;> omega) | fail) only [loadD_cpr, loadD_cprs, List.take_of_length_le]; simp [*, e1])
      | (with_reducible refine And.intro ?_ ?_; focus first | omega | decide)
      | (with_reducible refine split_ite (fun hp => ?_) (fun hp => ?_) <;> (try simp at hp) <;> simp [*, e1])
      | (with_reducible refine split_ite1 (fun hp => ?_) (fun hp => ?_) <;> (try simp at hp) <;> simp [*, e1])
      | (refine split_cond (by simp) (fun hp => ?_) (fun hp => ?_) <;> simp at hp <;> simp [*, e1])
      | (refine split_ops (by simp) (fun hp => ?_) (fun hp => ?_) <;> simp at hp <;> simp [*, e1])
      | (refine split_opsD (by simp) (fun hp => ?_) (fun hp => ?_) <;> simp at hp <;> simp [*, e1])
      | (refine split_pick (by simp) (fun hp => ?_) (fun hp => ?_) <;> simp at hp <;> simp [*, e1])
      | omega
      | decide
      | (simp [*, e1]))

@[simp] theorem pc_ref14_Swap (n : Nat) (g : Gap) (hA : g.A.length < 2000000) (hB : g.B.length < 2000000) : (W (n + 6)).pc 26 [gD g] = some (.tup [gD (gSwap g).1, eD (gSwap g).2]) := by
  apply runsM c_typebarref14_Swap
  have hm1 : modes 26 50 = 1 := id rfl
  have hm2 : modes 26 35 = 0 := id rfl
  rcases gapIs_or g with hg | ⟨hg, hn⟩
  · simp [X_typebarref14_Swap, hm1, hm2, hg, hA, hB, gSwap]
    rfl
  obtain ⟨_, g2, g3⟩ := gapIs_len hg
  by_cases h0 : g.A.length = 0
  · have h0' : g.A = [] := List.eq_nil_of_length_eq_zero h0
    have hi : (W (n + 5)).pc 35 [.agg [rn [], rn g.B]] = some (.bool true) := by
      have h := pc_ref10_Is (n + 2) g hA hB
      have e : gD g = .agg [rn [], rn g.B] := by rw [← h0']
      rw [hg, e] at h
      exact h
    have hTe : (W (n + 5)).oc 50 [.agg [rn [], rn g.B]] = some (accS runeC 1 ([] ++ g.B), ⟨[rn [], rn g.B], 0, true⟩ :: accH runeC ([] ++ g.B)) := by
      have h := oc_ref10_Text (n + 3) g hA hB
      have e : gD g = .agg [rn [], rn g.B] := by rw [← h0']
      rw [e, h0'] at h
      exact h
    simp [X_typebarref14_Swap, hm1, hm2, hg, hB, gSwap, h0, h0', hi, hTe]
    all_goals first | rfl | trace_state
  by_cases h2 : g.A.length + g.B.length < 2
  · have h0' : ¬ g.A = [] := by intro h; rw [h] at h0; simp at h0
    have h2I : (g.A.length : Int) + (g.B.length : Int) < 2 := by omega
    have h2N : g.A.length + g.B.length < 2 := by omega
    simp [X_typebarref14_Swap, hm1, hm2, hg, hA, hB, gSwap, h0, h0', h2, h2I, oc_ref10_Text]
    repeat' (first
      | simp (disch := omega) only [wrap_i64, wrap_i32]
      | (simp (disch := first | omega | assumption | (simp only [i64, i32]; omega) | (simp <;> omega) | fail) only [loadD_cpr, loadD_cprs, List.take_of_length_le]; simp [*])
      | (with_reducible refine And.intro ?_ ?_; focus first | omega | decide)
      | (with_reducible refine split_ite (fun hp => ?_) (fun hp => ?_) <;> (try simp at hp) <;> simp [*])
      | (with_reducible refine split_ite1 (fun hp => ?_) (fun hp => ?_) <;> (try simp at hp) <;> simp [*])
      | (refine split_cond (by simp) (fun hp => ?_) (fun hp => ?_) <;> simp at hp <;> simp [*])
      | (refine split_ops (by simp) (fun hp => ?_) (fun hp => ?_) <;> simp at hp <;> simp [*])
      | (refine split_opsD (by simp) (fun hp => ?_) (fun hp => ?_) <;> simp at hp <;> simp [*])
      | (refine split_pick (by simp) (fun hp => ?_) (fun hp => ?_) <;> simp at hp <;> simp [*])
      | omega
      | decide
      | (simp [*]))
    all_goals first | rfl | trace_state
  have h0' : ¬ g.A = [] := by intro h; rw [h] at h0; simp at h0
  obtain ⟨k, hk⟩ : ∃ k, k = swapAt g := ⟨_, rfl⟩
  have hk1 : k < g.A.length + g.B.length ∧ 0 < k := by rw [hk, swapAt]; split <;> omega
  have e : gSwap g = (gapSplit (swapL (g.A ++ g.B) k) (k + 1), 0) := by
    rw [gSwap, if_neg (by simp [hg]), if_neg (by omega), hk]
  have hl : (g.A ++ g.B).length = g.A.length + g.B.length := by simp
  have hof : gapOf (swapL (g.A ++ g.B) k) ((k : Int) + 1) = (gapSplit (swapL (g.A ++ g.B) k) (k + 1), 0) := by
    have ha := swapL_all (l := g.A ++ g.B) (k := k) (by omega) (by simp [g2, g3])
    have hs := swapL_length (g.A ++ g.B) k
    rw [gapOf, if_neg (by rw [ha]; simp; omega), if_neg (by omega)]
    congr 2
  have e1 : ((k : Int) - 1).toNat = k - 1 := by omega
  have e2 : k - 1 < g.A.length + g.B.length := by omega
  have hget1 : ((cells runeC g.A ++ cells runeC g.B)[k]?) = some (.int .i32 ((g.A ++ g.B).getD k 0)) := by
    rw [← cells_append, getD_at (by omega)]
    have := cells_at (E := runeC) (l := g.A ++ g.B) (k := k) (by omega)
    rw [← cells_drop1 rfl] at this
    have h3 : (cells runeC (g.A ++ g.B))[k]? = ((cells runeC (g.A ++ g.B)).drop k)[0]? := by rw [List.getElem?_drop]; rfl
    rw [h3, this]; rfl
  have hget2 : ((cells runeC g.A ++ cells runeC g.B)[k - 1]?) = some (.int .i32 ((g.A ++ g.B).getD (k - 1) 0)) := by
    rw [← cells_append, getD_at (by omega)]
    have := cells_at (E := runeC) (l := g.A ++ g.B) (k := k - 1) (by omega)
    rw [← cells_drop1 rfl] at this
    have h3 : (cells runeC (g.A ++ g.B))[k - 1]? = ((cells runeC (g.A ++ g.B)).drop (k - 1))[0]? := by rw [List.getElem?_drop]; rfl
    rw [h3, this]; rfl
  generalize hx1 : (g.A ++ g.B).getD k 0 = x1 at *
  generalize hx2 : (g.A ++ g.B).getD (k - 1) 0 = x2 at *
  have hput : putAt (putAt (cells runeC g.A ++ cells runeC g.B) (k - 1) [.int .i32 x1]) k [.int .i32 x2] = cells runeC (swapL (g.A ++ g.B) k) := by
    rw [← cells_append, putAt_rune _ _ _ (by omega), putAt_rune _ _ _ (by rw [List.length_set]; omega), swapL, hx1, hx2]
  have hput2 : (putAt (cells runeC g.A ++ cells runeC g.B) (k - 1) [.int .i32 x1]).length = g.A.length + g.B.length := by
    rw [← cells_append, putAt_rune _ _ _ (by omega)]; simp
  have hput3 := swapL_length (g.A ++ g.B) k
  rw [hl] at hput3
  have hkn : k + 1 ≤ g.A.length + g.B.length := by omega
  rw [e]
  have hIs : (W (n + 5)).pc 35 [.agg [rn g.A, rn g.B]] = some (.bool true) := by
    have := pc_ref10_Is (n + 2) g hA hB
    rwa [hg] at this
  have hne : ¬ (g.A ++ g.B) = [] := by intro h; rw [h] at hl; simp at hl; omega
  have hText : (W (n + 5)).oc 50 [.agg [rn g.A, rn g.B]] = some (.ref 1 0 (g.A.length + g.B.length) 1 (g.A.length + g.B.length) false, [⟨[rn g.A, rn g.B], 0, true⟩, ⟨cells runeC g.A ++ cells runeC g.B, 0, false⟩]) := by
    have := oc_ref10_Text (n + 3) g hA hB
    rw [accS, if_neg hne, accH, if_neg hne, hl, cells_append, runeC_sz, Nat.mul_one] at this
    exact this
  have htake : List.take (g.A.length + g.B.length) (cells runeC (swapL (g.A ++ g.B) k)) = cells runeC (swapL (g.A ++ g.B) k) := List.take_of_length_le (by simp; omega)
  have hrow : D.arr (g.A.length + g.B.length) false (cells runeC (swapL (g.A ++ g.B) k)) = rn (swapL (g.A ++ g.B) k) := row_is (by omega) rfl
  by_cases hB0 : g.B.length = 0
  · have hka : k = g.A.length - 1 := by rw [hk, swapAt, if_pos hB0]
    have hB1 : g.B = [] := List.eq_nil_of_length_eq_zero hB0
    have hkk := Keep.mk hk
    clear hk
    have e5 : ((g.A.length : Int) - 1).toNat = k := by omega
    have e6 : ((g.A.length : Int) - 1 - 1).toNat = k - 1 := by omega
    have e8 : k < g.A.length := by omega
    have e9 : k - 1 < g.A.length := by omega
    have hkI : (k : Int) + 1 = (g.A.length : Int) := by omega
    have h2' : 2 ≤ (g.A.length : Int) := by omega
    have eg : gD g = .agg [rn g.A, rn []] := by rw [← hB1]
    rw [hkI] at hof
    simp only [hB1, List.append_nil, List.length_nil, Nat.add_zero, cells_nil] at hof hIs hText hget1 hget2 hput hput2 htake hrow hput3 ⊢
    clear hkI hka hk1
    obtain ⟨p1, q1⟩ := List.getElem?_eq_some_iff.1 hget1
    obtain ⟨p2, q2⟩ := List.getElem?_eq_some_iff.1 hget2
    have hsw : (g.A.set (k - 1) x1).set k x2 = swapL g.A k := by
      have h1 : g.A.getD k 0 = x1 := by rw [← hx1, hB1, List.append_nil]
      have h2 : g.A.getD (k - 1) 0 = x2 := by rw [← hx2, hB1, List.append_nil]
      rw [swapL, h1, h2]
    have htake2 : List.take g.A.length (swapL g.A k) = swapL g.A k := List.take_of_length_le (by rw [swapL_length]; omega)
    rw [eg]
    have hkk1 := Keep.mk (show k + 1 = g.A.length by have := hkk.out; simp only [swapAt, hB0, if_true] at this; omega)
    simp [X_typebarref14_Swap, hm1, hm2, h0', hB1, hIs, hText]
    repeat' (first
      | simp (disch := omega) only [wrap_i64, wrap_i32]
      | (simp (disch := first | omega | assumption | (simp only [i64, i32]; omega) | (simp <;> omega) | fail) only [loadD_cpr, loadD_cprs, List.take_of_length_le]; simp [*, e1])
      | (with_reducible refine And.intro ?_ ?_; focus first | omega | decide)
      | (with_reducible refine split_ite (fun hp => ?_) (fun hp => ?_) <;> (try simp at hp) <;> simp [*, e1])
      | (with_reducible refine split_ite1 (fun hp => ?_) (fun hp => ?_) <;> (try simp at hp) <;> simp [*, e1])
      | (refine split_cond (by simp) (fun hp => ?_) (fun hp => ?_) <;> simp at hp <;> simp [*, e1])
      | (refine split_ops (by simp) (fun hp => ?_) (fun hp => ?_) <;> simp at hp <;> simp [*, e1])
      | (refine split_opsD (by simp) (fun hp => ?_) (fun hp => ?_) <;> simp at hp <;> simp [*, e1])
      | (refine split_pick (by simp) (fun hp => ?_) (fun hp => ?_) <;> simp at hp <;> simp [*, e1])
      | omega
      | decide
      | (simp [*, e1]))
    simp only [gapSplit, hkk1.out, htake2, List.drop_of_length_le (show (swapL g.A k).length ≤ g.A.length by rw [swapL_length]; omega)]
    exact ⟨trivial, rfl⟩
  · have hka : g.A.length = k := by rw [hk, swapAt, if_neg hB0]
    have hB1 : ¬ g.B = [] := by intro h; rw [h] at hB0; simp at hB0
    have h2' : ¬ ((g.A.length : Int) + (g.B.length : Int) < 2) := by omega
    have hkk := Keep.mk hk
    clear hk
    have htake2 : List.take (k + g.B.length) (swapL (g.A ++ g.B) k) = swapL (g.A ++ g.B) k := List.take_of_length_le (by omega)
    have hrow2 : D.arr (k + g.B.length) false (cells runeC (swapL (g.A ++ g.B) k)) = rn (swapL (g.A ++ g.B) k) := row_is (by omega) rfl
    have hq1 : ((k : Int) = (k : Int) + (g.B.length : Int)) = False := by simp only [eq_iff_iff, iff_false]; omega
    have hq2 : ¬ ((g.A.length : Int) + (g.B.length : Int) < 2) := by omega
    have hq3 : 2 ≤ (k : Int) + (g.B.length : Int) := by omega
    simp [X_typebarref14_Swap, hm1, hm2, h0', hB1, hIs, hText, hq1]
    have hb0 := List.length_pos_iff.2 hB1
    obtain ⟨p1, q1⟩ := List.getElem?_eq_some_iff.1 hget1
    obtain ⟨p2, q2⟩ := List.getElem?_eq_some_iff.1 hget2
    have hb1 : (1 : Int) ≤ (g.B.length : Int) := by omega
    have hb4 : k + 1 + (k + g.B.length - (k + 1)) = k + g.B.length := by omega
    repeat' (first
      | simp (disch := omega) only [wrap_i64, wrap_i32]
      | (simp (disch := first | omega | assumption | (simp only [i64, i32]; omega) | (simp <;> omega) | fail) only [loadD_cpr, loadD_cprs, List.take_of_length_le]; simp [*, e1, hq1])
      | (with_reducible refine And.intro ?_ ?_; focus first | omega | decide)
      | (with_reducible refine split_ite (fun hp => ?_) (fun hp => ?_) <;> (try simp at hp) <;> simp [*, e1, hq1])
      | (with_reducible refine split_ite1 (fun hp => ?_) (fun hp => ?_) <;> (try simp at hp) <;> simp [*, e1, hq1])
      | (refine split_cond (by simp) (fun hp => ?_) (fun hp => ?_) <;> simp at hp <;> simp [*, e1, hq1])
      | (refine split_ops (by simp) (fun hp => ?_) (fun hp => ?_) <;> simp at hp <;> simp [*, e1, hq1])
      | (refine split_opsD (by simp) (fun hp => ?_) (fun hp => ?_) <;> simp at hp <;> simp [*, e1, hq1])
      | (refine split_pick (by simp) (fun hp => ?_) (fun hp => ?_) <;> simp at hp <;> simp [*, e1, hq1])
      | omega
      | decide
      | (simp [*, e1, hq1]))
    exact ⟨row_is (by simp [gapSplit] <;> omega) rfl, row_is (by simp [gapSplit] <;> omega) rfl⟩

end Go.Proofs.YtcaglmjfphjpfaaGreat
