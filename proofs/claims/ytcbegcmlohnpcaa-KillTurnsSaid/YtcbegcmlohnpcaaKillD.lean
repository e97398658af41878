/- What the laws of layer 12 compute. -/
import Derived.Test.YtcbegcmlohnpcaaKillC
import Derived.Test.YtcbegcmlohnpcaaGapC
namespace Go.Proofs.Ytcbegcmlohnpcaa
open Go E
set_option linter.unusedSimpArgs false
set_option linter.unusedVariables false

theorem killBig_small {L : List (List Int)} {l : List Int} (h : killBig L l = false) : small L ∧ l.length ≤ 1000 ∧ L.length ≤ 100 ∧ ∀ x ∈ L, x.length ≤ 1000 := by
  simp only [killBig, Bool.or_eq_false_iff, decide_eq_false_iff_not, List.any_eq_false, decide_eq_true_eq] at h
  refine ⟨⟨by omega, fun x hx => ?_⟩, by omega, by omega, fun x hx => ?_⟩
  · have := h.2 x hx; omega
  · have := h.2 x hx; omega
theorem mem_getD {L : List (List Int)} (i : Nat) : L.getD i [] ∈ L ∨ L.getD i [] = [] := by
  rw [List.getD_eq_getElem?_getD]
  rcases Nat.lt_or_ge i L.length with h | h
  · left; rw [List.getElem?_eq_getElem h]; exact List.getElem_mem h
  · right; rw [List.getElem?_eq_none h]; rfl
theorem getD_len {L : List (List Int)} {m : Nat} (h : ∀ x ∈ L, x.length ≤ m) (i : Nat) : (L.getD i []).length ≤ m := by
  rcases mem_getD (L := L) i with h1 | h1
  · exact h _ h1
  · rw [h1]; simp
theorem kGet_len {L : List (List Int)} {m : Nat} (h : ∀ x ∈ L, x.length ≤ m) (t : Int) : (kGet L t).1.length ≤ m := by
  simp only [kGet]
  split
  · simp
  split
  · simp
  · exact getD_len h _
theorem kAdd_len {L : List (List Int)} {l : List Int} (how : Int) (h : ∀ x ∈ L, x.length ≤ 1000) (hl : l.length ≤ 1000) (hL : L.length ≤ 100) : (kAdd L l how).length ≤ 101 ∧ ∀ x ∈ kAdd L l how, x.length ≤ 2000 := by
  have hg := getD_len h (L.length - 1)
  simp only [kAdd]
  split
  · exact ⟨by omega, fun x hx => by have := h x hx; omega⟩
  split
  · refine ⟨by simp; omega, fun x hx => ?_⟩
    rcases List.mem_append.1 hx with hx | hx
    · have := h x (List.mem_of_mem_drop hx); omega
    · simp at hx; subst hx; omega
  · refine ⟨by simp; omega, fun x hx => ?_⟩
    rcases List.mem_append.1 hx with hx | hx
    · have := h x (List.mem_of_mem_take hx); omega
    · simp only [List.mem_singleton] at hx; subst hx; split <;> rw [List.length_append] <;> omega
theorem kAdd_small {L : List (List Int)} {l : List Int} (how : Int) (h : ∀ x ∈ L, x.length ≤ 1000) (hl : l.length ≤ 1000) (hL : L.length ≤ 100) : small (kAdd L l how) := by
  obtain ⟨h1, h2⟩ := kAdd_len how h hl hL
  exact ⟨by omega, fun x hx => by have := h2 x hx; omega⟩

theorem pc_KillAdds (n : Nat) (L : List (List Int)) (l : List Int) (how : Int) : (W (n + 10)).pc 6 [kD L, rn l, .int .i64 how] = some (.bool true) := by
  apply runs c_typebarlaw12_KillAdds
  cases hb : killBig L l
  · obtain ⟨hs, hl, hL, hx⟩ := killBig_small hb
    have hA := kAdd_small how hx hl hL
    simp [X_typebarlaw12_KillAdds, nilRR, pc_killBig, pc_killed, hb]
    repeat' (first
      | simp (disch := omega) only [wrap_i64]
      | (simp (disch := first | omega | assumption | (simp only [i64, i32]; omega) | (simp <;> omega) | fail) only [loadD_cpr, loadD_cprs, List.take_of_length_le, pc_kill_Add, pc_ref12_Add, pc_ref12_Same]; simp [*, nilRR, pc_killBig, pc_killed])
      | (with_reducible refine And.intro ?_ ?_; focus first | omega | decide)
      | (with_reducible refine split_ite (fun hp => ?_) (fun hp => ?_) <;> (try simp at hp) <;> simp [*, nilRR, pc_killBig, pc_killed])
      | (with_reducible refine split_ite1 (fun hp => ?_) (fun hp => ?_) <;> (try simp at hp) <;> simp [*, nilRR, pc_killBig, pc_killed])
      | (refine split_cond (by simp) (fun hp => ?_) (fun hp => ?_) <;> simp at hp <;> simp [*, nilRR, pc_killBig, pc_killed])
      | (refine split_ops (by simp) (fun hp => ?_) (fun hp => ?_) <;> simp at hp <;> simp [*, nilRR, pc_killBig, pc_killed])
      | (refine split_opsD (by simp) (fun hp => ?_) (fun hp => ?_) <;> simp at hp <;> simp [*, nilRR, pc_killBig, pc_killed])
      | (refine split_pick (by simp) (fun hp => ?_) (fun hp => ?_) <;> simp at hp <;> simp [*, nilRR, pc_killBig, pc_killed])
      | omega
      | decide)
  · simp [X_typebarlaw12_KillAdds, nilRR, pc_killBig, *]

theorem pc_KillGets (n : Nat) (L : List (List Int)) (t : Int) (ht : i64 t) : (W (n + 10)).pc 7 [kD L, .int .i64 t] = some (.bool true) := by
  apply runs c_typebarlaw12_KillGets
  cases hb : killBig L []
  · obtain ⟨hs, hl, hL, hx⟩ := killBig_small hb
    have hg := kGet_len hx t
    simp [X_typebarlaw12_KillGets, nilR, pc_killBig, pc_killed, hb]
    repeat' (first
      | simp (disch := omega) only [wrap_i64]
      | (simp (disch := first | omega | assumption | (simp only [i64, i32]; omega) | (simp <;> omega) | fail) only [loadD_cpr, loadD_cprs, List.take_of_length_le, pc_kill_Get, pc_ref12_Get, pc_ref01_Same]; simp [*, nilR, pc_killBig, pc_killed])
      | (with_reducible refine And.intro ?_ ?_; focus first | omega | decide)
      | (with_reducible refine split_ite (fun hp => ?_) (fun hp => ?_) <;> (try simp at hp) <;> simp [*, nilR, pc_killBig, pc_killed])
      | (with_reducible refine split_ite1 (fun hp => ?_) (fun hp => ?_) <;> (try simp at hp) <;> simp [*, nilR, pc_killBig, pc_killed])
      | (refine split_cond (by simp) (fun hp => ?_) (fun hp => ?_) <;> simp at hp <;> simp [*, nilR, pc_killBig, pc_killed])
      | (refine split_ops (by simp) (fun hp => ?_) (fun hp => ?_) <;> simp at hp <;> simp [*, nilR, pc_killBig, pc_killed])
      | (refine split_opsD (by simp) (fun hp => ?_) (fun hp => ?_) <;> simp at hp <;> simp [*, nilR, pc_killBig, pc_killed])
      | (refine split_pick (by simp) (fun hp => ?_) (fun hp => ?_) <;> simp at hp <;> simp [*, nilR, pc_killBig, pc_killed])
      | omega
      | decide)
  · simp [X_typebarlaw12_KillGets, nilR, pc_killBig, *]

theorem kGet_zero {L : List (List Int)} (hk : kIs L = true) (i : Nat) (hi : i < L.length) : kGet L (i : Int) = (L[L.length - 1 - i], 0) :=
  kGet_q hk (by omega) (Nat.mod_eq_of_lt hi).symm hi

theorem kIs_mk {L : List (List Int)} (h : L.length ≤ 8) (h2 : ∀ l ∈ L, kOne l = true) : kIs L = true := by
  simp only [kIs, Bool.and_eq_true, decide_eq_true_eq, List.all_eq_true]; exact ⟨h, h2⟩
theorem kOne_mk {l : List Int} (h : 0 < l.length) (h2 : l.length ≤ 200) (h3 : allR l = true) : kOne l = true := by
  simp [kOne, h, h2, h3]

/-- What is added: a new text, or one that is joined. -/
theorem kAdd_new {L : List (List Int)} {l : List Int} (how : Int) (hk : kIs L = true) (ho : kOne l = true) :
    (kAdd L l how = L.drop (L.length + 1 - 8) ++ [l] ∧ kIs (L.drop (L.length + 1 - 8) ++ [l]) = true) ∨
    ∃ x, how ≠ 0 ∧ 0 < L.length ∧ L.getD (L.length - 1) [] = x ∧ x.length + l.length ≤ 200 ∧ kOne x = true ∧ kAdd L l how = L.take (L.length - 1) ++ [if how < 0 then l ++ x else x ++ l] ∧ kIs (L.take (L.length - 1) ++ [if how < 0 then l ++ x else x ++ l]) = true := by
  obtain ⟨k1, k2⟩ := kIs_len hk
  obtain ⟨o1, o2, o3⟩ := kOne_len ho
  by_cases h : how = 0 ∨ L.length = 0 ∨ 200 < (L.getD (L.length - 1) []).length + l.length
  · left
    refine ⟨by rw [kAdd, if_neg (by simp [hk, ho]), if_pos h], kIs_mk (by simp; omega) fun x hx => ?_⟩
    rcases List.mem_append.1 hx with hx | hx
    · exact k2 x (List.mem_of_mem_drop hx)
    · rw [List.mem_singleton.1 hx]; exact ho
  · right
    have hm : L.getD (L.length - 1) [] = L[L.length - 1]'(by omega) := getD_at (by omega) _
    have hx := k2 _ (List.getElem_mem (show L.length - 1 < L.length by omega))
    obtain ⟨x1, x2, x3⟩ := kOne_len hx
    refine ⟨L[L.length - 1]'(by omega), by omega, by omega, hm, by rw [← hm]; omega, hx, by rw [kAdd, if_neg (by simp [hk, ho]), if_neg h, hm], kIs_mk (by simp; omega) fun y hy => ?_⟩
    rw [hm] at h
    rcases List.mem_append.1 hy with hy | hy
    · exact k2 y (List.mem_of_mem_take hy)
    · rw [List.mem_singleton.1 hy]
      split
      · exact kOne_mk (by rw [List.length_append]; omega) (by rw [List.length_append]; omega) (by simp [o3, x3])
      · exact kOne_mk (by rw [List.length_append]; omega) (by rw [List.length_append]; omega) (by simp [o3, x3])

theorem kGet_last {L : List (List Int)} {x : List Int} (hk : kIs (L ++ [x]) = true) : kGet (L ++ [x]) 0 = (x, 0) := by
  have := kGet_zero hk 0 (by simp)
  simpa using this
theorem kGet_none : kGet [] 0 = ([], 6) := by decide

theorem nil_or_snoc {α : Type} (L : List α) : L = [] ∨ ∃ M x, Keep (L = M ++ [x]) := by
  rcases List.eq_nil_or_concat L with h | ⟨M, x, h⟩
  · exact .inl h
  · exact .inr ⟨M, x, ⟨by rw [h, List.concat_eq_append]⟩⟩

theorem pc_KillNewest (n : Nat) (L : List (List Int)) (l : List Int) (how : Int) : (W (n + 10)).pc 8 [kD L, rn l, .int .i64 how] = some (.bool true) := by
  apply runs c_typebarlaw12_KillNewest
  have i0 : i64 0 := by simp only [i64]; omega
  have i1 : i64 1 := by simp only [i64]; omega
  cases hb : killBig L l
  · obtain ⟨hs, hl, hL, hx⟩ := killBig_small hb
    have hA := kAdd_small how hx hl hL
    have hA2 := (kAdd_len how hx hl hL).2
    cases hk : kIs L
    · simp [X_typebarlaw12_KillNewest, nilR, pc_killBig, pc_killed, hb, hk, hs]
    cases ho : kOne l
    · have e : kAdd L l how = L := by simp [kAdd, ho]
      have hg := (kIs_len hk).1
      simp [X_typebarlaw12_KillNewest, nilR, nilRR, pc_killBig, pc_killed, hb, hk, hs, ho, hl, e]
      repeat' (first
        | simp (disch := omega) only [wrap_i64]
        | (simp (disch := first | omega | assumption | (simp only [i64, i32]; omega) | (simp <;> omega) | fail) only [loadD_cpr, loadD_cprs, List.take_of_length_le, pc_kill_Get, pc_ref01_Same, pc_ref12_One, pc_kill_Is, pc_ref12_Same, pc_kill_Add]; simp [*, nilR, pc_killBig, pc_killed])
        | (with_reducible refine And.intro ?_ ?_; focus first | omega | decide)
        | (with_reducible refine split_ite (fun hp => ?_) (fun hp => ?_) <;> (try simp at hp) <;> simp [*, nilR, pc_killBig, pc_killed])
        | (with_reducible refine split_ite1 (fun hp => ?_) (fun hp => ?_) <;> (try simp at hp) <;> simp [*, nilR, pc_killBig, pc_killed])
        | (refine split_cond (by simp) (fun hp => ?_) (fun hp => ?_) <;> simp at hp <;> simp [*, nilR, pc_killBig, pc_killed])
        | (refine split_ops (by simp) (fun hp => ?_) (fun hp => ?_) <;> simp at hp <;> simp [*, nilR, pc_killBig, pc_killed])
        | (refine split_opsD (by simp) (fun hp => ?_) (fun hp => ?_) <;> simp at hp <;> simp [*, nilR, pc_killBig, pc_killed])
        | (refine split_pick (by simp) (fun hp => ?_) (fun hp => ?_) <;> simp at hp <;> simp [*, nilR, pc_killBig, pc_killed])
        | omega
        | decide)
    · obtain ⟨o1, o2, o3⟩ := kOne_len ho
      rcases kAdd_new how hk ho with ⟨e, ki⟩ | ⟨x, h0, hn, hm, hxl, hxo, e, ki⟩
      · have g1 := kGet_last ki
        have hm8 := (kIs_len ki).1
        have sm : small (L.drop (L.length + 1 - 8) ++ [l]) := by rw [← e]; exact hA
        simp only [e] at hA2
        rcases nil_or_snoc L with rfl | ⟨M, x, hLM⟩
        · simp only [List.drop_nil, List.nil_append] at e ki g1 hm8 sm
          simp [X_typebarlaw12_KillNewest, nilR, nilRR, pc_killBig, pc_killed, hb, hk, hs, ho, hl, e, ki, sm]
          repeat' (first
            | simp (disch := omega) only [wrap_i64]
            | (simp (disch := first | omega | assumption | (simp only [i64, i32]; omega) | (simp <;> omega) | fail) only [loadD_cpr, loadD_cprs, List.take_of_length_le, pc_kill_Get, pc_ref01_Same, pc_ref12_One, pc_kill_Is, pc_ref12_Same, pc_kill_Add]; simp [*, nilR, nilRR, kGet_none, pc_killBig, pc_killed])
            | (with_reducible refine And.intro ?_ ?_; focus first | omega | decide)
            | (with_reducible refine split_ite (fun hp => ?_) (fun hp => ?_) <;> (try simp at hp) <;> simp [*, nilR, nilRR, kGet_none, pc_killBig, pc_killed])
            | (with_reducible refine split_ite1 (fun hp => ?_) (fun hp => ?_) <;> (try simp at hp) <;> simp [*, nilR, nilRR, kGet_none, pc_killBig, pc_killed])
            | (refine split_cond (by simp) (fun hp => ?_) (fun hp => ?_) <;> simp at hp <;> simp [*, nilR, nilRR, kGet_none, pc_killBig, pc_killed])
            | (refine split_ops (by simp) (fun hp => ?_) (fun hp => ?_) <;> simp at hp <;> simp [*, nilR, nilRR, kGet_none, pc_killBig, pc_killed])
            | (refine split_opsD (by simp) (fun hp => ?_) (fun hp => ?_) <;> simp at hp <;> simp [*, nilR, nilRR, kGet_none, pc_killBig, pc_killed])
            | (refine split_pick (by simp) (fun hp => ?_) (fun hp => ?_) <;> simp at hp <;> simp [*, nilR, nilRR, kGet_none, pc_killBig, pc_killed])
            | omega
            | decide)
        · have g2 : kGet L 0 = (x, 0) := by rw [hLM.out]; exact kGet_last (by rw [← hLM.out]; exact hk)
          have g3 : kGet (L.drop (L.length + 1 - 8) ++ [l]) 1 = (x, 0) := by
            have h1 : L.length = M.length + 1 := by rw [hLM.out]; simp
            have h2 : ∀ k, k ≤ M.length → L.drop k = M.drop k ++ [x] := by
              intro k hk
              rw [hLM.out, List.drop_append_of_le_length hk]
            rw [h2 _ (by omega)] at ki ⊢
            have := kGet_zero ki 1 (by simp)
            simpa using this
          have hx1 : x.length ≤ 1000 := hx x (by rw [hLM.out]; simp)
          generalize L.drop (L.length + 1 - 8) ++ [l] = A at *
          simp [X_typebarlaw12_KillNewest, nilR, nilRR, pc_killBig, pc_killed, hb, hk, hs, ho, hl, e, ki, sm]
          repeat' (first
            | simp (disch := omega) only [wrap_i64]
            | (simp (disch := first | omega | assumption | (simp only [i64, i32]; omega) | (simp <;> omega) | fail) only [loadD_cpr, loadD_cprs, List.take_of_length_le, pc_kill_Get, pc_ref01_Same, pc_ref12_One, pc_kill_Is, pc_ref12_Same, pc_kill_Add]; simp [*, nilR, pc_killBig, pc_killed])
            | (with_reducible refine And.intro ?_ ?_; focus first | omega | decide)
            | (with_reducible refine split_ite (fun hp => ?_) (fun hp => ?_) <;> (try simp at hp) <;> simp [*, nilR, pc_killBig, pc_killed])
            | (with_reducible refine split_ite1 (fun hp => ?_) (fun hp => ?_) <;> (try simp at hp) <;> simp [*, nilR, pc_killBig, pc_killed])
            | (refine split_cond (by simp) (fun hp => ?_) (fun hp => ?_) <;> simp at hp <;> simp [*, nilR, pc_killBig, pc_killed])
            | (refine split_ops (by simp) (fun hp => ?_) (fun hp => ?_) <;> simp at hp <;> simp [*, nilR, pc_killBig, pc_killed])
            | (refine split_opsD (by simp) (fun hp => ?_) (fun hp => ?_) <;> simp at hp <;> simp [*, nilR, pc_killBig, pc_killed])
            | (refine split_pick (by simp) (fun hp => ?_) (fun hp => ?_) <;> simp at hp <;> simp [*, nilR, pc_killBig, pc_killed])
            | omega
            | decide)
          all_goals trace_state
      · have g1 := kGet_last ki
        have g2 : kGet L 0 = (x, 0) := by
          have := kGet_zero hk 0 hn
          rw [getD_at (by omega)] at hm
          simp only [Nat.sub_zero] at this
          rw [← hm]; exact this
        obtain ⟨x1, x2, x3⟩ := kOne_len hxo
        have hm8 := (kIs_len ki).1
        have hlen : (L.take (L.length - 1) ++ [if how < 0 then l ++ x else x ++ l]).length = L.length := by simp; omega
        generalize hL' : L.take (L.length - 1) ++ [if how < 0 then l ++ x else x ++ l] = A at *
        have hA : small A := by rw [← e]; exact hA
        by_cases hh : how < 0
        · simp only [hh, if_true] at g1
          simp [X_typebarlaw12_KillNewest, nilR, nilRR, pc_killBig, pc_killed, hb, hk, hs, ho, hl, e, ki]
          repeat' (first
            | simp (disch := omega) only [wrap_i64]
            | (simp (disch := first | omega | assumption | (simp only [i64, i32]; omega) | (simp <;> omega) | fail) only [loadD_cpr, loadD_cprs, List.take_of_length_le, pc_kill_Get, pc_ref01_Same, pc_ref12_One, pc_kill_Is, pc_ref12_Same, pc_kill_Add]; simp [*, nilR, pc_killBig, pc_killed])
            | (with_reducible refine And.intro ?_ ?_; focus first | omega | decide)
            | (with_reducible refine split_ite (fun hp => ?_) (fun hp => ?_) <;> (try simp at hp) <;> simp [*, nilR, pc_killBig, pc_killed])
            | (with_reducible refine split_ite1 (fun hp => ?_) (fun hp => ?_) <;> (try simp at hp) <;> simp [*, nilR, pc_killBig, pc_killed])
            | (refine split_cond (by simp) (fun hp => ?_) (fun hp => ?_) <;> simp at hp <;> simp [*, nilR, pc_killBig, pc_killed])
            | (refine split_ops (by simp) (fun hp => ?_) (fun hp => ?_) <;> simp at hp <;> simp [*, nilR, pc_killBig, pc_killed])
            | (refine split_opsD (by simp) (fun hp => ?_) (fun hp => ?_) <;> simp at hp <;> simp [*, nilR, pc_killBig, pc_killed])
            | (refine split_pick (by simp) (fun hp => ?_) (fun hp => ?_) <;> simp at hp <;> simp [*, nilR, pc_killBig, pc_killed])
            | omega
            | decide)
          all_goals trace_state
        · simp only [hh, if_false] at g1
          have hh2 : 0 ≤ how := by omega
          simp [X_typebarlaw12_KillNewest, nilR, nilRR, pc_killBig, pc_killed, hb, hk, hs, ho, hl, e, ki]
          repeat' (first
            | simp (disch := omega) only [wrap_i64]
            | (simp (disch := first | omega | assumption | (simp only [i64, i32]; omega) | (simp <;> omega) | fail) only [loadD_cpr, loadD_cprs, List.take_of_length_le, pc_kill_Get, pc_ref01_Same, pc_ref12_One, pc_kill_Is, pc_ref12_Same, pc_kill_Add]; simp [*, nilR, pc_killBig, pc_killed])
            | (with_reducible refine And.intro ?_ ?_; focus first | omega | decide)
            | (with_reducible refine split_ite (fun hp => ?_) (fun hp => ?_) <;> (try simp at hp) <;> simp [*, nilR, pc_killBig, pc_killed])
            | (with_reducible refine split_ite1 (fun hp => ?_) (fun hp => ?_) <;> (try simp at hp) <;> simp [*, nilR, pc_killBig, pc_killed])
            | (refine split_cond (by simp) (fun hp => ?_) (fun hp => ?_) <;> simp at hp <;> simp [*, nilR, pc_killBig, pc_killed])
            | (refine split_ops (by simp) (fun hp => ?_) (fun hp => ?_) <;> simp at hp <;> simp [*, nilR, pc_killBig, pc_killed])
            | (refine split_opsD (by simp) (fun hp => ?_) (fun hp => ?_) <;> simp at hp <;> simp [*, nilR, pc_killBig, pc_killed])
            | (refine split_pick (by simp) (fun hp => ?_) (fun hp => ?_) <;> simp at hp <;> simp [*, nilR, pc_killBig, pc_killed])
            | omega
            | decide)
          all_goals trace_state
  · simp [X_typebarlaw12_KillNewest, nilR, pc_killBig, pc_killed, *]

theorem pc_KillTurns (n : Nat) (L : List (List Int)) (t : Int) (ht : i64 t) : (W (n + 10)).pc 9 [kD L, .int .i64 t] = some (.bool true) := by
  apply runs c_typebarlaw12_KillTurns
  simp only [i64] at ht
  cases hb : killBig L []
  · obtain ⟨hs, hl, hL, hx⟩ := killBig_small hb
    by_cases h1 : t < 0
    · simp [X_typebarlaw12_KillTurns, nilR, pc_killBig, pc_killed, hb, h1]
    by_cases h2 : 1000 < t
    · simp [X_typebarlaw12_KillTurns, nilR, pc_killBig, pc_killed, hb, h1, h2]
    by_cases h3 : L.length = 0
    · simp [X_typebarlaw12_KillTurns, nilR, pc_killBig, pc_killed, hb, h1, h2, h3]
    cases hk : kIs L
    · simp [X_typebarlaw12_KillTurns, nilR, pc_killBig, pc_killed, hb, h1, h2, h3, hk, hs]
    obtain ⟨u, rfl⟩ := Int.eq_ofNat_of_zero_le (Int.not_lt.1 h1)
    obtain ⟨q, ek⟩ : ∃ q, Keep (q = u % L.length) := ⟨_, ⟨rfl⟩⟩
    have hq : q < L.length := by rw [ek.out]; exact Nat.mod_lt _ (by omega)
    have g1 : kGet L (u : Int) = (L[L.length - 1 - q], 0) := kGet_q hk h3 ek.out hq
    have g2 : kGet L ((u : Int) + (L.length : Int)) = (L[L.length - 1 - q], 0) := kGet_q (u := u + L.length) hk h3 (by simp [ek.out]) hq
    have g3 : kGet L ((L.length : Int) - 1 - (q : Int)) = (L[q], 0) := by
      have : ((L.length : Int) - 1 - (q : Int)) = ((L.length - 1 - q : Nat) : Int) := by omega
      rw [this, kGet_zero hk _ (by omega)]
      congr 2; omega
    have hm : (u : Int).tmod L.length = (q : Int) := by rw [tmod_nn, ek.out]
    have hm2 : (u : Int) % L.length = (q : Int) := by rw [ek.out]; rfl
    have h2' : u ≤ 1000 := by omega
    have l1 : L[L.length - 1 - q].length ≤ 1000 := hx _ (List.getElem_mem _)
    have l2 : L[q].length ≤ 1000 := hx _ (List.getElem_mem _)
    simp [X_typebarlaw12_KillTurns, nilR, pc_killBig, pc_killed, hb, h1, h2, h3, hk, hs]
    repeat' (first
      | simp (disch := omega) only [wrap_i64]
      | (simp (disch := first | omega | assumption | (simp only [i64, i32]; omega) | (simp <;> omega) | fail) only [loadD_cpr, loadD_cprs, List.take_of_length_le, pc_kill_Get, pc_ref01_Same]; simp [*, nilR, pc_killBig, pc_killed])
      | (with_reducible refine And.intro ?_ ?_; focus first | omega | decide)
      | (with_reducible refine split_ite (fun hp => ?_) (fun hp => ?_) <;> (try simp at hp) <;> simp [*, nilR, pc_killBig, pc_killed])
      | (with_reducible refine split_ite1 (fun hp => ?_) (fun hp => ?_) <;> (try simp at hp) <;> simp [*, nilR, pc_killBig, pc_killed])
      | (refine split_cond (by simp) (fun hp => ?_) (fun hp => ?_) <;> simp at hp <;> simp [*, nilR, pc_killBig, pc_killed])
      | (refine split_ops (by simp) (fun hp => ?_) (fun hp => ?_) <;> simp at hp <;> simp [*, nilR, pc_killBig, pc_killed])
      | (refine split_opsD (by simp) (fun hp => ?_) (fun hp => ?_) <;> simp at hp <;> simp [*, nilR, pc_killBig, pc_killed])
      | (refine split_pick (by simp) (fun hp => ?_) (fun hp => ?_) <;> simp at hp <;> simp [*, nilR, pc_killBig, pc_killed])
      | omega
      | decide)
    all_goals trace_state
  · simp [X_typebarlaw12_KillTurns, nilR, pc_killBig, pc_killed, *]

theorem ty_runes {d : Nat} {p : List D} (h : TyD Try.prog (d + 2) 33 p) : ∃ a, p = rrC.enc a ∧ True := by
  obtain ⟨b, rfl, _, _⟩ := ty_row (C := runeC) (Q := i32) (e := 21) (by kernel_rfl) (fun p hp => ty_rune (by kernel_rfl) hp) h
  exact ⟨b, rfl, trivial⟩
theorem arg_kills {x : D} (h : ArgD Try.prog 32 x) : ∃ L : List (List Int), x = kD L := by
  obtain ⟨ds, rfl, hl⟩ := arg_struct (ts := [30]) (by kernel_rfl) h
  obtain ⟨p, r, rfl, h1, hl⟩ := tyL_cons hl
  have := tyL_nil hl
  subst this
  obtain ⟨a, rfl, _, _⟩ := ty_row (C := rrC) (Q := fun _ => True) (e := 33) (by kernel_rfl) (fun p hp => ty_runes hp) h1
  exact ⟨a, rfl⟩

end Go.Proofs.Ytcbegcmlohnpcaa
