/- What the laws of layer 10 compute. -/
import Derived.Test.YtcbegcmlohnpcaaGapB
import Derived.Test.YtcbegcmlohnpcaaTyp
namespace Go.Proofs.Ytcbegcmlohnpcaa
open Go E
set_option linter.unusedSimpArgs false
set_option linter.unusedVariables false

theorem pc_gapped (n : Nat) : (W (n + 8)).pc 33 [] = some (.bool true) := by kernel_rfl

def gapBig (g : Gap) (l : List Int) : Bool := decide (1000 < g.A.length) || decide (1000 < g.B.length) || decide (1000 < l.length)
theorem pc_gapBig (n : Nat) (g : Gap) (l : List Int) : (W (n + 1)).pc 30 [gD g, rn l] = some (.bool (gapBig g l)) := by
  apply runs c_typebarlaw10_big
  simp [X_typebarlaw10_big, nilR, *]
  repeat' (first
    | simp (disch := omega) only [wrap_i64]
    | (simp (disch := first | omega | (simp <;> omega) | fail) only [loadD_cpr, loadD_cprs, List.take_of_length_le]; simp [*, nilR])
    | (with_reducible refine And.intro ?_ ?_; focus first | omega | decide)
    | (with_reducible refine split_ite (fun hp => ?_) (fun hp => ?_) <;> (try simp at hp) <;> simp [*, nilR])
    | (with_reducible refine split_ite1 (fun hp => ?_) (fun hp => ?_) <;> (try simp at hp) <;> simp [*, nilR])
    | (refine split_cond (by simp) (fun hp => ?_) (fun hp => ?_) <;> simp at hp <;> simp [*, nilR])
    | (refine split_ops (by simp) (fun hp => ?_) (fun hp => ?_) <;> simp at hp <;> simp [*, nilR])
    | (refine split_opsD (by simp) (fun hp => ?_) (fun hp => ?_) <;> simp at hp <;> simp [*, nilR])
    | (refine split_pick (by simp) (fun hp => ?_) (fun hp => ?_) <;> simp at hp <;> simp [*, nilR])
    | omega
    | decide)
  all_goals grind [gapBig]

theorem gapBig_len {g : Gap} {l : List Int} (h : gapBig g l = false) : g.A.length ≤ 1000 ∧ g.B.length ≤ 1000 ∧ l.length ≤ 1000 := by
  simp [gapBig] at h; omega

theorem pc_GapDoes (n : Nat) (g : Gap) (l : List Int) (k : Int) : (W (n + 10)).pc 10 [gD g, rn l, .int .i64 k] = some (.bool true) := by
  apply runs c_typebarlaw10_GapDoes
  cases hb : gapBig g l
  · have ⟨hA, hB, hl⟩ := gapBig_len hb
    have hO := gapOf_len l k
    have hG := gapGo_len g k
    simp [X_typebarlaw10_GapDoes, nilR, pc_gapBig, pc_gapped, hb]
    repeat' (first
      | simp (disch := omega) only [wrap_i64]
      | (simp (disch := first | omega | (simp <;> omega) | fail) only [loadD_cpr, loadD_cprs, List.take_of_length_le, pc_gap_Of, pc_ref10_Of, pc_gap_Is, pc_ref10_Is, pc_gap_Text, pc_ref10_Text, pc_ref10_Same, pc_gap_Go, pc_ref10_Go, pc_ref01_Same]; simp [*, nilR, pc_gapBig, pc_gapped])
      | (with_reducible refine And.intro ?_ ?_; focus first | omega | decide)
      | (with_reducible refine split_ite (fun hp => ?_) (fun hp => ?_) <;> (try simp at hp) <;> simp [*, nilR, pc_gapBig, pc_gapped])
      | (with_reducible refine split_ite1 (fun hp => ?_) (fun hp => ?_) <;> (try simp at hp) <;> simp [*, nilR, pc_gapBig, pc_gapped])
      | (refine split_cond (by simp) (fun hp => ?_) (fun hp => ?_) <;> simp at hp <;> simp [*, nilR, pc_gapBig, pc_gapped])
      | (refine split_ops (by simp) (fun hp => ?_) (fun hp => ?_) <;> simp at hp <;> simp [*, nilR, pc_gapBig, pc_gapped])
      | (refine split_opsD (by simp) (fun hp => ?_) (fun hp => ?_) <;> simp at hp <;> simp [*, nilR, pc_gapBig, pc_gapped])
      | (refine split_pick (by simp) (fun hp => ?_) (fun hp => ?_) <;> simp at hp <;> simp [*, nilR, pc_gapBig, pc_gapped])
      | omega
      | decide)
  · simp [X_typebarlaw10_GapDoes, nilR, pc_gapBig, *]

theorem pc_GapInserts (n : Nat) (g : Gap) (l : List Int) : (W (n + 10)).pc 11 [gD g, rn l] = some (.bool true) := by
  apply runs c_typebarlaw10_GapInserts
  cases hb : gapBig g l
  · have ⟨hA, hB, hl⟩ := gapBig_len hb
    have hI := gapInsert_len g l
    simp [X_typebarlaw10_GapInserts, nilR, pc_gapBig, pc_gapped, hb]
    repeat' (first
      | simp (disch := omega) only [wrap_i64]
      | (simp (disch := first | omega | (simp <;> omega) | fail) only [loadD_cpr, loadD_cprs, List.take_of_length_le, pc_gap_Insert, pc_ref10_Insert, pc_ref10_Same, pc_ref01_Same]; simp [*, nilR, pc_gapBig, pc_gapped])
      | (with_reducible refine And.intro ?_ ?_; focus first | omega | decide)
      | (with_reducible refine split_ite (fun hp => ?_) (fun hp => ?_) <;> (try simp at hp) <;> simp [*, nilR, pc_gapBig, pc_gapped])
      | (with_reducible refine split_ite1 (fun hp => ?_) (fun hp => ?_) <;> (try simp at hp) <;> simp [*, nilR, pc_gapBig, pc_gapped])
      | (refine split_cond (by simp) (fun hp => ?_) (fun hp => ?_) <;> simp at hp <;> simp [*, nilR, pc_gapBig, pc_gapped])
      | (refine split_ops (by simp) (fun hp => ?_) (fun hp => ?_) <;> simp at hp <;> simp [*, nilR, pc_gapBig, pc_gapped])
      | (refine split_opsD (by simp) (fun hp => ?_) (fun hp => ?_) <;> simp at hp <;> simp [*, nilR, pc_gapBig, pc_gapped])
      | (refine split_pick (by simp) (fun hp => ?_) (fun hp => ?_) <;> simp at hp <;> simp [*, nilR, pc_gapBig, pc_gapped])
      | omega
      | decide)
  · simp [X_typebarlaw10_GapInserts, nilR, pc_gapBig, *]

theorem pc_GapCuts (n : Nat) (g : Gap) (k : Int) (hk : -9223372036854775808 ≤ k ∧ k ≤ 9223372036854775807) : (W (n + 10)).pc 12 [gD g, .int .i64 k] = some (.bool true) := by
  apply runs c_typebarlaw10_GapCuts
  cases hb : gapBig g []
  · have ⟨hA, hB, hl⟩ := gapBig_len hb
    have hC := gapCut_len g k
    simp [X_typebarlaw10_GapCuts, nilR, pc_gapBig, pc_gapped, hb]
    repeat' (first
      | simp (disch := omega) only [wrap_i64]
      | (simp (disch := first | omega | (simp <;> omega) | fail) only [loadD_cpr, loadD_cprs, List.take_of_length_le, pc_gap_Cut, pc_ref10_Cut, pc_ref10_Same, pc_ref01_Same]; simp [*, nilR, pc_gapBig, pc_gapped])
      | (with_reducible refine And.intro ?_ ?_; focus first | omega | decide)
      | (with_reducible refine split_ite (fun hp => ?_) (fun hp => ?_) <;> (try simp at hp) <;> simp [*, nilR, pc_gapBig, pc_gapped])
      | (with_reducible refine split_ite1 (fun hp => ?_) (fun hp => ?_) <;> (try simp at hp) <;> simp [*, nilR, pc_gapBig, pc_gapped])
      | (refine split_cond (by simp) (fun hp => ?_) (fun hp => ?_) <;> simp at hp <;> simp [*, nilR, pc_gapBig, pc_gapped])
      | (refine split_ops (by simp) (fun hp => ?_) (fun hp => ?_) <;> simp at hp <;> simp [*, nilR, pc_gapBig, pc_gapped])
      | (refine split_opsD (by simp) (fun hp => ?_) (fun hp => ?_) <;> simp at hp <;> simp [*, nilR, pc_gapBig, pc_gapped])
      | (refine split_pick (by simp) (fun hp => ?_) (fun hp => ?_) <;> simp at hp <;> simp [*, nilR, pc_gapBig, pc_gapped])
      | omega
      | decide)
  · simp [X_typebarlaw10_GapCuts, nilR, pc_gapBig, *]

theorem W_sound (n : Nat) : Sound Try.prog (W n) := by
  unfold W
  exact evF_sound _ _ _ _ (fun _ _ _ h => by cases h) n

theorem arg_gap {x : D} (h : ArgD Try.prog 46 x) : ∃ g : Gap, x = gD g ∧ (∀ r ∈ g.A, i32 r) ∧ ∀ r ∈ g.B, i32 r := by
  obtain ⟨ds, rfl, hl⟩ := arg_struct (ts := [33, 33]) (by kernel_rfl) h
  obtain ⟨p, r, rfl, h1, hl⟩ := tyL_cons hl
  obtain ⟨p2, r2, rfl, h2, hl⟩ := tyL_cons hl
  have := tyL_nil hl
  subst this
  obtain ⟨a, rfl, _, qa⟩ := ty_row (C := runeC) (Q := i32) (e := 21) (by kernel_rfl) (fun p hp => ty_rune (by kernel_rfl) hp) h1
  obtain ⟨b, rfl, _, qb⟩ := ty_row (C := runeC) (Q := i32) (e := 21) (by kernel_rfl) (fun p hp => ty_rune (by kernel_rfl) hp) h2
  exact ⟨⟨a, b⟩, rfl, qa, qb⟩
theorem arg_runes {x : D} (h : ArgD Try.prog 33 x) : ∃ l : List Int, x = rn l ∧ ∀ r ∈ l, i32 r := by
  obtain ⟨l, rfl, _, q⟩ := arg_row (C := runeC) (Q := i32) (e := 21) (by kernel_rfl) (fun p hp => ty_rune (by kernel_rfl) hp) h
  exact ⟨l, rfl, q⟩
theorem arg_num {x : D} (h : ArgD Try.prog 3 x) : ∃ n : Int, x = .int .i64 n ∧ i64 n := by
  obtain ⟨n, rfl, w⟩ := arg_int (k := .i64) (by kernel_rfl) h
  exact ⟨n, rfl, wf_i64 w⟩

end Go.Proofs.Ytcbegcmlohnpcaa
