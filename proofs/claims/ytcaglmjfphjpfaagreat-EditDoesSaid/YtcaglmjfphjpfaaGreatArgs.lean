/- How the laws' arguments are read. -/
import Derived.Test.YtcaglmjfphjpfaaGreatGapB
import Derived.Test.YtcaglmjfphjpfaaGreatTyp
namespace Go.Proofs.YtcaglmjfphjpfaaGreat
open Go E
set_option linter.unusedSimpArgs false
set_option linter.unusedVariables false
set_option maxRecDepth 100000

theorem W_sound (n : Nat) : Sound Tryz.prog (W n) := by
  unfold W
  exact evF_sound _ _ _ _ (fun _ _ _ h => by cases h) n

theorem arg_gap {x : D} (h : ArgD Tryz.prog 24 x) : ∃ g : Gap, x = gD g ∧ (∀ r ∈ g.A, i32 r) ∧ ∀ r ∈ g.B, i32 r := by
  obtain ⟨ds, rfl, hl⟩ := arg_struct (ts := [22, 22]) (by kernel_rfl) h
  obtain ⟨p, r, rfl, h1, hl⟩ := tyL_cons hl
  obtain ⟨p2, r2, rfl, h2, hl⟩ := tyL_cons hl
  have := tyL_nil hl
  subst this
  obtain ⟨a, rfl, _, qa⟩ := ty_row (C := runeC) (Q := i32) (e := 21) (by kernel_rfl) (fun p hp => ty_rune (by kernel_rfl) hp) h1
  obtain ⟨b, rfl, _, qb⟩ := ty_row (C := runeC) (Q := i32) (e := 21) (by kernel_rfl) (fun p hp => ty_rune (by kernel_rfl) hp) h2
  exact ⟨⟨a, b⟩, rfl, qa, qb⟩

theorem arg_runes {x : D} (h : ArgD Tryz.prog 22 x) : ∃ l : List Int, x = rn l ∧ ∀ r ∈ l, i32 r := by
  obtain ⟨l, rfl, _, q⟩ := arg_row (C := runeC) (Q := i32) (e := 21) (by kernel_rfl) (fun p hp => ty_rune (by kernel_rfl) hp) h
  exact ⟨l, rfl, q⟩

theorem arg_num {x : D} (h : ArgD Tryz.prog 3 x) : ∃ n : Int, x = .int .i64 n ∧ i64 n := by
  obtain ⟨n, rfl, w⟩ := arg_int (k := .i64) (by kernel_rfl) h
  exact ⟨n, rfl, wf_i64 w⟩

theorem arg_rune {x : D} (h : ArgD Tryz.prog 21 x) : ∃ n : Int, x = .int .i32 n ∧ i32 n := by
  obtain ⟨n, rfl, w⟩ := arg_int (k := .i32) (by kernel_rfl) h
  exact ⟨n, rfl, wf_i32 w⟩

theorem ty_gap {d : Nat} {p : List D} (h : TyD Tryz.prog (d + 3) 24 p) : ∃ a : Gap, p = gapC.enc a ∧ True := by
  have hl := ty_struct (ts := [22, 22]) (by kernel_rfl) h
  obtain ⟨p1, r, rfl, h1, hl⟩ := tyL_cons hl
  obtain ⟨p2, r2, rfl, h2, hl⟩ := tyL_cons hl
  have := tyL_nil hl
  subst this
  obtain ⟨a, rfl, _, _⟩ := ty_row (C := runeC) (Q := i32) (e := 21) (by kernel_rfl) (fun p hp => ty_rune (by kernel_rfl) hp) h1
  obtain ⟨b, rfl, _, _⟩ := ty_row (C := runeC) (Q := i32) (e := 21) (by kernel_rfl) (fun p hp => ty_rune (by kernel_rfl) hp) h2
  exact ⟨⟨a, b⟩, rfl, trivial⟩

theorem arg_gaps {x : D} (h : ArgD Tryz.prog 28 x) : ∃ l : List Gap, x = row gapC false l := by
  obtain ⟨l, rfl, _, _⟩ := arg_row (C := gapC) (Q := fun _ => True) (e := 24) (by kernel_rfl) (fun p hp => ty_gap hp) h
  exact ⟨l, rfl⟩

theorem arg_undo {x : D} (h : ArgD Tryz.prog 30 x) : ∃ L : List Gap, x = .agg [row gapC false L] := by
  obtain ⟨ds, rfl, hl⟩ := arg_struct (ts := [28]) (by kernel_rfl) h
  obtain ⟨p, r, rfl, h1, hl⟩ := tyL_cons hl
  have := tyL_nil hl
  subst this
  obtain ⟨a, rfl, _, _⟩ := ty_row (C := gapC) (Q := fun _ => True) (e := 24) (by kernel_rfl) (fun p hp => ty_gap hp) h1
  exact ⟨a, rfl⟩

end Go.Proofs.YtcaglmjfphjpfaaGreat
