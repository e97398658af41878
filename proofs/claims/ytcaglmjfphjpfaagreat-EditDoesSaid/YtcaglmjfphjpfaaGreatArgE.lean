/- How lines that are edited, and acts, are read. -/
import Derived.Test.YtcaglmjfphjpfaaGreatArgs
import Derived.Test.YtcaglmjfphjpfaaGreatKillD
import Derived.Test.YtcaglmjfphjpfaaGreatEditH
namespace Go.Proofs.YtcaglmjfphjpfaaGreat
open Go E
set_option linter.unusedSimpArgs false
set_option linter.unusedVariables false
set_option maxRecDepth 100000

/-- No row is longer than a memory bears. -/
theorem bears {n b : Nat} (hb : 4 ≤ b) (h : n * b ≤ reachBytes) : n < 70368744177664 := by
  have h1 : n * 4 ≤ n * b := Nat.mul_le_mul_left _ hb
  have h2 : reachBytes = 140737488351232 := rfl
  omega

theorem ty_runesS {d : Nat} {p : List D} (h : TyD Tryz.prog (d + 2) 22 p) : ∃ l : List Int, p = [rn l] ∧ l.length < 70368744177664 := by
  obtain ⟨a, rfl, w, _⟩ := ty_rowS (C := runeC) (Q := i32) (e := 21) (by kernel_rfl) (fun p hp => ty_rune (by kernel_rfl) hp) h
  exact ⟨a, rfl, bears (by decide +kernel) w.2⟩

theorem ty_gapS {d : Nat} {p : List D} (h : TyD Tryz.prog (d + 3) 24 p) : ∃ a : Gap, p = gapC.enc a ∧ a.A.length < 70368744177664 ∧ a.B.length < 70368744177664 := by
  have hl := ty_struct (ts := [22, 22]) (by kernel_rfl) h
  obtain ⟨p1, r, rfl, h1, hl⟩ := tyL_cons hl
  obtain ⟨p2, r2, rfl, h2, hl⟩ := tyL_cons hl
  have := tyL_nil hl
  subst this
  obtain ⟨a, rfl, w1⟩ := ty_runesS h1
  obtain ⟨b, rfl, w2⟩ := ty_runesS h2
  exact ⟨⟨a, b⟩, rfl, w1, w2⟩

theorem arg_edit {x : D} (h : ArgD Tryz.prog 32 x) : ∃ e : EditM, x = edD e ∧ EdSized e ∧ i64 e.Si := by
  obtain ⟨ds, rfl, hl⟩ := arg_struct (ts := [24, 27, 30, 3, 3, 3]) (by kernel_rfl) h
  obtain ⟨p1, r1, rfl, h1, hl⟩ := tyL_cons hl
  obtain ⟨p2, r2, rfl, h2, hl⟩ := tyL_cons hl
  obtain ⟨p3, r3, rfl, h3, hl⟩ := tyL_cons hl
  obtain ⟨p4, r4, rfl, h4, hl⟩ := tyL_cons hl
  obtain ⟨p5, r5, rfl, h5, hl⟩ := tyL_cons hl
  obtain ⟨p6, r6, rfl, h6, hl⟩ := tyL_cons hl
  have := tyL_nil hl
  subst this
  obtain ⟨g, rfl, g1, g2⟩ := ty_gapS h1
  have hk := ty_struct (ts := [25]) (by kernel_rfl) h2
  obtain ⟨q1, s1, hq1, hk1, hk⟩ := tyL_cons hk
  have := tyL_nil hk
  subst this
  rw [List.append_nil] at hq1
  subst hq1
  obtain ⟨K, rfl, k1, k2⟩ := ty_rowS (C := rrC) (Q := fun l => l.length < 70368744177664) (e := 22) (by kernel_rfl) (fun p hp => by obtain ⟨l, e1, w⟩ := ty_runesS hp; exact ⟨l, e1, w⟩) hk1
  have hu := ty_struct (ts := [28]) (by kernel_rfl) h3
  obtain ⟨q2, s2, hq2, hu1, hu⟩ := tyL_cons hu
  have := tyL_nil hu
  subst this
  rw [List.append_nil] at hq2
  subst hq2
  obtain ⟨U, rfl, u1, u2⟩ := ty_rowS (C := gapC) (Q := fun g => g.A.length < 70368744177664 ∧ g.B.length < 70368744177664) (e := 24) (by kernel_rfl) (fun p hp => ty_gapS hp) hu1
  obtain ⟨n4, rfl, w4⟩ := ty_int (k := .i64) (by kernel_rfl) h4
  obtain ⟨n5, rfl, w5⟩ := ty_int (k := .i64) (by kernel_rfl) h5
  obtain ⟨n6, rfl, w6⟩ := ty_int (k := .i64) (by kernel_rfl) h6
  exact ⟨⟨g, K, U, n4, n5, n6⟩, rfl, ⟨g1, g2, ⟨bears (by decide +kernel) k1.2, k2⟩, ⟨bears (by decide +kernel) u1.2, u2⟩⟩, wf_i64 w6⟩

theorem ty_act {d : Nat} {p : List D} (h : TyD Tryz.prog (d + 3) 34 p) : ∃ a : ActM, p = actC.enc a ∧ True := by
  have hl := ty_struct (ts := [3, 3, 3, 21]) (by kernel_rfl) h
  obtain ⟨p1, r1, rfl, h1, hl⟩ := tyL_cons hl
  obtain ⟨p2, r2, rfl, h2, hl⟩ := tyL_cons hl
  obtain ⟨p3, r3, rfl, h3, hl⟩ := tyL_cons hl
  obtain ⟨p4, r4, rfl, h4, hl⟩ := tyL_cons hl
  have := tyL_nil hl
  subst this
  obtain ⟨n1, rfl, _⟩ := ty_int (k := .i64) (by kernel_rfl) h1
  obtain ⟨n2, rfl, _⟩ := ty_int (k := .i64) (by kernel_rfl) h2
  obtain ⟨n3, rfl, _⟩ := ty_int (k := .i64) (by kernel_rfl) h3
  obtain ⟨n4, rfl, _⟩ := ty_int (k := .i32) (by kernel_rfl) h4
  exact ⟨⟨n1, n2, n3, n4⟩, rfl, trivial⟩

theorem arg_act {x : D} (h : ArgD Tryz.prog 34 x) : ∃ a : ActM, x = acD a := by
  obtain ⟨ds, h1, h2⟩ := h
  obtain ⟨a, rfl, _⟩ := ty_act h1
  refine ⟨a, ?_⟩
  rw [h2]
  rfl


end Go.Proofs.YtcaglmjfphjpfaaGreat
