/- How the laws' arguments are read: pasts of any size. -/
import Derived.Test.YtlpgpnjplijgiaaArgP
import Derived.Test.YtlpgpnjplijgiaaFindB
namespace Go.Proofs.Ytlpgpnjplijgiaa
open Go E
set_option linter.unusedSimpArgs false
set_option linter.unusedVariables false

theorem bearsF {n b : Nat} (hb : 4 ≤ b) (h : n * b ≤ reachBytes) : n < 70368744177664 := by
  have h1 : n * 4 ≤ n * b := Nat.mul_le_mul_left _ hb
  have h2 : reachBytes = 140737488351232 := rfl
  omega

theorem ty_runesF {d : Nat} {p : List D} (h : TyD Try.prog (d + 2) 30 p) : ∃ l : List Int, p = [rn l] ∧ l.length < 70368744177664 := by
  obtain ⟨a, rfl, w, _⟩ := ty_rowS (C := runeC) (Q := i32) (e := 21) (by kernel_rfl) (fun p hp => ty_rune (by kernel_rfl) hp) h
  exact ⟨a, rfl, bearsF (by decide +kernel) w.2⟩

theorem arg_runesF {x : D} (h : ArgD Try.prog 30 x) : ∃ l : List Int, x = rn l ∧ l.length < 70368744177664 := by
  obtain ⟨ds, h1, rfl⟩ := arg_one (by kernel_rfl) h
  obtain ⟨l, rfl, w⟩ := ty_runesF h1
  exact ⟨l, rfl, w⟩

theorem arg_pastF {x : D} (h : ArgD Try.prog 35 x) : ∃ p : Past, x = pD p ∧ bearsL p.L := by
  obtain ⟨ds, rfl, hl⟩ := arg_struct (ts := [3, 3, 33]) (by kernel_rfl) h
  obtain ⟨p1, r1, rfl, h1, hl⟩ := tyL_cons hl
  obtain ⟨p2, r2, rfl, h2, hl⟩ := tyL_cons hl
  obtain ⟨p3, r3, rfl, h3, hl⟩ := tyL_cons hl
  have := tyL_nil hl
  subst this
  obtain ⟨a, rfl, _⟩ := ty_int (k := .i64) (by kernel_rfl) h1
  obtain ⟨b, rfl, _⟩ := ty_int (k := .i64) (by kernel_rfl) h2
  obtain ⟨L, rfl, k1, k2⟩ := ty_rowS (C := rrC) (Q := fun l => l.length < 70368744177664) (e := 30) (by kernel_rfl) (fun p hp => by obtain ⟨l, e1, w⟩ := ty_runesF hp; exact ⟨l, e1, w⟩) h3
  exact ⟨⟨a, b, L⟩, rfl, ⟨bearsF (by decide +kernel) k1.2, k2⟩⟩

end Go.Proofs.Ytlpgpnjplijgiaa
