/- How the laws' arguments are read: pasts, and lines. -/
import Derived.Test.YtklfbnbibhbjmaaArgs
import Derived.Test.YtklfbnbibhbjmaaPastA
namespace Go.Proofs.Ytklfbnbibhbjmaa
open Go E
set_option linter.unusedSimpArgs false
set_option linter.unusedVariables false

theorem ty_line {d : Nat} {p : List D} (h : TyD Try.prog (d + 2) 28 p) : ∃ a, p = rrC.enc a ∧ True := by
  obtain ⟨b, rfl, _, _⟩ := ty_row (C := runeC) (Q := i32) (e := 21) (by kernel_rfl) (fun p hp => ty_rune (by kernel_rfl) hp) h
  exact ⟨b, rfl, trivial⟩

theorem arg_lines {x : D} (h : ArgD Try.prog 25 x) : ∃ l : List (List Int), x = rrn l := by
  obtain ⟨l, rfl, _, _⟩ := arg_row (C := rrC) (Q := fun _ => True) (e := 28) (by kernel_rfl) (fun p hp => ty_line hp) h
  exact ⟨l, rfl⟩

theorem arg_past {x : D} (h : ArgD Try.prog 27 x) : ∃ p : Past, x = pD p := by
  obtain ⟨ds, rfl, hl⟩ := arg_struct (ts := [3, 3, 25]) (by kernel_rfl) h
  obtain ⟨p1, r1, rfl, h1, hl⟩ := tyL_cons hl
  obtain ⟨p2, r2, rfl, h2, hl⟩ := tyL_cons hl
  obtain ⟨p3, r3, rfl, h3, hl⟩ := tyL_cons hl
  have := tyL_nil hl
  subst this
  obtain ⟨a, rfl, _⟩ := ty_int (k := .i64) (by kernel_rfl) h1
  obtain ⟨b, rfl, _⟩ := ty_int (k := .i64) (by kernel_rfl) h2
  obtain ⟨L, rfl, _, _⟩ := ty_row (C := rrC) (Q := fun _ => True) (e := 28) (by kernel_rfl) (fun p hp => ty_line hp) h3
  exact ⟨⟨a, b, L⟩, rfl⟩

end Go.Proofs.Ytklfbnbibhbjmaa
