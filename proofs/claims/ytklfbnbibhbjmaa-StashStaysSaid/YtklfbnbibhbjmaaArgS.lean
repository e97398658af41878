/- How the laws' arguments are read: stashes. -/
import Derived.Test.YtklfbnbibhbjmaaArgP
import Derived.Test.YtklfbnbibhbjmaaStashA
namespace Go.Proofs.Ytklfbnbibhbjmaa
open Go E
set_option linter.unusedSimpArgs false
set_option linter.unusedVariables false

theorem ty_slot {d : Nat} {p : List D} (h : TyD Try.prog (d + 4) 46 p) : ∃ a, p = slotC.enc a ∧ True := by
  have hl := ty_struct (ts := [3, 30]) (by kernel_rfl) h
  obtain ⟨p1, r, rfl, h1, hl⟩ := tyL_cons hl
  obtain ⟨p2, r2, rfl, h2, hl⟩ := tyL_cons hl
  have := tyL_nil hl
  subst this
  obtain ⟨a, rfl, _⟩ := ty_int (k := .i64) (by kernel_rfl) h1
  obtain ⟨g, rfl, _⟩ := ty_gap h2
  exact ⟨⟨a, g⟩, rfl, trivial⟩

theorem arg_stash {x : D} (h : ArgD Try.prog 24 x) : ∃ s : StashM, x = stD s := by
  obtain ⟨ds, rfl, hl⟩ := arg_struct (ts := [3, 22]) (by kernel_rfl) h
  obtain ⟨p1, r1, rfl, h1, hl⟩ := tyL_cons hl
  obtain ⟨p2, r2, rfl, h2, hl⟩ := tyL_cons hl
  have := tyL_nil hl
  subst this
  obtain ⟨a, rfl, _⟩ := ty_int (k := .i64) (by kernel_rfl) h1
  obtain ⟨L, rfl, _, _⟩ := ty_row (C := slotC) (Q := fun _ => True) (e := 46) (by kernel_rfl) (fun p hp => ty_slot hp) h2
  exact ⟨⟨a, L⟩, rfl⟩

end Go.Proofs.Ytklfbnbibhbjmaa
