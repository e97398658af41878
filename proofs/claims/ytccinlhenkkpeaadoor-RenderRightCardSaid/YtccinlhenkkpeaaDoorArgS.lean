/- How the laws' arguments are read: stashes. -/
import Derived.Test.YtccinlhenkkpeaaDoorArgP
import Derived.Test.YtccinlhenkkpeaaDoorStashA
namespace Go.Proofs.YtccinlhenkkpeaaDoor
open Go E
set_option linter.unusedSimpArgs false
set_option linter.unusedVariables false
set_option maxRecDepth 100000

theorem ty_slot {d : Nat} {p : List D} (h : TyD Tryd.prog (d + 4) 69 p) : ∃ a, p = slotC.enc a ∧ True := by
  have hl := ty_struct (ts := [3, 24]) (by kernel_rfl) h
  obtain ⟨p1, r, rfl, h1, hl⟩ := tyL_cons hl
  obtain ⟨p2, r2, rfl, h2, hl⟩ := tyL_cons hl
  have := tyL_nil hl
  subst this
  obtain ⟨a, rfl, _⟩ := ty_int (k := .i64) (by kernel_rfl) h1
  obtain ⟨g, rfl, _⟩ := ty_gap h2
  exact ⟨⟨a, g⟩, rfl, trivial⟩

theorem arg_stash {x : D} (h : ArgD Tryd.prog 41 x) : ∃ s : StashM, x = stD s := by
  obtain ⟨ds, rfl, hl⟩ := arg_struct (ts := [3, 39]) (by kernel_rfl) h
  obtain ⟨p1, r1, rfl, h1, hl⟩ := tyL_cons hl
  obtain ⟨p2, r2, rfl, h2, hl⟩ := tyL_cons hl
  have := tyL_nil hl
  subst this
  obtain ⟨a, rfl, _⟩ := ty_int (k := .i64) (by kernel_rfl) h1
  obtain ⟨L, rfl, _, _⟩ := ty_row (C := slotC) (Q := fun _ => True) (e := 69) (by kernel_rfl) (fun p hp => ty_slot hp) h2
  exact ⟨⟨a, L⟩, rfl⟩

end Go.Proofs.YtccinlhenkkpeaaDoor
