/- How the laws' arguments are read: pasts, and lines. -/
import Derived.Test.YtccinlhenkkpeaaDoorArgs
import Derived.Test.YtccinlhenkkpeaaDoorPastA
namespace Go.Proofs.YtccinlhenkkpeaaDoor
open Go E
set_option linter.unusedSimpArgs false
set_option linter.unusedVariables false
set_option maxRecDepth 100000

theorem ty_line {d : Nat} {p : List D} (h : TyD Tryd.prog (d + 2) 22 p) : ∃ a, p = rrC.enc a ∧ True := by
  obtain ⟨b, rfl, _, _⟩ := ty_row (C := runeC) (Q := i32) (e := 21) (by kernel_rfl) (fun p hp => ty_rune (by kernel_rfl) hp) h
  exact ⟨b, rfl, trivial⟩

theorem arg_lines {x : D} (h : ArgD Tryd.prog 25 x) : ∃ l : List (List Int), x = rrn l := by
  obtain ⟨l, rfl, _, _⟩ := arg_row (C := rrC) (Q := fun _ => True) (e := 22) (by kernel_rfl) (fun p hp => ty_line hp) h
  exact ⟨l, rfl⟩

theorem arg_past {x : D} (h : ArgD Tryd.prog 38 x) : ∃ p : Past, x = pD p := by
  obtain ⟨ds, rfl, hl⟩ := arg_struct (ts := [3, 3, 25]) (by kernel_rfl) h
  obtain ⟨p1, r1, rfl, h1, hl⟩ := tyL_cons hl
  obtain ⟨p2, r2, rfl, h2, hl⟩ := tyL_cons hl
  obtain ⟨p3, r3, rfl, h3, hl⟩ := tyL_cons hl
  have := tyL_nil hl
  subst this
  obtain ⟨a, rfl, _⟩ := ty_int (k := .i64) (by kernel_rfl) h1
  obtain ⟨b, rfl, _⟩ := ty_int (k := .i64) (by kernel_rfl) h2
  obtain ⟨L, rfl, _, _⟩ := ty_row (C := rrC) (Q := fun _ => True) (e := 22) (by kernel_rfl) (fun p hp => ty_line hp) h3
  exact ⟨⟨a, b, L⟩, rfl⟩

end Go.Proofs.YtccinlhenkkpeaaDoor
