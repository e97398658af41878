/- How the laws' arguments are read: editors. -/
import Derived.Test.YtccinlhenkkpeaaDoorArgS
import Derived.Test.YtccinlhenkkpeaaDoorRenE
namespace Go.Proofs.YtccinlhenkkpeaaDoor
open Go E
set_option linter.unusedSimpArgs false
set_option linter.unusedVariables false
set_option maxRecDepth 100000

theorem ty_gapc {d : Nat} {p : List D} (h : TyD Tryd.prog (d + 3) 24 p) : ∃ a : Gap, p = gapC.enc a ∧ True := by
  obtain ⟨g, rfl, _⟩ := ty_gap h
  exact ⟨g, rfl, trivial⟩

theorem ty_kills {d : Nat} {p : List D} (h : TyD Tryd.prog (d + 4) 27 p) : ∃ K : List (List Int), p = [rrn K] := by
  have hl := ty_struct (ts := [25]) (by kernel_rfl) h
  obtain ⟨p1, r, rfl, h1, hl⟩ := tyL_cons hl
  have := tyL_nil hl
  subst this
  obtain ⟨K, rfl, _, _⟩ := ty_row (C := rrC) (Q := fun _ => True) (e := 22) (by kernel_rfl) (fun p hp => ty_line hp) h1
  exact ⟨K, rfl⟩

theorem ty_undo {d : Nat} {p : List D} (h : TyD Tryd.prog (d + 5) 30 p) : ∃ U : List Gap, p = [grn U] := by
  have hl := ty_struct (ts := [28]) (by kernel_rfl) h
  obtain ⟨p1, r, rfl, h1, hl⟩ := tyL_cons hl
  have := tyL_nil hl
  subst this
  obtain ⟨U, rfl, _, _⟩ := ty_row (C := gapC) (Q := fun _ => True) (e := 24) (by kernel_rfl) (fun p hp => ty_gapc hp) h1
  exact ⟨U, rfl⟩

theorem ty_edit {d : Nat} {p : List D} (h : TyD Tryd.prog (d + 6) 32 p) : ∃ e : EditM, p = edL e := by
  have hl := ty_struct (ts := [24, 27, 30, 3, 3, 3]) (by kernel_rfl) h
  obtain ⟨p1, r1, rfl, h1, hl⟩ := tyL_cons hl
  obtain ⟨p2, r2, rfl, h2, hl⟩ := tyL_cons hl
  obtain ⟨p3, r3, rfl, h3, hl⟩ := tyL_cons hl
  obtain ⟨p4, r4, rfl, h4, hl⟩ := tyL_cons hl
  obtain ⟨p5, r5, rfl, h5, hl⟩ := tyL_cons hl
  obtain ⟨p6, r6, rfl, h6, hl⟩ := tyL_cons hl
  have := tyL_nil hl
  subst this
  obtain ⟨g, rfl, _⟩ := ty_gapc h1
  obtain ⟨K, rfl⟩ := ty_kills h2
  obtain ⟨U, rfl⟩ := ty_undo h3
  obtain ⟨n4, rfl, _⟩ := ty_int (k := .i64) (by kernel_rfl) h4
  obtain ⟨n5, rfl, _⟩ := ty_int (k := .i64) (by kernel_rfl) h5
  obtain ⟨n6, rfl, _⟩ := ty_int (k := .i64) (by kernel_rfl) h6
  exact ⟨⟨g, K, U, n4, n5, n6⟩, rfl⟩

theorem ty_past {d : Nat} {p : List D} (h : TyD Tryd.prog (d + 4) 38 p) : ∃ q : Past, p = [.int .i64 q.room, .int .i64 q.dup, rrn q.L] := by
  have hl := ty_struct (ts := [3, 3, 25]) (by kernel_rfl) h
  obtain ⟨p1, r1, rfl, h1, hl⟩ := tyL_cons hl
  obtain ⟨p2, r2, rfl, h2, hl⟩ := tyL_cons hl
  obtain ⟨p3, r3, rfl, h3, hl⟩ := tyL_cons hl
  have := tyL_nil hl
  subst this
  obtain ⟨a, rfl, _⟩ := ty_int (k := .i64) (by kernel_rfl) h1
  obtain ⟨b, rfl, _⟩ := ty_int (k := .i64) (by kernel_rfl) h2
  obtain ⟨L, rfl, _, _⟩ := ty_row (C := rrC) (Q := fun _ => True) (e := 22) (by kernel_rfl) (fun p hp => ty_line hp) h3
  exact ⟨⟨a, b, L⟩, rfl⟩

theorem ty_stash {d : Nat} {p : List D} (h : TyD Tryd.prog (d + 6) 41 p) : ∃ s : StashM, p = [.int .i64 s.at_, srn s.L] := by
  have hl := ty_struct (ts := [3, 39]) (by kernel_rfl) h
  obtain ⟨p1, r1, rfl, h1, hl⟩ := tyL_cons hl
  obtain ⟨p2, r2, rfl, h2, hl⟩ := tyL_cons hl
  have := tyL_nil hl
  subst this
  obtain ⟨a, rfl, _⟩ := ty_int (k := .i64) (by kernel_rfl) h1
  obtain ⟨L, rfl, _, _⟩ := ty_row (C := slotC) (Q := fun _ => True) (e := 69) (by kernel_rfl) (fun p hp => ty_slot hp) h2
  exact ⟨⟨a, L⟩, rfl⟩

theorem ty_search {d : Nat} {p : List D} (h : TyD Tryd.prog (d + 3) 43 p) : ∃ f : SrM, p = srL f := by
  have hl := ty_struct (ts := [4, 4, 22, 3, 4, 3, 3]) (by kernel_rfl) h
  obtain ⟨p1, r1, rfl, h1, hl⟩ := tyL_cons hl
  obtain ⟨p2, r2, rfl, h2, hl⟩ := tyL_cons hl
  obtain ⟨p3, r3, rfl, h3, hl⟩ := tyL_cons hl
  obtain ⟨p4, r4, rfl, h4, hl⟩ := tyL_cons hl
  obtain ⟨p5, r5, rfl, h5, hl⟩ := tyL_cons hl
  obtain ⟨p6, r6, rfl, h6, hl⟩ := tyL_cons hl
  obtain ⟨p7, r7, rfl, h7, hl⟩ := tyL_cons hl
  have := tyL_nil hl
  subst this
  obtain ⟨b1, rfl⟩ := ty_bool (by kernel_rfl) h1
  obtain ⟨b2, rfl⟩ := ty_bool (by kernel_rfl) h2
  obtain ⟨l, hl3, _⟩ := ty_line h3
  simp only [rrC, List.cons.injEq, and_true] at hl3
  subst hl3
  obtain ⟨n4, rfl, _⟩ := ty_int (k := .i64) (by kernel_rfl) h4
  obtain ⟨b5, rfl⟩ := ty_bool (by kernel_rfl) h5
  obtain ⟨n6, rfl, _⟩ := ty_int (k := .i64) (by kernel_rfl) h6
  obtain ⟨n7, rfl, _⟩ := ty_int (k := .i64) (by kernel_rfl) h7
  exact ⟨⟨b1, b2, l, n4, b5, n6, n7⟩, rfl⟩

theorem arg_editor {x : D} (h : ArgD Tryd.prog 45 x) : ∃ e : EditorM, x = edrD e := by
  obtain ⟨ds, rfl, hl⟩ := arg_struct (ts := [32, 34, 36, 3, 4, 38, 41, 43, 3]) (by kernel_rfl) h
  obtain ⟨p1, r1, rfl, h1, hl⟩ := tyL_cons hl
  obtain ⟨p2, r2, rfl, h2, hl⟩ := tyL_cons hl
  obtain ⟨p3, r3, rfl, h3, hl⟩ := tyL_cons hl
  obtain ⟨p4, r4, rfl, h4, hl⟩ := tyL_cons hl
  obtain ⟨p5, r5, rfl, h5, hl⟩ := tyL_cons hl
  obtain ⟨p6, r6, rfl, h6, hl⟩ := tyL_cons hl
  obtain ⟨p7, r7, rfl, h7, hl⟩ := tyL_cons hl
  obtain ⟨p8, r8, rfl, h8, hl⟩ := tyL_cons hl
  obtain ⟨p9, r9, rfl, h9, hl⟩ := tyL_cons hl
  have := tyL_nil hl
  subst this
  obtain ⟨E, rfl⟩ := ty_edit h1
  have hc := ty_struct (ts := [4, 4, 3]) (by kernel_rfl) h2
  obtain ⟨q1, s1, hq1, k1, hc⟩ := tyL_cons hc
  obtain ⟨q2, s2, rfl, k2, hc⟩ := tyL_cons hc
  obtain ⟨q3, s3, rfl, k3, hc⟩ := tyL_cons hc
  have := tyL_nil hc
  subst this
  obtain ⟨c1, rfl⟩ := ty_bool (by kernel_rfl) k1
  obtain ⟨c2, rfl⟩ := ty_bool (by kernel_rfl) k2
  obtain ⟨c3, rfl, _⟩ := ty_int (k := .i64) (by kernel_rfl) k3
  subst hq1
  have hv := ty_struct (ts := [3, 3]) (by kernel_rfl) h3
  obtain ⟨u1, w1, hu1, m1, hv⟩ := tyL_cons hv
  obtain ⟨u2, w2, rfl, m2, hv⟩ := tyL_cons hv
  have := tyL_nil hv
  subst this
  obtain ⟨v1, rfl, _⟩ := ty_int (k := .i64) (by kernel_rfl) m1
  obtain ⟨v2, rfl, _⟩ := ty_int (k := .i64) (by kernel_rfl) m2
  subst hu1
  obtain ⟨mp, rfl, _⟩ := ty_int (k := .i64) (by kernel_rfl) h4
  obtain ⟨qt, rfl⟩ := ty_bool (by kernel_rfl) h5
  obtain ⟨P, rfl⟩ := ty_past h6
  obtain ⟨S, rfl⟩ := ty_stash h7
  obtain ⟨F, rfl⟩ := ty_search h8
  obtain ⟨fr, rfl, _⟩ := ty_int (k := .i64) (by kernel_rfl) h9
  exact ⟨⟨E, c1, c2, c3, v1, v2, mp, qt, P, S, F, fr⟩, rfl⟩

end Go.Proofs.YtccinlhenkkpeaaDoor
