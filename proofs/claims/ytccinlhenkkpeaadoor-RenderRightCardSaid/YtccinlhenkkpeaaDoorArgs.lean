/- How the laws' arguments are read. -/
import Derived.Test.YtccinlhenkkpeaaDoorGapB
import Derived.Test.YtccinlhenkkpeaaDoorTyp
import Derived.Test.YtccinlhenkkpeaaDoorMapB
namespace Go.Proofs.YtccinlhenkkpeaaDoor
open Go E
set_option linter.unusedSimpArgs false
set_option linter.unusedVariables false
set_option maxRecDepth 100000

theorem itTab_ok : ∀ p ∈ itTab, ∃ k m, cIter Tryd.prog p.1 k m = some p.2 := by
  intro p hp
  unfold itTab at hp
  cases hp

theorem nxs_ok (g : FuncId) (caps : List D) (h : List Blk) (r : Option (List D × D)) (hr : nxs g caps .nilp h = some r) : SeqOK Tryd.prog g caps (nxs g caps) h := by
  cases hf : itTab.find? (fun p => p.1 == g) with
  | none =>
    have e : nxs g = fun _ _ _ => none := by unfold nxs; rw [hf]
    rw [e] at hr
    cases hr
  | some p =>
    have e : nxs g = p.2.nx := by unfold nxs; rw [hf]
    have hg : p.1 = g := by simpa using List.find?_some hf
    obtain ⟨k, m, hc⟩ := itTab_ok p (List.mem_of_find?_eq_some hf)
    rw [e] at hr ⊢
    rw [hg] at hc
    exact cIter_ok hc hr

/-- Calls that need no table. -/
noncomputable def C0 : E.Calls := evF Tryd.prog (fun _ _ => 0) (fun _ _ => none) (fun _ _ _ => none) (fun _ _ _ _ => none) 1000 4

theorem C0_sound : Sound Tryd.prog C0 := evF_sound _ _ _ _ _ _ (fun _ _ _ h => by cases h) (fun _ _ _ _ _ h => by cases h) (fun _ _ _ _ h => by cases h) 4

theorem orcTab_ok : ∀ p ∈ orcTab, PureSound Tryd.prog p.1 [] p.2 := by
  intro p hp
  unfold orcTab at hp
  cases hp

theorem orcs_ok (f : FuncId) (ds : List D) (r : D) (h : orcs f ds = some r) : PureSound Tryd.prog f ds r := by
  unfold orcs at h
  split at h <;> try (cases h; done)
  rename_i p hp
  split at h <;> cases h
  have hf : p.1 = f := by simpa using List.find?_some hp
  rw [← hf]
  exact orcTab_ok p (List.mem_of_find?_eq_some hp)

theorem orfs_ok (f : FuncId) (ds : List D) (h : List Blk) (r : D) (h' : List Blk) (e : orfs f ds h = some (r, h')) : FullSound Tryd.prog f ds h r h' := by
  unfold orfs at e
  cases e

theorem W_sound (n : Nat) : Sound Tryd.prog (W n) := by
  unfold W
  exact evF_sound _ _ _ _ _ _ orcs_ok orfs_ok nxs_ok n

theorem arg_gap {x : D} (h : ArgD Tryd.prog 24 x) : ∃ g : Gap, x = gD g ∧ (∀ r ∈ g.A, i32 r) ∧ ∀ r ∈ g.B, i32 r := by
  obtain ⟨ds, rfl, hl⟩ := arg_struct (ts := [22, 22]) (by kernel_rfl) h
  obtain ⟨p, r, rfl, h1, hl⟩ := tyL_cons hl
  obtain ⟨p2, r2, rfl, h2, hl⟩ := tyL_cons hl
  have := tyL_nil hl
  subst this
  obtain ⟨a, rfl, _, qa⟩ := ty_row (C := runeC) (Q := i32) (e := 21) (by kernel_rfl) (fun p hp => ty_rune (by kernel_rfl) hp) h1
  obtain ⟨b, rfl, _, qb⟩ := ty_row (C := runeC) (Q := i32) (e := 21) (by kernel_rfl) (fun p hp => ty_rune (by kernel_rfl) hp) h2
  exact ⟨⟨a, b⟩, rfl, qa, qb⟩

theorem arg_runes {x : D} (h : ArgD Tryd.prog 22 x) : ∃ l : List Int, x = rn l ∧ ∀ r ∈ l, i32 r := by
  obtain ⟨l, rfl, _, q⟩ := arg_row (C := runeC) (Q := i32) (e := 21) (by kernel_rfl) (fun p hp => ty_rune (by kernel_rfl) hp) h
  exact ⟨l, rfl, q⟩

theorem arg_num {x : D} (h : ArgD Tryd.prog 3 x) : ∃ n : Int, x = .int .i64 n ∧ i64 n := by
  obtain ⟨n, rfl, w⟩ := arg_int (k := .i64) (by kernel_rfl) h
  exact ⟨n, rfl, wf_i64 w⟩

theorem arg_rune {x : D} (h : ArgD Tryd.prog 21 x) : ∃ n : Int, x = .int .i32 n ∧ i32 n := by
  obtain ⟨n, rfl, w⟩ := arg_int (k := .i32) (by kernel_rfl) h
  exact ⟨n, rfl, wf_i32 w⟩

theorem ty_gap {d : Nat} {p : List D} (h : TyD Tryd.prog (d + 3) 24 p) : ∃ a : Gap, p = gapC.enc a ∧ True := by
  have hl := ty_struct (ts := [22, 22]) (by kernel_rfl) h
  obtain ⟨p1, r, rfl, h1, hl⟩ := tyL_cons hl
  obtain ⟨p2, r2, rfl, h2, hl⟩ := tyL_cons hl
  have := tyL_nil hl
  subst this
  obtain ⟨a, rfl, _, _⟩ := ty_row (C := runeC) (Q := i32) (e := 21) (by kernel_rfl) (fun p hp => ty_rune (by kernel_rfl) hp) h1
  obtain ⟨b, rfl, _, _⟩ := ty_row (C := runeC) (Q := i32) (e := 21) (by kernel_rfl) (fun p hp => ty_rune (by kernel_rfl) hp) h2
  exact ⟨⟨a, b⟩, rfl, trivial⟩

theorem arg_gaps {x : D} (h : ArgD Tryd.prog 28 x) : ∃ l : List Gap, x = row gapC false l := by
  obtain ⟨l, rfl, _, _⟩ := arg_row (C := gapC) (Q := fun _ => True) (e := 24) (by kernel_rfl) (fun p hp => ty_gap hp) h
  exact ⟨l, rfl⟩

theorem arg_undo {x : D} (h : ArgD Tryd.prog 30 x) : ∃ L : List Gap, x = .agg [row gapC false L] := by
  obtain ⟨ds, rfl, hl⟩ := arg_struct (ts := [28]) (by kernel_rfl) h
  obtain ⟨p, r, rfl, h1, hl⟩ := tyL_cons hl
  have := tyL_nil hl
  subst this
  obtain ⟨a, rfl, _, _⟩ := ty_row (C := gapC) (Q := fun _ => True) (e := 24) (by kernel_rfl) (fun p hp => ty_gap hp) h1
  exact ⟨a, rfl⟩

end Go.Proofs.YtccinlhenkkpeaaDoor
