/- When an editor is right, and what it shows. -/
import Derived.Test.YtccinlhenkkpeaaDoorRenE
namespace Go.Proofs.YtccinlhenkkpeaaDoor
open Go E
set_option linter.unusedSimpArgs false
set_option linter.unusedVariables false
set_option maxRecDepth 100000

/-- Is a search right for a past? -/
def skIs (f : SrM) (p : Past) : Bool := allR f.pat && decide (f.pat.length ≤ 200 ∧ 0 ≤ f.from_ ∧ f.from_ ≤ p.L.length) &&
  (if f.hit then decide ((pGet p f.i).2 = 0 ∧ 0 ≤ f.at_ ∧ plL (pGet p f.i).1 f.pat = f.at_) else decide (f.i = 0 ∧ f.at_ = 0))

theorem pGet_small {p : Past} (hp : small p.L) (i : Int) : (pGet p i).1.length < 2000000 := by
  simp only [pGet]
  split
  · simp
  split
  · simp
  · rw [List.getD_eq_getElem?_getD]
    rcases Nat.lt_or_ge i.toNat p.L.length with h1 | h1
    · rw [List.getElem?_eq_getElem h1]; exact hp.2 _ (List.getElem_mem h1)
    · rw [List.getElem?_eq_none h1]; simp

theorem pc_editor_seeks (n : Nat) (f : SrM) (p : Past) (hf : f.pat.length < 2000000) (hp : small p.L) : (W (n + 9)).pc 28 [srD f, pD p] = some (.bool (skIs f p)) := by
  apply runs c_editor_seeks
  have hp1 := hp.1
  have hG := pc_past_Get n p f.i hp
  have hGl := pGet_small hp f.i
  simp [X_editor_seeks]
  refine aw_rounds (fun m st => ∃ i : Nat, st = ⟨tab [(2, .ptr 0 0 7), (3, .ptr 1 0 3), (10, rn f.pat), (11, .int .i64 f.pat.length), (12, .int .i64 i)], [⟨srL f, 0, true⟩, ⟨[.int .i64 p.room, .int .i64 p.dup, rrn p.L], 0, true⟩]⟩ ∧ i ≤ f.pat.length ∧ m = f.pat.length - i + 1 ∧ Keep (allR f.pat = allR (f.pat.drop i))) ?_ ?_ (n := f.pat.length - (0) + 1) (by first | omega | (simp; omega)) ?_
  · rintro st ⟨i, hx⟩; omega
  rotate_left
  · exact ⟨0, by first | rfl | (simp [*, accS, accH]; done) | (simp only [*]; done) | (congr 1 <;> simp [*, accS, accH]; done) | (congr 1 <;> simp [*, accS, accH] <;> rfl) | (congr 1 <;> congr 1 <;> simp <;> omega), by first | omega | (simp; omega) | simp [*], by first | rfl | (simp; done) | omega, ⟨by simp⟩⟩
  rintro Ja ma _ ⟨i, rfl, fa1, hma, hqa⟩ hJa
  by_cases hi : i < f.pat.length
  · have hi' : (i : Int) < f.pat.length := by omega
    cases hr : isR f.pat[i]
    · have he : skIs f p = false := by rw [skIs, hqa.out, allR_drop hi, hr]; simp
      simp [hi, hi', hr]
      repeat' (first
        | simp (disch := omega) only [wrap_i64, wrap_i32]
        | (simp (disch := first | omega | assumption | (simp only [i64, i32]; omega) | (simp <;> omega) | fail) only [loadD_cpr, loadD_cprs, List.take_of_length_le]; simp [*, hr, he])
        | (with_reducible refine And.intro ?_ ?_; focus first | omega | decide)
        | (with_reducible refine split_ite (fun hp => ?_) (fun hp => ?_) <;> (try simp at hp) <;> simp [*, hr, he])
        | (with_reducible refine split_ite1 (fun hp => ?_) (fun hp => ?_) <;> (try simp at hp) <;> simp [*, hr, he])
        | (refine split_cond (by simp) (fun hp => ?_) (fun hp => ?_) <;> simp at hp <;> simp [*, hr, he])
        | (refine split_ops (by simp) (fun hp => ?_) (fun hp => ?_) <;> simp at hp <;> simp [*, hr, he])
        | (refine split_opsD (by simp) (fun hp => ?_) (fun hp => ?_) <;> simp at hp <;> simp [*, hr, he])
        | (refine split_pick (by simp) (fun hp => ?_) (fun hp => ?_) <;> simp at hp <;> simp [*, hr, he])
        | omega
        | decide
        | (simp [*, hr, he]))
    · simp [hi, hi', hr]
      repeat' (first
        | simp (disch := omega) only [wrap_i64, wrap_i32]
        | (simp (disch := first | omega | assumption | (simp only [i64, i32]; omega) | (simp <;> omega) | fail) only [loadD_cpr, loadD_cprs, List.take_of_length_le]; simp [*, hr])
        | (with_reducible refine And.intro ?_ ?_; focus first | omega | decide)
        | (with_reducible refine split_ite (fun hp => ?_) (fun hp => ?_) <;> (try simp at hp) <;> simp [*, hr])
        | (with_reducible refine split_ite1 (fun hp => ?_) (fun hp => ?_) <;> (try simp at hp) <;> simp [*, hr])
        | (refine split_cond (by simp) (fun hp => ?_) (fun hp => ?_) <;> simp at hp <;> simp [*, hr])
        | (refine split_ops (by simp) (fun hp => ?_) (fun hp => ?_) <;> simp at hp <;> simp [*, hr])
        | (refine split_opsD (by simp) (fun hp => ?_) (fun hp => ?_) <;> simp at hp <;> simp [*, hr])
        | (refine split_pick (by simp) (fun hp => ?_) (fun hp => ?_) <;> simp at hp <;> simp [*, hr])
        | omega
        | decide
        | (simp [*, hr]))
      exact hJa.out _ ⟨i + 1, by first | rfl | (simp [*, accS, accH]; done) | (simp only [*]; done) | (congr 1 <;> simp [*, accS, accH]; done) | (congr 1 <;> simp [*, accS, accH] <;> rfl) | (congr 1 <;> congr 1 <;> simp <;> omega), by first | omega | (simp; omega) | simp [*], by omega, ⟨by rw [hqa.out, allR_drop hi, hr]; simp⟩⟩
  · have hal : allR f.pat = true := by rw [hqa.out, List.drop_of_length_le (by omega)]; rfl
    cases hh : f.hit
    · simp [hi, hh]
      repeat' (first
        | simp (disch := omega) only [wrap_i64, wrap_i32]
        | (simp (disch := first | omega | assumption | (simp only [i64, i32]; omega) | (simp <;> omega) | fail) only [loadD_cpr, loadD_cprs, List.take_of_length_le]; simp [*, hh])
        | (with_reducible refine And.intro ?_ ?_; focus first | omega | decide)
        | (with_reducible refine split_ite (fun hp => ?_) (fun hp => ?_) <;> (try simp at hp) <;> simp [*, hh])
        | (with_reducible refine split_ite1 (fun hp => ?_) (fun hp => ?_) <;> (try simp at hp) <;> simp [*, hh])
        | (refine split_cond (by simp) (fun hp => ?_) (fun hp => ?_) <;> simp at hp <;> simp [*, hh])
        | (refine split_ops (by simp) (fun hp => ?_) (fun hp => ?_) <;> simp at hp <;> simp [*, hh])
        | (refine split_opsD (by simp) (fun hp => ?_) (fun hp => ?_) <;> simp at hp <;> simp [*, hh])
        | (refine split_pick (by simp) (fun hp => ?_) (fun hp => ?_) <;> simp at hp <;> simp [*, hh])
        | omega
        | decide
        | (simp [*, hh]))
      all_goals grind [skIs]
    · have hPl := pc_Place (n + 5) (pGet p f.i).1 f.pat hGl
      simp [hi, hh, hG]
      repeat' (first
        | simp (disch := omega) only [wrap_i64, wrap_i32]
        | (simp (disch := first | omega | assumption | (simp only [i64, i32]; omega) | (simp <;> omega) | fail) only [loadD_cpr, loadD_cprs, List.take_of_length_le]; simp [*, hh, hG, hPl])
        | (with_reducible refine And.intro ?_ ?_; focus first | omega | decide)
        | (with_reducible refine split_ite (fun hp => ?_) (fun hp => ?_) <;> (try simp at hp) <;> simp [*, hh, hG, hPl])
        | (with_reducible refine split_ite1 (fun hp => ?_) (fun hp => ?_) <;> (try simp at hp) <;> simp [*, hh, hG, hPl])
        | (refine split_cond (by simp) (fun hp => ?_) (fun hp => ?_) <;> simp at hp <;> simp [*, hh, hG, hPl])
        | (refine split_ops (by simp) (fun hp => ?_) (fun hp => ?_) <;> simp at hp <;> simp [*, hh, hG, hPl])
        | (refine split_opsD (by simp) (fun hp => ?_) (fun hp => ?_) <;> simp at hp <;> simp [*, hh, hG, hPl])
        | (refine split_pick (by simp) (fun hp => ?_) (fun hp => ?_) <;> simp at hp <;> simp [*, hh, hG, hPl])
        | omega
        | decide
        | (simp [*, hh, hG, hPl]))
      all_goals grind [skIs]

/-- Is an editor right? -/
def edrIs (e : EditorM) : Bool := edIs e.E && ctIs e.has e.neg e.n && viIs e.vm e.vo && pIs e.P && sIs e.S e.P && decide ((e.map_ = 1 ∨ e.map_ = 0 ∧ e.vm = 0 ∧ e.vo = 0) ∧ 0 ≤ e.fresh ∧ e.fresh < 1000) &&
  (if e.F.on then !e.quote && skIs e.F e.P else !e.F.fore && !e.F.hit && decide (e.F.pat.length = 0 ∧ e.F.from_ = 0 ∧ e.F.i = 0 ∧ e.F.at_ = 0))

structure EdrSmall (e : EditorM) : Prop where
  a : e.E.G.A.length ≤ 1000
  b : e.E.G.B.length ≤ 1000
  k : small e.E.K
  u : smallU e.E.U
  p : small e.P.L
  s : smallS e.S.L
  f : e.F.pat.length ≤ 1000

theorem pc_editor_Is (n : Nat) (e : EditorM) (h : EdrSmall e) : (W (n + 10)).pc 12 [edrD e] = some (.bool (edrIs e)) := by
  apply runs c_editor_Is
  have h1 := pc_edit_Is (n + 3) e.E (by have := h.a; omega) (by have := h.b; omega) h.k h.u
  have h2 := pc_count_Is (n + 8) e.has e.neg e.n
  have h3 := pc_vi_Is (n + 8) e.vm e.vo
  have h4 := pc_past_Is (n + 2) e.P h.p
  have h5 := pc_stash_Is (n + 1) e.S e.P h.s h.p
  have h6 := pc_editor_seeks n e.F e.P (by have := h.f; omega) h.p
  simp [X_editor_Is]
  cases q1 : edIs e.E
  · rw [q1] at h1
    have he : edrIs e = false := by simp [edrIs, q1]
    repeat' (first
      | simp (disch := omega) only [wrap_i64, wrap_i32]
      | (simp (disch := first | omega | assumption | (simp only [i64, i32]; omega) | (simp <;> omega) | fail) only [loadD_cpr, loadD_cprs, List.take_of_length_le]; simp [*, h1, he])
      | (with_reducible refine And.intro ?_ ?_; focus first | omega | decide)
      | (with_reducible refine split_ite (fun hp => ?_) (fun hp => ?_) <;> (try simp at hp) <;> simp [*, h1, he])
      | (with_reducible refine split_ite1 (fun hp => ?_) (fun hp => ?_) <;> (try simp at hp) <;> simp [*, h1, he])
      | (refine split_cond (by simp) (fun hp => ?_) (fun hp => ?_) <;> simp at hp <;> simp [*, h1, he])
      | (refine split_ops (by simp) (fun hp => ?_) (fun hp => ?_) <;> simp at hp <;> simp [*, h1, he])
      | (refine split_opsD (by simp) (fun hp => ?_) (fun hp => ?_) <;> simp at hp <;> simp [*, h1, he])
      | (refine split_pick (by simp) (fun hp => ?_) (fun hp => ?_) <;> simp at hp <;> simp [*, h1, he])
      | omega
      | decide
      | (simp [*, h1, he]))
  cases q2 : ctIs e.has e.neg e.n
  · rw [q1] at h1
    rw [q2] at h2
    have he : edrIs e = false := by simp [edrIs, q2]
    repeat' (first
      | simp (disch := omega) only [wrap_i64, wrap_i32]
      | (simp (disch := first | omega | assumption | (simp only [i64, i32]; omega) | (simp <;> omega) | fail) only [loadD_cpr, loadD_cprs, List.take_of_length_le]; simp [*, h1, h2, he])
      | (with_reducible refine And.intro ?_ ?_; focus first | omega | decide)
      | (with_reducible refine split_ite (fun hp => ?_) (fun hp => ?_) <;> (try simp at hp) <;> simp [*, h1, h2, he])
      | (with_reducible refine split_ite1 (fun hp => ?_) (fun hp => ?_) <;> (try simp at hp) <;> simp [*, h1, h2, he])
      | (refine split_cond (by simp) (fun hp => ?_) (fun hp => ?_) <;> simp at hp <;> simp [*, h1, h2, he])
      | (refine split_ops (by simp) (fun hp => ?_) (fun hp => ?_) <;> simp at hp <;> simp [*, h1, h2, he])
      | (refine split_opsD (by simp) (fun hp => ?_) (fun hp => ?_) <;> simp at hp <;> simp [*, h1, h2, he])
      | (refine split_pick (by simp) (fun hp => ?_) (fun hp => ?_) <;> simp at hp <;> simp [*, h1, h2, he])
      | omega
      | decide
      | (simp [*, h1, h2, he]))
  cases q3 : viIs e.vm e.vo
  · rw [q1] at h1
    rw [q2] at h2
    rw [q3] at h3
    have he : edrIs e = false := by simp [edrIs, q3]
    repeat' (first
      | simp (disch := omega) only [wrap_i64, wrap_i32]
      | (simp (disch := first | omega | assumption | (simp only [i64, i32]; omega) | (simp <;> omega) | fail) only [loadD_cpr, loadD_cprs, List.take_of_length_le]; simp [*, h1, h2, h3, he])
      | (with_reducible refine And.intro ?_ ?_; focus first | omega | decide)
      | (with_reducible refine split_ite (fun hp => ?_) (fun hp => ?_) <;> (try simp at hp) <;> simp [*, h1, h2, h3, he])
      | (with_reducible refine split_ite1 (fun hp => ?_) (fun hp => ?_) <;> (try simp at hp) <;> simp [*, h1, h2, h3, he])
      | (refine split_cond (by simp) (fun hp => ?_) (fun hp => ?_) <;> simp at hp <;> simp [*, h1, h2, h3, he])
      | (refine split_ops (by simp) (fun hp => ?_) (fun hp => ?_) <;> simp at hp <;> simp [*, h1, h2, h3, he])
      | (refine split_opsD (by simp) (fun hp => ?_) (fun hp => ?_) <;> simp at hp <;> simp [*, h1, h2, h3, he])
      | (refine split_pick (by simp) (fun hp => ?_) (fun hp => ?_) <;> simp at hp <;> simp [*, h1, h2, h3, he])
      | omega
      | decide
      | (simp [*, h1, h2, h3, he]))
  cases q4 : pIs e.P
  · rw [q1] at h1
    rw [q2] at h2
    rw [q3] at h3
    rw [q4] at h4
    have he : edrIs e = false := by simp [edrIs, q4]
    repeat' (first
      | simp (disch := omega) only [wrap_i64, wrap_i32]
      | (simp (disch := first | omega | assumption | (simp only [i64, i32]; omega) | (simp <;> omega) | fail) only [loadD_cpr, loadD_cprs, List.take_of_length_le]; simp [*, h1, h2, h3, h4, he])
      | (with_reducible refine And.intro ?_ ?_; focus first | omega | decide)
      | (with_reducible refine split_ite (fun hp => ?_) (fun hp => ?_) <;> (try simp at hp) <;> simp [*, h1, h2, h3, h4, he])
      | (with_reducible refine split_ite1 (fun hp => ?_) (fun hp => ?_) <;> (try simp at hp) <;> simp [*, h1, h2, h3, h4, he])
      | (refine split_cond (by simp) (fun hp => ?_) (fun hp => ?_) <;> simp at hp <;> simp [*, h1, h2, h3, h4, he])
      | (refine split_ops (by simp) (fun hp => ?_) (fun hp => ?_) <;> simp at hp <;> simp [*, h1, h2, h3, h4, he])
      | (refine split_opsD (by simp) (fun hp => ?_) (fun hp => ?_) <;> simp at hp <;> simp [*, h1, h2, h3, h4, he])
      | (refine split_pick (by simp) (fun hp => ?_) (fun hp => ?_) <;> simp at hp <;> simp [*, h1, h2, h3, h4, he])
      | omega
      | decide
      | (simp [*, h1, h2, h3, h4, he]))
  cases q5 : sIs e.S e.P
  · rw [q1] at h1
    rw [q2] at h2
    rw [q3] at h3
    rw [q4] at h4
    rw [q5] at h5
    have he : edrIs e = false := by simp [edrIs, q5]
    repeat' (first
      | simp (disch := omega) only [wrap_i64, wrap_i32]
      | (simp (disch := first | omega | assumption | (simp only [i64, i32]; omega) | (simp <;> omega) | fail) only [loadD_cpr, loadD_cprs, List.take_of_length_le]; simp [*, h1, h2, h3, h4, h5, he])
      | (with_reducible refine And.intro ?_ ?_; focus first | omega | decide)
      | (with_reducible refine split_ite (fun hp => ?_) (fun hp => ?_) <;> (try simp at hp) <;> simp [*, h1, h2, h3, h4, h5, he])
      | (with_reducible refine split_ite1 (fun hp => ?_) (fun hp => ?_) <;> (try simp at hp) <;> simp [*, h1, h2, h3, h4, h5, he])
      | (refine split_cond (by simp) (fun hp => ?_) (fun hp => ?_) <;> simp at hp <;> simp [*, h1, h2, h3, h4, h5, he])
      | (refine split_ops (by simp) (fun hp => ?_) (fun hp => ?_) <;> simp at hp <;> simp [*, h1, h2, h3, h4, h5, he])
      | (refine split_opsD (by simp) (fun hp => ?_) (fun hp => ?_) <;> simp at hp <;> simp [*, h1, h2, h3, h4, h5, he])
      | (refine split_pick (by simp) (fun hp => ?_) (fun hp => ?_) <;> simp at hp <;> simp [*, h1, h2, h3, h4, h5, he])
      | omega
      | decide
      | (simp [*, h1, h2, h3, h4, h5, he]))
  rw [q1] at h1
  rw [q2] at h2
  rw [q3] at h3
  rw [q4] at h4
  rw [q5] at h5
  have hb : edrIs e = (decide ((e.map_ = 1 ∨ e.map_ = 0 ∧ e.vm = 0 ∧ e.vo = 0) ∧ 0 ≤ e.fresh ∧ e.fresh < 1000) &&
      (if e.F.on then !e.quote && skIs e.F e.P else !e.F.fore && !e.F.hit && decide (e.F.pat.length = 0 ∧ e.F.from_ = 0 ∧ e.F.i = 0 ∧ e.F.at_ = 0))) := by
    simp [edrIs, q1, q2, q3, q4, q5]
  replace hb := Keep.mk hb
  cases hon : e.F.on
  · repeat' (first
      | simp (disch := omega) only [wrap_i64, wrap_i32]
      | (simp (disch := first | omega | assumption | (simp only [i64, i32]; omega) | (simp <;> omega) | fail) only [loadD_cpr, loadD_cprs, List.take_of_length_le]; simp [*, h1, h2, h3, h4, h5, hon, eqCells_ii])
      | (with_reducible refine And.intro ?_ ?_; focus first | omega | decide)
      | (with_reducible refine split_ite (fun hp => ?_) (fun hp => ?_) <;> (try simp at hp) <;> simp [*, h1, h2, h3, h4, h5, hon, eqCells_ii])
      | (with_reducible refine split_ite1 (fun hp => ?_) (fun hp => ?_) <;> (try simp at hp) <;> simp [*, h1, h2, h3, h4, h5, hon, eqCells_ii])
      | (refine split_cond (by simp) (fun hp => ?_) (fun hp => ?_) <;> simp at hp <;> simp [*, h1, h2, h3, h4, h5, hon, eqCells_ii])
      | (refine split_ops (by simp) (fun hp => ?_) (fun hp => ?_) <;> simp at hp <;> simp [*, h1, h2, h3, h4, h5, hon, eqCells_ii])
      | (refine split_opsD (by simp) (fun hp => ?_) (fun hp => ?_) <;> simp at hp <;> simp [*, h1, h2, h3, h4, h5, hon, eqCells_ii])
      | (refine split_pick (by simp) (fun hp => ?_) (fun hp => ?_) <;> simp at hp <;> simp [*, h1, h2, h3, h4, h5, hon, eqCells_ii])
      | omega
      | decide
      | (simp [*, h1, h2, h3, h4, h5, hon, eqCells_ii]))
    all_goals
      rw [hb.out]
      grind
  · simp only [srD, hon] at h6
    repeat' (first
      | simp (disch := omega) only [wrap_i64, wrap_i32]
      | (simp (disch := first | omega | assumption | (simp only [i64, i32]; omega) | (simp <;> omega) | fail) only [loadD_cpr, loadD_cprs, List.take_of_length_le]; simp [*, h1, h2, h3, h4, h5, h6, hon, eqCells_ii])
      | (with_reducible refine And.intro ?_ ?_; focus first | omega | decide)
      | (with_reducible refine split_ite (fun hp => ?_) (fun hp => ?_) <;> (try simp at hp) <;> simp [*, h1, h2, h3, h4, h5, h6, hon, eqCells_ii])
      | (with_reducible refine split_ite1 (fun hp => ?_) (fun hp => ?_) <;> (try simp at hp) <;> simp [*, h1, h2, h3, h4, h5, h6, hon, eqCells_ii])
      | (refine split_cond (by simp) (fun hp => ?_) (fun hp => ?_) <;> simp at hp <;> simp [*, h1, h2, h3, h4, h5, h6, hon, eqCells_ii])
      | (refine split_ops (by simp) (fun hp => ?_) (fun hp => ?_) <;> simp at hp <;> simp [*, h1, h2, h3, h4, h5, h6, hon, eqCells_ii])
      | (refine split_opsD (by simp) (fun hp => ?_) (fun hp => ?_) <;> simp at hp <;> simp [*, h1, h2, h3, h4, h5, h6, hon, eqCells_ii])
      | (refine split_pick (by simp) (fun hp => ?_) (fun hp => ?_) <;> simp at hp <;> simp [*, h1, h2, h3, h4, h5, h6, hon, eqCells_ii])
      | omega
      | decide
      | (simp [*, h1, h2, h3, h4, h5, h6, hon, eqCells_ii]))
    all_goals
      rw [hb.out]
      grind

end Go.Proofs.YtccinlhenkkpeaaDoor
