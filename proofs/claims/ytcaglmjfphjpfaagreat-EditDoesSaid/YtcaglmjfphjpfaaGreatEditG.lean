/- What holds of lines that are edited, whatever is done. -/
import Derived.Test.YtcaglmjfphjpfaaGreatEditF
namespace Go.Proofs.YtcaglmjfphjpfaaGreat
open Go E
set_option linter.unusedSimpArgs false
set_option linter.unusedVariables false
set_option maxRecDepth 100000

theorem uPush_is {L : List Gap} {g : Gap} (hk : uIs L = true) (hg : gapIs g = true) : uIs (uPush L g) = true := by
  rcases uPush_new hk hg with ⟨h1, _⟩ | ⟨h1, h2, _⟩
  · rw [h1]; exact hk
  · rw [h1]; exact h2

theorem uPush_pop {L : List Gap} {g : Gap} (hk : uIs L = true) (hg : gapIs g = true) : ∃ L', uPop (uPush L g) = (L', g, 0) ∧ L'.length ≤ L.length ∧ uIs L' = true := by
  rcases uPush_new hk hg with ⟨h1, h2, h3, _⟩ | ⟨h1, _, h2, h3⟩
  · exact ⟨_, by rw [h1]; exact h2, by simp, h3⟩
  · exact ⟨_, by rw [h1]; exact h2, by simp, h3⟩

theorem kAdd_is {L : List (List Int)} {l : List Int} (how : Int) (hk : kIs L = true) (ho : kOne l = true) : kIs (kAdd L l how) = true := by
  rcases kAdd_new how hk ho with ⟨h1, h2⟩ | ⟨x, _, _, _, _, _, h1, h2⟩
  · rw [h1]; exact h2
  · rw [h1]; exact h2

theorem isR_upR {r : Int} (h : isR r = true) : isR (upR r) = true := by grind [isR, upR]
theorem isR_loR {r : Int} (h : isR r = true) : isR (loR r) = true := by grind [isR, loR]

theorem allR_sCh {l : List Int} (f t : Nat) (how : Int) (h : allR l = true) : allR (sCh l f t how) = true := by
  simp only [allR, List.all_eq_true] at h ⊢
  intro x hx
  obtain ⟨i, hi, rfl⟩ := List.getElem_of_mem hx
  have hi' : i < l.length := by simpa using hi
  rw [sCh_at hi']
  have hr := h l[i] (List.getElem_mem hi')
  split
  · rw [chR]; split
    · exact isR_upR hr
    · exact isR_loR hr
  · exact hr

theorem gapSplit_is {l : List Int} (k : Nat) (h : allR l = true) (hl : l.length ≤ 200) : gapIs (gapSplit l k) = true := by
  refine gapIs_mk ?_ (allR_take h _) (allR_drop2 h _)
  simp; omega

theorem ed_text {e : EditM} (h : EdOk e) : allR (e.G.A ++ e.G.B) = true ∧ (e.G.A ++ e.G.B).length ≤ 200 := by
  obtain ⟨h1, h2, h3⟩ := gapIs_len h.g
  exact ⟨by simp [h2, h3], by simpa using h1⟩

theorem passed_one {l : List Int} {lo hi : Nat} (h : allR l = true) (hl : l.length ≤ 200) (h1 : lo < hi) (h2 : hi ≤ l.length) : kOne ((l.drop lo).take (hi - lo)) = true :=
  kOne_mk (by simp; omega) (by simp; omega) (allR_take (allR_drop2 h _) _)

/-- The bounds of what is passed. -/
theorem lohi {e : EditM} (a : ActM) (n : Int) (h : EdOk e) (hne : loE e a n ≠ hiE e a n) : ∃ lo hi : Nat, loE e a n = lo ∧ hiE e a n = hi ∧ lo < hi ∧ hi ≤ (e.G.A ++ e.G.B).length := by
  obtain ⟨t1, t2⟩ := toE_in (e := e) a n
  have hLen : (e.G.A ++ e.G.B).length = e.G.A.length + e.G.B.length := List.length_append
  refine ⟨(loE e a n).toNat, (hiE e a n).toNat, ?_⟩
  simp only [loE, hiE, List.length_append] at hne ⊢
  split at hne
  · rename_i hm; simp only [hm, if_true, List.length_append, Int.toNat_natCast] at hne ⊢; exact ⟨rfl, trivial, by omega, Nat.le_refl _⟩
  · rename_i hm
    simp only [hm, if_false] at hne ⊢
    split at hne
    · rename_i h9; simp only [h9, and_self, if_true] at hne ⊢; omega
    · rename_i h9; simp only [h9, if_false] at hne ⊢; omega

theorem passE_ok {e : EditM} (h : EdOk e) {o : Int} (ho : 1 ≤ o ∧ o ≤ 6) {lo hi : Nat} (h1 : lo < hi) (h2 : hi ≤ (e.G.A ++ e.G.B).length) (on : Bool) : EdOk (passE e o lo hi on) := by
  obtain ⟨t1, t2⟩ := ed_text h
  have hp := passed_one t1 t2 h1 h2
  rw [passE]
  generalize e.G.A ++ e.G.B = l at *
  split
  · exact ⟨gapSplit_is _ t1 t2, kAdd_is _ h.k hp, h.u, by simp, by simp, by simp⟩
  split
  · rename_i h4
    have hc : change l lo hi o = (sCh l lo hi o, 0) := by
      rw [change, if_neg (by omega)]; rfl
    rw [hc]
    simp only []
    rw [gapOf_ok (allR_sCh _ _ _ t1) (by simp; omega) (by simpa using t2)]
    exact ⟨gapSplit_is _ (allR_sCh _ _ _ t1) (by simpa using t2), h.k, uPush_is h.u h.g, by simp, by simp, by simp⟩
  · refine ⟨gapIs_mk (by simp; omega) (allR_take t1 _) (allR_drop2 t1 _), ?_, uPush_is h.u h.g, ?_, ?_, ?_⟩
    · simp only []
      split
      · exact kAdd_is _ h.k hp
      · exact h.k
    · simp only []; split <;> omega
    · simp only []; split <;> simp
    · simp

theorem putS_ok {e : EditM} (h : EdOk e) {g : Gap} (hg : gapIs g = true) {t : Int} (ht : 0 ≤ t ∧ t < e.K.length) {u : List Gap} (hu : uIs u = true) (h0 : (putS e g t u).2 = 0) : EdOk (putS e g t u).1 := by
  have hk := kIs_len h.k
  simp only [putS] at h0 ⊢
  obtain ⟨q1, q2⟩ := (gapInsert_is hg (kGet e.K t).1).1 h0
  refine ⟨q1, h.k, hu, by simp, fun _ => ⟨ht.1, ht.2, ?_⟩, by simp⟩
  have hgt : kGet e.K t = (e.K.getD (e.K.length - 1 - t.toNat % e.K.length) [], 0) := by
    rw [kGet, if_neg (by simp [h.k]; omega), if_neg (by omega)]
  have hin : e.K.length - 1 - t.toNat % e.K.length < e.K.length := by omega
  have h1 := kOne_len (hk.2 _ (List.getElem_mem hin))
  have hl : (kGet e.K t).1 = e.K[e.K.length - 1 - t.toNat % e.K.length] := by rw [hgt]; exact getD_at hin _
  rw [hl] at h0 ⊢
  have hA : (gapInsert g e.K[e.K.length - 1 - t.toNat % e.K.length]).1.A = g.A ++ e.K[e.K.length - 1 - t.toNat % e.K.length] := by
    simp only [gapInsert] at h0 ⊢
    split at h0
    · simp at h0
    · split at h0
      · simp at h0
      · rename_i c1 c2
        rw [if_neg c1, if_neg c2]
  simp only []
  rw [hA, List.length_append]
  omega

theorem uPop_ok {L : List Gap} (h : uIs L = true) (h0 : (uPop L).2.2 = 0) : uIs (uPop L).1 = true ∧ gapIs (uPop L).2.1 = true := by
  obtain ⟨h1, h2⟩ := uIs_len h
  rw [uPop, if_neg (by simp [h])] at h0 ⊢
  split at h0
  · simp at h0
  · rename_i hn
    rw [if_neg hn]
    have hp := List.length_pos_iff.2 hn
    exact ⟨uIs_mk (by simp; omega) fun x hx => h2 x (List.mem_of_mem_take hx), h2 _ (lastG_mem hp)⟩

/-- What comes of a right one is right. -/
theorem doE_ok {e : EditM} {a : ActM} {n : Int} (h0 : (doE e a n).2 = 0) : EdOk e ∧ actOk a = true ∧ (-9999 ≤ n ∧ n ≤ 9999) ∧ (actS e a n).2 = 0 ∧ doE e a n = ((actS e a n).1, 0) := by
  by_cases hbad : edIs e = false ∨ n < -9999 ∨ 9999 < n ∨ actOk a = false
  · rw [doE_bad hbad] at h0; simp at h0
  · by_cases h1 : (actS e a n).2 = 0
    · have hy := doE_yes hbad h1
      simp only [not_or, Bool.not_eq_false, Int.not_lt] at hbad
      exact ⟨edIs_ok.1 hbad.1, hbad.2.2.2, ⟨hbad.2.1, hbad.2.2.1⟩, h1, hy⟩
    · rw [doE_no hbad h1] at h0
      exact absurd h0 h1

theorem actS_ok {e : EditM} {a : ActM} {n : Int} (h : EdOk e) (ha : actOk a = true) (h0 : (actS e a n).2 = 0) : EdOk (actS e a n).1 := by
  have hk := kIs_len h.k
  simp only [actOk, Bool.and_eq_true, Bool.or_eq_true, decide_eq_true_eq] at ha
  obtain ⟨⟨k1, k2⟩, k3⟩ := ha
  rw [actS] at h0 ⊢
  split at h0
  · rename_i e1
    rw [if_pos e1]
    rw [moveS] at h0 ⊢
    split at h0
    · rename_i o0
      rw [if_pos o0]
      split at h0
      · simp at h0
      · rename_i o1
        rw [if_neg o1]
        exact ⟨(gapGo_is h.g _).1, h.k, h.u, by simp, by simp, by simp⟩
    · rename_i o0
      rw [if_neg o0]
      split at h0
      · simp at h0
      · rename_i o1
        rw [if_neg o1]
        obtain ⟨lo, hi, l1, l2, l3, l4⟩ := lohi a n h o1
        rw [l1, l2]
        exact passE_ok h (by omega) (by simpa using l3) (by simpa using l4) _
  split at h0
  · rename_i e1 e2
    rw [if_neg e1, if_pos e2]
    rw [insS] at h0 ⊢
    split at h0
    · simp at h0
    · rename_i o1
      rw [if_neg o1]
      obtain ⟨q1, q2⟩ := (gapInsert_is h.g _).1 h0
      refine ⟨q1, h.k, ?_, by simp, by simp, by simp⟩
      simp only []
      split
      · exact h.u
      · exact uPush_is h.u h.g
  split at h0
  · rename_i e1 e2 e3
    rw [if_neg e1, if_neg e2, if_pos e3]
    rw [yankS] at h0 ⊢
    split at h0
    · simp at h0
    · rename_i o1
      rw [if_neg o1]
      exact putS_ok h h.g (by omega) (uPush_is h.u h.g) h0
  split at h0
  · rename_i e1 e2 e3 e4
    rw [if_neg e1, if_neg e2, if_neg e3, if_pos e4]
    rw [popS] at h0 ⊢
    split at h0
    · simp at h0
    · rename_i o1
      rw [if_neg o1]
      obtain ⟨t1, t2, t3, t4⟩ := h.tu (by simpa using o1)
      exact putS_ok h (gapCut_is h.g _).1 ⟨Int.tmod_nonneg _ (by omega), Int.tmod_lt_of_pos _ (by omega)⟩ h.u h0
  split at h0
  · rename_i e1 e2 e3 e4 e5
    rw [if_neg e1, if_neg e2, if_neg e3, if_neg e4, if_pos e5]
    rw [backS] at h0 ⊢
    split at h0
    · simp at h0
    · rename_i o1
      rw [if_neg o1]
      obtain ⟨q1, q2⟩ := uPop_ok h.u (by simpa using o1)
      exact ⟨q2, h.k, q1, by simp, by simp, by simp⟩
  · rename_i e1 e2 e3 e4 e5
    rw [if_neg e1, if_neg e2, if_neg e3, if_neg e4, if_neg e5]
    rw [swapS] at h0 ⊢
    exact ⟨(gSwap_back h0).1, h.k, uPush_is h.u h.g, by simp, by simp, by simp⟩

theorem doE_is {e : EditM} {a : ActM} {n : Int} (h0 : (doE e a n).2 = 0) : edIs (doE e a n).1 = true := by
  obtain ⟨h1, h2, h3, h4, h5⟩ := doE_ok h0
  rw [h5]
  exact edIs_ok.2 (actS_ok h1 h2 h4)

/-- To go elsewhere changes no sign. -/
theorem doE_go {e : EditM} {a : ActM} {n : Int} (h0 : (doE e a n).2 = 0) (hk : a.k = 1) (ho : a.o = 0) : (doE e a n).1.G.A ++ (doE e a n).1.G.B = e.G.A ++ e.G.B := by
  obtain ⟨h1, h2, h3, h4, h5⟩ := doE_ok h0
  rw [h5]
  rw [actS, if_pos hk, moveS, if_pos ho] at h4 ⊢
  split at h4
  · simp at h4
  · rename_i o1
    rw [if_neg o1]
    exact (gapGo_is h1.g _).2

end Go.Proofs.YtcaglmjfphjpfaaGreat
