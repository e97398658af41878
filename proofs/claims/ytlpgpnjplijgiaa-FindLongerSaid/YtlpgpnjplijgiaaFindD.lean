/- The laws of layer 21. -/
import Derived.Test.YtlpgpnjplijgiaaFindC
namespace Go.Proofs.Ytlpgpnjplijgiaa
open Go E
set_option linter.unusedSimpArgs false
set_option linter.unusedVariables false

theorem pc_FindPlaces (n : Nat) (l pat : List Int) : (W (n + 18)).pc 6 [rn l, rn pat] = some (.bool true) := by
  apply runs c_typebarlaw21_FindPlaces
  simp [X_typebarlaw21_FindPlaces]
  repeat' (first
    | simp (disch := omega) only [wrap_i64, wrap_i32]
    | (simp (disch := first | omega | assumption | (simp only [i64, i32]; omega) | (simp <;> omega) | fail) only [loadD_cpr, loadD_cprs, List.take_of_length_le, pc_Place, pc_ref21_Place]; simp [*, pc_found])
    | (with_reducible refine And.intro ?_ ?_; focus first | omega | decide)
    | (with_reducible refine split_ite (fun hp => ?_) (fun hp => ?_) <;> (try simp at hp) <;> simp [*, pc_found])
    | (with_reducible refine split_ite1 (fun hp => ?_) (fun hp => ?_) <;> (try simp at hp) <;> simp [*, pc_found])
    | (refine split_cond (by simp) (fun hp => ?_) (fun hp => ?_) <;> simp at hp <;> simp [*, pc_found])
    | (refine split_ops (by simp) (fun hp => ?_) (fun hp => ?_) <;> simp at hp <;> simp [*, pc_found])
    | (refine split_opsD (by simp) (fun hp => ?_) (fun hp => ?_) <;> simp at hp <;> simp [*, pc_found])
    | (refine split_pick (by simp) (fun hp => ?_) (fun hp => ?_) <;> simp at hp <;> simp [*, pc_found])
    | omega
    | decide
    | (simp [*, pc_found]))

theorem pc_FindDoes (n : Nat) (p : Past) (pat : List Int) (f : Int) (hf : i64 f) : (W (n + 18)).pc 7 [pD p, rn pat, .int .i64 f] = some (.bool true) := by
  apply runs c_typebarlaw21_FindDoes
  cases hb : fBig p pat
  · obtain ⟨hs, hl, hL, hx⟩ := fBig_small hb
    have b := small_bears hs
    have e1 := pc_Back (n + 8) p pat f b (by omega) hf
    have e2 := pc_Fore (n + 8) p pat f b (by omega) hf
    have e3 := pc_ref21_Back (n + 8) p pat f hs (by omega)
    have e4 := pc_ref21_Fore (n + 8) p pat f hs (by omega)
    simp [X_typebarlaw21_FindDoes, pc_fBig, hb, e1, e2, e3, e4, pc_found]
  · simp [X_typebarlaw21_FindDoes, pc_fBig, hb]

theorem pc_FindBegins (n : Nat) (p : Past) (pat : List Int) (f : Int) (hf : i64 f) : (W (n + 18)).pc 8 [pD p, rn pat, .int .i64 f] = some (.bool true) := by
  apply runs c_typebarlaw21_FindBegins
  cases hb : fBig p pat
  · obtain ⟨hs, hl, hL, hx⟩ := fBig_small hb
    have b := small_bears hs
    have e1 := pc_Prefix (n + 9) p pat f b (by omega) hf
    have e3 := pc_ref21_Prefix (n + 8) p pat f hs (by omega)
    simp [X_typebarlaw21_FindBegins, pc_fBig, hb, e1, e3, pc_found]
  · simp [X_typebarlaw21_FindBegins, pc_fBig, hb]

theorem stL_pre {l a b : List Int} (h : stL l (a ++ b) = true) : stL l a = true := by
  simp only [stL, decide_eq_true_eq, List.length_append] at h ⊢
  obtain ⟨h1, h2⟩ := h
  refine ⟨by omega, ?_⟩
  have := congrArg (List.take a.length) h2
  rw [List.take_take, Nat.min_eq_left (by omega), List.take_left] at this
  exact this

theorem plL_some {l pat : List Int} : 0 ≤ plL l pat ↔ pat ≠ [] ∧ ∃ i, i < l.length ∧ stL (l.drop i) pat = true := by
  unfold plL
  split
  · simp [*]
  · rename_i hz
    split
    · rename_i i h
      rw [List.find?_range_eq_some] at h
      refine ⟨fun _ => ⟨hz, i, by simpa using h.2.1, h.1⟩, fun _ => by omega⟩
    · rename_i h
      rw [List.find?_eq_none] at h
      refine ⟨fun q => by omega, fun ⟨_, i, hi, hs⟩ => ?_⟩
      exact absurd hs (by simpa using h i (by simpa using hi))

theorem hit_pre {p : Past} {a b : List Int} {j : Nat} (ha : a ≠ []) (h : hitL p (a ++ b) j = true) : hitL p a j = true := by
  simp only [hitL, decide_eq_true_eq, plL_some] at h ⊢
  obtain ⟨_, i, hi, hs⟩ := h
  exact ⟨ha, i, hi, stL_pre hs⟩

theorem bk_mono {q r : Nat → Bool} (hqr : ∀ j, q j = true → r j = true) {f : Int} : (n : Nat) → {i : Nat} → bkI q f n = some i → ∃ k, bkI r f n = some k ∧ i ≤ k ∧ k < n
  | 0, i, h => by cases h
  | n + 1, i, h => by
    unfold bkI at h ⊢
    by_cases hr : (n : Int) ≤ f ∧ r n = true
    · rw [if_pos hr]
      refine ⟨n, rfl, ?_, by omega⟩
      by_cases hq : (n : Int) ≤ f ∧ q n = true
      · rw [if_pos hq] at h; simp at h; omega
      · rw [if_neg hq] at h
        obtain ⟨k, _, h1, h2⟩ := bk_mono hqr n h
        omega
    · rw [if_neg (fun hq => hr ⟨hq.1, hqr _ hq.2⟩)] at h
      rw [if_neg hr]
      obtain ⟨k, h0, h1, h2⟩ := bk_mono hqr n h
      exact ⟨k, h0, h1, by omega⟩

theorem fw_mono {q r : Nat → Bool} (hqr : ∀ j, q j = true → r j = true) {f : Int} {n i : Nat} (h : fwI q f n = some i) : ∃ k, fwI r f n = some k ∧ k ≤ i := by
  have h' := h
  unfold fwI at h'
  rw [List.find?_range_eq_some] at h'
  obtain ⟨h1, h2, _⟩ := h'
  cases hr : fwI r f n with
  | none =>
    unfold fwI at hr
    rw [List.find?_eq_none] at hr
    have := hr i (by simpa using h2)
    simp at h1 this
    exact absurd (hqr _ h1.2) (by simp [this h1.1])
  | some k =>
    refine ⟨k, rfl, ?_⟩
    unfold fwI at hr
    rw [List.find?_range_eq_some] at hr
    obtain ⟨_, _, h3⟩ := hr
    rcases Nat.lt_or_ge i k with hik | hik
    · have := h3 i hik
      simp at h1 this
      have hr := hqr _ h1.2
      rcases this with h4 | h4
      · omega
      · rw [h4] at hr; cases hr
    · exact hik

theorem longB {p : Past} {a b : List Int} {f : Int} (ha : a ≠ []) (h : (fBack p (a ++ b) f).2.2 = 0) : (fBack p a f).2.2 = 0 ∧ (fBack p (a ++ b) f).1 ≤ (fBack p a f).1 := by
  simp only [fBack, fnd] at h ⊢
  cases hk : pIs p
  · simp [hk] at h
  have hab : ¬ a ++ b = [] := by simp [ha]
  simp only [hk, hab, ha, Bool.true_eq_false, if_false] at h ⊢
  cases h1 : bkI (hitL p (a ++ b)) f p.L.length with
  | none => simp [h1] at h
  | some i =>
    obtain ⟨k, h2, h3, _⟩ := bk_mono (fun j => hit_pre (p := p) (b := b) ha) _ h1
    simp [h2]
    exact h3

theorem longF {p : Past} {a b : List Int} {f : Int} (ha : a ≠ []) (h : (fFore p (a ++ b) f).2.2 = 0) : (fFore p a f).2.2 = 0 ∧ (fFore p a f).1 ≤ (fFore p (a ++ b) f).1 := by
  simp only [fFore, fnd] at h ⊢
  cases hk : pIs p
  · simp [hk] at h
  have hab : ¬ a ++ b = [] := by simp [ha]
  simp only [hk, hab, ha, Bool.true_eq_false, if_false] at h ⊢
  cases h1 : fwI (hitL p (a ++ b)) f p.L.length with
  | none => simp [h1] at h
  | some i =>
    obtain ⟨k, h2, h3⟩ := fw_mono (fun j => hit_pre (p := p) (b := b) ha) h1
    simp [h2]
    exact h3

theorem longP {p : Past} {a b : List Int} {f : Int} (h : (fPre p (a ++ b) f).2 = 0) : (fPre p a f).2 = 0 ∧ (fPre p (a ++ b) f).1 ≤ (fPre p a f).1 := by
  simp only [fPre] at h ⊢
  cases hk : pIs p
  · simp [hk] at h
  simp only [hk, Bool.true_eq_false, if_false] at h ⊢
  cases h1 : bkI (fun j => stL (p.L.getD j []) (a ++ b)) f p.L.length with
  | none => rw [h1] at h; cases h
  | some i =>
    obtain ⟨k, h2, h3, _⟩ := bk_mono (r := fun j => stL (p.L.getD j []) a) (fun j h => stL_pre h) _ h1
    rw [h2]
    exact ⟨rfl, by show (i : Int) ≤ k; omega⟩

theorem pc_FindLonger (n : Nat) (p : Past) (pat more : List Int) (f : Int) (hf : i64 f) : (W (n + 18)).pc 10 [pD p, rn pat, rn more, .int .i64 f] = some (.bool true) := by
  apply runs c_typebarlaw21_FindLonger
  cases hb : fBig p pat
  · obtain ⟨hs, hl, hL, hx⟩ := fBig_small hb
    have b := small_bears hs
    by_cases hz : pat = []
    · simp [X_typebarlaw21_FindLonger, pc_fBig, hb, pc_found, hz]
      repeat' (first
        | simp (disch := omega) only [wrap_i64, wrap_i32]
        | (simp (disch := first | omega | assumption | (simp only [i64, i32]; omega) | (simp <;> omega) | fail) only [loadD_cpr, loadD_cprs, List.take_of_length_le]; simp [*, pc_found])
        | (with_reducible refine And.intro ?_ ?_; focus first | omega | decide)
        | (with_reducible refine split_ite (fun hp => ?_) (fun hp => ?_) <;> (try simp at hp) <;> simp [*, pc_found])
        | (with_reducible refine split_ite1 (fun hp => ?_) (fun hp => ?_) <;> (try simp at hp) <;> simp [*, pc_found])
        | (refine split_cond (by simp) (fun hp => ?_) (fun hp => ?_) <;> simp at hp <;> simp [*, pc_found])
        | (refine split_ops (by simp) (fun hp => ?_) (fun hp => ?_) <;> simp at hp <;> simp [*, pc_found])
        | (refine split_opsD (by simp) (fun hp => ?_) (fun hp => ?_) <;> simp at hp <;> simp [*, pc_found])
        | (refine split_pick (by simp) (fun hp => ?_) (fun hp => ?_) <;> simp at hp <;> simp [*, pc_found])
        | omega
        | decide
        | (simp [*, pc_found]))
    by_cases hm : 300 < more.length
    · simp [X_typebarlaw21_FindLonger, pc_fBig, hb, pc_found, hz]
      repeat' (first
        | simp (disch := omega) only [wrap_i64, wrap_i32]
        | (simp (disch := first | omega | assumption | (simp only [i64, i32]; omega) | (simp <;> omega) | fail) only [loadD_cpr, loadD_cprs, List.take_of_length_le]; simp [*, pc_found])
        | (with_reducible refine And.intro ?_ ?_; focus first | omega | decide)
        | (with_reducible refine split_ite (fun hp => ?_) (fun hp => ?_) <;> (try simp at hp) <;> simp [*, pc_found])
        | (with_reducible refine split_ite1 (fun hp => ?_) (fun hp => ?_) <;> (try simp at hp) <;> simp [*, pc_found])
        | (refine split_cond (by simp) (fun hp => ?_) (fun hp => ?_) <;> simp at hp <;> simp [*, pc_found])
        | (refine split_ops (by simp) (fun hp => ?_) (fun hp => ?_) <;> simp at hp <;> simp [*, pc_found])
        | (refine split_opsD (by simp) (fun hp => ?_) (fun hp => ?_) <;> simp at hp <;> simp [*, pc_found])
        | (refine split_pick (by simp) (fun hp => ?_) (fun hp => ?_) <;> simp at hp <;> simp [*, pc_found])
        | omega
        | decide
        | (simp [*, pc_found]))
    have e1 := pc_Back (n + 8) p pat f b (by omega) hf
    have e2 := pc_Fore (n + 8) p pat f b (by omega) hf
    have e3 := pc_Prefix (n + 9) p pat f b (by omega) hf
    have d1 := pc_Back (n + 8) p (pat ++ more) f b (by simp; omega) hf
    have d2 := pc_Fore (n + 8) p (pat ++ more) f b (by simp; omega) hf
    have d3 := pc_Prefix (n + 9) p (pat ++ more) f b (by simp; omega) hf
    have l1 := longB (p := p) (a := pat) (b := more) (f := f) hz
    have l2 := longF (p := p) (a := pat) (b := more) (f := f) hz
    have l3 := longP (p := p) (a := pat) (b := more) (f := f)
    by_cases hmz : more = []
    · subst hmz
      rw [List.append_nil] at d1 d2 d3 l1 l2 l3
      simp [X_typebarlaw21_FindLonger, pc_fBig, hb, pc_found, hz]
      repeat' (first
        | simp (disch := omega) only [wrap_i64, wrap_i32]
        | (simp (disch := first | omega | assumption | (simp only [i64, i32]; omega) | (simp <;> omega) | fail) only [loadD_cpr, loadD_cprs, List.take_of_length_le]; simp [*, pc_found, e1, e2, e3])
        | (with_reducible refine And.intro ?_ ?_; focus first | omega | decide)
        | (with_reducible refine split_ite (fun hp => ?_) (fun hp => ?_) <;> (try simp at hp) <;> simp [*, pc_found, e1, e2, e3])
        | (with_reducible refine split_ite1 (fun hp => ?_) (fun hp => ?_) <;> (try simp at hp) <;> simp [*, pc_found, e1, e2, e3])
        | (refine split_cond (by simp) (fun hp => ?_) (fun hp => ?_) <;> simp at hp <;> simp [*, pc_found, e1, e2, e3])
        | (refine split_ops (by simp) (fun hp => ?_) (fun hp => ?_) <;> simp at hp <;> simp [*, pc_found, e1, e2, e3])
        | (refine split_opsD (by simp) (fun hp => ?_) (fun hp => ?_) <;> simp at hp <;> simp [*, pc_found, e1, e2, e3])
        | (refine split_pick (by simp) (fun hp => ?_) (fun hp => ?_) <;> simp at hp <;> simp [*, pc_found, e1, e2, e3])
        | omega
        | decide
        | (simp [*, pc_found, e1, e2, e3]))
    · simp [X_typebarlaw21_FindLonger, pc_fBig, hb, pc_found, hz, hmz]
      repeat' (first
        | simp (disch := omega) only [wrap_i64, wrap_i32]
        | (simp (disch := first | omega | assumption | (simp only [i64, i32]; omega) | (simp <;> omega) | fail) only [loadD_cpr, loadD_cprs, List.take_of_length_le]; simp [*, pc_found, e1, e2, e3, d1, d2, d3])
        | (with_reducible refine And.intro ?_ ?_; focus first | omega | decide)
        | (with_reducible refine split_ite (fun hp => ?_) (fun hp => ?_) <;> (try simp at hp) <;> simp [*, pc_found, e1, e2, e3, d1, d2, d3])
        | (with_reducible refine split_ite1 (fun hp => ?_) (fun hp => ?_) <;> (try simp at hp) <;> simp [*, pc_found, e1, e2, e3, d1, d2, d3])
        | (refine split_cond (by simp) (fun hp => ?_) (fun hp => ?_) <;> simp at hp <;> simp [*, pc_found, e1, e2, e3, d1, d2, d3])
        | (refine split_ops (by simp) (fun hp => ?_) (fun hp => ?_) <;> simp at hp <;> simp [*, pc_found, e1, e2, e3, d1, d2, d3])
        | (refine split_opsD (by simp) (fun hp => ?_) (fun hp => ?_) <;> simp at hp <;> simp [*, pc_found, e1, e2, e3, d1, d2, d3])
        | (refine split_pick (by simp) (fun hp => ?_) (fun hp => ?_) <;> simp at hp <;> simp [*, pc_found, e1, e2, e3, d1, d2, d3])
        | omega
        | decide
        | (simp [*, pc_found, e1, e2, e3, d1, d2, d3]))
  · simp [X_typebarlaw21_FindLonger, pc_fBig, hb, pc_found]

theorem bk_spec {q : Nat → Bool} {f : Int} : (n : Nat) → match bkI q f n with
    | some i => i < n ∧ (i : Int) ≤ f ∧ q i = true ∧ ∀ j : Nat, i < j → j < n → (j : Int) ≤ f → q j = false
    | none => ∀ j : Nat, j < n → (j : Int) ≤ f → q j = false
  | 0 => fun j h => by omega
  | n + 1 => by
    unfold bkI
    by_cases hq : (n : Int) ≤ f ∧ q n = true
    · rw [if_pos hq]
      exact ⟨by omega, hq.1, hq.2, fun j a b => by omega⟩
    · rw [if_neg hq]
      have hn : (n : Int) ≤ f → q n = false := fun h => by
        cases hx : q n
        · rfl
        · exact absurd ⟨h, hx⟩ hq
      have := bk_spec (q := q) (f := f) n
      cases h : bkI q f n with
      | none =>
        rw [h] at this
        intro j a b
        by_cases e : j = n
        · subst e; exact hn b
        · exact this j (by omega) b
      | some i =>
        rw [h] at this
        obtain ⟨h1, h2, h3, h4⟩ := this
        refine ⟨by omega, h2, h3, fun j a b c => ?_⟩
        by_cases e : j = n
        · subst e; exact hn c
        · exact h4 j a (by omega) c

theorem fw_spec {q : Nat → Bool} {f : Int} (n : Nat) : match fwI q f n with
    | some i => i < n ∧ f ≤ (i : Int) ∧ q i = true ∧ ∀ j : Nat, j < i → f ≤ (j : Int) → q j = false
    | none => ∀ j : Nat, j < n → f ≤ (j : Int) → q j = false := by
  cases h : fwI q f n with
  | none =>
    unfold fwI at h
    rw [List.find?_eq_none] at h
    intro j a b
    have := h j (by simpa using a)
    simp at this
    exact this b
  | some i =>
    unfold fwI at h
    rw [List.find?_range_eq_some] at h
    obtain ⟨h1, h2, h3⟩ := h
    simp at h1 h2
    refine ⟨h2, h1.1, h1.2, fun j a b => ?_⟩
    have := h3 j a
    simp at this
    rcases this with h4 | h4
    · omega
    · exact h4

/-- What is found, told by its law. -/
theorem near_back {p : Past} {pat : List Int} {f : Int} (hk : pIs p = true) (hz : ¬ pat = []) : ∃ i a e : Int, fBack p pat f = (i, a, e) ∧ ((e = 0 ∧ 0 ≤ i ∧ i < p.L.length ∧ 0 ≤ a) ∨ e = 7) ∧
    ∀ n (h : n < p.L.length), (e = 0 → (n : Int) = i → plL p.L[n] pat = a ∧ (n : Int) ≤ f) ∧ (0 ≤ plL p.L[n] pat → (n : Int) ≤ f → e = 0 ∧ (n : Int) ≤ i) := by
  have s := bk_spec (q := hitL p pat) (f := f) p.L.length
  simp only [fBack, fnd, hk, hz, Bool.true_eq_false, if_false]
  cases h : bkI (hitL p pat) f p.L.length with
  | none =>
    rw [h] at s
    refine ⟨0, 0, 7, rfl, .inr rfl, fun n hn => ⟨fun e => by omega, fun a b => ?_⟩⟩
    have := s n hn b
    simp only [hitL, getD_at hn] at this
    simp at this
    omega
  | some i =>
    rw [h] at s
    obtain ⟨h1, h2, h3, h4⟩ := s
    simp only [hitL, getD_at h1] at h3
    refine ⟨i, plL p.L[i] pat, 0, by simp only [getD_at h1], .inl ⟨rfl, by omega, by omega, by simpa using h3⟩, fun n hn => ⟨fun _ e => ?_, fun a b => ⟨rfl, ?_⟩⟩⟩
    · have : n = i := by omega
      subst this
      exact ⟨rfl, h2⟩
    · rcases Nat.lt_or_ge i n with hlt | hge
      · have := h4 n hlt hn b
        simp only [hitL, getD_at hn] at this
        simp at this
        omega
      · omega

theorem near_fore {p : Past} {pat : List Int} {f : Int} (hk : pIs p = true) (hz : ¬ pat = []) : ∃ i a e : Int, fFore p pat f = (i, a, e) ∧ ((e = 0 ∧ 0 ≤ i ∧ i < p.L.length ∧ 0 ≤ a) ∨ e = 7) ∧
    ∀ n (h : n < p.L.length), (e = 0 → (n : Int) = i → plL p.L[n] pat = a ∧ f ≤ (n : Int)) ∧ (0 ≤ plL p.L[n] pat → f ≤ (n : Int) → e = 0 ∧ i ≤ (n : Int)) := by
  have s := fw_spec (q := hitL p pat) (f := f) p.L.length
  simp only [fFore, fnd, hk, hz, Bool.true_eq_false, if_false]
  cases h : fwI (hitL p pat) f p.L.length with
  | none =>
    rw [h] at s
    refine ⟨0, 0, 7, rfl, .inr rfl, fun n hn => ⟨fun e => by omega, fun a b => ?_⟩⟩
    have := s n hn b
    simp only [hitL, getD_at hn] at this
    simp at this
    omega
  | some i =>
    rw [h] at s
    obtain ⟨h1, h2, h3, h4⟩ := s
    simp only [hitL, getD_at h1] at h3
    refine ⟨i, plL p.L[i] pat, 0, by simp only [getD_at h1], .inl ⟨rfl, by omega, by omega, by simpa using h3⟩, fun n hn => ⟨fun _ e => ?_, fun a b => ⟨rfl, ?_⟩⟩⟩
    · have : n = i := by omega
      subst this
      exact ⟨rfl, h2⟩
    · rcases Nat.lt_or_ge n i with hlt | hge
      · have := h4 n hlt b
        simp only [hitL, getD_at hn] at this
        simp at this
        omega
      · omega

theorem or3 {a b c : Prop} (h : a → b → c) : ¬ a ∨ ¬ b ∨ c := by
  by_cases ha : a
  · by_cases hb : b
    · exact .inr (.inr (h ha hb))
    · exact .inr (.inl hb)
  · exact .inl ha

def nR1 : XC := .region (some [1, 2, 3, 7, 8, 9, 10, 11, 12, 13, 14, 102]) [⟨some 67, none, .mov (.t 9)⟩, ⟨some 68, none, .bin .eql (.t 67) (.c (.int .i64 0))⟩, ⟨some 69, none, .mov (.t 68)⟩, ⟨some 70, some (69, true), .mov (.t 13)⟩, ⟨some 71, some (69, true), .mov (.t 7)⟩, ⟨some 72, some (69, true), .bin .eql (.t 70) (.t 71)⟩, ⟨some 73, none, .pick (.t 69) (.t 72) (.c (.bool false))⟩, ⟨some 74, none, .mov (.t 73)⟩, ⟨some 75, some (74, true), .mov (.t 14)⟩, ⟨some 76, some (74, true), .mov (.t 8)⟩, ⟨some 77, some (74, true), .bin .neq (.t 75) (.t 76)⟩, ⟨some 78, some (74, true), .mov (.t 77)⟩, ⟨some 79, some (78, false), .mov (.t 13)⟩, ⟨some 80, some (78, false), .mov (.t 2)⟩, ⟨some 81, some (78, false), .bin .gtr (.t 79) (.t 80)⟩, ⟨some 82, some (74, true), .pick (.t 78) (.c (.bool true)) (.t 81)⟩, ⟨some 83, none, .pick (.t 74) (.t 82) (.c (.bool false))⟩, ⟨some 84, none, .mov (.t 83)⟩, ⟨some 85, some (84, false), .mov (.t 12)⟩, ⟨some 86, some (84, false), .bin .eql (.t 85) (.c (.int .i64 0))⟩, ⟨some 87, some (84, false), .mov (.t 86)⟩, ⟨some 88, some (87, true), .mov (.t 13)⟩, ⟨some 89, some (87, true), .mov (.t 10)⟩, ⟨some 90, some (87, true), .bin .eql (.t 88) (.t 89)⟩, ⟨some 91, some (84, false), .pick (.t 87) (.t 90) (.c (.bool false))⟩, ⟨some 92, some (84, false), .mov (.t 91)⟩, ⟨some 93, some (92, true), .mov (.t 14)⟩, ⟨some 94, some (92, true), .mov (.t 11)⟩, ⟨some 95, some (92, true), .bin .neq (.t 93) (.t 94)⟩, ⟨some 96, some (92, true), .mov (.t 95)⟩, ⟨some 97, some (96, false), .mov (.t 13)⟩, ⟨some 98, some (96, false), .mov (.t 2)⟩, ⟨some 99, some (96, false), .bin .lss (.t 97) (.t 98)⟩, ⟨some 100, some (92, true), .pick (.t 96) (.c (.bool true)) (.t 99)⟩, ⟨some 101, some (84, false), .pick (.t 92) (.t 100) (.c (.bool false))⟩, ⟨some 102, none, .pick (.t 84) (.c (.bool true)) (.t 101)⟩]
def nR2 : XC := .region (some [1, 2, 3, 7, 8, 9, 10, 11, 12, 13, 136]) [⟨some 103, none, .mov (.t 14)⟩, ⟨some 104, none, .bin .geq (.t 103) (.c (.int .i64 0))⟩, ⟨some 105, none, .mov (.t 104)⟩, ⟨some 106, some (105, true), .mov (.t 13)⟩, ⟨some 107, some (105, true), .mov (.t 2)⟩, ⟨some 108, some (105, true), .bin .leq (.t 106) (.t 107)⟩, ⟨some 109, none, .pick (.t 105) (.t 108) (.c (.bool false))⟩, ⟨some 110, none, .mov (.t 109)⟩, ⟨some 111, some (110, true), .mov (.t 9)⟩, ⟨some 112, some (110, true), .bin .neq (.t 111) (.c (.int .i64 0))⟩, ⟨some 113, some (110, true), .mov (.t 112)⟩, ⟨some 114, some (113, false), .mov (.t 13)⟩, ⟨some 115, some (113, false), .mov (.t 7)⟩, ⟨some 116, some (113, false), .bin .gtr (.t 114) (.t 115)⟩, ⟨some 117, some (110, true), .pick (.t 113) (.c (.bool true)) (.t 116)⟩, ⟨some 118, none, .pick (.t 110) (.t 117) (.c (.bool false))⟩, ⟨some 119, none, .mov (.t 118)⟩, ⟨some 120, some (119, false), .mov (.t 14)⟩, ⟨some 121, some (119, false), .bin .geq (.t 120) (.c (.int .i64 0))⟩, ⟨some 122, some (119, false), .mov (.t 121)⟩, ⟨some 123, some (122, true), .mov (.t 13)⟩, ⟨some 124, some (122, true), .mov (.t 2)⟩, ⟨some 125, some (122, true), .bin .geq (.t 123) (.t 124)⟩, ⟨some 126, some (119, false), .pick (.t 122) (.t 125) (.c (.bool false))⟩, ⟨some 127, some (119, false), .mov (.t 126)⟩, ⟨some 128, some (127, true), .mov (.t 12)⟩, ⟨some 129, some (127, true), .bin .neq (.t 128) (.c (.int .i64 0))⟩, ⟨some 130, some (127, true), .mov (.t 129)⟩, ⟨some 131, some (130, false), .mov (.t 13)⟩, ⟨some 132, some (130, false), .mov (.t 10)⟩, ⟨some 133, some (130, false), .bin .lss (.t 131) (.t 132)⟩, ⟨some 134, some (127, true), .pick (.t 130) (.c (.bool true)) (.t 133)⟩, ⟨some 135, some (119, false), .pick (.t 127) (.t 134) (.c (.bool false))⟩, ⟨some 136, none, .pick (.t 119) (.c (.bool true)) (.t 135)⟩]
def nX : XF := ⟨[.tmp 6], .seq (.region (some [1, 2, 3]) [⟨some 3, none, .box (.t 0)⟩, ⟨some 6, none, .mov (.c (.bool false))⟩]) (.seq (.region (some [1, 2, 3, 7, 8, 9]) [⟨some 16, none, .load (some 3) (.t 3)⟩, ⟨some 17, none, .mov (.t 1)⟩, ⟨some 18, none, .mov (.t 2)⟩, ⟨some 19, none, .call 21 [.t 16, .t 17, .t 18]⟩, ⟨some 15, none, .mov (.t 19)⟩, ⟨some 20, none, .extract (.t 15) 0⟩, ⟨some 21, none, .extract (.t 15) 1⟩, ⟨some 22, none, .extract (.t 15) 2⟩, ⟨some 7, none, .mov (.t 20)⟩, ⟨some 8, none, .mov (.t 21)⟩, ⟨some 9, none, .mov (.t 22)⟩]) (.seq (.region (some [1, 2, 3, 7, 8, 9, 10, 11, 12]) [⟨some 24, none, .load (some 3) (.t 3)⟩, ⟨some 25, none, .mov (.t 1)⟩, ⟨some 26, none, .mov (.t 2)⟩, ⟨some 27, none, .call 23 [.t 24, .t 25, .t 26]⟩, ⟨some 23, none, .mov (.t 27)⟩, ⟨some 28, none, .extract (.t 23) 0⟩, ⟨some 29, none, .extract (.t 23) 1⟩, ⟨some 30, none, .extract (.t 23) 2⟩, ⟨some 10, none, .mov (.t 28)⟩, ⟨some 11, none, .mov (.t 29)⟩, ⟨some 12, none, .mov (.t 30)⟩]) (.seq (.seq (.region (some [1, 2, 3, 7, 8, 9, 10, 11, 12, 41]) [⟨some 31, none, .load (some 3) (.t 3)⟩, ⟨some 32, none, .mov (.t 1)⟩, ⟨some 33, none, .call 20 [.t 31, .t 32]⟩, ⟨some 34, none, .mov (.t 33)⟩, ⟨some 35, some (34, false), .mov (.t 9)⟩, ⟨some 36, some (34, false), .bin .eql (.t 35) (.c (.int .i64 1))⟩, ⟨some 37, none, .pick (.t 34) (.c (.bool true)) (.t 36)⟩, ⟨some 38, none, .mov (.t 37)⟩, ⟨some 39, some (38, false), .mov (.t 9)⟩, ⟨some 40, some (38, false), .bin .eql (.t 39) (.c (.int .i64 6))⟩, ⟨some 41, none, .pick (.t 38) (.c (.bool true)) (.t 40)⟩]) (.cond (.t 41) (.seq (.region (some [6]) [⟨some 42, none, .call 17 []⟩, ⟨some 43, none, .mov (.t 42)⟩, ⟨some 44, some (43, true), .load (some 3) (.t 3)⟩, ⟨some 45, some (43, true), .mov (.t 1)⟩, ⟨some 46, some (43, true), .call 20 [.t 44, .t 45]⟩, ⟨some 47, some (43, true), .mov (.t 46)⟩, ⟨some 48, some (47, false), .mov (.t 9)⟩, ⟨some 49, some (47, false), .mov (.t 12)⟩, ⟨some 50, some (47, false), .bin .eql (.t 48) (.t 49)⟩, ⟨some 51, some (43, true), .pick (.t 47) (.c (.bool true)) (.t 50)⟩, ⟨some 52, none, .pick (.t 43) (.t 51) (.c (.bool false))⟩, ⟨some 6, none, .mov (.t 52)⟩]) .ret) .skip)) (.seq (.seq (.region (some [1, 2, 3, 7, 8, 9, 10, 11, 12, 13]) [⟨some 13, none, .mov (.c (.int .i64 0))⟩]) (.block 0 (.loop (.seq (.seq (.region (some [1, 2, 3, 7, 8, 9, 10, 11, 12, 13, 57]) [⟨some 53, none, .mov (.t 13)⟩, ⟨some 54, none, .fieldAddr 2 (.t 3)⟩, ⟨some 55, none, .load none (.t 54)⟩, ⟨some 56, none, .len (.t 55)⟩, ⟨some 57, none, .bin .lss (.t 53) (.t 56)⟩]) (.cond (.t 57) .skip (.exit 0))) (.seq (.block 1 (.seq (.region (some [1, 2, 3, 7, 8, 9, 10, 11, 12, 13, 14]) [⟨some 60, none, .fieldAddr 2 (.t 3)⟩, ⟨some 61, none, .load none (.t 60)⟩, ⟨some 62, none, .mov (.t 13)⟩, ⟨some 63, none, .indexAddr 1 (.t 61) (.t 62)⟩, ⟨some 64, none, .load none (.t 63)⟩, ⟨some 65, none, .mov (.t 1)⟩, ⟨some 66, none, .call 18 [.t 64, .t 65]⟩, ⟨some 14, none, .mov (.t 66)⟩]) (.seq (.seq (nR1) (.cond (.t 102) (.seq (.region (some [6]) [⟨some 6, none, .mov (.c (.bool false))⟩]) .ret) .skip)) (.seq (nR2) (.cond (.t 136) (.seq (.region (some [6]) [⟨some 6, none, .mov (.c (.bool false))⟩]) .ret) .skip))))) (.region (some [1, 2, 3, 7, 8, 9, 10, 11, 12, 13]) [⟨some 58, none, .mov (.t 13)⟩, ⟨some 59, none, .bin .add (.t 58) (.c (.int .i64 1))⟩, ⟨some 13, none, .mov (.t 59)⟩])))))) (.seq (.region (some [6]) [⟨some 137, none, .call 17 []⟩, ⟨some 138, none, .mov (.t 137)⟩, ⟨some 139, some (138, true), .mov (.t 9)⟩, ⟨some 140, some (138, true), .bin .eql (.t 139) (.c (.int .i64 0))⟩, ⟨some 141, some (138, true), .mov (.t 140)⟩, ⟨some 142, some (141, true), .mov (.t 7)⟩, ⟨some 143, some (141, true), .bin .geq (.t 142) (.c (.int .i64 0))⟩, ⟨some 144, some (138, true), .pick (.t 141) (.t 143) (.c (.bool false))⟩, ⟨some 145, some (138, true), .mov (.t 144)⟩, ⟨some 146, some (145, true), .mov (.t 7)⟩, ⟨some 147, some (145, true), .fieldAddr 2 (.t 3)⟩, ⟨some 148, some (145, true), .load none (.t 147)⟩, ⟨some 149, some (145, true), .len (.t 148)⟩, ⟨some 150, some (145, true), .bin .lss (.t 146) (.t 149)⟩, ⟨some 151, some (138, true), .pick (.t 145) (.t 150) (.c (.bool false))⟩, ⟨some 152, some (138, true), .mov (.t 151)⟩, ⟨some 153, some (152, true), .mov (.t 8)⟩, ⟨some 154, some (152, true), .bin .geq (.t 153) (.c (.int .i64 0))⟩, ⟨some 155, some (138, true), .pick (.t 152) (.t 154) (.c (.bool false))⟩, ⟨some 156, some (138, true), .mov (.t 155)⟩, ⟨some 157, some (156, false), .mov (.t 9)⟩, ⟨some 158, some (156, false), .bin .eql (.t 157) (.c (.int .i64 7))⟩, ⟨some 159, some (138, true), .pick (.t 156) (.c (.bool true)) (.t 158)⟩, ⟨some 160, none, .pick (.t 138) (.t 159) (.c (.bool false))⟩, ⟨some 161, none, .mov (.t 160)⟩, ⟨some 162, some (161, true), .mov (.t 12)⟩, ⟨some 163, some (161, true), .bin .eql (.t 162) (.c (.int .i64 0))⟩, ⟨some 164, some (161, true), .mov (.t 163)⟩, ⟨some 165, some (164, true), .mov (.t 10)⟩, ⟨some 166, some (164, true), .bin .geq (.t 165) (.c (.int .i64 0))⟩, ⟨some 167, some (161, true), .pick (.t 164) (.t 166) (.c (.bool false))⟩, ⟨some 168, some (161, true), .mov (.t 167)⟩, ⟨some 169, some (168, true), .mov (.t 10)⟩, ⟨some 170, some (168, true), .fieldAddr 2 (.t 3)⟩, ⟨some 171, some (168, true), .load none (.t 170)⟩, ⟨some 172, some (168, true), .len (.t 171)⟩, ⟨some 173, some (168, true), .bin .lss (.t 169) (.t 172)⟩, ⟨some 174, some (161, true), .pick (.t 168) (.t 173) (.c (.bool false))⟩, ⟨some 175, some (161, true), .mov (.t 174)⟩, ⟨some 176, some (175, true), .mov (.t 11)⟩, ⟨some 177, some (175, true), .bin .geq (.t 176) (.c (.int .i64 0))⟩, ⟨some 178, some (161, true), .pick (.t 175) (.t 177) (.c (.bool false))⟩, ⟨some 179, some (161, true), .mov (.t 178)⟩, ⟨some 180, some (179, false), .mov (.t 12)⟩, ⟨some 181, some (179, false), .bin .eql (.t 180) (.c (.int .i64 7))⟩, ⟨some 182, some (161, true), .pick (.t 179) (.c (.bool true)) (.t 181)⟩, ⟨some 183, none, .pick (.t 161) (.t 182) (.c (.bool false))⟩, ⟨some 6, none, .mov (.t 183)⟩]) .ret)))))⟩

theorem nX_eq : X_typebarlaw21_FindNearest = nX := by kernel_rfl

theorem aw_nR1 {C : E.Calls} {lf : Nat} {Q : Ex → St → Prop} {H : List Blk} {pat : List Int} {f e i a d k c x v : Int} (B1 : ¬ e = 0 ∨ ¬ x = i ∨ (v = a ∧ x ≤ f)) (F1 : ¬ d = 0 ∨ ¬ x = k ∨ (v = c ∧ f ≤ x))
    (hQ : Q .normal ⟨tab [(1, rn pat), (2, .int .i64 f), (3, .ptr 0 0 3), (7, .int .i64 i), (8, .int .i64 a), (9, eD e), (10, .int .i64 k), (11, .int .i64 c), (12, eD d), (13, .int .i64 x), (14, .int .i64 v), (102, .bool false)], H⟩) :
    aw C lf nR1 ⟨tab [(1, rn pat), (2, .int .i64 f), (3, .ptr 0 0 3), (7, .int .i64 i), (8, .int .i64 a), (9, eD e), (10, .int .i64 k), (11, .int .i64 c), (12, eD d), (13, .int .i64 x), (14, .int .i64 v)], H⟩ Q := by
  have B1 : Keep _ := ⟨B1⟩
  have F1 : Keep _ := ⟨F1⟩
  have hQ : Keep _ := ⟨hQ⟩
  simp [nR1]
  repeat' (first
    | simp (disch := omega) only [wrap_i64, wrap_i32]
    | (simp (disch := first | omega | assumption | (simp only [i64, i32]; omega) | (simp <;> omega) | fail) only [loadD_cpr, loadD_cprs, List.take_of_length_le]; simp [*])
    | (with_reducible refine And.intro ?_ ?_; focus first | omega | decide)
    | (with_reducible refine split_ite (fun hp => ?_) (fun hp => ?_) <;> (try simp at hp) <;> simp [*])
    | (with_reducible refine split_ite1 (fun hp => ?_) (fun hp => ?_) <;> (try simp at hp) <;> simp [*])
    | (refine split_cond (by simp) (fun hp => ?_) (fun hp => ?_) <;> simp at hp <;> simp [*])
    | (refine split_ops (by simp) (fun hp => ?_) (fun hp => ?_) <;> simp at hp <;> simp [*])
    | (refine split_opsD (by simp) (fun hp => ?_) (fun hp => ?_) <;> simp at hp <;> simp [*])
    | (refine split_pick (by simp) (fun hp => ?_) (fun hp => ?_) <;> simp at hp <;> simp [*])
    | omega
    | decide
    | (simp [*]))
  all_goals (have h := hQ.out; have b := B1.out; have b2 := F1.out; clear hQ B1 F1; subst_vars; first | exact h | (exfalso; omega) | (rw [decide_eq_false (by omega)]; exact h))

theorem aw_nR2 {C : E.Calls} {lf : Nat} {Q : Ex → St → Prop} {H : List Blk} {pat : List Int} {f e i a d k c x v : Int} (B2 : v < 0 ∨ f < x ∨ (e = 0 ∧ x ≤ i)) (F2 : v < 0 ∨ x < f ∨ (d = 0 ∧ k ≤ x))
    (hQ : Q .normal ⟨tab [(1, rn pat), (2, .int .i64 f), (3, .ptr 0 0 3), (7, .int .i64 i), (8, .int .i64 a), (9, eD e), (10, .int .i64 k), (11, .int .i64 c), (12, eD d), (13, .int .i64 x), (136, .bool false)], H⟩) :
    aw C lf nR2 ⟨tab [(1, rn pat), (2, .int .i64 f), (3, .ptr 0 0 3), (7, .int .i64 i), (8, .int .i64 a), (9, eD e), (10, .int .i64 k), (11, .int .i64 c), (12, eD d), (13, .int .i64 x), (14, .int .i64 v), (102, .bool false)], H⟩ Q := by
  have B2 : Keep _ := ⟨B2⟩
  have F2 : Keep _ := ⟨F2⟩
  have hQ : Keep _ := ⟨hQ⟩
  simp [nR2]
  repeat' (first
    | simp (disch := omega) only [wrap_i64, wrap_i32]
    | (simp (disch := first | omega | assumption | (simp only [i64, i32]; omega) | (simp <;> omega) | fail) only [loadD_cpr, loadD_cprs, List.take_of_length_le]; simp [*])
    | (with_reducible refine And.intro ?_ ?_; focus first | omega | decide)
    | (with_reducible refine split_ite (fun hp => ?_) (fun hp => ?_) <;> (try simp at hp) <;> simp [*])
    | (with_reducible refine split_ite1 (fun hp => ?_) (fun hp => ?_) <;> (try simp at hp) <;> simp [*])
    | (refine split_cond (by simp) (fun hp => ?_) (fun hp => ?_) <;> simp at hp <;> simp [*])
    | (refine split_ops (by simp) (fun hp => ?_) (fun hp => ?_) <;> simp at hp <;> simp [*])
    | (refine split_opsD (by simp) (fun hp => ?_) (fun hp => ?_) <;> simp at hp <;> simp [*])
    | (refine split_pick (by simp) (fun hp => ?_) (fun hp => ?_) <;> simp at hp <;> simp [*])
    | omega
    | decide
    | (simp [*]))
  all_goals (have h := hQ.out; have b := B2.out; have b2 := F2.out; clear hQ B2 F2; subst_vars; first | exact h | (exfalso; omega) | (rw [decide_eq_false (by omega)]; exact h))

theorem pc_FindNearest (n : Nat) (p : Past) (pat : List Int) (f : Int) (hp : bearsL p.L) (hpat : pat.length < 70368744177664) (hf : i64 f) : (W (n + 18)).pc 9 [pD p, rn pat, .int .i64 f] = some (.bool true) := by
  apply runs c_typebarlaw21_FindNearest
  have e1 := pc_Back (n + 8) p pat f hp hpat hf
  have e2 := pc_Fore (n + 8) p pat f hp hpat hf
  cases hb : fBig p pat
  · obtain ⟨hs, hl, hL, hx⟩ := fBig_small hb
    cases hk : pIs p
    · have b1 : fBack p pat f = (0, 0, 1) := by simp [fBack, fnd, hk]
      have b2 : fFore p pat f = (0, 0, 1) := by simp [fFore, fnd, hk]
      rw [b1] at e1; rw [b2] at e2
      simp [nX_eq, nX, pc_fBig, hb, pc_found, e1, e2]
      repeat' (first
        | simp (disch := omega) only [wrap_i64, wrap_i32]
        | (simp (disch := first | omega | assumption | (simp only [i64, i32]; omega) | (simp <;> omega) | fail) only [loadD_cpr, loadD_cprs, List.take_of_length_le]; simp [*, pc_found])
        | (with_reducible refine And.intro ?_ ?_; focus first | omega | decide)
        | (with_reducible refine split_ite (fun hp => ?_) (fun hp => ?_) <;> (try simp at hp) <;> simp [*, pc_found])
        | (with_reducible refine split_ite1 (fun hp => ?_) (fun hp => ?_) <;> (try simp at hp) <;> simp [*, pc_found])
        | (refine split_cond (by simp) (fun hp => ?_) (fun hp => ?_) <;> simp at hp <;> simp [*, pc_found])
        | (refine split_ops (by simp) (fun hp => ?_) (fun hp => ?_) <;> simp at hp <;> simp [*, pc_found])
        | (refine split_opsD (by simp) (fun hp => ?_) (fun hp => ?_) <;> simp at hp <;> simp [*, pc_found])
        | (refine split_pick (by simp) (fun hp => ?_) (fun hp => ?_) <;> simp at hp <;> simp [*, pc_found])
        | omega
        | decide
        | (simp [*, pc_found]))
    by_cases hz : pat = []
    · have b1 : fBack p pat f = (0, 0, 6) := by simp [fBack, fnd, hk, hz]
      have b2 : fFore p pat f = (0, 0, 6) := by simp [fFore, fnd, hk, hz]
      rw [b1] at e1; rw [b2] at e2
      simp [nX_eq, nX, pc_fBig, hb, pc_found, e1, e2]
      repeat' (first
        | simp (disch := omega) only [wrap_i64, wrap_i32]
        | (simp (disch := first | omega | assumption | (simp only [i64, i32]; omega) | (simp <;> omega) | fail) only [loadD_cpr, loadD_cprs, List.take_of_length_le]; simp [*, pc_found])
        | (with_reducible refine And.intro ?_ ?_; focus first | omega | decide)
        | (with_reducible refine split_ite (fun hp => ?_) (fun hp => ?_) <;> (try simp at hp) <;> simp [*, pc_found])
        | (with_reducible refine split_ite1 (fun hp => ?_) (fun hp => ?_) <;> (try simp at hp) <;> simp [*, pc_found])
        | (refine split_cond (by simp) (fun hp => ?_) (fun hp => ?_) <;> simp at hp <;> simp [*, pc_found])
        | (refine split_ops (by simp) (fun hp => ?_) (fun hp => ?_) <;> simp at hp <;> simp [*, pc_found])
        | (refine split_opsD (by simp) (fun hp => ?_) (fun hp => ?_) <;> simp at hp <;> simp [*, pc_found])
        | (refine split_pick (by simp) (fun hp => ?_) (fun hp => ?_) <;> simp at hp <;> simp [*, pc_found])
        | omega
        | decide
        | (simp [*, pc_found]))
    obtain ⟨i, a, e, b1, h1, hB⟩ := near_back (f := f) hk hz
    obtain ⟨k, c, d, b2, h2, hF⟩ := near_fore (f := f) hk hz
    have hB : Keep _ := ⟨hB⟩
    have hF : Keep _ := ⟨hF⟩
    have hd : (d = 0 ∨ d = 7) ∧ ¬ e = 1 ∧ ¬ e = 6 := by omega
    obtain ⟨hd1, hd2, hd3⟩ := hd
    rw [b1] at e1; rw [b2] at e2
    simp [nX_eq, nX, pc_fBig, hb, pc_found, e1, e2, hd2, hd3]
    repeat' (first
      | simp (disch := omega) only [wrap_i64, wrap_i32]
      | (simp (disch := first | omega | assumption | (simp only [i64, i32]; omega) | (simp <;> omega) | fail) only [loadD_cpr, loadD_cprs, List.take_of_length_le]; simp [*, pc_found])
      | (with_reducible refine And.intro ?_ ?_; focus first | omega | decide)
      | (with_reducible refine split_ite (fun hp => ?_) (fun hp => ?_) <;> (try simp at hp) <;> simp [*, pc_found])
      | (with_reducible refine split_ite1 (fun hp => ?_) (fun hp => ?_) <;> (try simp at hp) <;> simp [*, pc_found])
      | (refine split_cond (by simp) (fun hp => ?_) (fun hp => ?_) <;> simp at hp <;> simp [*, pc_found])
      | (refine split_ops (by simp) (fun hp => ?_) (fun hp => ?_) <;> simp at hp <;> simp [*, pc_found])
      | (refine split_opsD (by simp) (fun hp => ?_) (fun hp => ?_) <;> simp at hp <;> simp [*, pc_found])
      | (refine split_pick (by simp) (fun hp => ?_) (fun hp => ?_) <;> simp at hp <;> simp [*, pc_found])
      | omega
      | decide
      | (simp [*, pc_found]))
    refine aw_rounds (fun m st => ∃ x : Nat, st = ⟨tab [(1, rn pat), (2, .int .i64 f), (3, .ptr 0 0 3), (7, .int .i64 i), (8, .int .i64 a), (9, eD e), (10, .int .i64 k), (11, .int .i64 c), (12, eD d), (13, .int .i64 x)], [⟨[.int .i64 p.room, .int .i64 p.dup, rrn p.L], 0, true⟩]⟩ ∧ x ≤ p.L.length ∧ m = p.L.length - x + 1 ∧ Keep (True)) ?_ ?_ (n := p.L.length - (0) + 1) (by first | omega | (simp; omega)) ?_
    · rintro st ⟨x, hx⟩; omega
    rotate_left
    · exact ⟨0, by first | rfl | (simp [*, accS, accH]; done) | (simp only [*]; done) | (congr 1 <;> simp [*, accS, accH]; done) | (congr 1 <;> simp [*, accS, accH] <;> rfl) | (congr 1 <;> congr 1 <;> simp <;> omega), by first | omega | (simp; omega) | simp [*], by first | rfl | (simp; done) | omega, ⟨trivial⟩⟩
    rintro Ja ma _ ⟨x, rfl, fa1, hma, hqa⟩ hJa
    have hs : ∀ h : x < p.L.length, p.L[x].length < 2000000 := fun h => by have := hx _ (List.getElem_mem h); omega
    simp
    by_cases hxl : x < p.L.length
    · obtain ⟨B1, B2⟩ := hB.out x hxl
      obtain ⟨F1, F2⟩ := hF.out x hxl
      simp [hxl]
      repeat' (first
        | simp (disch := omega) only [wrap_i64, wrap_i32]
        | (simp (disch := first | omega | assumption | (simp only [i64, i32]; omega) | (simp <;> omega) | fail) only [loadD_cpr, loadD_cprs, List.take_of_length_le, pc_Place]; simp [*])
        | (with_reducible refine And.intro ?_ ?_; focus first | omega | decide)
        | (with_reducible refine split_ite (fun hp => ?_) (fun hp => ?_) <;> (try simp at hp) <;> simp [*])
        | (with_reducible refine split_ite1 (fun hp => ?_) (fun hp => ?_) <;> (try simp at hp) <;> simp [*])
        | (refine split_cond (by simp) (fun hp => ?_) (fun hp => ?_) <;> simp at hp <;> simp [*])
        | (refine split_ops (by simp) (fun hp => ?_) (fun hp => ?_) <;> simp at hp <;> simp [*])
        | (refine split_opsD (by simp) (fun hp => ?_) (fun hp => ?_) <;> simp at hp <;> simp [*])
        | (refine split_pick (by simp) (fun hp => ?_) (fun hp => ?_) <;> simp at hp <;> simp [*])
        | omega
        | decide
        | (simp [*]))
      refine aw_nR1 (or3 B1) (or3 F1) ?_
      simp
      refine aw_nR2 (by have := or3 B2; omega) (by have := or3 F2; omega) ?_
      simp
      repeat' (first
        | simp (disch := omega) only [wrap_i64, wrap_i32]
        | (simp (disch := first | omega | assumption | (simp only [i64, i32]; omega) | (simp <;> omega) | fail) only [loadD_cpr, loadD_cprs, List.take_of_length_le]; simp [*])
        | (with_reducible refine And.intro ?_ ?_; focus first | omega | decide)
        | (with_reducible refine split_ite (fun hp => ?_) (fun hp => ?_) <;> (try simp at hp) <;> simp [*])
        | (with_reducible refine split_ite1 (fun hp => ?_) (fun hp => ?_) <;> (try simp at hp) <;> simp [*])
        | (refine split_cond (by simp) (fun hp => ?_) (fun hp => ?_) <;> simp at hp <;> simp [*])
        | (refine split_ops (by simp) (fun hp => ?_) (fun hp => ?_) <;> simp at hp <;> simp [*])
        | (refine split_opsD (by simp) (fun hp => ?_) (fun hp => ?_) <;> simp at hp <;> simp [*])
        | (refine split_pick (by simp) (fun hp => ?_) (fun hp => ?_) <;> simp at hp <;> simp [*])
        | omega
        | decide
        | (simp [*]))
      exact hJa.out _ ⟨x + 1, by first | rfl | (simp [*, accS, accH]; done) | (simp only [*]; done) | (congr 1 <;> simp [*, accS, accH]; done) | (congr 1 <;> simp [*, accS, accH] <;> rfl) | (congr 1 <;> congr 1 <;> simp <;> omega), by first | omega | (simp; omega) | simp [*], by omega, ⟨trivial⟩⟩
    · repeat' (first
        | simp (disch := omega) only [wrap_i64, wrap_i32]
        | (simp (disch := first | omega | assumption | (simp only [i64, i32]; omega) | (simp <;> omega) | fail) only [loadD_cpr, loadD_cprs, List.take_of_length_le]; simp [*, pc_found])
        | (with_reducible refine And.intro ?_ ?_; focus first | omega | decide)
        | (with_reducible refine split_ite (fun hp => ?_) (fun hp => ?_) <;> (try simp at hp) <;> simp [*, pc_found])
        | (with_reducible refine split_ite1 (fun hp => ?_) (fun hp => ?_) <;> (try simp at hp) <;> simp [*, pc_found])
        | (refine split_cond (by simp) (fun hp => ?_) (fun hp => ?_) <;> simp at hp <;> simp [*, pc_found])
        | (refine split_ops (by simp) (fun hp => ?_) (fun hp => ?_) <;> simp at hp <;> simp [*, pc_found])
        | (refine split_opsD (by simp) (fun hp => ?_) (fun hp => ?_) <;> simp at hp <;> simp [*, pc_found])
        | (refine split_pick (by simp) (fun hp => ?_) (fun hp => ?_) <;> simp at hp <;> simp [*, pc_found])
        | omega
        | decide
        | (simp [*, pc_found]))
  · simp [nX_eq, nX, pc_fBig, hb, pc_found, e1, e2]
    repeat' (first
      | simp (disch := omega) only [wrap_i64, wrap_i32]
      | (simp (disch := first | omega | assumption | (simp only [i64, i32]; omega) | (simp <;> omega) | fail) only [loadD_cpr, loadD_cprs, List.take_of_length_le]; simp [*, pc_found])
      | (with_reducible refine And.intro ?_ ?_; focus first | omega | decide)
      | (with_reducible refine split_ite (fun hp => ?_) (fun hp => ?_) <;> (try simp at hp) <;> simp [*, pc_found])
      | (with_reducible refine split_ite1 (fun hp => ?_) (fun hp => ?_) <;> (try simp at hp) <;> simp [*, pc_found])
      | (refine split_cond (by simp) (fun hp => ?_) (fun hp => ?_) <;> simp at hp <;> simp [*, pc_found])
      | (refine split_ops (by simp) (fun hp => ?_) (fun hp => ?_) <;> simp at hp <;> simp [*, pc_found])
      | (refine split_opsD (by simp) (fun hp => ?_) (fun hp => ?_) <;> simp at hp <;> simp [*, pc_found])
      | (refine split_pick (by simp) (fun hp => ?_) (fun hp => ?_) <;> simp at hp <;> simp [*, pc_found])
      | omega
      | decide
      | (simp [*, pc_found]))

end Go.Proofs.Ytlpgpnjplijgiaa
