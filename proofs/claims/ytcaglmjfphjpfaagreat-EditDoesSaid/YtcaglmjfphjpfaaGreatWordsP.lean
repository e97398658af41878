/- Words: where a place between words lies. Plain laws; no program. -/
import Derived.Test.YtcaglmjfphjpfaaGreatRunes
namespace Go.Proofs.YtcaglmjfphjpfaaGreat
set_option linter.unusedSimpArgs false
set_option linter.unusedVariables false

def inW (r : Int) : Bool := decide (48 ≤ r ∧ r ≤ 57) || decide (65 ≤ r ∧ r ≤ 90) || decide (97 ≤ r ∧ r ≤ 122) || decide (128 ≤ r)
def kindW (r : Int) : Int := if r = 9 ∨ r = 32 then 0 else if inW r = true ∨ r = 95 then 1 else 2
/-- The nearest place. -/
def place {α : Type} (l : List α) (i : Int) : Nat := if i < 0 then 0 else if l.length < i then l.length else i.toNat

theorem place_le {α : Type} (l : List α) (i : Int) : place l i ≤ l.length := by simp only [place]; split; omega; split <;> omega

/-- On, as long as p holds. -/
def up (p : Int → Bool) (l : List Int) (i : Nat) : Nat := i + ((l.drop i).takeWhile p).length
/-- Back, as long as p holds of the sign behind. -/
def dn (p : Int → Bool) (l : List Int) (i : Nat) : Nat := i - ((l.take i).reverse.takeWhile p).length

theorem up_go {p : Int → Bool} {l : List Int} {i : Nat} (h : i < l.length) (hp : p l[i] = true) : up p l i = up p l (i + 1) := by
  simp only [up]
  rw [List.drop_eq_getElem_cons h, List.takeWhile_cons_of_pos hp]
  simp; omega

theorem up_stop {p : Int → Bool} {l : List Int} {i : Nat} (h : i < l.length) (hp : p l[i] = false) : up p l i = i := by
  simp only [up]
  rw [List.drop_eq_getElem_cons h, List.takeWhile_cons_of_neg (by simp [hp])]
  simp

theorem up_end {p : Int → Bool} {l : List Int} {i : Nat} (h : l.length ≤ i) : up p l i = i := by
  simp [up, List.drop_of_length_le h]

theorem take_snoc {l : List Int} {i : Nat} (h : i < l.length) : (l.take (i + 1)).reverse = l[i] :: (l.take i).reverse := by
  rw [List.take_succ_eq_append_getElem h, List.reverse_append]; rfl

theorem dn_go {p : Int → Bool} {l : List Int} {i : Nat} (h : i < l.length) (hp : p l[i] = true) : dn p l (i + 1) = dn p l i := by
  simp only [dn]
  rw [take_snoc h, List.takeWhile_cons_of_pos hp]
  simp

theorem dn_stop {p : Int → Bool} {l : List Int} {i : Nat} (h : i < l.length) (hp : p l[i] = false) : dn p l (i + 1) = i + 1 := by
  simp only [dn]
  rw [take_snoc h, List.takeWhile_cons_of_neg (by simp [hp])]
  simp

theorem dn_zero (p : Int → Bool) (l : List Int) : dn p l 0 = 0 := by simp [dn]

theorem up_spec (p : Int → Bool) (l : List Int) (i : Nat) (hi : i ≤ l.length) : i ≤ up p l i ∧ up p l i ≤ l.length ∧ (∀ j (hj : j < l.length), i ≤ j → j < up p l i → p l[j] = true) ∧ (∀ h : up p l i < l.length, p l[up p l i] = false) := by
  obtain ⟨d, hd⟩ : ∃ d, d = l.length - i := ⟨_, rfl⟩
  induction d generalizing i with
  | zero => rw [up_end (by omega)]; exact ⟨Nat.le_refl _, hi, fun j hj h1 h2 => by omega, fun h => by omega⟩
  | succ d ih =>
    have h : i < l.length := by omega
    cases hp : p l[i]
    · rw [up_stop h hp]
      exact ⟨Nat.le_refl _, hi, fun j hj h1 h2 => by omega, fun _ => hp⟩
    · rw [up_go h hp]
      obtain ⟨h1, h2, h3, h4⟩ := ih (i + 1) (by omega) (by omega)
      refine ⟨by omega, h2, fun j hj hj1 hj2 => ?_, h4⟩
      by_cases he : j = i
      · subst he; exact hp
      · exact h3 j hj (by omega) hj2

theorem dn_spec (p : Int → Bool) (l : List Int) (i : Nat) (hi : i ≤ l.length) : dn p l i ≤ i ∧ (∀ j (hj : j < l.length), dn p l i ≤ j → j < i → p l[j] = true) ∧ (∀ (h : 0 < dn p l i) (h2 : dn p l i - 1 < l.length), p l[dn p l i - 1] = false) := by
  induction i with
  | zero => simp only [dn_zero]; exact ⟨Nat.le_refl _, fun j hj h1 h2 => by omega, fun h => by omega⟩
  | succ i ih =>
    have h : i < l.length := by omega
    cases hp : p l[i]
    · simp only [dn_stop h hp]
      exact ⟨Nat.le_refl _, fun j hj h1 h2 => by omega, fun _ _ => by simpa using hp⟩
    · obtain ⟨h1, h2, h3⟩ := ih (by omega)
      simp only [dn_go h hp]
      refine ⟨by omega, fun j hj hj1 hj2 => ?_, h3⟩
      by_cases he : j = i
      · subst he; exact hp
      · exact h2 j hj hj1 (by omega)

/-- The first number from i on, and below n, of which q holds; or n. -/
def firstOf (q : Nat → Bool) (n : Nat) : Nat → Nat → Nat
  | 0, i => n
  | f + 1, i => if i < n then (if q i = true then i else firstOf q n f (i + 1)) else n

theorem firstOf_is {q : Nat → Bool} {n j : Nat} : (f i : Nat) → i ≤ j → j < n → j - i < f → q j = true → (∀ k, i ≤ k → k < j → q k = false) → firstOf q n f i = j
  | 0, i, _, _, h, _, _ => by omega
  | f + 1, i, h1, h2, h3, hq, hn => by
    rw [firstOf, if_pos (by omega)]
    by_cases he : i = j
    · subst he; rw [if_pos hq]
    · rw [if_neg (by simp [hn i (Nat.le_refl _) (by omega)])]
      exact firstOf_is f (i + 1) (by omega) h2 (by omega) hq fun k hk1 hk2 => hn k (by omega) hk2

theorem firstOf_none {q : Nat → Bool} {n : Nat} : (f i : Nat) → n - i ≤ f → (∀ k, i ≤ k → k < n → q k = false) → firstOf q n f i = n
  | 0, i, _, _ => rfl
  | f + 1, i, h, hn => by
    rw [firstOf]
    split
    · rw [if_neg (by simp [hn i (Nat.le_refl _) (by omega)])]
      exact firstOf_none f (i + 1) (by omega) fun k hk1 hk2 => hn k (by omega) hk2
    · rfl

def foreW (l : List Int) (i : Nat) : Nat := up inW l (up (fun r => !inW r) l i)
def behindW (l : List Int) (i : Nat) : Nat := dn inW l (dn (fun r => !inW r) l i)

/-- Does a word begin there? -/
def beginsW (l : List Int) (i : Nat) : Bool := match l[i]? with
  | some r => decide (kindW r ≠ 0) && (decide (i = 0) || match l[i - 1]? with | some s => decide (kindW s ≠ kindW r) | none => false)
  | none => false

def nextW (l : List Int) (i : Nat) : Nat := match l[i]? with
  | none => i
  | some r => up (fun s => decide (kindW s = 0)) l (if kindW r ≠ 0 then up (fun s => decide (kindW s = kindW r)) l i else i)

theorem nextW_is (l : List Int) (i : Nat) (hi : i ≤ l.length) : nextW l i = firstOf (beginsW l) l.length l.length (i + 1) := by
  rcases Nat.lt_or_ge i l.length with h | h
  rotate_left
  · have : i = l.length := by omega
    subst this
    rw [firstOf_none _ _ (by omega) (fun k h1 h2 => by omega)]
    simp [nextW]
  have hb : ∀ k (h1 : k < l.length) (h0 : 0 < k), beginsW l k = (decide (kindW l[k] ≠ 0) && decide (kindW (l[k - 1]'(by omega)) ≠ kindW l[k])) := by
    intro k h1 h0
    simp only [beginsW, List.getElem?_eq_getElem h1, List.getElem?_eq_getElem (show k - 1 < l.length by omega), show ¬ k = 0 by omega, decide_false, Bool.false_or]
  simp only [nextW, List.getElem?_eq_getElem h]
  -- where the signs of one kind end
  obtain ⟨a, ha, hai, hal, hrun, hstop⟩ : ∃ a, (if kindW l[i] ≠ 0 then up (fun s => decide (kindW s = kindW l[i])) l i else i) = a ∧ i ≤ a ∧ a ≤ l.length ∧ (∀ j (hj : j < l.length), i < j → j < a → kindW (l[j - 1]'(by omega)) = kindW l[j]) ∧
      (∀ h : a < l.length, kindW l[i] ≠ 0 → i < a ∧ kindW (l[a - 1]'(by omega)) ≠ kindW l[a]) ∧ (kindW l[i] = 0 → a = i) := by
    by_cases hk : kindW l[i] ≠ 0
    · rw [if_pos hk]
      obtain ⟨h1, h2, h3, h4⟩ := up_spec (fun s => decide (kindW s = kindW l[i])) l i hi
      have hlt : i < up (fun s => decide (kindW s = kindW l[i])) l i := by
        rw [up_go h (by simp)]
        exact (up_spec (fun s => decide (kindW s = kindW l[i])) l (i + 1) (by omega)).1
      refine ⟨_, rfl, h1, h2, fun j hj hj1 hj2 => ?_, fun hh _ => ⟨hlt, ?_⟩, fun h0 => absurd h0 hk⟩
      · have q1 := h3 j hj (by omega) hj2
        have q2 := h3 (j - 1) (by omega) (by omega) (by omega)
        simp only [decide_eq_true_eq] at q1 q2
        rw [q1, q2]
      · have q1 := h4 hh
        have q2 := h3 _ (show up (fun s => decide (kindW s = kindW l[i])) l i - 1 < l.length by omega) (by omega) (by omega)
        simp only [decide_eq_true_eq, decide_eq_false_iff_not] at q1 q2
        rw [q2]; exact fun hh => q1 hh.symm
    · rw [if_neg hk]
      exact ⟨i, rfl, Nat.le_refl _, hi, fun j hj h1 h2 => by omega, fun _ h0 => absurd h0 hk, fun _ => rfl⟩
  rw [ha]
  obtain ⟨h1, h2, h3, h4⟩ := up_spec (fun s => decide (kindW s = 0)) l a hal
  generalize hb' : up (fun s => decide (kindW s = 0)) l a = b at *
  have hnone : ∀ k, i + 1 ≤ k → k < b → (k < a ∨ a ≤ k ∧ kindW l[i] = 0 ∨ a ≤ k) → k < l.length → beginsW l k = false := by
    intro k hk1 hk2 _ hkl
    rw [hb k hkl (by omega)]
    by_cases hka : k < a
    · simp [hrun k hkl (by omega) hka]
    · have := h3 k hkl (by omega) hk2
      simp only [decide_eq_true_eq] at this
      simp [this]
  rcases Nat.lt_or_ge b l.length with hbl | hbl
  · have q4 := h4 hbl
    simp only [decide_eq_false_iff_not] at q4
    have hib : i < b := by
      by_cases hk : kindW l[i] = 0
      · rcases Nat.lt_or_ge i b with q | q
        · exact q
        · exfalso
          have : b = i := by omega
          subst this
          exact q4 hk
      · rcases Nat.lt_or_ge a l.length with q | q
        · have := (hstop.1 q hk).1; omega
        · omega
    refine (firstOf_is _ _ (by omega) hbl (by omega) ?_ fun k hk1 hk2 => hnone k hk1 hk2 (by omega) (by omega)).symm
    rw [hb b hbl (by omega)]
    simp only [Bool.and_eq_true, decide_eq_true_eq, ne_eq]
    refine ⟨q4, ?_⟩
    by_cases hab : a = b
    · subst hab
      by_cases hk : kindW l[i] = 0
      · have := hstop.2 hk; omega
      · exact (hstop.1 hbl hk).2
    · have := h3 (b - 1) (by omega) (by omega) (by omega)
      simp only [decide_eq_true_eq] at this
      rw [this]; exact fun hh => q4 hh.symm
  · have : b = l.length := by omega
    subst this
    exact (firstOf_none _ _ (by omega) fun k hk1 hk2 => hnone k hk1 hk2 (by omega) hk2).symm

/-- The last number below i, and above 0, of which q holds; or 0. -/
def lastOf (q : Nat → Bool) : Nat → Nat
  | 0 => 0
  | i + 1 => if i = 0 then 0 else if q i = true then i else lastOf q i

theorem lastOf_is {q : Nat → Bool} {j : Nat} : (i : Nat) → j < i → 0 < j → q j = true → (∀ k, j < k → k < i → q k = false) → lastOf q i = j
  | 0, h, _, _, _ => by omega
  | i + 1, h, h0, hq, hn => by
    rw [lastOf, if_neg (by omega)]
    by_cases he : i = j
    · subst he; rw [if_pos hq]
    · rw [if_neg (by simp [hn i (by omega) (by omega)])]
      exact lastOf_is i (by omega) h0 hq fun k hk1 hk2 => hn k hk1 (by omega)

theorem lastOf_none {q : Nat → Bool} : (i : Nat) → (∀ k, 0 < k → k < i → q k = false) → lastOf q i = 0
  | 0, _ => rfl
  | i + 1, hn => by
    rw [lastOf]
    split
    · rfl
    · rw [if_neg (by simp [hn i (by omega) (by omega)])]
      exact lastOf_none i fun k hk1 hk2 => hn k hk1 (by omega)

def prevW (l : List Int) (i : Nat) : Nat := match l[dn (fun s => decide (kindW s = 0)) l i - 1]? with
  | none => 0
  | some r => if dn (fun s => decide (kindW s = 0)) l i = 0 then 0 else dn (fun s => decide (kindW s = kindW r)) l (dn (fun s => decide (kindW s = 0)) l i)

theorem prevW_is (l : List Int) (i : Nat) (hi : i ≤ l.length) : prevW l i = lastOf (beginsW l) i := by
  have hb : ∀ k (h1 : k < l.length) (h0 : 0 < k), beginsW l k = (decide (kindW l[k] ≠ 0) && decide (kindW (l[k - 1]'(by omega)) ≠ kindW l[k])) := by
    intro k h1 h0
    simp only [beginsW, List.getElem?_eq_getElem h1, List.getElem?_eq_getElem (show k - 1 < l.length by omega), show ¬ k = 0 by omega, decide_false, Bool.false_or]
  obtain ⟨h1, h2, h3⟩ := dn_spec (fun s => decide (kindW s = 0)) l i hi
  simp only [prevW]
  generalize dn (fun s => decide (kindW s = 0)) l i = a at *
  have hblank : ∀ k, a ≤ k → k < i → beginsW l k = false ∨ k = 0 := by
    intro k hk1 hk2
    by_cases h0 : k = 0
    · exact .inr h0
    · left
      rw [hb k (by omega) (by omega)]
      have := h2 k (by omega) hk1 hk2
      simp only [decide_eq_true_eq] at this
      simp [this]
  rcases Nat.eq_zero_or_pos a with ha | ha
  · subst ha
    have : lastOf (beginsW l) i = 0 := lastOf_none i fun k hk1 hk2 => by
      rcases hblank k (by omega) hk2 with h | h
      · exact h
      · omega
    rw [this]
    split <;> simp
  · have hal : a - 1 < l.length := by omega
    rw [List.getElem?_eq_getElem hal]
    simp only [show ¬ a = 0 by omega, if_false]
    have hk0 := h3 ha hal
    simp only [decide_eq_false_iff_not] at hk0
    obtain ⟨q1, q2, q3⟩ := dn_spec (fun s => decide (kindW s = kindW l[a - 1])) l a (by omega)
    have hlt : dn (fun s => decide (kindW s = kindW l[a - 1])) l a < a := by
      obtain ⟨a', rfl⟩ : ∃ a', a = a' + 1 := ⟨a - 1, by omega⟩
      simp only [Nat.add_sub_cancel] at hal ⊢
      rw [dn_go hal (by simp)]
      have := (dn_spec (fun s => decide (kindW s = kindW l[a'])) l a' (by omega)).1
      omega
    generalize dn (fun s => decide (kindW s = kindW l[a - 1])) l a = b at *
    have hrun : ∀ k, b < k → k < a → beginsW l k = false := by
      intro k hk1 hk2
      rw [hb k (by omega) (by omega)]
      have r1 := q2 k (by omega) (by omega) hk2
      have r2 := q2 (k - 1) (by omega) (by omega) (by omega)
      simp only [decide_eq_true_eq] at r1 r2
      simp [r1, r2]
    have hall : ∀ k, b < k → k < i → beginsW l k = false := by
      intro k hk1 hk2
      rcases Nat.lt_or_ge k a with h | h
      · exact hrun k hk1 h
      · rcases hblank k h hk2 with h | h
        · exact h
        · omega
    rcases Nat.eq_zero_or_pos b with h0 | h0
    · subst h0
      exact (lastOf_none i fun k hk1 hk2 => hall k hk1 hk2).symm
    · refine (lastOf_is i (by omega) h0 ?_ hall).symm
      rw [hb b (by omega) h0]
      have r1 := q2 b (by omega) (Nat.le_refl _) hlt
      have r3 := q3 h0 (by omega)
      simp only [decide_eq_true_eq, decide_eq_false_iff_not] at r1 r3
      simp only [Bool.and_eq_true, decide_eq_true_eq, ne_eq]
      exact ⟨by rw [r1]; exact hk0, by rw [r1]; exact r3⟩

/-- Does a word end there? -/
def endsW (l : List Int) (i : Nat) : Bool := match l[i]? with
  | some r => decide (kindW r ≠ 0) && (decide (i + 1 = l.length) || match l[i + 1]? with | some s => decide (kindW s ≠ kindW r) | none => false)
  | none => false

def tailW (l : List Int) (i : Nat) : Nat := if l.length ≤ i + 1 then l.length else match l[up (fun s => decide (kindW s = 0)) l (i + 1)]? with
  | none => l.length
  | some r => up (fun s => decide (kindW s = kindW r)) l (up (fun s => decide (kindW s = 0)) l (i + 1)) - 1

theorem tailW_is (l : List Int) (i : Nat) (hi : i ≤ l.length) : tailW l i = firstOf (endsW l) l.length l.length (i + 1) := by
  simp only [tailW]
  by_cases h : l.length ≤ i + 1
  · rw [if_pos h]
    exact (firstOf_none _ _ (by omega) fun k h1 h2 => by omega).symm
  rw [if_neg h]
  have hb : ∀ k (h1 : k < l.length), endsW l k = (decide (kindW l[k] ≠ 0) && (decide (k + 1 = l.length) || match l[k + 1]? with | some s => decide (kindW s ≠ kindW l[k]) | none => false)) := by
    intro k h1
    simp only [endsW, List.getElem?_eq_getElem h1]
  obtain ⟨h1, h2, h3, h4⟩ := up_spec (fun s => decide (kindW s = 0)) l (i + 1) (by omega)
  generalize up (fun s => decide (kindW s = 0)) l (i + 1) = a at *
  have hblank : ∀ k, i + 1 ≤ k → k < a → endsW l k = false := by
    intro k hk1 hk2
    rw [hb k (by omega)]
    have := h3 k (by omega) hk1 hk2
    simp only [decide_eq_true_eq] at this
    simp [this]
  rcases Nat.lt_or_ge a l.length with hal | hal
  rotate_left
  · rw [List.getElem?_eq_none hal]
    show l.length = _
    exact (firstOf_none _ _ (by omega) fun k hk1 hk2 => hblank k hk1 (by omega)).symm
  · rw [List.getElem?_eq_getElem hal]
    simp only []
    have hk0 := h4 hal
    simp only [decide_eq_false_iff_not] at hk0
    obtain ⟨q1, q2, q3, q4⟩ := up_spec (fun s => decide (kindW s = kindW l[a])) l a (by omega)
    have hlt : a < up (fun s => decide (kindW s = kindW l[a])) l a := by
      rw [up_go hal (by simp)]
      exact (up_spec (fun s => decide (kindW s = kindW l[a])) l (a + 1) (by omega)).1
    generalize up (fun s => decide (kindW s = kindW l[a])) l a = b at *
    have hrun : ∀ k, a ≤ k → k + 1 < b → endsW l k = false := by
      intro k hk1 hk2
      rw [hb k (by omega)]
      have r1 := q3 k (by omega) hk1 (by omega)
      have r2 := q3 (k + 1) (by omega) (by omega) hk2
      simp only [decide_eq_true_eq] at r1 r2
      rw [List.getElem?_eq_getElem (show k + 1 < l.length by omega)]
      simp [r1, r2]
      omega
    refine (firstOf_is _ _ (by omega) (by omega) (by omega) ?_ fun k hk1 hk2 => ?_).symm
    · rw [hb (b - 1) (by omega)]
      have r1 := q3 (b - 1) (by omega) (by omega) (by omega)
      simp only [decide_eq_true_eq] at r1
      simp only [Bool.and_eq_true, decide_eq_true_eq, ne_eq, Bool.or_eq_true, r1]
      refine ⟨hk0, ?_⟩
      rcases Nat.lt_or_ge b l.length with hbl | hbl
      · right
        have r2 := q4 hbl
        simp only [decide_eq_false_iff_not] at r2
        rw [show b - 1 + 1 = b by omega, List.getElem?_eq_getElem hbl]
        simpa using r2
      · left; omega
    · rcases Nat.lt_or_ge k a with h | h
      · exact hblank k hk1 h
      · exact hrun k h (by omega)

end Go.Proofs.YtcaglmjfphjpfaaGreat
