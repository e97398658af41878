/- What the document's answer for layer 11 computes: Tail; and the moves of layer 23. -/
import Derived.Test.YtcaglmjfphjpfaaGreatWordsD
namespace Go.Proofs.YtcaglmjfphjpfaaGreat
open Go E
set_option linter.unusedSimpArgs false
set_option linter.unusedVariables false

theorem pc_ref11_Tail (n : Nat) (l : List Int) (i : Int) (hl : l.length < 2000000) : (W (n + 4)).pc 100 [rn l, .int .i64 i] = some (.int .i64 (tailW l (place l i))) := by
  have hpl := place_le l i
  apply runs c_typebarref11_Tail
  have hs := Keep.mk (tailW_is l (place l i) hpl)
  simp [X_typebarref11_Tail]
  generalize place l i = a at hpl hs ⊢
  simp (disch := omega) only [wrap_i64]
  refine aw_rounds (fun m st => ∃ k : Nat, st = ⟨tab [(0, rn l), (5, .int .i64 (a + 1 + k))], []⟩ ∧ a + k ≤ l.length ∧ m = l.length - a - k + 1 ∧ Keep (∀ j, a + 1 ≤ j → j < a + 1 + k → endsW l j = false)) ?_ ?_ (n := l.length - a - (0) + 1) (by first | omega | (simp; omega)) ?_
  · rintro st ⟨k, hx⟩; omega
  rotate_left
  · exact ⟨0, by first | rfl | (simp [*, accS, accH]; done) | (simp only [*]; done) | (congr 1 <;> simp [*, accS, accH]; done) | (congr 1 <;> simp [*, accS, accH] <;> rfl) | (congr 1 <;> congr 1 <;> simp <;> omega), by first | omega | (simp; omega) | simp [*], by first | rfl | (simp; done) | omega, ⟨fun j h1 h2 => by omega⟩⟩
  rintro Ja ma _ ⟨k, rfl, fa1, hma, hqa⟩ hJa
  by_cases hk : a + 1 + k < l.length
  · have e1 : ((a : Int) + 1 + k).toNat = a + 1 + k := by omega
    have e2 : ((a : Int) + 1 + k + 1).toNat = a + 1 + k + 1 := by omega
    have hb : endsW l (a + 1 + k) = (decide (kindW l[a + 1 + k] ≠ 0) && (decide (a + 1 + k + 1 = l.length) || match l[a + 1 + k + 1]? with | some s => decide (kindW s ≠ kindW l[a + 1 + k]) | none => false)) := by
      simp only [endsW, List.getElem?_eq_getElem hk]; rfl
    have hgo : endsW l (a + 1 + k) = false → ∀ j, a + 1 ≤ j → j < a + 1 + (k + 1) → endsW l j = false := fun hpp j h1 h2 => by
      by_cases he : j = a + 1 + k
      · subst he; exact hpp
      · exact hqa.out j h1 (by omega)
    have hgo := Keep.mk hgo
    have hz : endsW l (a + 1 + k) = true → tailW l a = a + 1 + k := fun hpp => by rw [hs.out]; exact firstOf_is _ _ (by omega) hk (by omega) hpp fun j h1 h2 => hqa.out j h1 h2
    have hz := Keep.mk hz
    rw [hb] at hgo hz
    clear hb hqa
    by_cases hlast : a + 1 + k + 1 = l.length
    · have hl1 : ((a : Int) + 1 + k = l.length - 1) = True := by simp only [eq_iff_iff, iff_true]; omega
      simp only [hlast, decide_true, Bool.true_or, Bool.and_true] at hgo hz
      simp
      repeat' (first
        | simp (disch := omega) only [wrap_i64, wrap_i32]
        | (simp (disch := first | omega | assumption | (simp only [i64, i32]; omega) | (simp <;> omega) | fail) only [loadD_cpr, loadD_cprs, List.take_of_length_le]; simp [*, e1, hl1])
        | (with_reducible refine And.intro ?_ ?_; focus first | omega | decide)
        | (with_reducible refine split_ite (fun hp => ?_) (fun hp => ?_) <;> (try simp at hp) <;> simp [*, e1, hl1])
        | (with_reducible refine split_ite1 (fun hp => ?_) (fun hp => ?_) <;> (try simp at hp) <;> simp [*, e1, hl1])
        | (refine split_cond (by simp) (fun hp => ?_) (fun hp => ?_) <;> simp at hp <;> simp [*, e1, hl1])
        | (refine split_ops (by simp) (fun hp => ?_) (fun hp => ?_) <;> simp at hp <;> simp [*, e1, hl1])
        | (refine split_opsD (by simp) (fun hp => ?_) (fun hp => ?_) <;> simp at hp <;> simp [*, e1, hl1])
        | (refine split_pick (by simp) (fun hp => ?_) (fun hp => ?_) <;> simp at hp <;> simp [*, e1, hl1])
        | omega
        | decide
        | (simp [*, e1, hl1]))
      · have := hz.out (by simp [*]); omega
      · exact hJa.out _ ⟨k + 1, by first | rfl | (simp [*, accS, accH]; done) | (simp only [*]; done) | (congr 1 <;> simp [*, accS, accH]; done) | (congr 1 <;> simp [*, accS, accH] <;> rfl) | (congr 1 <;> congr 1 <;> simp <;> omega), by first | omega | (simp; omega) | simp [*], by omega, ⟨hgo.out (by simp [*])⟩⟩
    · have hl1 : ((a : Int) + 1 + k = l.length - 1) = False := by simp only [eq_iff_iff, iff_false]; omega
      have hk1 : a + 1 + k + 1 < l.length := by omega
      simp only [hlast, decide_false, Bool.false_or, List.getElem?_eq_getElem hk1] at hgo hz
      simp
      repeat' (first
        | simp (disch := omega) only [wrap_i64, wrap_i32]
        | (simp (disch := first | omega | assumption | (simp only [i64, i32]; omega) | (simp <;> omega) | fail) only [loadD_cpr, loadD_cprs, List.take_of_length_le]; simp [*, e1, e2, hl1])
        | (with_reducible refine And.intro ?_ ?_; focus first | omega | decide)
        | (with_reducible refine split_ite (fun hp => ?_) (fun hp => ?_) <;> (try simp at hp) <;> simp [*, e1, e2, hl1])
        | (with_reducible refine split_ite1 (fun hp => ?_) (fun hp => ?_) <;> (try simp at hp) <;> simp [*, e1, e2, hl1])
        | (refine split_cond (by simp) (fun hp => ?_) (fun hp => ?_) <;> simp at hp <;> simp [*, e1, e2, hl1])
        | (refine split_ops (by simp) (fun hp => ?_) (fun hp => ?_) <;> simp at hp <;> simp [*, e1, e2, hl1])
        | (refine split_opsD (by simp) (fun hp => ?_) (fun hp => ?_) <;> simp at hp <;> simp [*, e1, e2, hl1])
        | (refine split_pick (by simp) (fun hp => ?_) (fun hp => ?_) <;> simp at hp <;> simp [*, e1, e2, hl1])
        | omega
        | decide
        | (simp [*, e1, e2, hl1]))
      · have := hz.out (by simp [*]); omega
      · exact hJa.out _ ⟨k + 1, by first | rfl | (simp [*, accS, accH]; done) | (simp only [*]; done) | (congr 1 <;> simp [*, accS, accH]; done) | (congr 1 <;> simp [*, accS, accH] <;> rfl) | (congr 1 <;> congr 1 <;> simp <;> omega), by first | omega | (simp; omega) | simp [*], by omega, ⟨hgo.out (by simp [*])⟩⟩
      · exact hJa.out _ ⟨k + 1, by first | rfl | (simp [*, accS, accH]; done) | (simp only [*]; done) | (congr 1 <;> simp [*, accS, accH]; done) | (congr 1 <;> simp [*, accS, accH] <;> rfl) | (congr 1 <;> congr 1 <;> simp <;> omega), by first | omega | (simp; omega) | simp [*], by omega, ⟨hgo.out (by simp [*])⟩⟩
  · have hz : tailW l a = l.length := by rw [hs.out]; exact firstOf_none _ _ (by omega) fun j h1 h2 => hqa.out j h1 (by omega)
    simp
    repeat' (first
      | simp (disch := omega) only [wrap_i64, wrap_i32]
      | (simp (disch := first | omega | assumption | (simp only [i64, i32]; omega) | (simp <;> omega) | fail) only [loadD_cpr, loadD_cprs, List.take_of_length_le]; simp [*, hz])
      | (with_reducible refine And.intro ?_ ?_; focus first | omega | decide)
      | (with_reducible refine split_ite (fun hp => ?_) (fun hp => ?_) <;> (try simp at hp) <;> simp [*, hz])
      | (with_reducible refine split_ite1 (fun hp => ?_) (fun hp => ?_) <;> (try simp at hp) <;> simp [*, hz])
      | (refine split_cond (by simp) (fun hp => ?_) (fun hp => ?_) <;> simp at hp <;> simp [*, hz])
      | (refine split_ops (by simp) (fun hp => ?_) (fun hp => ?_) <;> simp at hp <;> simp [*, hz])
      | (refine split_opsD (by simp) (fun hp => ?_) (fun hp => ?_) <;> simp at hp <;> simp [*, hz])
      | (refine split_pick (by simp) (fun hp => ?_) (fun hp => ?_) <;> simp at hp <;> simp [*, hz])
      | omega
      | decide
      | (simp [*, hz]))

/-- One step of a move. -/
def stepE (l : List Int) (a mv : Int) : Int :=
  if mv = 1 then max (a - 1) 0 else if mv = 2 then min (a + 1) l.length else if mv = 5 then foreW l (place l a) else if mv = 6 then behindW l (place l a) else
  if mv = 7 then nextW l (place l a) else if mv = 8 then prevW l (place l a) else tailW l (place l a)

theorem pc_edit_one (n : Nat) (l : List Int) (a mv : Int) (hl : l.length < 2000000) (ha : 0 ≤ a ∧ a ≤ l.length) : (W (n + 7)).pc 59 [rn l, .int .i64 a, .int .i64 mv] = some (.int .i64 (stepE l a mv)) := by
  apply runs c_edit_one
  have h5 := pc_words_Fore n l a hl
  have h6 := pc_words_Behind n l a hl
  have h7 := pc_words_Next (n + 1) l a hl
  have h8 := pc_words_Prev (n + 1) l a hl
  have h9 := pc_words_Tail (n + 1) l a hl
  simp [X_edit_one, h5, h6, h7, h8, h9]
  repeat' (first
    | simp (disch := omega) only [wrap_i64, wrap_i32]
    | (simp (disch := first | omega | assumption | (simp only [i64, i32]; omega) | (simp <;> omega) | fail) only [loadD_cpr, loadD_cprs, List.take_of_length_le]; simp [*, h5, h6, h7, h8, h9])
    | (with_reducible refine And.intro ?_ ?_; focus first | omega | decide)
    | (with_reducible refine split_ite (fun hp => ?_) (fun hp => ?_) <;> (try simp at hp) <;> simp [*, h5, h6, h7, h8, h9])
    | (with_reducible refine split_ite1 (fun hp => ?_) (fun hp => ?_) <;> (try simp at hp) <;> simp [*, h5, h6, h7, h8, h9])
    | (refine split_cond (by simp) (fun hp => ?_) (fun hp => ?_) <;> simp at hp <;> simp [*, h5, h6, h7, h8, h9])
    | (refine split_ops (by simp) (fun hp => ?_) (fun hp => ?_) <;> simp at hp <;> simp [*, h5, h6, h7, h8, h9])
    | (refine split_opsD (by simp) (fun hp => ?_) (fun hp => ?_) <;> simp at hp <;> simp [*, h5, h6, h7, h8, h9])
    | (refine split_pick (by simp) (fun hp => ?_) (fun hp => ?_) <;> simp at hp <;> simp [*, h5, h6, h7, h8, h9])
    | omega
    | decide
    | (simp [*, h5, h6, h7, h8, h9]))
  all_goals (simp [stepE, *])

theorem pc_ref23_step (n : Nat) (l : List Int) (a mv : Int) (hl : l.length < 2000000) (ha : 0 ≤ a ∧ a ≤ l.length) (hmv : mv = 1 ∨ mv = 2 ∨ 5 ≤ mv ∧ mv ≤ 9) : (W (n + 5)).pc 76 [rn l, .int .i64 a, .int .i64 mv] = some (.int .i64 (stepE l a mv)) := by
  apply runs c_typebarref23_step
  have h5 := pc_ref11_Fore (n + 2) l a hl
  have h6 := pc_ref11_Behind (n + 2) l a hl
  have h7 := pc_ref11_Next n l a hl
  have h8 := pc_ref11_Prev n l a hl
  have h9 := pc_ref11_Tail n l a hl
  simp [X_typebarref23_step, h5, h6, h7, h8, h9]
  repeat' (first
    | simp (disch := omega) only [wrap_i64, wrap_i32]
    | (simp (disch := first | omega | assumption | (simp only [i64, i32]; omega) | (simp <;> omega) | fail) only [loadD_cpr, loadD_cprs, List.take_of_length_le]; simp [*, h5, h6, h7, h8, h9])
    | (with_reducible refine And.intro ?_ ?_; focus first | omega | decide)
    | (with_reducible refine split_ite (fun hp => ?_) (fun hp => ?_) <;> (try simp at hp) <;> simp [*, h5, h6, h7, h8, h9])
    | (with_reducible refine split_ite1 (fun hp => ?_) (fun hp => ?_) <;> (try simp at hp) <;> simp [*, h5, h6, h7, h8, h9])
    | (refine split_cond (by simp) (fun hp => ?_) (fun hp => ?_) <;> simp at hp <;> simp [*, h5, h6, h7, h8, h9])
    | (refine split_ops (by simp) (fun hp => ?_) (fun hp => ?_) <;> simp at hp <;> simp [*, h5, h6, h7, h8, h9])
    | (refine split_opsD (by simp) (fun hp => ?_) (fun hp => ?_) <;> simp at hp <;> simp [*, h5, h6, h7, h8, h9])
    | (refine split_pick (by simp) (fun hp => ?_) (fun hp => ?_) <;> simp at hp <;> simp [*, h5, h6, h7, h8, h9])
    | omega
    | decide
    | (simp [*, h5, h6, h7, h8, h9]))
  all_goals (simp [stepE, *]; try omega)

theorem firstOf_le {q : Nat → Bool} {n : Nat} : (f i : Nat) → firstOf q n f i ≤ n
  | 0, i => Nat.le_refl _
  | f + 1, i => by
    rw [firstOf]
    split
    · split
      · omega
      · exact firstOf_le f (i + 1)
    · exact Nat.le_refl _

theorem firstOf_ge {q : Nat → Bool} {n : Nat} : (f i : Nat) → i ≤ n → i ≤ firstOf q n f i
  | 0, i, h => h
  | f + 1, i, h => by
    rw [firstOf]
    split
    · split
      · exact Nat.le_refl _
      · have := firstOf_ge f (i + 1) (q := q) (n := n) (by omega); omega
    · exact h

theorem lastOf_le {q : Nat → Bool} : (i : Nat) → lastOf q i ≤ i
  | 0 => Nat.le_refl _
  | i + 1 => by
    rw [lastOf]
    split
    · omega
    · split
      · omega
      · have := lastOf_le i (q := q); omega

theorem lastOf_lt {q : Nat → Bool} (i : Nat) (h : 0 < i) : lastOf q i < i := by
  cases i with
  | zero => omega
  | succ i =>
    rw [lastOf]
    split
    · omega
    · split
      · omega
      · have := lastOf_le i (q := q); omega

/-- Which way a move goes: not back, or not on; and it stays within the row. -/
theorem stepE_way (l : List Int) (a mv : Int) (ha : 0 ≤ a ∧ a ≤ l.length) (hmv : mv = 1 ∨ mv = 2 ∨ 5 ≤ mv ∧ mv ≤ 9) :
    (0 ≤ stepE l a mv ∧ stepE l a mv ≤ l.length) ∧ ((mv = 2 ∨ mv = 5 ∨ mv = 7 ∨ mv = 9) → a ≤ stepE l a mv) ∧ ((mv = 1 ∨ mv = 6 ∨ mv = 8) → stepE l a mv ≤ a) := by
  have hp : (place l a : Int) = a := by simp only [place]; split; omega; split <;> omega
  have hpl := place_le l a
  have f1 := up_spec (fun r => !inW r) l (place l a) hpl
  have f2 := up_spec inW l (up (fun r => !inW r) l (place l a)) f1.2.1
  have b1 := dn_spec (fun r => !inW r) l (place l a) hpl
  have b2 := dn_spec inW l (dn (fun r => !inW r) l (place l a)) (by omega)
  have n1 := nextW_is l (place l a) hpl
  have n2 := firstOf_le (q := beginsW l) (n := l.length) l.length (place l a + 1)
  have p1 := prevW_is l (place l a) hpl
  have p2 := lastOf_le (q := beginsW l) (place l a)
  have t1 := tailW_is l (place l a) hpl
  have t2 := firstOf_le (q := endsW l) (n := l.length) l.length (place l a + 1)
  have n3 : place l a + 1 ≤ l.length → place l a + 1 ≤ firstOf (beginsW l) l.length l.length (place l a + 1) := fun h => firstOf_ge _ _ h
  have t3 : place l a + 1 ≤ l.length → place l a + 1 ≤ firstOf (endsW l) l.length l.length (place l a + 1) := fun h => firstOf_ge _ _ h
  have n4 : ¬ place l a + 1 ≤ l.length → firstOf (beginsW l) l.length l.length (place l a + 1) = l.length := fun h => firstOf_none _ _ (by omega) fun k _ _ => by omega
  have t4 : ¬ place l a + 1 ≤ l.length → firstOf (endsW l) l.length l.length (place l a + 1) = l.length := fun h => firstOf_none _ _ (by omega) fun k _ _ => by omega
  have g1 := f1.1; have g2 := f2.1; have g3 := f2.2.1; have g4 := b1.1; have g5 := b2.1
  clear f1 f2 b1 b2
  simp only [stepE, foreW, behindW, n1, p1, t1]
  generalize firstOf (beginsW l) l.length l.length (place l a + 1) = x1 at *
  generalize firstOf (endsW l) l.length l.length (place l a + 1) = x2 at *
  generalize lastOf (beginsW l) (place l a) = x3 at *
  generalize up (fun r => !inW r) l (place l a) = x4 at *
  generalize dn (fun r => !inW r) l (place l a) = x5 at *
  generalize up inW l x4 = x6 at *
  generalize dn inW l x5 = x7 at *
  by_cases h1 : place l a + 1 ≤ l.length
  · have q1 := n3 h1
    have q2 := t3 h1
    clear n3 t3 n4 t4
    refine ⟨?_, fun h => ?_, fun h => ?_⟩ <;> (repeat' split) <;> omega
  · have q1 := n4 h1
    have q2 := t4 h1
    clear n3 t3 n4 t4
    refine ⟨?_, fun h => ?_, fun h => ?_⟩ <;> (repeat' split) <;> omega

/-- So many steps. -/
def iterE (l : List Int) (mv : Int) : Nat → Int → Int
  | 0, a => a
  | k + 1, a => iterE l mv k (stepE l a mv)

theorem iterE_fix {l : List Int} {mv a : Int} (h : stepE l a mv = a) : ∀ k, iterE l mv k a = a
  | 0 => rfl
  | k + 1 => by rw [iterE, h]; exact iterE_fix h k

theorem iterE_add (l : List Int) (mv : Int) : ∀ (j k : Nat) (a : Int), iterE l mv (j + k) a = iterE l mv k (iterE l mv j a)
  | 0, k, a => by simp [iterE]
  | j + 1, k, a => by rw [show j + 1 + k = (j + k) + 1 by omega, iterE, iterE, iterE_add l mv j k]

/-- Behind so many steps as the row has signs nothing moves. -/
theorem iterE_still {l : List Int} {mv : Int} (hmv : mv = 1 ∨ mv = 2 ∨ 5 ≤ mv ∧ mv ≤ 9) : ∀ (d : Nat) (a : Int), 0 ≤ a → a ≤ l.length → ((mv = 2 ∨ mv = 5 ∨ mv = 7 ∨ mv = 9) → (l.length : Int) - a ≤ d) → ((mv = 1 ∨ mv = 6 ∨ mv = 8) → a ≤ d) →
    stepE l (iterE l mv d a) mv = iterE l mv d a
  | 0, a, h0, h1, h2, h3 => by
    obtain ⟨w1, w2, w3⟩ := stepE_way l a mv ⟨h0, h1⟩ hmv
    rw [iterE]
    by_cases h : mv = 2 ∨ mv = 5 ∨ mv = 7 ∨ mv = 9
    · have := h2 h; have := w2 h; omega
    · have h' : mv = 1 ∨ mv = 6 ∨ mv = 8 := by omega
      have := h3 h'; have := w3 h'; omega
  | d + 1, a, h0, h1, h2, h3 => by
    obtain ⟨w1, w2, w3⟩ := stepE_way l a mv ⟨h0, h1⟩ hmv
    rw [iterE]
    by_cases he : stepE l a mv = a
    · rw [he, iterE_fix he, he]
    · refine iterE_still hmv d (stepE l a mv) w1.1 w1.2 (fun h => ?_) fun h => ?_
      · have := h2 h; have := w2 h; omega
      · have := h3 h; have := w3 h; omega

theorem iterE_more {l : List Int} {mv a : Int} (hmv : mv = 1 ∨ mv = 2 ∨ 5 ≤ mv ∧ mv ≤ 9) (h0 : 0 ≤ a) (h1 : a ≤ l.length) {k : Nat} (hk : l.length ≤ k) : iterE l mv k a = iterE l mv l.length a := by
  obtain ⟨j, rfl⟩ : ∃ j, k = l.length + j := ⟨k - l.length, by omega⟩
  rw [iterE_add]
  exact iterE_fix (iterE_still hmv l.length a h0 h1 (fun _ => by omega) fun _ => by omega) j

def oppE (mv : Int) : Int := if mv = 1 then 2 else if mv = 2 then 1 else if mv = 5 then 6 else if mv = 6 then 5 else if mv = 7 then 8 else if mv = 8 then 7 else if mv = 9 then 8 else 0

end Go.Proofs.YtcaglmjfphjpfaaGreat
