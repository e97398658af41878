/- Layer 26's law: no row parts the halves of a sign. -/
import Derived.Test.YtccinlhenkkpeaaDoorRenK
namespace Go.Proofs.YtccinlhenkkpeaaDoor
open Go E
set_option linter.unusedSimpArgs false
set_option linter.unusedVariables false
set_option maxRecDepth 100000

theorem rowS_append : ∀ (x y : List (Int × Int)) (want : Int × Int), rowS want x = true → rowS (0, 0) y = true → rowS want (x ++ y) = true
  | [], y, want, hx, hy => by
    simp only [rowS, decide_eq_true_eq] at hx
    obtain ⟨a, b⟩ := want
    obtain ⟨h1, h2⟩ := hx
    simp only at h1 h2
    subst h1 h2
    exact hy
  | c :: x, y, want, hx, hy => by
    simp only [rowS, Bool.and_eq_true] at hx
    simp only [List.cons_append, rowS, Bool.and_eq_true]
    exact ⟨hx.1, rowS_append x y _ hx.2 hy⟩

theorem rowS_blank : rowS (0, 0) [(32, 0)] = true := by decide

theorem xor_in : ∀ k : Fin 128, (k.val < 32 ∨ k.val = 127) → 63 ≤ xorR k.val ∧ xorR k.val ≤ 95 := by decide

theorem xorR_in {r : Int} (h : ctlR r = true) : 63 ≤ xorR r ∧ xorR r ≤ 95 := by
  simp only [ctlR, Bool.or_eq_true, decide_eq_true_eq] at h
  have := xor_in ⟨r.toNat, by omega⟩ (by simp only []; omega)
  rw [show ((⟨r.toNat, by omega⟩ : Fin 128).val : Int) = r by simp only []; omega] at this
  exact this

theorem wide_not {r : Int} (h : r < 4352) : wideR r = false := by
  simp only [wideR, List.any_eq_false, decide_eq_true_eq]
  intro s hs
  have : ∀ s ∈ spansT, 4352 ≤ s.1 := by decide
  have := this s hs
  omega

theorem celIs_plain {r : Int} (h : shownR r = true) (hw : wideR r = false) : celIs (r, 0) = true := by simp [celIs, h, hw]

/-- What a sign is shown as is right. -/
theorem rowS_cells (r : Int) : rowS (0, 0) (cellsR r) = true := by
  simp only [cellsR]
  cases hc : ctlR r
  · simp only [Bool.false_eq_true, if_false]
    cases hs : shownR r
    · simp only [Bool.false_eq_true, if_false]
      decide
    · simp only [if_true]
      cases hw : wideR r
      · simp [rowS, celIs_plain hs hw]
      · simp [rowS, celIs, hs, hw]
  · simp only [if_true]
    have hx := xorR_in hc
    have h1 : shownR (xorR r) = true := by
      have : isR (xorR r) = true := by grind [isR]
      simp [shownR, this]; omega
    have h2 := wide_not (r := xorR r) (by omega)
    have h3 : celIs (94, 0) = true := by decide
    simp [rowS, celIs_plain h1 h2, h3]

/-- Each row of so many cells is right. -/
def Rows_ (w : Nat) (c : List (Int × Int)) : Prop := ∀ y, rowS (0, 0) ((c.drop (y * w)).take w) = true

theorem rows_append {w : Nat} (hw : 0 < w) {c b : List (Int × Int)} (hc : Rows_ w c) (hb : rowS (0, 0) b = true) (hf : c.length % w + b.length ≤ w) : Rows_ w (c ++ b) := by
  intro y
  have hd := Nat.div_add_mod c.length w
  have hm := Nat.mod_lt c.length hw
  rw [List.drop_append, List.take_append]
  have hlen : ((c.drop (y * w)).take w).length = min w (c.length - y * w) := by simp
  rcases Nat.lt_trichotomy y (c.length / w) with h | h | h
  · have h1 : (y + 1) * w ≤ c.length := by
      have : (y + 1) * w ≤ (c.length / w) * w := Nat.mul_le_mul_right _ (by omega)
      rw [Nat.mul_comm (c.length / w)] at this
      omega
    rw [Nat.succ_mul] at h1
    rw [show w - (c.drop (y * w)).length = 0 by simp; omega, List.take_zero, List.append_nil]
    exact hc y
  · subst h
    rw [Nat.mul_comm] at hlen ⊢
    have e1 : c.length - w * (c.length / w) = c.length % w := by omega
    rw [show w * (c.length / w) - c.length = 0 by omega, List.drop_zero]
    rw [show w - (c.drop (w * (c.length / w))).length = w - c.length % w by simp; omega]
    rw [List.take_of_length_le (l := b) (by omega)]
    refine rowS_append _ _ _ ?_ hb
    have := hc (c.length / w)
    rwa [Nat.mul_comm] at this
  · have h1 : w * (c.length / w) + w ≤ y * w := by
      have : (c.length / w + 1) * w ≤ y * w := Nat.mul_le_mul_right _ h
      rw [Nat.succ_mul, Nat.mul_comm] at this
      exact this
    rw [List.drop_of_length_le (l := c) (by omega), List.drop_of_length_le (l := b) (by omega)]
    simp [rowS]

theorem rows_blanks {w : Nat} (hw : 0 < w) {c : List (Int × Int)} (hc : Rows_ w c) : ∀ k : Nat, Rows_ w (c ++ List.replicate k (32, 0))
  | 0 => by simpa using hc
  | k + 1 => by
    rw [List.replicate_succ', ← List.append_assoc]
    have hm := Nat.mod_lt (c ++ List.replicate k (32, 0)).length hw
    exact rows_append hw (rows_blanks hw hc k) rowS_blank (by simp at hm ⊢; omega)

theorem rows_cells {w : Nat} (hw : 2 ≤ w) : ∀ (l : List Int) (c : List (Int × Int)), Rows_ w c → Rows_ w (c ++ cellsF w c.length l)
  | [], c, hc => by simpa [cellsF] using hc
  | r :: l, c, hc => by
    have hf := from_le (a := c.length) hw r
    have h1 := rows_blanks (by omega) hc (fromF w c.length r - c.length)
    have hlen : (c ++ List.replicate (fromF w c.length r - c.length) (32, 0)).length = fromF w c.length r := by simp; omega
    have h2 := rows_append (by omega) h1 (rowS_cells r) (by rw [hlen, cellsR_length]; exact from_mod hw r)
    have hlen2 : (c ++ List.replicate (fromF w c.length r - c.length) (32, 0) ++ cellsR r).length = nextF w c.length r := by
      rw [List.length_append, hlen, cellsR_length]; rfl
    have h3 := rows_cells hw l _ h2
    rw [hlen2] at h3
    rw [cellsF, ← List.append_assoc, ← List.append_assoc]
    exact h3

theorem rows_lay {w : Nat} (hw : 2 ≤ w) (l : List Int) : Rows_ w (cellsF w 0 l) := by
  have := rows_cells hw l [] (fun y => by simp [rowS])
  simpa using this

end Go.Proofs.YtccinlhenkkpeaaDoor
