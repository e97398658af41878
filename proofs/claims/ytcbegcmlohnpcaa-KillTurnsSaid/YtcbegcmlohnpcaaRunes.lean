/- Rows of signs as data. -/
import Derived.Test.YtcbegcmlohnpcaaAw
namespace Go.Proofs.Ytcbegcmlohnpcaa.E
open Go

def runeC : Cell Int := ⟨fun r => [.int .i32 r], 1, fun _ => rfl, fun a b h => by simpa using h, fun _ => rfl⟩
@[simp] theorem runeC_sz : runeC.sz = 1 := id rfl
@[simp] theorem runeC_enc (r : Int) : runeC.enc r = [.int .i32 r] := rfl
@[simp] theorem zeros_rune (n : Nat) : zeros [.int .i32 0] n = cells runeC (List.replicate n 0) := by
  induction n with
  | zero => rfl
  | succ n ih => simp [zeros, ih, List.replicate_succ]
/-- A row of signs. -/
abbrev rn (l : List Int) : D := row runeC false l

/-- Rows of rows. -/
def rowC {α : Type} (E : Cell α) : Cell (List α) := ⟨fun l => [row E false l], 1, fun _ => rfl, fun a b h => by simpa using h, fun _ => by simp⟩
@[simp] theorem rowC_sz {α : Type} (E : Cell α) : (rowC E).sz = 1 := id rfl
@[simp] theorem rowC_enc {α : Type} (E : Cell α) (l : List α) : (rowC E).enc l = [row E false l] := rfl

@[simp] theorem putAt_row {α : Type} {E : Cell α} (L : List (List α)) (i : Nat) (x : List α) (h : i < L.length) : putAt (cells (rowC E) L) i [row E false x] = cells (rowC E) (L.set i x) := putAt_one rfl L x i h
@[simp] theorem putAt_rune (l : List Int) (i : Nat) (x : Int) (h : i < l.length) : putAt (cells runeC l) i [.int .i32 x] = cells runeC (l.set i x) := putAt_one rfl l x i h

def isR (r : Int) : Bool := decide (0 ≤ r) && decide (r < 55296) || decide (57343 < r) && decide (r ≤ 1114111)
def allR (l : List Int) : Bool := l.all isR

theorem allR_drop {l : List Int} {i : Nat} (h : i < l.length) : allR (l.drop i) = (isR l[i] && allR (l.drop (i + 1))) := by
  rw [List.drop_eq_getElem_cons h]; rfl
@[simp] theorem allR_nil : allR [] = true := rfl
@[simp] theorem allR_append (l r : List Int) : allR (l ++ r) = (allR l && allR r) := by simp [allR]

theorem take_eq {α : Type} {l : List α} {a b : Nat} (h : min a l.length = min b l.length) : l.take a = l.take b := by
  by_cases h1 : a ≤ l.length <;> by_cases h2 : b ≤ l.length
  · rw [show a = b by omega]
  · rw [List.take_of_length_le (by omega), List.take_of_length_le (by omega)]
  · rw [List.take_of_length_le (by omega), List.take_of_length_le (by omega)]
  · rw [List.take_of_length_le (by omega), List.take_of_length_le (by omega)]
theorem drop_eq {α : Type} {l : List α} {a b : Nat} (h : min a l.length = min b l.length) : l.drop a = l.drop b := by
  by_cases h1 : a ≤ l.length <;> by_cases h2 : b ≤ l.length
  · rw [show a = b by omega]
  · rw [List.drop_of_length_le (by omega), List.drop_of_length_le (by omega)]
  · rw [List.drop_of_length_le (by omega), List.drop_of_length_le (by omega)]
  · rw [List.drop_of_length_le (by omega), List.drop_of_length_le (by omega)]

end Go.Proofs.Ytcbegcmlohnpcaa.E
