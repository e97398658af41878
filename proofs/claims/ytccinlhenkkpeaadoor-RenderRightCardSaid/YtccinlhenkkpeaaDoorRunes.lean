/- Rows of signs as data. -/
import Derived.Test.YtccinlhenkkpeaaDoorLend
namespace Go.Proofs.YtccinlhenkkpeaaDoor.E
open Go

def runeC : Cell Int := ⟨fun r => [.int .i32 r], 1, fun _ => rfl, fun a b h => by simpa using h, fun _ => rfl⟩
@[simp] theorem runeC_sz : runeC.sz = 1 := id rfl
@[simp] theorem runeC_enc (r : Int) : runeC.enc r = [.int .i32 r] := rfl
@[simp] theorem zeros_rune (n : Nat) : zeros [.int .i32 0] n = cells runeC (List.replicate n 0) := by
  induction n with
  | zero => rfl
  | succ n ih => simp [zeros, ih, List.replicate_succ]
/-- A row of signs. -/
abbrev rn (l : List Int) : D := row runeC false l

/-- Rows of rows. -/
def rowC {α : Type} (E : Cell α) : Cell (List α) := ⟨fun l => [row E false l], 1, fun _ => rfl, fun a b h => by simpa using h, fun _ => by simp⟩
@[simp] theorem rowC_sz {α : Type} (E : Cell α) : (rowC E).sz = 1 := id rfl
@[simp] theorem rowC_enc {α : Type} (E : Cell α) (l : List α) : (rowC E).enc l = [row E false l] := rfl

@[simp] theorem putAt_row {α : Type} {E : Cell α} (L : List (List α)) (i : Nat) (x : List α) (h : i < L.length) : putAt (cells (rowC E) L) i [row E false x] = cells (rowC E) (L.set i x) := putAt_one rfl L x i h
@[simp] theorem putAt_rune (l : List Int) (i : Nat) (x : Int) (h : i < l.length) : putAt (cells runeC l) i [.int .i32 x] = cells runeC (l.set i x) := putAt_one rfl l x i h

def isR (r : Int) : Bool := decide (0 ≤ r) && decide (r < 55296) || decide (57343 < r) && decide (r ≤ 1114111)
def allR (l : List Int) : Bool := l.all isR

theorem allR_drop {l : List Int} {i : Nat} (h : i < l.length) : allR (l.drop i) = (isR l[i] && allR (l.drop (i + 1))) := by
  rw [List.drop_eq_getElem_cons h]; rfl
@[simp] theorem allR_nil : allR [] = true := rfl
@[simp] theorem allR_append (l r : List Int) : allR (l ++ r) = (allR l && allR r) := by simp [allR]

theorem getD_at {α : Type} {l : List α} {i : Nat} (h : i < l.length) (d : α) : l.getD i d = l[i] := by
  simp [List.getD, h]
theorem all_at {α : Type} {p : α → Bool} {l : List α} {i : Nat} (h : i < l.length) : (l.drop i).all p = (p l[i] && (l.drop (i + 1)).all p) := by
  rw [List.drop_eq_getElem_cons h]; rfl
theorem all_no {α : Type} {p : α → Bool} {l : List α} {i : Nat} (h : i < l.length) (hp : p l[i] = false) : l.all p = false := by
  rw [List.all_eq_false]; exact ⟨_, List.getElem_mem h, by simp [hp]⟩
theorem any_yes {α : Type} {p : α → Bool} {l : List α} {i : Nat} (h : i < l.length) (hp : p l[i] = true) : l.any p = true := by
  rw [List.any_eq_true]; exact ⟨_, List.getElem_mem h, hp⟩
theorem drop_end {α : Type} {l : List α} {i : Nat} (h : l.length ≤ i) : l.drop i = [] := List.drop_of_length_le h
theorem nil_or_snoc {α : Type} (L : List α) : L = [] ∨ ∃ M x, Keep (L = M ++ [x]) := by
  rcases List.eq_nil_or_concat L with h | ⟨M, x, h⟩
  · exact .inl h
  · exact .inr ⟨M, x, ⟨by rw [h, List.concat_eq_append]⟩⟩

/-- A row that grows: nothing, or a block of its own behind 'b' others. -/
def accS {α : Type} (E : Cell α) (b : Nat) (X : List α) : D := if X = [] then .arr 0 true [] else .ref b 0 X.length E.sz (X.length * E.sz) false
def accH {α : Type} (E : Cell α) (X : List α) : List Blk := if X = [] then [] else [⟨cells E X, 0, false⟩]
@[simp] theorem lenD_acc {α : Type} (E : Cell α) (b : Nat) (X : List α) : lenD (accS E b X) = some (.int .i64 X.length) := by
  by_cases hX : X = [] <;> simp [accS, hX, lenD]
@[simp] theorem own1_acc0 {α : Type} (E : Cell α) (X : List α) (h : List Blk) : own1 (some (accS E 0 X, accH E X)) h = some (accS E h.length X, h ++ accH E X) := by
  by_cases hX : X = [] <;> simp [accS, accH, hX]
@[simp] theorem own1_acc1 {α : Type} (E : Cell α) (X : List α) (b : Blk) (h : List Blk) : own1 (some (accS E 1 X, b :: accH E X)) h = some (accS E h.length X, h ++ accH E X) := by
  by_cases hX : X = [] <;> simp [accS, accH, hX]
@[simp] theorem freezeR_acc1 {α : Type} (E : Cell α) (X : List α) (b : Blk) : freezeR (accS E 1 X) (b :: accH E X) = some (row E false X, if X = [] then [b] else [b, ⟨cells E X, X.length * E.sz, false⟩]) := by
  by_cases h : X = []
  · subst h; simp [accH, accS]; rfl
  · simp [accH, accS, h]
    exact row_is rfl (List.take_of_length_le (by simp))

theorem take_eq {α : Type} {l : List α} {a b : Nat} (h : min a l.length = min b l.length) : l.take a = l.take b := by
  by_cases h1 : a ≤ l.length <;> by_cases h2 : b ≤ l.length
  · rw [show a = b by omega]
  · rw [List.take_of_length_le (by omega), List.take_of_length_le (by omega)]
  · rw [List.take_of_length_le (by omega), List.take_of_length_le (by omega)]
  · rw [List.take_of_length_le (by omega), List.take_of_length_le (by omega)]
theorem drop_eq {α : Type} {l : List α} {a b : Nat} (h : min a l.length = min b l.length) : l.drop a = l.drop b := by
  by_cases h1 : a ≤ l.length <;> by_cases h2 : b ≤ l.length
  · rw [show a = b by omega]
  · rw [List.drop_of_length_le (by omega), List.drop_of_length_le (by omega)]
  · rw [List.drop_of_length_le (by omega), List.drop_of_length_le (by omega)]
  · rw [List.drop_of_length_le (by omega), List.drop_of_length_le (by omega)]

end Go.Proofs.YtccinlhenkkpeaaDoor.E
