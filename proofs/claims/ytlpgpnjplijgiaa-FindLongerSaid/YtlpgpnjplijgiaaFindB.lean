/- What layer 21's functions tell of any past. -/
import Derived.Test.YtlpgpnjplijgiaaFindA
namespace Go.Proofs.Ytlpgpnjplijgiaa
open Go E
set_option linter.unusedSimpArgs false
set_option linter.unusedVariables false

def bears1 (l : List Int) : Prop := l.length < 70368744177664
def bearsL (L : List (List Int)) : Prop := L.length < 70368744177664 ∧ ∀ l ∈ L, l.length < 70368744177664

theorem pc_past_lineB (n : Nat) (l : List Int) (hl : l.length < 70368744177664) : (W (n + 6)).pc 61 [rn l] = some (.bool (kOne l)) := by
  apply runs c_past_line
  simp [X_past_line]
  repeat' (first
    | simp (disch := omega) only [wrap_i64, wrap_i32]
    | (simp (disch := first | omega | assumption | (simp only [i64, i32]; omega) | (simp <;> omega) | fail) only [loadD_cpr, loadD_cprs, List.take_of_length_le, pc_ContainsFunc_bad]; simp [*])
    | (with_reducible refine And.intro ?_ ?_; focus first | omega | decide)
    | (with_reducible refine split_ite (fun hp => ?_) (fun hp => ?_) <;> (try simp at hp) <;> simp [*])
    | (with_reducible refine split_ite1 (fun hp => ?_) (fun hp => ?_) <;> (try simp at hp) <;> simp [*])
    | (refine split_cond (by simp) (fun hp => ?_) (fun hp => ?_) <;> simp at hp <;> simp [*])
    | (refine split_ops (by simp) (fun hp => ?_) (fun hp => ?_) <;> simp at hp <;> simp [*])
    | (refine split_opsD (by simp) (fun hp => ?_) (fun hp => ?_) <;> simp at hp <;> simp [*])
    | (refine split_pick (by simp) (fun hp => ?_) (fun hp => ?_) <;> simp at hp <;> simp [*])
    | omega
    | decide
    | (simp [*]))
  all_goals simp [kOne, *]
  all_goals omega

attribute [local simp] pc_past_lineB in
theorem pc_past_IsB (n : Nat) (p : Past) (hp : bearsL p.L) : (W (n + 7)).pc 43 [pD p] = some (.bool (pIs p)) := by
  apply runs c_past_Is
  obtain ⟨hL, hl⟩ := hp
  cases hk : pOk p.room p.dup
  · simp [X_past_Is, nilRR, pNew, hk, pIs]
  simp [X_past_Is, nilRR, pNew, hk]
  repeat' (first
    | simp (disch := omega) only [wrap_i64, wrap_i32]
    | (simp (disch := first | omega | assumption | (simp only [i64, i32]; omega) | (simp <;> omega) | fail) only [loadD_cpr, loadD_cprs, List.take_of_length_le]; simp [*, nilRR])
    | (with_reducible refine And.intro ?_ ?_; focus first | omega | decide)
    | (with_reducible refine split_ite (fun hp => ?_) (fun hp => ?_) <;> (try simp at hp) <;> simp [*, nilRR])
    | (with_reducible refine split_ite1 (fun hp => ?_) (fun hp => ?_) <;> (try simp at hp) <;> simp [*, nilRR])
    | (refine split_cond (by simp) (fun hp => ?_) (fun hp => ?_) <;> simp at hp <;> simp [*, nilRR])
    | (refine split_ops (by simp) (fun hp => ?_) (fun hp => ?_) <;> simp at hp <;> simp [*, nilRR])
    | (refine split_opsD (by simp) (fun hp => ?_) (fun hp => ?_) <;> simp at hp <;> simp [*, nilRR])
    | (refine split_pick (by simp) (fun hp => ?_) (fun hp => ?_) <;> simp at hp <;> simp [*, nilRR])
    | omega
    | decide
    | (simp [*, nilRR]))
  · have : ¬ ((p.L.length : Int) ≤ p.room) := by omega
    simp [pIs, this]
  · refine aw_rounds (fun m st => ∃ i : Nat, ∃ R : List Blk, st = ⟨tab [(26, rrn p.L), (27, .int .i64 p.L.length), (28, .int .i64 i)], R⟩ ∧ i ≤ p.L.length ∧ m = p.L.length - i + 1 ∧ Keep (p.L.all kOne = (p.L.drop i).all kOne)) ?_ ?_ (n := p.L.length - (0) + 1) (by first | omega | (simp; omega)) ?_
    · rintro st ⟨i, hx⟩; omega
    rotate_left
    · exact ⟨0, _, by first | rfl | (simp [*, accS, accH]; done) | (simp only [*]; done) | (congr 1 <;> simp [*, accS, accH]; done) | (congr 1 <;> simp [*, accS, accH] <;> rfl) | (congr 1 <;> congr 1 <;> simp <;> omega), by first | omega | (simp; omega) | simp [*], by first | rfl | (simp; done) | omega, ⟨by simp⟩⟩
    rintro Ja ma _ ⟨i, Ra, rfl, fa1, hma, hqa⟩ hJa
    have hs : ∀ h : i < p.L.length, p.L[i].length < 70368744177664 := fun h => hl _ (List.getElem_mem h)
    simp
    repeat' (first
      | simp (disch := omega) only [wrap_i64, wrap_i32]
      | (simp (disch := first | omega | assumption | (simp only [i64, i32]; omega) | (simp <;> omega) | fail) only [loadD_cpr, loadD_cprs, List.take_of_length_le, pc_past_lineB]; simp [*])
      | (with_reducible refine And.intro ?_ ?_; focus first | omega | decide)
      | (with_reducible refine split_ite (fun hp => ?_) (fun hp => ?_) <;> (try simp at hp) <;> simp [*])
      | (with_reducible refine split_ite1 (fun hp => ?_) (fun hp => ?_) <;> (try simp at hp) <;> simp [*])
      | (refine split_cond (by simp) (fun hp => ?_) (fun hp => ?_) <;> simp at hp <;> simp [*])
      | (refine split_ops (by simp) (fun hp => ?_) (fun hp => ?_) <;> simp at hp <;> simp [*])
      | (refine split_opsD (by simp) (fun hp => ?_) (fun hp => ?_) <;> simp at hp <;> simp [*])
      | (refine split_pick (by simp) (fun hp => ?_) (fun hp => ?_) <;> simp at hp <;> simp [*])
      | omega
      | decide
      | (simp [*]))
    · simp only [pIs, all_no (by assumption) hp, Bool.and_false]
    · exact hJa.out _ ⟨i + 1, _, by first | rfl | (simp [*, accS, accH]; done) | (simp only [*]; done) | (congr 1 <;> simp [*, accS, accH]; done) | (congr 1 <;> simp [*, accS, accH] <;> rfl) | (congr 1 <;> congr 1 <;> simp <;> omega), by first | omega | (simp; omega) | simp [*], by omega, ⟨by rw [hqa.out, all_at (by omega)]; simp [*]⟩⟩
    · have := hqa.out
      simp [pIs, *, drop_end]

theorem pIs_small {p : Past} (h : pIs p = true) : small p.L ∧ p.L.length ≤ 16 := by
  simp only [pIs, pOk, Bool.and_eq_true, decide_eq_true_eq, List.all_eq_true] at h
  obtain ⟨⟨h1, h2⟩, h3⟩ := h
  refine ⟨⟨by omega, fun l hl => ?_⟩, by omega⟩
  have := kOne_len (h3 l hl)
  omega

/-- The last number that is not behind some place, and passes. -/
def bkI (q : Nat → Bool) (f : Int) : Nat → Option Nat
  | 0 => none
  | n + 1 => if (n : Int) ≤ f ∧ q n = true then some n else bkI q f n

theorem bk_hit {q : Nat → Bool} {f : Int} {i : Nat} (h1 : (i : Int) ≤ f) (hq : q i = true) : (n : Nat) → i < n → (∀ j, i < j → j < n → (j : Int) ≤ f → q j = false) → bkI q f n = some i
  | 0, hn, h0 => by omega
  | n + 1, hn, h0 => by
    unfold bkI
    by_cases e : n = i
    · subst e; rw [if_pos ⟨h1, hq⟩]
    · rw [if_neg, bk_hit h1 hq n (by omega) fun j a b => h0 j a (by omega)]
      rintro ⟨a, b⟩
      rw [h0 n (by omega) (by omega) a] at b
      cases b

theorem bk_miss {q : Nat → Bool} {f : Int} : (n : Nat) → (∀ j, j < n → (j : Int) ≤ f → q j = false) → bkI q f n = none
  | 0, h0 => rfl
  | n + 1, h0 => by
    unfold bkI
    rw [if_neg, bk_miss n fun j a => h0 j (by omega)]
    rintro ⟨a, b⟩
    rw [h0 n (by omega) a] at b
    cases b

theorem bk_congr {q : Nat → Bool} {f g : Int} : (n : Nat) → (∀ j, j < n → ((j : Int) ≤ f ↔ (j : Int) ≤ g)) → bkI q f n = bkI q g n
  | 0, h => rfl
  | n + 1, h => by
    unfold bkI
    rw [bk_congr n fun j a => h j (by omega)]
    have := h n (by omega)
    simp only [this]

/-- The first number that is not ahead of some place, and passes. -/
def fwI (q : Nat → Bool) (f : Int) (n : Nat) : Option Nat := (List.range n).find? fun j => decide (f ≤ (j : Int)) && q j

theorem fw_hit {q : Nat → Bool} {f : Int} {i n : Nat} (h1 : f ≤ (i : Int)) (hq : q i = true) (hn : i < n) (h0 : ∀ j, j < i → f ≤ (j : Int) → q j = false) : fwI q f n = some i := by
  unfold fwI
  rw [List.find?_range_eq_some]
  refine ⟨by simp [h1, hq], by simpa using hn, fun j hj => ?_⟩
  by_cases e : f ≤ (j : Int)
  · simp [h0 j hj e]
  · simp [e]

theorem fw_miss {q : Nat → Bool} {f : Int} {n : Nat} (h0 : ∀ j, j < n → f ≤ (j : Int) → q j = false) : fwI q f n = none := by
  unfold fwI
  rw [List.find?_eq_none]
  intro j hj
  by_cases e : f ≤ (j : Int)
  · simp [h0 j (by simpa using hj) e]
  · simp [e]

theorem fw_congr {q : Nat → Bool} {f g : Int} {n : Nat} (h : ∀ j : Nat, (f ≤ (j : Int) ↔ g ≤ (j : Int))) : fwI q f n = fwI q g n := by
  unfold fwI
  simp only [h]

/-- Does a pattern stand in line j? -/
def hitL (p : Past) (pat : List Int) (j : Nat) : Bool := decide (0 ≤ plL (p.L.getD j []) pat)

def fnd (p : Past) (pat : List Int) (r : Option Nat) : Int × Int × Int := if pIs p = false then (0, 0, 1) else if pat = [] then (0, 0, 6) else match r with
  | some i => (i, plL (p.L.getD i []) pat, 0)
  | none => (0, 0, 7)

def fBack (p : Past) (pat : List Int) (f : Int) : Int × Int × Int := fnd p pat (bkI (hitL p pat) f p.L.length)
def fFore (p : Past) (pat : List Int) (f : Int) : Int × Int × Int := fnd p pat (fwI (hitL p pat) f p.L.length)
def fPre (p : Past) (pat : List Int) (f : Int) : Int × Int := if pIs p = false then (0, 1) else match bkI (fun j => stL (p.L.getD j []) pat) f p.L.length with
  | some i => (i, 0)
  | none => (0, 7)

abbrev fndD (r : Int × Int × Int) : D := .tup [.int .i64 r.1, .int .i64 r.2.1, eD r.2.2]

theorem fc_lines (n : Nat) (p : Past) (f d : Int) (h : List Blk) : (W (n + 1)).fc 44 [pD p, .int .i64 f, .int .i64 d] h =
    some (.fn (.func 62) [] [.ptr (h.length + 1) 0 1, .ptr h.length 0 3, .ptr (h.length + 2) 0 1], h ++ [⟨[.int .i64 p.room, .int .i64 p.dup, rrn p.L], 0, true⟩, ⟨[.int .i64 f], 0, true⟩, ⟨[.int .i64 d], 0, true⟩]) := by
  have := inline (n := n) (K := fun q => q = (.fn (.func 62) [] [.ptr (h.length + 1) 0 1, .ptr h.length 0 3, .ptr (h.length + 2) 0 1], h ++ [⟨[.int .i64 p.room, .int .i64 p.dup, rrn p.L], 0, true⟩, ⟨[.int .i64 f], 0, true⟩, ⟨[.int .i64 d], 0, true⟩])) (h := h) (args := [pD p, .int .i64 f, .int .i64 d]) c_find_lines (by
    simp [X_find_lines])
  cases hf : (W (n + 1)).fc 44 [pD p, .int .i64 f, .int .i64 d] h with
  | none => rw [hf] at this; exact this.elim
  | some r => rw [hf] at this; exact congrArg some this

theorem flat_regions {C : E.Calls} {lf : Nat} {K1 K2 : Option (List Nat)} {o1 o2 : List XOp} {st : St} {p : Ex × St} (h : evC C lf (.seq (.region K1 o1) (.region K2 o2)) st = some p) : p.1 = .normal := by
  simp only [evC] at h
  cases h1 : evOps C o1 st with
  | none => simp [h1] at h
  | some s =>
    simp only [h1] at h
    cases h2 : evOps C o2 (s.keep K1) with
    | none => simp [h2] at h
    | some s2 =>
      simp only [h2, Option.some.injEq] at h
      rw [← h]

theorem pc_seekD (n : Nat) (p : Past) (pat : List Int) (f : Int) (hp : bearsL p.L) (hpat : pat.length < 70368744177664) (hf : f < p.L.length) (hf0 : i64 f) : (W (n + 8)).pc 41 [pD p, rn pat, .int .i64 f, .int .i64 (-1)] = some (fndD (fBack p pat f)) := by
  apply runsM c_find_seek
  have hm : modes 41 44 = 2 := id rfl
  have hm1 : modes 41 43 = 0 := id rfl
  have hm2 : modes 41 18 = 0 := id rfl
  have hpI := pc_past_IsB n p hp
  cases hk : pIs p
  · rw [hk] at hpI
    simp [X_find_seek, hpI, hm1, fBack, fnd, hk]
  by_cases hz : pat = []
  · rw [hk] at hpI
    simp [X_find_seek, hpI, hm1, fBack, fnd, hk, hz]
  have hz0 : ¬ pat.length = 0 := by simpa using hz
  rw [hk] at hpI
  simp [X_find_seek, hpI, hm1, hm, hz, fc_lines]
  obtain ⟨H, hH⟩ : ∃ H : List Blk, H = [⟨[.int .i64 p.room, .int .i64 p.dup, rrn p.L], 0, true⟩, ⟨[row runeC false pat], 0, true⟩, ⟨[.int .i64 0], 0, true⟩, ⟨[.int .i64 0], 0, true⟩, ⟨[.int .i64 0], 0, true⟩, ⟨[.int .i64 p.room, .int .i64 p.dup, rrn p.L], 0, true⟩, ⟨[.int .i64 f], 0, true⟩, ⟨[.int .i64 (-1)], 0, true⟩] := ⟨_, rfl⟩
  rw [← hH]
  have hL := (pIs_small hk).2
  have hP : ∀ l ∈ p.L, l.length < 2000000 := (pIs_small hk).1.2
  have hlen : p.L.length ≤ 16 := (pIs_small hk).2
  refine aw_range (g := 62) (caps := [.ptr 6 0 1, .ptr 5 0 3, .ptr 7 0 1]) (by simp) (fun m s h => h = H ∧ ∃ i : Int, ((s = .nilp ∧ i = f) ∨ ∃ j, s = .int .i64 j ∧ i = j + -1 ∧ i64 i) ∧ i < p.L.length ∧ i ≤ f ∧ m = (i + 1).toNat + 1 ∧ ∀ j : Nat, i < j → (j : Int) ≤ f → j < p.L.length → hitL p pat j = false) ?_ ?_ (n := (f + 1).toNat + 1) (by omega) ⟨rfl, f, .inl ⟨rfl, rfl⟩, hf, Int.le_refl _, rfl, fun j a b => by omega⟩ ?_
  · rintro s h ⟨_, i, _, _, _, hm, _⟩
    omega
  · rintro m s h ⟨hh, i, hi, hi1, hi2, hm3, hq⟩
    have hnx := nx_lines h 6 5 7 f (-1) p.room p.dup p.L (by rw [hh, hH]; rfl) (by rw [hh, hH]; rfl) (by rw [hh, hH]; rfl) s i hi
    by_cases hi0 : 0 ≤ i
    · refine .inr ⟨[.int .i64 i, rn (p.L.getD i.toNat [])], .int .i64 i, ?_, rfl, ?_⟩
      · rw [at_nx, W_nx, hnx, if_pos ⟨hi0, hi1⟩]
      · have hin : i.toNat < p.L.length := by omega
        have e0 : p.L.getD i.toNat [] = p.L[i.toNat] := getD_at hin _
        have hll := hP _ (List.getElem_mem hin)
        rw [hh, hH, e0]
        simp [putL, hm2]
        repeat' (first
          | simp (disch := omega) only [wrap_i64, wrap_i32]
          | (simp (disch := first | omega | assumption | (simp only [i64, i32]; omega) | (simp <;> omega) | fail) only [loadD_cpr, loadD_cprs, List.take_of_length_le, pc_Place]; simp [*])
          | (with_reducible refine And.intro ?_ ?_; focus first | omega | decide)
          | (with_reducible refine split_ite (fun hp => ?_) (fun hp => ?_) <;> (try simp at hp) <;> simp [*])
          | (with_reducible refine split_ite1 (fun hp => ?_) (fun hp => ?_) <;> (try simp at hp) <;> simp [*])
          | (refine split_cond (by simp) (fun hp => ?_) (fun hp => ?_) <;> simp at hp <;> simp [*])
          | (refine split_ops (by simp) (fun hp => ?_) (fun hp => ?_) <;> simp at hp <;> simp [*])
          | (refine split_opsD (by simp) (fun hp => ?_) (fun hp => ?_) <;> simp at hp <;> simp [*])
          | (refine split_pick (by simp) (fun hp => ?_) (fun hp => ?_) <;> simp at hp <;> simp [*])
          | omega
          | decide
          | (simp [*]))
        · have hb : bkI (hitL p pat) f p.L.length = some i.toNat := bk_hit (by omega) (by simp only [hitL, e0]; simpa using hp) _ hin fun j a b c => hq j (by omega) c b
          simp [fBack, fnd, hk, hz, hb, List.getElem?_eq_getElem hin]
          omega
        · refine ⟨i + -1, ⟨rfl, by simp only [i64]; omega⟩, by omega, by omega, by omega, fun j a b c => ?_⟩
          by_cases hj : j = i.toNat
          · subst hj
            simp only [hitL, e0]
            simp
            omega
          · exact hq j (by omega) b c
    · refine .inl ⟨?_, ?_⟩
      · rw [at_nx, W_nx, hnx, if_neg (fun q => hi0 q.1)]
      · have : bkI (hitL p pat) f p.L.length = none := bk_miss _ fun j a b => hq j (by omega) b a
        rw [hh, hH]
        simp [fBack, fnd, hk, hz, this]
  · exact fun _ _ _ he => flat_regions he

theorem pc_seekU (n : Nat) (p : Past) (pat : List Int) (f : Int) (hp : bearsL p.L) (hpat : pat.length < 70368744177664) (hf : 0 ≤ f) (hf0 : i64 f) : (W (n + 8)).pc 41 [pD p, rn pat, .int .i64 f, .int .i64 1] = some (fndD (fFore p pat f)) := by
  apply runsM c_find_seek
  have hm : modes 41 44 = 2 := id rfl
  have hm1 : modes 41 43 = 0 := id rfl
  have hm2 : modes 41 18 = 0 := id rfl
  have hpI := pc_past_IsB n p hp
  cases hk : pIs p
  · rw [hk] at hpI
    simp [X_find_seek, hpI, hm1, fFore, fnd, hk]
  by_cases hz : pat = []
  · rw [hk] at hpI
    simp [X_find_seek, hpI, hm1, fFore, fnd, hk, hz]
  have hz0 : ¬ pat.length = 0 := by simpa using hz
  rw [hk] at hpI
  simp [X_find_seek, hpI, hm1, hm, hz, fc_lines]
  obtain ⟨H, hH⟩ : ∃ H : List Blk, H = [⟨[.int .i64 p.room, .int .i64 p.dup, rrn p.L], 0, true⟩, ⟨[row runeC false pat], 0, true⟩, ⟨[.int .i64 0], 0, true⟩, ⟨[.int .i64 0], 0, true⟩, ⟨[.int .i64 0], 0, true⟩, ⟨[.int .i64 p.room, .int .i64 p.dup, rrn p.L], 0, true⟩, ⟨[.int .i64 f], 0, true⟩, ⟨[.int .i64 1], 0, true⟩] := ⟨_, rfl⟩
  rw [← hH]
  have hL := (pIs_small hk).2
  have hP : ∀ l ∈ p.L, l.length < 2000000 := (pIs_small hk).1.2
  have hlen : p.L.length ≤ 16 := (pIs_small hk).2
  refine aw_range (g := 62) (caps := [.ptr 6 0 1, .ptr 5 0 3, .ptr 7 0 1]) (by simp) (fun m s h => h = H ∧ ∃ i : Int, ((s = .nilp ∧ i = f) ∨ ∃ j, s = .int .i64 j ∧ i = j + 1 ∧ i64 i) ∧ 0 ≤ i ∧ f ≤ i ∧ m = (17 - i).toNat + 1 ∧ ∀ j : Nat, (j : Int) < i → f ≤ (j : Int) → hitL p pat j = false) ?_ ?_ (n := (17 - f).toNat + 1) (by omega) ⟨rfl, f, .inl ⟨rfl, rfl⟩, hf, Int.le_refl _, rfl, fun j a b => by omega⟩ ?_
  · rintro s h ⟨_, i, _, _, _, hm, _⟩
    omega
  · rintro m s h ⟨hh, i, hi, hi1, hi2, hm3, hq⟩
    have hnx := nx_lines h 6 5 7 f 1 p.room p.dup p.L (by rw [hh, hH]; rfl) (by rw [hh, hH]; rfl) (by rw [hh, hH]; rfl) s i hi
    by_cases hi0 : i < p.L.length
    · refine .inr ⟨[.int .i64 i, rn (p.L.getD i.toNat [])], .int .i64 i, ?_, rfl, ?_⟩
      · rw [at_nx, W_nx, hnx, if_pos ⟨hi1, hi0⟩]
      · have hin : i.toNat < p.L.length := by omega
        have e0 : p.L.getD i.toNat [] = p.L[i.toNat] := getD_at hin _
        have hll := hP _ (List.getElem_mem hin)
        rw [hh, hH, e0]
        simp [putL, hm2]
        repeat' (first
          | simp (disch := omega) only [wrap_i64, wrap_i32]
          | (simp (disch := first | omega | assumption | (simp only [i64, i32]; omega) | (simp <;> omega) | fail) only [loadD_cpr, loadD_cprs, List.take_of_length_le, pc_Place]; simp [*])
          | (with_reducible refine And.intro ?_ ?_; focus first | omega | decide)
          | (with_reducible refine split_ite (fun hp => ?_) (fun hp => ?_) <;> (try simp at hp) <;> simp [*])
          | (with_reducible refine split_ite1 (fun hp => ?_) (fun hp => ?_) <;> (try simp at hp) <;> simp [*])
          | (refine split_cond (by simp) (fun hp => ?_) (fun hp => ?_) <;> simp at hp <;> simp [*])
          | (refine split_ops (by simp) (fun hp => ?_) (fun hp => ?_) <;> simp at hp <;> simp [*])
          | (refine split_opsD (by simp) (fun hp => ?_) (fun hp => ?_) <;> simp at hp <;> simp [*])
          | (refine split_pick (by simp) (fun hp => ?_) (fun hp => ?_) <;> simp at hp <;> simp [*])
          | omega
          | decide
          | (simp [*]))
        · have hb : fwI (hitL p pat) f p.L.length = some i.toNat := fw_hit (by omega) (by simp only [hitL, e0]; simpa using hp) hin fun j a b => hq j (by omega) b
          simp [fFore, fnd, hk, hz, hb, List.getElem?_eq_getElem hin]
          omega
        · refine ⟨i + 1, ⟨rfl, by simp only [i64]; omega⟩, by omega, by omega, by omega, fun j a b => ?_⟩
          by_cases hj : j = i.toNat
          · subst hj
            simp only [hitL, e0]
            simp
            omega
          · exact hq j (by omega) b
    · refine .inl ⟨?_, ?_⟩
      · rw [at_nx, W_nx, hnx, if_neg (fun q => hi0 q.2)]
      · have : fwI (hitL p pat) f p.L.length = none := fw_miss fun j a b => hq j (by omega) b
        rw [hh, hH]
        simp [fFore, fnd, hk, hz, this]
  · exact fun _ _ _ he => flat_regions he

theorem pc_Back (n : Nat) (p : Past) (pat : List Int) (f : Int) (hp : bearsL p.L) (hpat : pat.length < 70368744177664) (hf : i64 f) : (W (n + 9)).pc 21 [pD p, rn pat, .int .i64 f] = some (fndD (fBack p pat f)) := by
  apply runs c_find_Back
  have hL := hp.1
  have h2 : i64 (min f ((p.L.length : Int) - 1)) := by
    simp only [i64] at hf ⊢; omega
  have e := pc_seekD n p pat _ hp hpat (by omega) h2
  have hc : fBack p pat (min f ((p.L.length : Int) - 1)) = fBack p pat f := by
    unfold fBack
    rw [bk_congr (f := min f ((p.L.length : Int) - 1)) (g := f) _ fun j hj => by omega]
  rw [hc] at e
  simp [X_find_Back]
  repeat' (first
    | simp (disch := omega) only [wrap_i64, wrap_i32]
    | (simp (disch := first | omega | assumption | (simp only [i64, i32]; omega) | (simp <;> omega) | fail) only [loadD_cpr, loadD_cprs, List.take_of_length_le]; simp [*, e])
    | (with_reducible refine And.intro ?_ ?_; focus first | omega | decide)
    | (with_reducible refine split_ite (fun hp => ?_) (fun hp => ?_) <;> (try simp at hp) <;> simp [*, e])
    | (with_reducible refine split_ite1 (fun hp => ?_) (fun hp => ?_) <;> (try simp at hp) <;> simp [*, e])
    | (refine split_cond (by simp) (fun hp => ?_) (fun hp => ?_) <;> simp at hp <;> simp [*, e])
    | (refine split_ops (by simp) (fun hp => ?_) (fun hp => ?_) <;> simp at hp <;> simp [*, e])
    | (refine split_opsD (by simp) (fun hp => ?_) (fun hp => ?_) <;> simp at hp <;> simp [*, e])
    | (refine split_pick (by simp) (fun hp => ?_) (fun hp => ?_) <;> simp at hp <;> simp [*, e])
    | omega
    | decide
    | (simp [*, e]))

theorem pc_Fore (n : Nat) (p : Past) (pat : List Int) (f : Int) (hp : bearsL p.L) (hpat : pat.length < 70368744177664) (hf : i64 f) : (W (n + 9)).pc 23 [pD p, rn pat, .int .i64 f] = some (fndD (fFore p pat f)) := by
  apply runs c_find_Fore
  have h2 : i64 (max f 0) := by
    simp only [i64] at hf ⊢; omega
  have e := pc_seekU n p pat _ hp hpat (by omega) h2
  have hc : fFore p pat (max f 0) = fFore p pat f := by
    unfold fFore
    rw [fw_congr (f := max f 0) (g := f) fun j => by omega]
  rw [hc] at e
  simp [X_find_Fore]
  repeat' (first
    | simp (disch := omega) only [wrap_i64, wrap_i32]
    | (simp (disch := first | omega | assumption | (simp only [i64, i32]; omega) | (simp <;> omega) | fail) only [loadD_cpr, loadD_cprs, List.take_of_length_le]; simp [*, e])
    | (with_reducible refine And.intro ?_ ?_; focus first | omega | decide)
    | (with_reducible refine split_ite (fun hp => ?_) (fun hp => ?_) <;> (try simp at hp) <;> simp [*, e])
    | (with_reducible refine split_ite1 (fun hp => ?_) (fun hp => ?_) <;> (try simp at hp) <;> simp [*, e])
    | (refine split_cond (by simp) (fun hp => ?_) (fun hp => ?_) <;> simp at hp <;> simp [*, e])
    | (refine split_ops (by simp) (fun hp => ?_) (fun hp => ?_) <;> simp at hp <;> simp [*, e])
    | (refine split_opsD (by simp) (fun hp => ?_) (fun hp => ?_) <;> simp at hp <;> simp [*, e])
    | (refine split_pick (by simp) (fun hp => ?_) (fun hp => ?_) <;> simp at hp <;> simp [*, e])
    | omega
    | decide
    | (simp [*, e]))

theorem pc_Prefix (n : Nat) (p : Past) (pat : List Int) (f : Int) (hp : bearsL p.L) (hpat : pat.length < 70368744177664) (hf : i64 f) : (W (n + 8)).pc 25 [pD p, rn pat, .int .i64 f] = some (.tup [.int .i64 (fPre p pat f).1, eD (fPre p pat f).2]) := by
  apply runsM c_find_Prefix
  have hm : modes 25 44 = 2 := id rfl
  have hm1 : modes 25 43 = 0 := id rfl
  have hm2 : modes 25 39 = 0 := id rfl
  have hpI := pc_past_IsB n p hp
  cases hk : pIs p
  · rw [hk] at hpI
    simp [X_find_Prefix, hpI, hm1, fPre, hk]
  rw [hk] at hpI
  have hlen : p.L.length ≤ 16 := (pIs_small hk).2
  have hw : IntKind.wrap .i64 ((p.L.length : Int) - 1) = (p.L.length : Int) - 1 := wrap_i64 (by omega)
  obtain ⟨F, hF⟩ : ∃ F, F = min f ((p.L.length : Int) - 1) := ⟨_, rfl⟩
  have hc : fPre p pat f = fPre p pat F := by
    unfold fPre
    rw [bk_congr (f := f) (g := F) _ fun j hj => by omega]
  rw [hc]
  have hf : F < p.L.length := by omega
  simp [X_find_Prefix, hpI, hm1, hm, hw, ← hF, fc_lines]
  obtain ⟨H, hH⟩ : ∃ H : List Blk, H = [⟨[.int .i64 p.room, .int .i64 p.dup, rrn p.L], 0, true⟩, ⟨[row runeC false pat], 0, true⟩, ⟨[.int .i64 0], 0, true⟩, ⟨[.int .i64 0], 0, true⟩, ⟨[.int .i64 p.room, .int .i64 p.dup, rrn p.L], 0, true⟩, ⟨[.int .i64 F], 0, true⟩, ⟨[.int .i64 (-1)], 0, true⟩] := ⟨_, rfl⟩
  rw [← hH]
  have hP : ∀ l ∈ p.L, l.length < 2000000 := (pIs_small hk).1.2
  refine aw_range (g := 62) (caps := [.ptr 5 0 1, .ptr 4 0 3, .ptr 6 0 1]) (by simp) (fun m s h => h = H ∧ ∃ i : Int, ((s = .nilp ∧ i = F) ∨ ∃ j, s = .int .i64 j ∧ i = j + -1 ∧ i64 i) ∧ i < p.L.length ∧ i ≤ F ∧ m = (i + 1).toNat + 1 ∧ ∀ j : Nat, i < j → (j : Int) ≤ F → j < p.L.length → stL (p.L.getD j []) pat = false) ?_ ?_ (n := (F + 1).toNat + 1) (by omega) ⟨rfl, F, .inl ⟨rfl, rfl⟩, hf, Int.le_refl _, rfl, fun j a b => by omega⟩ ?_
  · rintro s h ⟨_, i, _, _, _, hm, _⟩
    omega
  · rintro m s h ⟨hh, i, hi, hi1, hi2, hm3, hq⟩
    have hnx := nx_lines h 5 4 6 F (-1) p.room p.dup p.L (by rw [hh, hH]; rfl) (by rw [hh, hH]; rfl) (by rw [hh, hH]; rfl) s i hi
    by_cases hi0 : 0 ≤ i
    · refine .inr ⟨[.int .i64 i, rn (p.L.getD i.toNat [])], .int .i64 i, ?_, rfl, ?_⟩
      · rw [at_nx, W_nx, hnx, if_pos ⟨hi0, hi1⟩]
      · have hin : i.toNat < p.L.length := by omega
        have e0 : p.L.getD i.toNat [] = p.L[i.toNat] := getD_at hin _
        have hll := hP _ (List.getElem_mem hin)
        rw [hh, hH, e0]
        simp [putL, hm2]
        repeat' (first
          | simp (disch := omega) only [wrap_i64, wrap_i32]
          | (simp (disch := first | omega | assumption | (simp only [i64, i32]; omega) | (simp <;> omega) | fail) only [loadD_cpr, loadD_cprs, List.take_of_length_le, pc_stands]; simp [*])
          | (with_reducible refine And.intro ?_ ?_; focus first | omega | decide)
          | (with_reducible refine split_ite (fun hp => ?_) (fun hp => ?_) <;> (try simp at hp) <;> simp [*])
          | (with_reducible refine split_ite1 (fun hp => ?_) (fun hp => ?_) <;> (try simp at hp) <;> simp [*])
          | (refine split_cond (by simp) (fun hp => ?_) (fun hp => ?_) <;> simp at hp <;> simp [*])
          | (refine split_ops (by simp) (fun hp => ?_) (fun hp => ?_) <;> simp at hp <;> simp [*])
          | (refine split_opsD (by simp) (fun hp => ?_) (fun hp => ?_) <;> simp at hp <;> simp [*])
          | (refine split_pick (by simp) (fun hp => ?_) (fun hp => ?_) <;> simp at hp <;> simp [*])
          | omega
          | decide
          | (simp [*]))
        · have hb : bkI (fun j => stL (p.L.getD j []) pat) F p.L.length = some i.toNat := bk_hit (by omega) (by simp only [e0]; exact hp) _ hin fun j a b c => hq j (by omega) c b
          have e1 : fPre p pat F = ((i.toNat : Int), 0) := by
            unfold fPre
            rw [hb]
            simp [hk]
          trace_state
          rw [hF] at e1
          simp [e1]
          omega
        · refine ⟨i + -1, ⟨rfl, by simp only [i64]; omega⟩, by omega, by omega, by omega, fun j a b c => ?_⟩
          by_cases hj : j = i.toNat
          · subst hj
            show stL (p.L.getD i.toNat []) pat = false
            rw [e0]; exact hp
          · exact hq j (by omega) (by omega) c
    · refine .inl ⟨?_, ?_⟩
      · rw [at_nx, W_nx, hnx, if_neg (fun q => hi0 q.1)]
      · have : bkI (fun j => stL (p.L.getD j []) pat) F p.L.length = none := bk_miss _ fun j a b => hq j (by omega) b a
        have e1 : fPre p pat F = (0, 7) := by
          unfold fPre
          rw [this]
          simp [hk]
        rw [hh, hH]
        simp [e1]
  · exact fun _ _ _ he => flat_regions he

end Go.Proofs.Ytlpgpnjplijgiaa
