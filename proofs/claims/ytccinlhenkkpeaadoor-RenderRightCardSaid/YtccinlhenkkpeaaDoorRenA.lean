/- What the functions of layer 2 compute. -/
import Derived.Test.YtccinlhenkkpeaaDoorPastB
namespace Go.Proofs.YtccinlhenkkpeaaDoor
open Go E
set_option linter.unusedSimpArgs false
set_option linter.unusedVariables false

/-- Where wide signs are. -/
def spansT : List (Int × Int) := [(4352, 4447), (11904, 12350), (12353, 42191), (44032, 55203), (63744, 64255), (65072, 65135), (65281, 65376), (65504, 65510), (127744, 128591), (129280, 129535), (131072, 262141)]

def spanC : Cell (Int × Int) := ⟨fun s => [.int .i32 s.1, .int .i32 s.2], 2, fun _ => rfl, fun a b h => by obtain ⟨i, j⟩ := a; obtain ⟨k, l⟩ := b; simpa using h, fun _ => by simp⟩

@[simp] theorem spanC_sz : spanC.sz = 2 := id rfl
@[simp] theorem spanC_enc (s : Int × Int) : spanC.enc s = [.int .i32 s.1, .int .i32 s.2] := rfl
@[simp] theorem spansT_length : spansT.length = 11 := id rfl

theorem spansP : D.cptr [.int .i32 4352, .int .i32 4447, .int .i32 11904, .int .i32 12350, .int .i32 12353, .int .i32 42191, .int .i32 44032, .int .i32 55203, .int .i32 63744, .int .i32 64255, .int .i32 65072, .int .i32 65135, .int .i32 65281, .int .i32 65376, .int .i32 65504, .int .i32 65510, .int .i32 127744, .int .i32 128591, .int .i32 129280, .int .i32 129535, .int .i32 131072, .int .i32 262141] = cpr spanC spansT 0 0 := id rfl

theorem spans_le0 : ∀ i j : Fin spansT.length, i ≤ j → spansT[i].1 ≤ spansT[j].1 ∧ spansT[i].2 ≤ spansT[j].2 := by decide

theorem spans_le (i j : Nat) (hi : i < spansT.length) (hj : j < spansT.length) (h : i ≤ j) : spansT[i].1 ≤ spansT[j].1 ∧ spansT[i].2 ≤ spansT[j].2 := spans_le0 ⟨i, hi⟩ ⟨j, hj⟩ h

theorem spans_in : ∀ s ∈ spansT, 159 < s.1 ∧ s.1 ≤ s.2 ∧ (s.2 < 55296 ∨ 57343 < s.1) ∧ s.2 ≤ 1114111 := by decide

/-- The address of a cell of an element. -/
theorem elD_in {α : Type} {E : Cell α} {l : List α} {len k o : Nat} (hk : k < l.length) (ho : o + len ≤ E.sz) (kk : IntKind) (i : Int) : elD len 1 (cpr E l k o) (.int kk i) = if 0 ≤ i ∧ i < len then some (cpr E l k (o + i.toNat)) else none := by
  have h1 : E.sz ≤ (l.length - k) * E.sz := Nat.le_mul_of_pos_left _ (by omega)
  simp only [elD, cpr, Nat.mul_one, List.length_drop, cells_length, List.drop_drop]
  by_cases h : 0 ≤ i ∧ i < len
  · rw [if_pos ⟨h.1, h.2, by omega⟩, if_pos h]
  · rw [if_neg h, if_neg (fun q => h ⟨q.1, q.2.1⟩)]

def wideR (r : Int) : Bool := spansT.any fun s => decide (s.1 ≤ r ∧ r ≤ s.2)

theorem pc_wide_Wide (n : Nat) (r : Int) : (W (n + 1)).pc 21 [.int .i32 r] = some (.bool (wideR r)) := by
  apply runs c_wide_Wide
  simp [X_wide_Wide, spansP]
  refine aw_rounds (fun m st => ∃ lo : Nat, ∃ hi : Nat, ∃ f : Nat, st = ⟨tab [(0, .int .i32 r), (3, .int .i64 lo), (4, .int .i64 hi)], []⟩ ∧ lo ≤ hi ∧ hi ≤ 11 ∧ hi - lo ≤ f ∧ m = f + 1 ∧ Keep ((∀ k (h : k < spansT.length), k < lo → spansT[k].2 < r) ∧ (∀ k (h : k < spansT.length), hi ≤ k → r < spansT[k].1))) ?_ ?_ (n := (11) + 1) (by first | omega | (simp; omega)) ?_
  · rintro st ⟨lo, hi, f, hx⟩; omega
  rotate_left
  · exact ⟨0, 11, 11, by first | rfl | (simp [*, accS, accH]; done) | (simp only [*]; done) | (congr 1 <;> simp [*, accS, accH]; done) | (congr 1 <;> simp [*, accS, accH] <;> rfl) | (congr 1 <;> congr 1 <;> simp <;> omega), by first | omega | (simp; omega) | simp [*], by first | omega | (simp; omega) | simp [*], by first | omega | (simp; omega) | simp [*], by first | rfl | (simp; done) | omega, ⟨⟨fun k h hk => absurd hk (by omega), fun k h hk => absurd h (by rw [spansT_length]; omega)⟩⟩⟩
  rintro Ja ma _ ⟨lo, hi, f, rfl, fa1, fa2, fa3, hma, hqa⟩ hJa
  obtain ⟨M, hM1, hM2⟩ : ∃ M, 2 * M ≤ lo + hi ∧ lo + hi < 2 * M + 2 := ⟨(lo + hi) / 2, by omega, by omega⟩
  have hmid : IntKind.i64.wrap ((IntKind.i64.wrap ((lo : Int) + hi)).tdiv 2) = (M : Int) := by
    rw [show IntKind.i64.wrap ((lo : Int) + hi) = lo + hi from wrap_i64 (by omega), Int.tdiv_eq_ediv_of_nonneg (by omega), show ((lo : Int) + hi) / 2 = M by omega]
    exact wrap_i64 (by omega)
  obtain ⟨q1, q2⟩ := hqa.out
  by_cases hlh : lo < hi
  · have hML : M < spansT.length := by rw [spansT_length]; omega
    have hML2 : M < 11 := by omega
    have h11 : (M : Int) < 11 := by omega
    simp [hlh, hmid, hML2]
    have hw : IntKind.i64.wrap ((M : Int) + 1) = M + 1 := wrap_i64 (by omega)
    repeat' (first
      | simp (disch := omega) only [wrap_i64, wrap_i32]
      | (simp (disch := first | omega | assumption | (simp only [i64, i32]; omega) | (simp <;> omega) | fail) only [loadD_cpr, loadD_cprs, List.take_of_length_le]; simp [*, elD_in])
      | (with_reducible refine And.intro ?_ ?_; focus first | omega | decide)
      | (with_reducible refine split_ite (fun hp => ?_) (fun hp => ?_) <;> (try simp at hp) <;> simp [*, elD_in])
      | (with_reducible refine split_ite1 (fun hp => ?_) (fun hp => ?_) <;> (try simp at hp) <;> simp [*, elD_in])
      | (refine split_cond (by simp) (fun hp => ?_) (fun hp => ?_) <;> simp at hp <;> simp [*, elD_in])
      | (refine split_ops (by simp) (fun hp => ?_) (fun hp => ?_) <;> simp at hp <;> simp [*, elD_in])
      | (refine split_opsD (by simp) (fun hp => ?_) (fun hp => ?_) <;> simp at hp <;> simp [*, elD_in])
      | (refine split_pick (by simp) (fun hp => ?_) (fun hp => ?_) <;> simp at hp <;> simp [*, elD_in])
      | omega
      | decide
      | (simp [*, elD_in]))
    · exact hJa.out _ ⟨lo, M, f - 1, by first | rfl | (simp [*, accS, accH]; done) | (simp only [*]; done) | (congr 1 <;> simp [*, accS, accH]; done) | (congr 1 <;> simp [*, accS, accH] <;> rfl) | (congr 1 <;> congr 1 <;> simp <;> omega), by first | omega | (simp; omega) | simp [*], by first | omega | (simp; omega) | simp [*], by first | omega | (simp; omega) | simp [*], by omega, ⟨⟨q1, fun k h hk => by have := spans_le M k hML h hk; omega⟩⟩⟩
    · exact hJa.out _ ⟨M + 1, hi, f - 1, by first | rfl | (simp [*, accS, accH]; done) | (simp only [*]; done) | (congr 1 <;> simp [*, accS, accH]; done) | (congr 1 <;> simp [*, accS, accH] <;> rfl) | (congr 1 <;> congr 1 <;> simp <;> omega), by first | omega | (simp; omega) | simp [*], by first | omega | (simp; omega) | simp [*], by first | omega | (simp; omega) | simp [*], by omega, ⟨⟨fun k h hk => by have := spans_le k M h hML (by omega); omega, q2⟩⟩⟩
    · simp only [wideR, List.any_eq_true, decide_eq_true_eq]
      exact ⟨_, List.getElem_mem hML, by omega, by omega⟩
  · simp [hlh]
    simp only [wideR, List.any_eq_false, decide_eq_true_eq]
    intro s hs
    obtain ⟨k, hk, rfl⟩ := List.getElem_of_mem hs
    by_cases hkl : k < lo
    · have := q1 k hk hkl; omega
    · have := q2 k hk (by omega); omega

/-- Is a sign one that is shown? -/
def shownR (r : Int) : Bool := isR r && decide (32 ≤ r) && (decide (r < 127) || decide (159 < r))

/-- Is a sign a control that is shown by two cells? -/
def ctlR (r : Int) : Bool := decide (0 ≤ r ∧ r < 32) || decide (r = 127)

def xorR (r : Int) : Int := IntKind.i32.wrap (BitVec.ofInt 32 r ^^^ BitVec.ofInt 32 64).toNat

/-- A cell: its sign, and which half. -/
def celC : Cell (Int × Int) := ⟨fun s => [.int .i32 s.1, .int .i64 s.2], 2, fun _ => rfl, fun a b h => by obtain ⟨i, j⟩ := a; obtain ⟨k, l⟩ := b; simpa using h, fun _ => by simp⟩

@[simp] theorem celC_sz : celC.sz = 2 := id rfl
@[simp] theorem celC_enc (s : Int × Int) : celC.enc s = [.int .i32 s.1, .int .i64 s.2] := rfl

def cellsR (r : Int) : List (Int × Int) :=
  if ctlR r then [(94, 0), (xorR r, 0)] else if shownR r then (if wideR r then [(r, 1), (r, 2)] else [(r, 0)]) else [(65533, 0)]

def widthR (r : Int) : Nat := if ctlR r || wideR r then 2 else 1

theorem wide_shown {r : Int} (h : wideR r = true) : shownR r = true ∧ ctlR r = false := by
  simp only [wideR, List.any_eq_true, decide_eq_true_eq] at h
  obtain ⟨s, hs, h1, h2⟩ := h
  have := spans_in s hs
  have hr : isR r = true := by grind [isR]
  simp [shownR, ctlR, hr]
  omega

@[simp] theorem cellsR_length (r : Int) : (cellsR r).length = widthR r := by
  simp only [cellsR, widthR]
  cases hc : ctlR r
  · cases hw : wideR r
    · split
      · contradiction
      · split <;> simp
    · have := wide_shown hw
      simp [this]
  · simp

theorem pc_wide_Shown (n : Nat) (r : Int) : (W (n + 3)).pc 20 [.int .i32 r] = some (.bool (shownR r)) := by
  apply runs c_wide_Shown
  simp [X_wide_Shown]
  repeat' (first
    | simp (disch := omega) only [wrap_i64, wrap_i32]
    | (simp (disch := first | omega | assumption | (simp only [i64, i32]; omega) | (simp <;> omega) | fail) only [loadD_cpr, loadD_cprs, List.take_of_length_le]; simp [*])
    | (with_reducible refine And.intro ?_ ?_; focus first | omega | decide)
    | (with_reducible refine split_ite (fun hp => ?_) (fun hp => ?_) <;> (try simp at hp) <;> simp [*])
    | (with_reducible refine split_ite1 (fun hp => ?_) (fun hp => ?_) <;> (try simp at hp) <;> simp [*])
    | (refine split_cond (by simp) (fun hp => ?_) (fun hp => ?_) <;> simp at hp <;> simp [*])
    | (refine split_ops (by simp) (fun hp => ?_) (fun hp => ?_) <;> simp at hp <;> simp [*])
    | (refine split_opsD (by simp) (fun hp => ?_) (fun hp => ?_) <;> simp at hp <;> simp [*])
    | (refine split_pick (by simp) (fun hp => ?_) (fun hp => ?_) <;> simp at hp <;> simp [*])
    | omega
    | decide
    | (simp [*]))
  all_goals grind [shownR]

theorem pc_wide_Width (n : Nat) (r : Int) : (W (n + 2)).pc 45 [.int .i32 r] = some (.int .i64 (widthR r)) := by
  apply runs c_wide_Width
  have hw := pc_wide_Wide n r
  simp [X_wide_Width]
  cases hb : wideR r
  · rw [hb] at hw
    repeat' (first
      | simp (disch := omega) only [wrap_i64, wrap_i32]
      | (simp (disch := first | omega | assumption | (simp only [i64, i32]; omega) | (simp <;> omega) | fail) only [loadD_cpr, loadD_cprs, List.take_of_length_le]; simp [*, hw])
      | (with_reducible refine And.intro ?_ ?_; focus first | omega | decide)
      | (with_reducible refine split_ite (fun hp => ?_) (fun hp => ?_) <;> (try simp at hp) <;> simp [*, hw])
      | (with_reducible refine split_ite1 (fun hp => ?_) (fun hp => ?_) <;> (try simp at hp) <;> simp [*, hw])
      | (refine split_cond (by simp) (fun hp => ?_) (fun hp => ?_) <;> simp at hp <;> simp [*, hw])
      | (refine split_ops (by simp) (fun hp => ?_) (fun hp => ?_) <;> simp at hp <;> simp [*, hw])
      | (refine split_opsD (by simp) (fun hp => ?_) (fun hp => ?_) <;> simp at hp <;> simp [*, hw])
      | (refine split_pick (by simp) (fun hp => ?_) (fun hp => ?_) <;> simp at hp <;> simp [*, hw])
      | omega
      | decide
      | (simp [*, hw]))
    all_goals grind [widthR, ctlR]
  · rw [hb] at hw
    repeat' (first
      | simp (disch := omega) only [wrap_i64, wrap_i32]
      | (simp (disch := first | omega | assumption | (simp only [i64, i32]; omega) | (simp <;> omega) | fail) only [loadD_cpr, loadD_cprs, List.take_of_length_le]; simp [*, hw])
      | (with_reducible refine And.intro ?_ ?_; focus first | omega | decide)
      | (with_reducible refine split_ite (fun hp => ?_) (fun hp => ?_) <;> (try simp at hp) <;> simp [*, hw])
      | (with_reducible refine split_ite1 (fun hp => ?_) (fun hp => ?_) <;> (try simp at hp) <;> simp [*, hw])
      | (refine split_cond (by simp) (fun hp => ?_) (fun hp => ?_) <;> simp at hp <;> simp [*, hw])
      | (refine split_ops (by simp) (fun hp => ?_) (fun hp => ?_) <;> simp at hp <;> simp [*, hw])
      | (refine split_opsD (by simp) (fun hp => ?_) (fun hp => ?_) <;> simp at hp <;> simp [*, hw])
      | (refine split_pick (by simp) (fun hp => ?_) (fun hp => ?_) <;> simp at hp <;> simp [*, hw])
      | omega
      | decide
      | (simp [*, hw]))
    all_goals grind [widthR, ctlR]

theorem evBin_xor (a b : Int) : evBin .xor (.int .i32 a) (.int .i32 b) = some (.int .i32 (IntKind.i32.wrap (BitVec.ofInt 32 a ^^^ BitVec.ofInt 32 b).toNat)) := by
  simp only [evBin]
  rfl

abbrev crn (l : List (Int × Int)) : D := row celC false l

theorem pc_wide_Cells (n : Nat) (r : Int) : (W (n + 4)).pc 9 [.int .i32 r] = some (crn (cellsR r)) := by
  apply runs c_wide_Cells
  have hw := pc_wide_Wide (n + 2) r
  have hs := pc_wide_Shown n r
  simp [X_wide_Cells]
  by_cases h1 : 0 ≤ r ∧ r < 32
  · have hc : ctlR r = true := by simp [ctlR, h1]
    simp only [cellsR, hc]
    repeat' (first
      | simp (disch := omega) only [wrap_i64, wrap_i32]
      | (simp (disch := first | omega | assumption | (simp only [i64, i32]; omega) | (simp <;> omega) | fail) only [loadD_cpr, loadD_cprs, List.take_of_length_le]; simp [*, h1.1, h1.2, evBin_xor])
      | (with_reducible refine And.intro ?_ ?_; focus first | omega | decide)
      | (with_reducible refine split_ite (fun hp => ?_) (fun hp => ?_) <;> (try simp at hp) <;> simp [*, h1.1, h1.2, evBin_xor])
      | (with_reducible refine split_ite1 (fun hp => ?_) (fun hp => ?_) <;> (try simp at hp) <;> simp [*, h1.1, h1.2, evBin_xor])
      | (refine split_cond (by simp) (fun hp => ?_) (fun hp => ?_) <;> simp at hp <;> simp [*, h1.1, h1.2, evBin_xor])
      | (refine split_ops (by simp) (fun hp => ?_) (fun hp => ?_) <;> simp at hp <;> simp [*, h1.1, h1.2, evBin_xor])
      | (refine split_opsD (by simp) (fun hp => ?_) (fun hp => ?_) <;> simp at hp <;> simp [*, h1.1, h1.2, evBin_xor])
      | (refine split_pick (by simp) (fun hp => ?_) (fun hp => ?_) <;> simp at hp <;> simp [*, h1.1, h1.2, evBin_xor])
      | omega
      | decide
      | (simp [*, h1.1, h1.2, evBin_xor]))
    all_goals rfl
  by_cases h2 : r = 127
  · subst h2
    repeat' (first
      | simp (disch := omega) only [wrap_i64, wrap_i32]
      | (simp (disch := first | omega | assumption | (simp only [i64, i32]; omega) | (simp <;> omega) | fail) only [loadD_cpr, loadD_cprs, List.take_of_length_le]; simp [*, evBin_xor])
      | (with_reducible refine And.intro ?_ ?_; focus first | omega | decide)
      | (with_reducible refine split_ite (fun hp => ?_) (fun hp => ?_) <;> (try simp at hp) <;> simp [*, evBin_xor])
      | (with_reducible refine split_ite1 (fun hp => ?_) (fun hp => ?_) <;> (try simp at hp) <;> simp [*, evBin_xor])
      | (refine split_cond (by simp) (fun hp => ?_) (fun hp => ?_) <;> simp at hp <;> simp [*, evBin_xor])
      | (refine split_ops (by simp) (fun hp => ?_) (fun hp => ?_) <;> simp at hp <;> simp [*, evBin_xor])
      | (refine split_opsD (by simp) (fun hp => ?_) (fun hp => ?_) <;> simp at hp <;> simp [*, evBin_xor])
      | (refine split_pick (by simp) (fun hp => ?_) (fun hp => ?_) <;> simp at hp <;> simp [*, evBin_xor])
      | omega
      | decide
      | (simp [*, evBin_xor]))
    all_goals rfl
  have hc : ctlR r = false := by simp [ctlR, h2]; omega
  cases hb : wideR r <;> cases hd : shownR r <;> rw [hb] at hw <;> rw [hd] at hs
  all_goals
    simp only [cellsR, hc, hb, hd]
    repeat' (first
      | simp (disch := omega) only [wrap_i64, wrap_i32]
      | (simp (disch := first | omega | assumption | (simp only [i64, i32]; omega) | (simp <;> omega) | fail) only [loadD_cpr, loadD_cprs, List.take_of_length_le]; simp [*, hw, hs, h2])
      | (with_reducible refine And.intro ?_ ?_; focus first | omega | decide)
      | (with_reducible refine split_ite (fun hp => ?_) (fun hp => ?_) <;> (try simp at hp) <;> simp [*, hw, hs, h2])
      | (with_reducible refine split_ite1 (fun hp => ?_) (fun hp => ?_) <;> (try simp at hp) <;> simp [*, hw, hs, h2])
      | (refine split_cond (by simp) (fun hp => ?_) (fun hp => ?_) <;> simp at hp <;> simp [*, hw, hs, h2])
      | (refine split_ops (by simp) (fun hp => ?_) (fun hp => ?_) <;> simp at hp <;> simp [*, hw, hs, h2])
      | (refine split_opsD (by simp) (fun hp => ?_) (fun hp => ?_) <;> simp at hp <;> simp [*, hw, hs, h2])
      | (refine split_pick (by simp) (fun hp => ?_) (fun hp => ?_) <;> simp at hp <;> simp [*, hw, hs, h2])
      | omega
      | decide
      | (simp [*, hw, hs, h2]))
  all_goals first | rfl | (exfalso; omega) | skip

end Go.Proofs.YtccinlhenkkpeaaDoor
