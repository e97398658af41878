/- What layer 17's functions tell. -/
import Derived.Test.YtlpgpnjplijgiaaGapB
namespace Go.Proofs.Ytlpgpnjplijgiaa
open Go E
set_option linter.unusedSimpArgs false
set_option linter.unusedVariables false

@[simp] theorem x_lookup {C : E.Calls} {dr : Bool} {t : Nat → D} {h : List Blk} {K : D × List Blk → Prop} (ks : List Nat) (ag : Bool) (z : D) (ok : Bool) (x i : XO) : oSat (evX C dr (.lookup ks ag z ok x i) t h) K = oSat1 (lookD ks ag z ok (i.ev t) (x.ev t)) h K := x_s rfl

def emFind (l : List ((Int × Int) × (Int × Int × Int))) (k r : Int) : Option (Int × Int × Int) := match l with
  | [] => none
  | p :: l => if k = p.1.1 ∧ r = p.1.2 then some p.2 else emFind l k r

theorem emFind_none {k r : Int} : (l : List ((Int × Int) × (Int × Int × Int))) → (∀ p ∈ l, ¬ (k = p.1.1 ∧ r = p.1.2)) → emFind l k r = none
  | [], _ => rfl
  | p :: l, h => by
    unfold emFind
    rw [if_neg (h p (by simp))]
    exact emFind_none l fun q hq => h q (by simp [hq])

theorem findK_em (k r : Int) : (l : List ((Int × Int) × (Int × Int × Int))) → l.Pairwise (fun p q => p.1 ≠ q.1) → findK [0, 0] true (.agg [.int .i64 k, .int .i32 r]) (l.map fun p => emK p.1) (l.map fun p => emV p.2) = some ((emFind l k r).map emV)
  | [], _ => rfl
  | p :: l, h => by
    simp only [List.pairwise_cons] at h
    have ih := findK_em k r l h.2
    have e : eqKey [0, 0] true (.agg [.int .i64 k, .int .i32 r]) (emK p.1) = some (k == p.1.1 && r == p.1.2) := by
      simp only [eqKey, emK, eqCells, eqCell, List.length_cons, List.length_nil, and_self, if_true]
      cases k == p.1.1 <;> cases r == p.1.2 <;> rfl
    simp only [List.map_cons, findK, e, ih, emFind]
    by_cases hp : k = p.1.1 ∧ r = p.1.2
    · have hn : emFind l k r = none := emFind_none l fun q hq hk => h.1 q hq (Prod.ext (hp.1.symm.trans hk.1) (hp.2.symm.trans hk.2))
      have hb : (k == p.1.1 && r == p.1.2) = true := by simpa using hp
      rw [hn, hb, if_pos hp]
      rfl
    · have hb : (k == p.1.1 && r == p.1.2) = false := by
        cases hx : (k == p.1.1 && r == p.1.2)
        · rfl
        · exact absurd (by simpa using hx) hp
      rw [hb, if_neg hp]

def emLook (k r : Int) : Option (Int × Int × Int) := emFind emTab k r

abbrev aD (a : Int × Int × Int × Int) : D := .agg [.int .i64 a.1, .int .i64 a.2.1, .int .i64 a.2.2.1, .int .i32 a.2.2.2]

theorem lookD_em (k r : Int) (z : D) : lookD [0, 0] true z true (.agg [.int .i64 k, .int .i32 r]) emMap = some (match emLook k r with | some a => .tup [emV a, .bool true] | none => .tup [z, .bool false]) := by
  unfold lookD emMap
  simp only []
  rw [findK_em k r emTab (by decide)]
  unfold emLook
  cases emFind emTab k r <;> rfl

theorem pc_bound (n : Nat) : (W n).pc 34 [] = some emMap := W_orc (by rfl)

/-- What a key asks for. -/
def emAct (k r0 : Int) : Int × Int × Int × Int :=
  let r := if k = 1 ∨ k = 2 then r0 else 0
  match emLook k r with
  | some a => (a.1, a.2.1, a.2.2, 0)
  | none => if k = 1 ∧ isR r = true ∧ (32 ≤ r ∨ r = 9) then (2, 0, 0, r) else if k = 2 ∧ 48 ≤ r ∧ r ≤ 57 then (14, 0, 0, r) else (0, 0, 0, 0)

theorem pc_emacs_Map (n : Nat) (k r : Int) : (W (n + 3)).pc 14 [.agg [.int .i64 k, .int .i32 r]] = some (aD (emAct k r)) := by
  apply runs c_emacs_Map
  by_cases h1 : k = 1
  · subst h1
    cases hl : emLook 1 r with
    | some a =>
      simp [X_emacs_Map]
      repeat' (first
        | simp (disch := omega) only [wrap_i64, wrap_i32]
        | (simp (disch := first | omega | assumption | (simp only [i64, i32]; omega) | (simp <;> omega) | fail) only [loadD_cpr, loadD_cprs, List.take_of_length_le]; simp [*, pc_bound, lookD_em, hl, emV])
        | (with_reducible refine And.intro ?_ ?_; focus first | omega | decide)
        | (with_reducible refine split_ite (fun hp => ?_) (fun hp => ?_) <;> (try simp at hp) <;> simp [*, pc_bound, lookD_em, hl, emV])
        | (with_reducible refine split_ite1 (fun hp => ?_) (fun hp => ?_) <;> (try simp at hp) <;> simp [*, pc_bound, lookD_em, hl, emV])
        | (refine split_cond (by simp) (fun hp => ?_) (fun hp => ?_) <;> simp at hp <;> simp [*, pc_bound, lookD_em, hl, emV])
        | (refine split_ops (by simp) (fun hp => ?_) (fun hp => ?_) <;> simp at hp <;> simp [*, pc_bound, lookD_em, hl, emV])
        | (refine split_opsD (by simp) (fun hp => ?_) (fun hp => ?_) <;> simp at hp <;> simp [*, pc_bound, lookD_em, hl, emV])
        | (refine split_pick (by simp) (fun hp => ?_) (fun hp => ?_) <;> simp at hp <;> simp [*, pc_bound, lookD_em, hl, emV])
        | omega
        | decide
        | (simp [*, pc_bound, lookD_em, hl, emV]))
      all_goals simp [emAct, hl]
    | none =>
      simp [X_emacs_Map]
      repeat' (first
        | simp (disch := omega) only [wrap_i64, wrap_i32]
        | (simp (disch := first | omega | assumption | (simp only [i64, i32]; omega) | (simp <;> omega) | fail) only [loadD_cpr, loadD_cprs, List.take_of_length_le]; simp [*, pc_bound, lookD_em, hl])
        | (with_reducible refine And.intro ?_ ?_; focus first | omega | decide)
        | (with_reducible refine split_ite (fun hp => ?_) (fun hp => ?_) <;> (try simp at hp) <;> simp [*, pc_bound, lookD_em, hl])
        | (with_reducible refine split_ite1 (fun hp => ?_) (fun hp => ?_) <;> (try simp at hp) <;> simp [*, pc_bound, lookD_em, hl])
        | (refine split_cond (by simp) (fun hp => ?_) (fun hp => ?_) <;> simp at hp <;> simp [*, pc_bound, lookD_em, hl])
        | (refine split_ops (by simp) (fun hp => ?_) (fun hp => ?_) <;> simp at hp <;> simp [*, pc_bound, lookD_em, hl])
        | (refine split_opsD (by simp) (fun hp => ?_) (fun hp => ?_) <;> simp at hp <;> simp [*, pc_bound, lookD_em, hl])
        | (refine split_pick (by simp) (fun hp => ?_) (fun hp => ?_) <;> simp at hp <;> simp [*, pc_bound, lookD_em, hl])
        | omega
        | decide
        | (simp [*, pc_bound, lookD_em, hl]))
      all_goals simp [emAct, hl, *]
      all_goals split
      all_goals first | omega | simp
  by_cases h2 : k = 2
  · subst h2
    cases hl : emLook 2 r with
    | some a =>
      simp [X_emacs_Map]
      repeat' (first
        | simp (disch := omega) only [wrap_i64, wrap_i32]
        | (simp (disch := first | omega | assumption | (simp only [i64, i32]; omega) | (simp <;> omega) | fail) only [loadD_cpr, loadD_cprs, List.take_of_length_le]; simp [*, pc_bound, lookD_em, hl, emV])
        | (with_reducible refine And.intro ?_ ?_; focus first | omega | decide)
        | (with_reducible refine split_ite (fun hp => ?_) (fun hp => ?_) <;> (try simp at hp) <;> simp [*, pc_bound, lookD_em, hl, emV])
        | (with_reducible refine split_ite1 (fun hp => ?_) (fun hp => ?_) <;> (try simp at hp) <;> simp [*, pc_bound, lookD_em, hl, emV])
        | (refine split_cond (by simp) (fun hp => ?_) (fun hp => ?_) <;> simp at hp <;> simp [*, pc_bound, lookD_em, hl, emV])
        | (refine split_ops (by simp) (fun hp => ?_) (fun hp => ?_) <;> simp at hp <;> simp [*, pc_bound, lookD_em, hl, emV])
        | (refine split_opsD (by simp) (fun hp => ?_) (fun hp => ?_) <;> simp at hp <;> simp [*, pc_bound, lookD_em, hl, emV])
        | (refine split_pick (by simp) (fun hp => ?_) (fun hp => ?_) <;> simp at hp <;> simp [*, pc_bound, lookD_em, hl, emV])
        | omega
        | decide
        | (simp [*, pc_bound, lookD_em, hl, emV]))
      all_goals simp [emAct, hl]
    | none =>
      simp [X_emacs_Map]
      repeat' (first
        | simp (disch := omega) only [wrap_i64, wrap_i32]
        | (simp (disch := first | omega | assumption | (simp only [i64, i32]; omega) | (simp <;> omega) | fail) only [loadD_cpr, loadD_cprs, List.take_of_length_le]; simp [*, pc_bound, lookD_em, hl])
        | (with_reducible refine And.intro ?_ ?_; focus first | omega | decide)
        | (with_reducible refine split_ite (fun hp => ?_) (fun hp => ?_) <;> (try simp at hp) <;> simp [*, pc_bound, lookD_em, hl])
        | (with_reducible refine split_ite1 (fun hp => ?_) (fun hp => ?_) <;> (try simp at hp) <;> simp [*, pc_bound, lookD_em, hl])
        | (refine split_cond (by simp) (fun hp => ?_) (fun hp => ?_) <;> simp at hp <;> simp [*, pc_bound, lookD_em, hl])
        | (refine split_ops (by simp) (fun hp => ?_) (fun hp => ?_) <;> simp at hp <;> simp [*, pc_bound, lookD_em, hl])
        | (refine split_opsD (by simp) (fun hp => ?_) (fun hp => ?_) <;> simp at hp <;> simp [*, pc_bound, lookD_em, hl])
        | (refine split_pick (by simp) (fun hp => ?_) (fun hp => ?_) <;> simp at hp <;> simp [*, pc_bound, lookD_em, hl])
        | omega
        | decide
        | (simp [*, pc_bound, lookD_em, hl]))
      all_goals simp [emAct, hl, *]
      all_goals split
      all_goals first | omega | simp
  cases hl : emLook k 0 with
  | some a =>
    simp [X_emacs_Map, h1, h2]
    repeat' (first
      | simp (disch := omega) only [wrap_i64, wrap_i32]
      | (simp (disch := first | omega | assumption | (simp only [i64, i32]; omega) | (simp <;> omega) | fail) only [loadD_cpr, loadD_cprs, List.take_of_length_le]; simp [*, pc_bound, lookD_em, hl, emV, h1, h2])
      | (with_reducible refine And.intro ?_ ?_; focus first | omega | decide)
      | (with_reducible refine split_ite (fun hp => ?_) (fun hp => ?_) <;> (try simp at hp) <;> simp [*, pc_bound, lookD_em, hl, emV, h1, h2])
      | (with_reducible refine split_ite1 (fun hp => ?_) (fun hp => ?_) <;> (try simp at hp) <;> simp [*, pc_bound, lookD_em, hl, emV, h1, h2])
      | (refine split_cond (by simp) (fun hp => ?_) (fun hp => ?_) <;> simp at hp <;> simp [*, pc_bound, lookD_em, hl, emV, h1, h2])
      | (refine split_ops (by simp) (fun hp => ?_) (fun hp => ?_) <;> simp at hp <;> simp [*, pc_bound, lookD_em, hl, emV, h1, h2])
      | (refine split_opsD (by simp) (fun hp => ?_) (fun hp => ?_) <;> simp at hp <;> simp [*, pc_bound, lookD_em, hl, emV, h1, h2])
      | (refine split_pick (by simp) (fun hp => ?_) (fun hp => ?_) <;> simp at hp <;> simp [*, pc_bound, lookD_em, hl, emV, h1, h2])
      | omega
      | decide
      | (simp [*, pc_bound, lookD_em, hl, emV, h1, h2]))
    all_goals simp [emAct, hl, h1, h2]
  | none =>
    simp [X_emacs_Map, h1, h2]
    repeat' (first
      | simp (disch := omega) only [wrap_i64, wrap_i32]
      | (simp (disch := first | omega | assumption | (simp only [i64, i32]; omega) | (simp <;> omega) | fail) only [loadD_cpr, loadD_cprs, List.take_of_length_le]; simp [*, pc_bound, lookD_em, hl, h1, h2])
      | (with_reducible refine And.intro ?_ ?_; focus first | omega | decide)
      | (with_reducible refine split_ite (fun hp => ?_) (fun hp => ?_) <;> (try simp at hp) <;> simp [*, pc_bound, lookD_em, hl, h1, h2])
      | (with_reducible refine split_ite1 (fun hp => ?_) (fun hp => ?_) <;> (try simp at hp) <;> simp [*, pc_bound, lookD_em, hl, h1, h2])
      | (refine split_cond (by simp) (fun hp => ?_) (fun hp => ?_) <;> simp at hp <;> simp [*, pc_bound, lookD_em, hl, h1, h2])
      | (refine split_ops (by simp) (fun hp => ?_) (fun hp => ?_) <;> simp at hp <;> simp [*, pc_bound, lookD_em, hl, h1, h2])
      | (refine split_opsD (by simp) (fun hp => ?_) (fun hp => ?_) <;> simp at hp <;> simp [*, pc_bound, lookD_em, hl, h1, h2])
      | (refine split_pick (by simp) (fun hp => ?_) (fun hp => ?_) <;> simp at hp <;> simp [*, pc_bound, lookD_em, hl, h1, h2])
      | omega
      | decide
      | (simp [*, pc_bound, lookD_em, hl, h1, h2]))
    all_goals simp [emAct, hl, h1, h2]

/-- The document's answer. -/
def rfPlain (r : Int) : Int × Int × Int × Int :=
  if r = 1 then (1, 3, 0, 0) else if r = 2 then (1, 1, 0, 0) else if r = 4 then (1, 2, 1, 0) else if r = 5 then (1, 4, 0, 0) else if r = 6 then (1, 2, 0, 0) else if r = 7 then (16, 0, 0, 0)
  else if r = 8 ∨ r = 127 then (1, 1, 1, 0) else if r = 10 ∨ r = 13 then (7, 0, 0, 0) else if r = 11 then (1, 4, 2, 0) else if r = 12 then (17, 0, 0, 0) else if r = 14 then (9, 0, 0, 0) else if r = 16 then (8, 0, 0, 0)
  else if r = 17 ∨ r = 22 then (13, 0, 0, 0) else if r = 18 then (11, 0, 0, 0) else if r = 19 then (12, 0, 0, 0) else if r = 20 then (6, 0, 0, 0) else if r = 21 then (1, 3, 2, 0) else if r = 23 then (1, 6, 2, 0)
  else if r = 25 then (3, 0, 0, 0) else if r = 31 then (5, 0, 0, 0) else if r = 9 ∨ (32 ≤ r ∧ isR r = true) then (2, 0, 0, r) else (0, 0, 0, 0)

def rfMeta (r : Int) : Int × Int × Int × Int :=
  if 48 ≤ r ∧ r ≤ 57 then (14, 0, 0, r) else if r = 98 then (1, 6, 0, 0) else if r = 102 then (1, 5, 0, 0) else if r = 100 then (1, 5, 2, 0) else if r = 8 ∨ r = 127 then (1, 6, 2, 0)
  else if r = 117 then (1, 5, 4, 0) else if r = 108 then (1, 5, 5, 0) else if r = 99 then (1, 5, 6, 0) else if r = 121 then (4, 0, 0, 0) else if r = 112 then (10, 0, 0, 0) else if r = 45 then (15, 0, 0, 0) else (0, 0, 0, 0)

def rfArrow (k : Int) : Int × Int × Int × Int :=
  if k = 3 then (8, 0, 0, 0) else if k = 4 then (9, 0, 0, 0) else if k = 5 then (1, 2, 0, 0) else if k = 6 then (1, 1, 0, 0) else if k = 7 then (1, 3, 0, 0) else if k = 8 then (1, 4, 0, 0) else if k = 9 then (1, 2, 1, 0) else (0, 0, 0, 0)

def rfAct (k r : Int) : Int × Int × Int × Int := if k = 1 then rfPlain r else if k = 2 then rfMeta r else rfArrow k

theorem pc_ref17_move (n : Nat) (m op : Int) : (W (n + 1)).pc 55 [.int .i64 m, .int .i64 op] = some (aD (1, m, op, 0)) := by
  apply runs c_typebarref17_move
  simp [X_typebarref17_move]

theorem pc_ref17_Arrow (n : Nat) (k : Int) : (W (n + 2)).pc 37 [.int .i64 k] = some (aD (rfArrow k)) := by
  apply runs c_typebarref17_Arrow
  simp [X_typebarref17_Arrow]
  repeat' (first
    | simp (disch := omega) only [wrap_i64, wrap_i32]
    | (simp (disch := first | omega | assumption | (simp only [i64, i32]; omega) | (simp <;> omega) | fail) only [loadD_cpr, loadD_cprs, List.take_of_length_le]; simp [*, pc_ref17_move])
    | (with_reducible refine And.intro ?_ ?_; focus first | omega | decide)
    | (with_reducible refine split_ite (fun hp => ?_) (fun hp => ?_) <;> (try simp at hp) <;> simp [*, pc_ref17_move])
    | (with_reducible refine split_ite1 (fun hp => ?_) (fun hp => ?_) <;> (try simp at hp) <;> simp [*, pc_ref17_move])
    | (refine split_cond (by simp) (fun hp => ?_) (fun hp => ?_) <;> simp at hp <;> simp [*, pc_ref17_move])
    | (refine split_ops (by simp) (fun hp => ?_) (fun hp => ?_) <;> simp at hp <;> simp [*, pc_ref17_move])
    | (refine split_opsD (by simp) (fun hp => ?_) (fun hp => ?_) <;> simp at hp <;> simp [*, pc_ref17_move])
    | (refine split_pick (by simp) (fun hp => ?_) (fun hp => ?_) <;> simp at hp <;> simp [*, pc_ref17_move])
    | omega
    | decide
    | (simp [*, pc_ref17_move]))
  all_goals simp [rfArrow, *]

theorem pc_ref17_plain (n : Nat) (r : Int) : (W (n + 2)).pc 35 [.int .i32 r] = some (aD (rfPlain r)) := by
  apply runs c_typebarref17_plain
  simp [X_typebarref17_plain]
  repeat' (first
    | simp (disch := omega) only [wrap_i64, wrap_i32]
    | (simp (disch := first | omega | assumption | (simp only [i64, i32]; omega) | (simp <;> omega) | fail) only [loadD_cpr, loadD_cprs, List.take_of_length_le]; simp [*, pc_ref17_move])
    | (with_reducible refine And.intro ?_ ?_; focus first | omega | decide)
    | (with_reducible refine split_ite (fun hp => ?_) (fun hp => ?_) <;> (try simp at hp) <;> simp [*, pc_ref17_move])
    | (with_reducible refine split_ite1 (fun hp => ?_) (fun hp => ?_) <;> (try simp at hp) <;> simp [*, pc_ref17_move])
    | (refine split_cond (by simp) (fun hp => ?_) (fun hp => ?_) <;> simp at hp <;> simp [*, pc_ref17_move])
    | (refine split_ops (by simp) (fun hp => ?_) (fun hp => ?_) <;> simp at hp <;> simp [*, pc_ref17_move])
    | (refine split_opsD (by simp) (fun hp => ?_) (fun hp => ?_) <;> simp at hp <;> simp [*, pc_ref17_move])
    | (refine split_pick (by simp) (fun hp => ?_) (fun hp => ?_) <;> simp at hp <;> simp [*, pc_ref17_move])
    | omega
    | decide
    | (simp [*, pc_ref17_move]))
  all_goals simp [rfPlain, *]
  all_goals split
  all_goals first | omega | simp

theorem pc_ref17_meta (n : Nat) (r : Int) : (W (n + 2)).pc 36 [.int .i32 r] = some (aD (rfMeta r)) := by
  apply runs c_typebarref17_meta
  simp [X_typebarref17_meta]
  repeat' (first
    | simp (disch := omega) only [wrap_i64, wrap_i32]
    | (simp (disch := first | omega | assumption | (simp only [i64, i32]; omega) | (simp <;> omega) | fail) only [loadD_cpr, loadD_cprs, List.take_of_length_le]; simp [*, pc_ref17_move])
    | (with_reducible refine And.intro ?_ ?_; focus first | omega | decide)
    | (with_reducible refine split_ite (fun hp => ?_) (fun hp => ?_) <;> (try simp at hp) <;> simp [*, pc_ref17_move])
    | (with_reducible refine split_ite1 (fun hp => ?_) (fun hp => ?_) <;> (try simp at hp) <;> simp [*, pc_ref17_move])
    | (refine split_cond (by simp) (fun hp => ?_) (fun hp => ?_) <;> simp at hp <;> simp [*, pc_ref17_move])
    | (refine split_ops (by simp) (fun hp => ?_) (fun hp => ?_) <;> simp at hp <;> simp [*, pc_ref17_move])
    | (refine split_opsD (by simp) (fun hp => ?_) (fun hp => ?_) <;> simp at hp <;> simp [*, pc_ref17_move])
    | (refine split_pick (by simp) (fun hp => ?_) (fun hp => ?_) <;> simp at hp <;> simp [*, pc_ref17_move])
    | omega
    | decide
    | (simp [*, pc_ref17_move]))
  all_goals simp [rfMeta, *]
  all_goals split
  all_goals first | omega | simp

theorem pc_ref17_Map (n : Nat) (k r : Int) : (W (n + 3)).pc 15 [.agg [.int .i64 k, .int .i32 r]] = some (aD (rfAct k r)) := by
  apply runs c_typebarref17_Map
  simp [X_typebarref17_Map]
  repeat' (first
    | simp (disch := omega) only [wrap_i64, wrap_i32]
    | (simp (disch := first | omega | assumption | (simp only [i64, i32]; omega) | (simp <;> omega) | fail) only [loadD_cpr, loadD_cprs, List.take_of_length_le]; simp [*, pc_ref17_plain, pc_ref17_meta, pc_ref17_Arrow])
    | (with_reducible refine And.intro ?_ ?_; focus first | omega | decide)
    | (with_reducible refine split_ite (fun hp => ?_) (fun hp => ?_) <;> (try simp at hp) <;> simp [*, pc_ref17_plain, pc_ref17_meta, pc_ref17_Arrow])
    | (with_reducible refine split_ite1 (fun hp => ?_) (fun hp => ?_) <;> (try simp at hp) <;> simp [*, pc_ref17_plain, pc_ref17_meta, pc_ref17_Arrow])
    | (refine split_cond (by simp) (fun hp => ?_) (fun hp => ?_) <;> simp at hp <;> simp [*, pc_ref17_plain, pc_ref17_meta, pc_ref17_Arrow])
    | (refine split_ops (by simp) (fun hp => ?_) (fun hp => ?_) <;> simp at hp <;> simp [*, pc_ref17_plain, pc_ref17_meta, pc_ref17_Arrow])
    | (refine split_opsD (by simp) (fun hp => ?_) (fun hp => ?_) <;> simp at hp <;> simp [*, pc_ref17_plain, pc_ref17_meta, pc_ref17_Arrow])
    | (refine split_pick (by simp) (fun hp => ?_) (fun hp => ?_) <;> simp at hp <;> simp [*, pc_ref17_plain, pc_ref17_meta, pc_ref17_Arrow])
    | omega
    | decide
    | (simp [*, pc_ref17_plain, pc_ref17_meta, pc_ref17_Arrow]))
  all_goals simp [rfAct, *]

theorem pc_mapped (n : Nat) : (W (n + 6)).pc 13 [] = some (.bool true) := by kernel_rfl

end Go.Proofs.Ytlpgpnjplijgiaa
