/- What the functions of layers 11 and 14 compute: letters. -/
import Derived.Test.YtcaglmjfphjpfaaGreatSlices
import Derived.Test.YtcaglmjfphjpfaaGreatTyp
import Derived.Test.YtcaglmjfphjpfaaGreatWordsC
namespace Go.Proofs.YtcaglmjfphjpfaaGreat
open Go E
set_option linter.unusedSimpArgs false
set_option linter.unusedVariables false

def upR (r : Int) : Int := if 97 ≤ r ∧ r ≤ 122 then r - 32 else r

def loR (r : Int) : Int := if 65 ≤ r ∧ r ≤ 90 then r + 32 else r

@[simp] theorem pc_shape_Upper (n : Nat) (r : Int) : (W (n + 1)).pc 89 [.int .i32 r] = some (.int .i32 (upR r)) := by
  apply runs c_shape_Upper
  simp [X_shape_Upper]
  repeat' (first
    | simp (disch := omega) only [wrap_i64, wrap_i32]
    | (simp (disch := first | omega | assumption | (simp only [i64, i32]; omega) | (simp <;> omega) | fail) only [loadD_cpr, loadD_cprs, List.take_of_length_le]; simp [*])
    | (with_reducible refine And.intro ?_ ?_; focus first | omega | decide)
    | (with_reducible refine split_ite (fun hp => ?_) (fun hp => ?_) <;> (try simp at hp) <;> simp [*])
    | (with_reducible refine split_ite1 (fun hp => ?_) (fun hp => ?_) <;> (try simp at hp) <;> simp [*])
    | (refine split_cond (by simp) (fun hp => ?_) (fun hp => ?_) <;> simp at hp <;> simp [*])
    | (refine split_ops (by simp) (fun hp => ?_) (fun hp => ?_) <;> simp at hp <;> simp [*])
    | (refine split_opsD (by simp) (fun hp => ?_) (fun hp => ?_) <;> simp at hp <;> simp [*])
    | (refine split_pick (by simp) (fun hp => ?_) (fun hp => ?_) <;> simp at hp <;> simp [*])
    | omega
    | decide
    | (simp [*]))
  all_goals grind [upR]

@[simp] theorem pc_ref14_Upper (n : Nat) (r : Int) : (W (n + 1)).pc 78 [.int .i32 r] = some (.int .i32 (upR r)) := by
  apply runs c_typebarref14_Upper
  simp [X_typebarref14_Upper]
  repeat' (first
    | simp (disch := omega) only [wrap_i64, wrap_i32]
    | (simp (disch := first | omega | assumption | (simp only [i64, i32]; omega) | (simp <;> omega) | fail) only [loadD_cpr, loadD_cprs, List.take_of_length_le]; simp [*])
    | (with_reducible refine And.intro ?_ ?_; focus first | omega | decide)
    | (with_reducible refine split_ite (fun hp => ?_) (fun hp => ?_) <;> (try simp at hp) <;> simp [*])
    | (with_reducible refine split_ite1 (fun hp => ?_) (fun hp => ?_) <;> (try simp at hp) <;> simp [*])
    | (refine split_cond (by simp) (fun hp => ?_) (fun hp => ?_) <;> simp at hp <;> simp [*])
    | (refine split_ops (by simp) (fun hp => ?_) (fun hp => ?_) <;> simp at hp <;> simp [*])
    | (refine split_opsD (by simp) (fun hp => ?_) (fun hp => ?_) <;> simp at hp <;> simp [*])
    | (refine split_pick (by simp) (fun hp => ?_) (fun hp => ?_) <;> simp at hp <;> simp [*])
    | omega
    | decide
    | (simp [*]))
  all_goals grind [upR]

@[simp] theorem pc_shape_Lower (n : Nat) (r : Int) : (W (n + 1)).pc 88 [.int .i32 r] = some (.int .i32 (loR r)) := by
  apply runs c_shape_Lower
  simp [X_shape_Lower]
  repeat' (first
    | simp (disch := omega) only [wrap_i64, wrap_i32]
    | (simp (disch := first | omega | assumption | (simp only [i64, i32]; omega) | (simp <;> omega) | fail) only [loadD_cpr, loadD_cprs, List.take_of_length_le]; simp [*])
    | (with_reducible refine And.intro ?_ ?_; focus first | omega | decide)
    | (with_reducible refine split_ite (fun hp => ?_) (fun hp => ?_) <;> (try simp at hp) <;> simp [*])
    | (with_reducible refine split_ite1 (fun hp => ?_) (fun hp => ?_) <;> (try simp at hp) <;> simp [*])
    | (refine split_cond (by simp) (fun hp => ?_) (fun hp => ?_) <;> simp at hp <;> simp [*])
    | (refine split_ops (by simp) (fun hp => ?_) (fun hp => ?_) <;> simp at hp <;> simp [*])
    | (refine split_opsD (by simp) (fun hp => ?_) (fun hp => ?_) <;> simp at hp <;> simp [*])
    | (refine split_pick (by simp) (fun hp => ?_) (fun hp => ?_) <;> simp at hp <;> simp [*])
    | omega
    | decide
    | (simp [*]))
  all_goals grind [loR]

@[simp] theorem pc_ref14_Lower (n : Nat) (r : Int) : (W (n + 1)).pc 79 [.int .i32 r] = some (.int .i32 (loR r)) := by
  apply runs c_typebarref14_Lower
  simp [X_typebarref14_Lower]
  repeat' (first
    | simp (disch := omega) only [wrap_i64, wrap_i32]
    | (simp (disch := first | omega | assumption | (simp only [i64, i32]; omega) | (simp <;> omega) | fail) only [loadD_cpr, loadD_cprs, List.take_of_length_le]; simp [*])
    | (with_reducible refine And.intro ?_ ?_; focus first | omega | decide)
    | (with_reducible refine split_ite (fun hp => ?_) (fun hp => ?_) <;> (try simp at hp) <;> simp [*])
    | (with_reducible refine split_ite1 (fun hp => ?_) (fun hp => ?_) <;> (try simp at hp) <;> simp [*])
    | (refine split_cond (by simp) (fun hp => ?_) (fun hp => ?_) <;> simp at hp <;> simp [*])
    | (refine split_ops (by simp) (fun hp => ?_) (fun hp => ?_) <;> simp at hp <;> simp [*])
    | (refine split_opsD (by simp) (fun hp => ?_) (fun hp => ?_) <;> simp at hp <;> simp [*])
    | (refine split_pick (by simp) (fun hp => ?_) (fun hp => ?_) <;> simp at hp <;> simp [*])
    | omega
    | decide
    | (simp [*]))
  all_goals grind [loR]

/-- A sign of a row, in another case. -/
def chR (l : List Int) (f : Nat) (how : Int) (i : Nat) (r : Int) : Int :=
  if how = 4 ∨ (how = 6 ∧ inW r = true ∧ (i = f ∨ inW (l.getD (i - 1) 0) = false)) then upR r else loR r

def sCh (l : List Int) (f t : Nat) (how : Int) : List Int := l.mapIdx fun i r => if f ≤ i ∧ i < t then chR l f how i r else r

@[simp] theorem sCh_length (l : List Int) (f t : Nat) (how : Int) : (sCh l f t how).length = l.length := by simp [sCh]

theorem sCh_at {l : List Int} {f t : Nat} {how : Int} {i : Nat} (h : i < l.length) : (sCh l f t how)[i]'(by simpa using h) = if f ≤ i ∧ i < t then chR l f how i l[i] else l[i] := by simp [sCh]

theorem sCh_zero (l : List Int) (f : Nat) (how : Int) : sCh l f f how = l := by
  refine List.ext_getElem (by simp) fun i h1 h2 => ?_
  rw [sCh_at h2, if_neg (by omega)]

theorem sCh_step {l : List Int} {f i : Nat} (how : Int) (h : i < l.length) (hf : f ≤ i) : (sCh l f i how).set i (chR l f how i l[i]) = sCh l f (i + 1) how := by
  refine List.ext_getElem (by simp) fun j h1 h2 => ?_
  have hj : j < l.length := by simpa using h2
  rw [List.getElem_set]
  by_cases hij : i = j
  · subst hij
    rw [if_pos rfl, sCh_at hj, if_pos (by omega)]
  · rw [if_neg hij, sCh_at hj, sCh_at hj]
    by_cases h3 : f ≤ j ∧ j < i
    · rw [if_pos h3, if_pos (by omega)]
    · rw [if_neg h3, if_neg (by omega)]

def change (l : List Int) (f t how : Int) : List Int × Int :=
  if f < 0 ∨ t < f ∨ l.length < t ∨ how < 4 ∨ 6 < how then ([], 1) else (sCh l f.toNat t.toNat how, 0)

theorem change_len (l : List Int) (f t how : Int) : (change l f t how).1.length ≤ l.length := by
  simp only [change]; split <;> simp

set_option maxHeartbeats 2000000 in
@[simp] theorem pc_shape_Change (n : Nat) (l : List Int) (f t how : Int) (hl : l.length < 2000000) : (W (n + 2)).pc 67 [rn l, .int .i64 f, .int .i64 t, .int .i64 how] = some (.tup [rn (change l f t how).1, eD (change l f t how).2]) := by
  apply runsM c_shape_Change
  have hm1 : modes 67 86 = 1 := id rfl
  have hm2 : modes 67 87 = 0 := id rfl
  have hm3 : modes 67 88 = 0 := id rfl
  have hm4 : modes 67 89 = 0 := id rfl
  by_cases hbad : f < 0 ∨ t < f ∨ l.length < t ∨ how < 4 ∨ 6 < how
  · have e : change l f t how = ([], 1) := by rw [change, if_pos hbad]
    simp [X_shape_Change, hm1, hm2, hm3, hm4, e]
    repeat' (first
      | simp (disch := omega) only [wrap_i64, wrap_i32]
      | (simp (disch := first | omega | assumption | (simp only [i64, i32]; omega) | (simp <;> omega) | fail) only [loadD_cpr, loadD_cprs, List.take_of_length_le]; simp [*])
      | (with_reducible refine And.intro ?_ ?_; focus first | omega | decide)
      | (with_reducible refine split_ite (fun hp => ?_) (fun hp => ?_) <;> (try simp at hp) <;> simp [*])
      | (with_reducible refine split_ite1 (fun hp => ?_) (fun hp => ?_) <;> (try simp at hp) <;> simp [*])
      | (refine split_cond (by simp) (fun hp => ?_) (fun hp => ?_) <;> simp at hp <;> simp [*])
      | (refine split_ops (by simp) (fun hp => ?_) (fun hp => ?_) <;> simp at hp <;> simp [*])
      | (refine split_opsD (by simp) (fun hp => ?_) (fun hp => ?_) <;> simp at hp <;> simp [*])
      | (refine split_pick (by simp) (fun hp => ?_) (fun hp => ?_) <;> simp at hp <;> simp [*])
      | omega
      | decide
      | (simp [*]))
    all_goals first | rfl | (exfalso; omega)
  · have e : change l f t how = (sCh l f.toNat t.toNat how, 0) := by rw [change, if_neg hbad]
    simp only [not_or, Int.not_lt] at hbad
    obtain ⟨b1, b2, b3, b4, b5⟩ := hbad
    obtain ⟨F, rfl⟩ := Int.eq_ofNat_of_zero_le b1
    obtain ⟨T, rfl⟩ := Int.eq_ofNat_of_zero_le (show 0 ≤ t by omega)
    rw [e]
    have b2' : F ≤ T := by omega
    have b3' : T ≤ l.length := by omega
    by_cases h0 : l = []
    · subst h0
      simp at b3'
      subst b3'
      simp at b2'
      subst b2'
      simp [X_shape_Change, hm1, hm2, hm3, hm4, b4, b5, oc_Clone_rune, own1_fresh]
      repeat' (first
        | simp (disch := omega) only [wrap_i64, wrap_i32]
        | (simp (disch := first | omega | assumption | (simp only [i64, i32]; omega) | (simp <;> omega) | fail) only [loadD_cpr, loadD_cprs, List.take_of_length_le]; simp [*, nilR])
        | (with_reducible refine And.intro ?_ ?_; focus first | omega | decide)
        | (with_reducible refine split_ite (fun hp => ?_) (fun hp => ?_) <;> (try simp at hp) <;> simp [*, nilR])
        | (with_reducible refine split_ite1 (fun hp => ?_) (fun hp => ?_) <;> (try simp at hp) <;> simp [*, nilR])
        | (refine split_cond (by simp) (fun hp => ?_) (fun hp => ?_) <;> simp at hp <;> simp [*, nilR])
        | (refine split_ops (by simp) (fun hp => ?_) (fun hp => ?_) <;> simp at hp <;> simp [*, nilR])
        | (refine split_opsD (by simp) (fun hp => ?_) (fun hp => ?_) <;> simp at hp <;> simp [*, nilR])
        | (refine split_pick (by simp) (fun hp => ?_) (fun hp => ?_) <;> simp at hp <;> simp [*, nilR])
        | omega
        | decide
        | (simp [*, nilR]))
      refine aw_rounds (fun m st => ∃ k : Nat, st.t 10 = .arr 0 true [] ∧ st.t 42 = .int .i64 0 ∧ st.t 43 = .int .i64 k ∧ st.h = [] ∧ k = 0 ∧ m = 0 + 1 ∧ Keep (True)) ?_ ?_ (n := 0 + 1) (by first | omega | (simp; omega)) ?_
      · rintro st ⟨k, hx⟩; omega
      rotate_left
      · exact ⟨0, by first | (simp [*]; done) | (simp [*]; omega) | rfl, by first | (simp [*]; done) | (simp [*]; omega) | rfl, by first | (simp [*]; done) | (simp [*]; omega) | rfl, by first | (simp [*]; done) | (simp [*]; omega) | rfl, by first | omega | (simp; omega) | simp [*], by first | rfl | (simp; done) | omega, ⟨trivial⟩⟩
      rintro Ja ma ⟨t, h⟩ ⟨k, ea10, ea42, ea43, hha, fa1, hma, hqa⟩ hJa
      simp only [] at ea10 ea42 ea43 hha
      subst hha
      simp [ea10, ea42, ea43]
      subst fa1
      repeat' (first
        | simp (disch := omega) only [wrap_i64, wrap_i32]
        | (simp (disch := first | omega | assumption | (simp only [i64, i32]; omega) | (simp <;> omega) | fail) only [loadD_cpr, loadD_cprs, List.take_of_length_le]; simp [*])
        | (with_reducible refine And.intro ?_ ?_; focus first | omega | decide)
        | (with_reducible refine split_ite (fun hp => ?_) (fun hp => ?_) <;> (try simp at hp) <;> simp [*])
        | (with_reducible refine split_ite1 (fun hp => ?_) (fun hp => ?_) <;> (try simp at hp) <;> simp [*])
        | (refine split_cond (by simp) (fun hp => ?_) (fun hp => ?_) <;> simp at hp <;> simp [*])
        | (refine split_ops (by simp) (fun hp => ?_) (fun hp => ?_) <;> simp at hp <;> simp [*])
        | (refine split_opsD (by simp) (fun hp => ?_) (fun hp => ?_) <;> simp at hp <;> simp [*])
        | (refine split_pick (by simp) (fun hp => ?_) (fun hp => ?_) <;> simp at hp <;> simp [*])
        | omega
        | decide
        | (simp [*]))
      all_goals rfl
    simp [X_shape_Change, hm1, hm2, hm3, hm4, b2', b3', b4, b5, h0]
    repeat' (first
      | simp (disch := omega) only [wrap_i64, wrap_i32]
      | (simp (disch := first | omega | assumption | (simp only [i64, i32]; omega) | (simp <;> omega) | fail) only [loadD_cpr, loadD_cprs, List.take_of_length_le, oc_Clone_rune]; simp [*, own1_fresh])
      | (with_reducible refine And.intro ?_ ?_; focus first | omega | decide)
      | (with_reducible refine split_ite (fun hp => ?_) (fun hp => ?_) <;> (try simp at hp) <;> simp [*, own1_fresh])
      | (with_reducible refine split_ite1 (fun hp => ?_) (fun hp => ?_) <;> (try simp at hp) <;> simp [*, own1_fresh])
      | (refine split_cond (by simp) (fun hp => ?_) (fun hp => ?_) <;> simp at hp <;> simp [*, own1_fresh])
      | (refine split_ops (by simp) (fun hp => ?_) (fun hp => ?_) <;> simp at hp <;> simp [*, own1_fresh])
      | (refine split_opsD (by simp) (fun hp => ?_) (fun hp => ?_) <;> simp at hp <;> simp [*, own1_fresh])
      | (refine split_pick (by simp) (fun hp => ?_) (fun hp => ?_) <;> simp at hp <;> simp [*, own1_fresh])
      | omega
      | decide
      | (simp [*, own1_fresh]))
    have hlen : ((l.drop F).take (T - F)).length = T - F := by simp; omega
    have hz : sCh l F F how = l := sCh_zero l F how
    refine aw_rounds (fun m st => ∃ k : Nat, st.t 1 = .int .i64 F ∧ st.t 3 = .int .i64 how ∧ st.t 10 = .ref 0 0 l.length 1 l.length false ∧ st.t 11 = .bool (decide (0 < k) && inW (l.getD (F + k - 1) 0)) ∧ st.t 41 = rn ((l.drop F).take (T - F)) ∧ st.t 42 = .int .i64 ((T - F : Nat) : Int) ∧ st.t 43 = .int .i64 k ∧ st.h = [⟨cells runeC (sCh l F (F + k) how), 0, false⟩] ∧ k ≤ T - F ∧ m = T - F - k + 1 ∧ Keep (True)) ?_ ?_ (n := T - F - (0) + 1) (by first | omega | (simp; omega)) ?_
    · rintro st ⟨k, hx⟩; omega
    rotate_left
    · exact ⟨0, by first | (simp [*]; done) | (simp [*]; omega) | rfl, by first | (simp [*]; done) | (simp [*]; omega) | rfl, by first | (simp [*]; done) | (simp [*]; omega) | rfl, by first | (simp [*]; done) | (simp [*]; omega) | rfl, by first | (simp [*]; done) | (simp [*]; omega) | rfl, by first | (simp [*]; done) | (simp [*]; omega) | rfl, by first | (simp [*]; done) | (simp [*]; omega) | rfl, by first | (simp [*]; done) | (simp [*]; omega) | rfl, by first | omega | (simp; omega) | simp [*], by first | rfl | (simp; done) | omega, ⟨trivial⟩⟩
    rintro Ja ma ⟨t, h⟩ ⟨k, ea1, ea3, ea10, ea11, ea41, ea42, ea43, hha, fa1, hma, hqa⟩ hJa
    simp only [] at ea1 ea3 ea10 ea11 ea41 ea42 ea43 hha
    subst hha
    simp [ea1, ea3, ea10, ea11, ea41, ea42, ea43]
    by_cases hk : k < T - F
    · have hk2 : F + k < l.length := by omega
      have e1 : ((F : Int) + (k : Int)).toNat = F + k := by omega
      have hS := sCh_step (l := l) (f := F) (i := F + k) how hk2 (by omega)
      rw [Nat.add_assoc] at hS
      obtain ⟨p, hp⟩ : ∃ p, p = (decide (0 < k) && inW (l.getD (F + k - 1) 0)) := ⟨_, rfl⟩
      obtain ⟨q, hq⟩ : ∃ q, q = inW l[F + k] := ⟨_, rfl⟩
      rw [← hp] at ea11
      have hp2 : (decide (0 < k) && inW (l[F + k - 1]?.getD 0)) = p := by rw [hp]; simp
      rw [hp2]
      clear hp2
      have hc : chR l F how (F + k) l[F + k] = if how = 4 ∨ (how = 6 ∧ q = true ∧ p = false) then upR l[F + k] else loR l[F + k] := by
        simp only [chR, hp, hq]
        congr 1
        simp only [Bool.and_eq_false_iff, decide_eq_false_iff_not, eq_iff_iff]
        have : (F + k = F) ↔ ¬ 0 < k := by omega
        rw [this]
      have h11 : (decide (0 < k + 1) && inW (l.getD (F + (k + 1) - 1) 0)) = q := by
        rw [hq, show F + (k + 1) - 1 = F + k by omega, getD_at hk2]; simp
      rw [hc] at hS
      have hq' := hq.symm
      clear hp hq hc
      have hnext : ∀ (s : St), s.t 1 = .int .i64 F → s.t 3 = .int .i64 how → s.t 10 = .ref 0 0 l.length 1 l.length false → s.t 11 = .bool q → s.t 41 = rn ((l.drop F).take (T - F)) → s.t 42 = .int .i64 ((T - F : Nat) : Int) → s.t 43 = .int .i64 ((k + 1 : Nat) : Int) →
          s.h = [⟨cells runeC (sCh l F (F + (k + 1)) how), 0, false⟩] → Ja s := fun s a1 a3 a10 a11 a41 a42 a43 ah =>
        hJa.out _ ⟨k + 1, a1, a3, a10, by rw [a11, h11], a41, a42, a43, ah, by omega, by omega, ⟨trivial⟩⟩
      have hnext := Keep.mk hnext
      clear h11
      have hhow : how = 4 ∨ how = 5 ∨ how = 6 := by omega
      rcases hhow with rfl | rfl | rfl <;> cases p <;> cases q <;> simp at hS
      all_goals
        repeat' (first
          | simp (disch := omega) only [wrap_i64, wrap_i32]
          | (simp (disch := first | omega | assumption | (simp only [i64, i32]; omega) | (simp <;> omega) | fail) only [loadD_cpr, loadD_cprs, List.take_of_length_le]; simp [*, e1, hlen])
          | (with_reducible refine And.intro ?_ ?_; focus first | omega | decide)
          | (with_reducible refine split_ite (fun hp => ?_) (fun hp => ?_) <;> (try simp at hp) <;> simp [*, e1, hlen])
          | (with_reducible refine split_ite1 (fun hp => ?_) (fun hp => ?_) <;> (try simp at hp) <;> simp [*, e1, hlen])
          | (refine split_cond (by simp) (fun hp => ?_) (fun hp => ?_) <;> simp at hp <;> simp [*, e1, hlen])
          | (refine split_ops (by simp) (fun hp => ?_) (fun hp => ?_) <;> simp at hp <;> simp [*, e1, hlen])
          | (refine split_opsD (by simp) (fun hp => ?_) (fun hp => ?_) <;> simp at hp <;> simp [*, e1, hlen])
          | (refine split_pick (by simp) (fun hp => ?_) (fun hp => ?_) <;> simp at hp <;> simp [*, e1, hlen])
          | omega
          | decide
          | (simp [*, e1, hlen]))
      all_goals exact hnext.out _ (by simp [*]) (by simp [*]) (by simp [*]) (by simp [*]) (by simp [*]) (by simp [*]) (by simp [*]) (by simp [*])
    · repeat' (first
        | simp (disch := omega) only [wrap_i64, wrap_i32]
        | (simp (disch := first | omega | assumption | (simp only [i64, i32]; omega) | (simp <;> omega) | fail) only [loadD_cpr, loadD_cprs, List.take_of_length_le]; simp [*])
        | (with_reducible refine And.intro ?_ ?_; focus first | omega | decide)
        | (with_reducible refine split_ite (fun hp => ?_) (fun hp => ?_) <;> (try simp at hp) <;> simp [*])
        | (with_reducible refine split_ite1 (fun hp => ?_) (fun hp => ?_) <;> (try simp at hp) <;> simp [*])
        | (refine split_cond (by simp) (fun hp => ?_) (fun hp => ?_) <;> simp at hp <;> simp [*])
        | (refine split_ops (by simp) (fun hp => ?_) (fun hp => ?_) <;> simp at hp <;> simp [*])
        | (refine split_opsD (by simp) (fun hp => ?_) (fun hp => ?_) <;> simp at hp <;> simp [*])
        | (refine split_pick (by simp) (fun hp => ?_) (fun hp => ?_) <;> simp at hp <;> simp [*])
        | omega
        | decide
        | (simp [*]))
      have hkT : F + k = T := by omega
      rw [List.take_of_length_le (by simp), hkT]
      exact row_is (by simp) rfl

theorem sCh_take {l : List Int} {f t : Nat} {how : Int} {i : Nat} (h : i < l.length) : (sCh l f t how).take (i + 1) = (sCh l f t how).take i ++ [if f ≤ i ∧ i < t then chR l f how i l[i] else l[i]] := by
  rw [List.take_succ_eq_append_getElem (by simpa using h), sCh_at h]

set_option maxHeartbeats 2000000 in
@[simp] theorem pc_ref14_Change (n : Nat) (l : List Int) (f t how : Int) (hl : l.length < 2000000) : (W (n + 2)).pc 54 [rn l, .int .i64 f, .int .i64 t, .int .i64 how] = some (.tup [rn (change l f t how).1, eD (change l f t how).2]) := by
  apply runs c_typebarref14_Change
  by_cases hbad : f < 0 ∨ t < f ∨ l.length < t ∨ how < 4 ∨ 6 < how
  · have e : change l f t how = ([], 1) := by rw [change, if_pos hbad]
    simp [X_typebarref14_Change, e]
    repeat' (first
      | simp (disch := omega) only [wrap_i64, wrap_i32]
      | (simp (disch := first | omega | assumption | (simp only [i64, i32]; omega) | (simp <;> omega) | fail) only [loadD_cpr, loadD_cprs, List.take_of_length_le]; simp [*])
      | (with_reducible refine And.intro ?_ ?_; focus first | omega | decide)
      | (with_reducible refine split_ite (fun hp => ?_) (fun hp => ?_) <;> (try simp at hp) <;> simp [*])
      | (with_reducible refine split_ite1 (fun hp => ?_) (fun hp => ?_) <;> (try simp at hp) <;> simp [*])
      | (refine split_cond (by simp) (fun hp => ?_) (fun hp => ?_) <;> simp at hp <;> simp [*])
      | (refine split_ops (by simp) (fun hp => ?_) (fun hp => ?_) <;> simp at hp <;> simp [*])
      | (refine split_opsD (by simp) (fun hp => ?_) (fun hp => ?_) <;> simp at hp <;> simp [*])
      | (refine split_pick (by simp) (fun hp => ?_) (fun hp => ?_) <;> simp at hp <;> simp [*])
      | omega
      | decide
      | (simp [*]))
    all_goals first | rfl | (exfalso; omega)
  · have e : change l f t how = (sCh l f.toNat t.toNat how, 0) := by rw [change, if_neg hbad]
    simp only [not_or, Int.not_lt] at hbad
    obtain ⟨b1, b2, b3, b4, b5⟩ := hbad
    obtain ⟨F, rfl⟩ := Int.eq_ofNat_of_zero_le b1
    obtain ⟨T, rfl⟩ := Int.eq_ofNat_of_zero_le (show 0 ≤ t by omega)
    rw [e]
    have b2' : F ≤ T := by omega
    have b3' : T ≤ l.length := by omega
    simp [X_typebarref14_Change, b2', b3', b4, b5]
    refine aw_rounds (fun m st => ∃ i : Nat, st.t 0 = rn l ∧ st.t 1 = .int .i64 F ∧ st.t 2 = .int .i64 T ∧ st.t 3 = .int .i64 how ∧ st.t 10 = accS runeC 0 ((sCh l F T how).take i) ∧ st.t 11 = .int .i64 i ∧ st.h = accH runeC ((sCh l F T how).take i) ∧ i ≤ l.length ∧ m = l.length - i + 1 ∧ Keep (True)) ?_ ?_ (n := l.length - (0) + 1) (by first | omega | (simp; omega)) ?_
    · rintro st ⟨i, hx⟩; omega
    rotate_left
    · exact ⟨0, by first | (simp [*]; done) | (simp [*]; omega) | rfl, by first | (simp [*]; done) | (simp [*]; omega) | rfl, by first | (simp [*]; done) | (simp [*]; omega) | rfl, by first | (simp [*]; done) | (simp [*]; omega) | rfl, by first | (simp [*]; done) | (simp [*]; omega) | rfl, by first | (simp [*]; done) | (simp [*]; omega) | rfl, by first | (simp [*]; done) | (simp [*]; omega) | rfl, by first | omega | (simp; omega) | simp [*], by first | rfl | (simp; done) | omega, ⟨trivial⟩⟩
    rintro Ja ma ⟨t, h⟩ ⟨i, ea0, ea1, ea2, ea3, ea10, ea11, hha, fa1, hma, hqa⟩ hJa
    simp only [] at ea0 ea1 ea2 ea3 ea10 ea11 hha
    subst hha
    simp [ea0, ea1, ea2, ea3, ea10, ea11]
    by_cases hi : i < l.length
    · have hlen : ((sCh l F T how).take i).length = i := by simp; omega
      have hi1 : i - 1 < l.length := by omega
      have hpv : l[i - 1]? = some l[i - 1] := List.getElem?_eq_getElem hi1
      have hT := sCh_take (f := F) (t := T) (how := how) hi
      have hnext : ∀ (s : St), s.t 0 = rn l → s.t 1 = .int .i64 F → s.t 2 = .int .i64 T → s.t 3 = .int .i64 how → s.t 10 = accS runeC 0 ((sCh l F T how).take (i + 1)) → s.t 11 = .int .i64 ((i + 1 : Nat) : Int) →
          s.h = accH runeC ((sCh l F T how).take (i + 1)) → Ja s := fun s a0 a1 a2 a3 a10 a11 ah =>
        hJa.out _ ⟨i + 1, a0, a1, a2, a3, a10, a11, ah, by omega, by omega, ⟨trivial⟩⟩
      have hnext := Keep.mk hnext
      generalize (sCh l F T how).take (i + 1) = Y at *
      generalize (sCh l F T how).take i = X at *
      subst hT
      have hhow : how = 4 ∨ how = 5 ∨ how = 6 := by omega
      rcases hhow with rfl | rfl | rfl
      all_goals
        repeat' (first
          | simp (disch := omega) only [wrap_i64, wrap_i32]
          | (simp (disch := first | omega | assumption | (simp only [i64, i32]; omega) | (simp <;> omega) | fail) only [loadD_cpr, loadD_cprs, List.take_of_length_le, appD_acc_rune]; simp [*])
          | (with_reducible refine And.intro ?_ ?_; focus first | omega | decide)
          | (with_reducible refine split_ite (fun hp => ?_) (fun hp => ?_) <;> (try simp at hp) <;> simp [*])
          | (with_reducible refine split_ite1 (fun hp => ?_) (fun hp => ?_) <;> (try simp at hp) <;> simp [*])
          | (refine split_cond (by simp) (fun hp => ?_) (fun hp => ?_) <;> simp at hp <;> simp [*])
          | (refine split_ops (by simp) (fun hp => ?_) (fun hp => ?_) <;> simp at hp <;> simp [*])
          | (refine split_opsD (by simp) (fun hp => ?_) (fun hp => ?_) <;> simp at hp <;> simp [*])
          | (refine split_pick (by simp) (fun hp => ?_) (fun hp => ?_) <;> simp at hp <;> simp [*])
          | omega
          | decide
          | (simp [*]))
      all_goals refine hnext.out _ (by simp [*]) (by simp [*]) (by simp [*]) (by simp [*]) ?_ (by simp [*]) ?_
      all_goals simp [chR, *]
      all_goals first | omega | grind
    · repeat' (first
        | simp (disch := omega) only [wrap_i64, wrap_i32]
        | (simp (disch := first | omega | assumption | (simp only [i64, i32]; omega) | (simp <;> omega) | fail) only [loadD_cpr, loadD_cprs, List.take_of_length_le]; simp [*])
        | (with_reducible refine And.intro ?_ ?_; focus first | omega | decide)
        | (with_reducible refine split_ite (fun hp => ?_) (fun hp => ?_) <;> (try simp at hp) <;> simp [*])
        | (with_reducible refine split_ite1 (fun hp => ?_) (fun hp => ?_) <;> (try simp at hp) <;> simp [*])
        | (refine split_cond (by simp) (fun hp => ?_) (fun hp => ?_) <;> simp at hp <;> simp [*])
        | (refine split_ops (by simp) (fun hp => ?_) (fun hp => ?_) <;> simp at hp <;> simp [*])
        | (refine split_opsD (by simp) (fun hp => ?_) (fun hp => ?_) <;> simp at hp <;> simp [*])
        | (refine split_pick (by simp) (fun hp => ?_) (fun hp => ?_) <;> simp at hp <;> simp [*])
        | omega
        | decide
        | (simp [*]))

end Go.Proofs.YtcaglmjfphjpfaaGreat
