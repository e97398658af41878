/- What the functions of layer 12 compute: getting a text. -/
import Derived.Test.YtcaglmjfphjpfaaGreatKillA
namespace Go.Proofs.YtcaglmjfphjpfaaGreat
open Go E
set_option linter.unusedSimpArgs false
set_option linter.unusedVariables false

def kGet (L : List (List Int)) (t : Int) : List Int × Int :=
  if kIs L = false ∨ t < 0 then ([], 1) else if L.length = 0 then ([], 6) else (L.getD (L.length - 1 - t.toNat % L.length) [], 0)

theorem tmod_nn (u n : Nat) : (u : Int).tmod (n : Int) = ((u % n : Nat) : Int) := (Int.ofNat_tmod u n).symm

theorem kGet_q {L : List (List Int)} {u q : Nat} (hk : kIs L = true) (hn : ¬ L.length = 0) (e : q = u % L.length) (hq : q < L.length) : kGet L u = (L[L.length - 1 - q], 0) := by
  rw [kGet, if_neg (by simp [hk]), if_neg hn, Int.toNat_natCast, ← e, getD_at (by omega)]

@[simp] theorem pc_kill_Get (n : Nat) (L : List (List Int)) (t : Int) (hL : small L) (ht : i64 t) : (W (n + 5)).pc 72 [kD L, .int .i64 t] = some (.tup [rn (kGet L t).1, eD (kGet L t).2]) := by
  apply runs c_kill_Get
  simp only [i64] at ht
  cases hk : kIs L
  · simp [X_kill_Get, nilR, hL, hk, kGet]
  by_cases h0 : t < 0
  · simp [X_kill_Get, nilR, hL, hk, kGet, h0]
  by_cases hn : L.length = 0
  · simp [X_kill_Get, nilR, hL, hk, kGet, h0, hn]
  obtain ⟨u, rfl⟩ := Int.eq_ofNat_of_zero_le (Int.not_lt.1 h0)
  obtain ⟨q, e⟩ : ∃ q, q = u % L.length := ⟨_, rfl⟩
  have hm : (u : Int).tmod L.length = (q : Int) := by rw [tmod_nn, e]
  have hq : q < L.length := by rw [e]; exact Nat.mod_lt _ (by omega)
  have hl := hL.1
  simp [X_kill_Get, nilR, hL, hk, hn, h0, hm]
  repeat' (first
    | simp (disch := omega) only [wrap_i64, wrap_i32]
    | (simp (disch := first | omega | assumption | (simp only [i64, i32]; omega) | (simp <;> omega) | fail) only [loadD_cpr, loadD_cprs, List.take_of_length_le]; simp [*, nilR])
    | (with_reducible refine And.intro ?_ ?_; focus first | omega | decide)
    | (with_reducible refine split_ite (fun hp => ?_) (fun hp => ?_) <;> (try simp at hp) <;> simp [*, nilR])
    | (with_reducible refine split_ite1 (fun hp => ?_) (fun hp => ?_) <;> (try simp at hp) <;> simp [*, nilR])
    | (refine split_cond (by simp) (fun hp => ?_) (fun hp => ?_) <;> simp at hp <;> simp [*, nilR])
    | (refine split_ops (by simp) (fun hp => ?_) (fun hp => ?_) <;> simp at hp <;> simp [*, nilR])
    | (refine split_opsD (by simp) (fun hp => ?_) (fun hp => ?_) <;> simp at hp <;> simp [*, nilR])
    | (refine split_pick (by simp) (fun hp => ?_) (fun hp => ?_) <;> simp at hp <;> simp [*, nilR])
    | omega
    | decide
    | (simp [*, nilR]))
  refine aw_rounds (fun m st => ∃ i : Nat, st.t 2 = .ptr 0 0 1 ∧ st.t 6 = .int .i64 ((L.length - 1 - i : Nat) : Int) ∧ st.t 28 = .int .i64 q ∧ st.t 29 = .int .i64 i ∧ st.h = [⟨[rrn L], 0, true⟩] ∧ i ≤ q ∧ m = q - i + 1 ∧ Keep (True)) ?_ ?_ (n := q - (0) + 1) (by first | omega | (simp; omega)) ?_
  · rintro st ⟨i, hx⟩; omega
  rotate_left
  · exact ⟨0, by first | (simp [*]; done) | (simp [*]; omega) | rfl, by first | (simp [*]; done) | (simp [*]; omega) | rfl, by first | (simp [*]; done) | (simp [*]; omega) | rfl, by first | (simp [*]; done) | (simp [*]; omega) | rfl, by first | (simp [*]; done) | (simp [*]; omega) | rfl, by first | omega | (simp; omega) | simp [*], by first | rfl | (simp; done) | omega, ⟨trivial⟩⟩
  rintro Ja ma ⟨t, h⟩ ⟨i, ea2, ea6, ea28, ea29, hha, fa1, hma, hqa⟩ hJa
  simp only [] at ea2 ea6 ea28 ea29 hha
  subst hha
  simp [ea2, ea6, ea28, ea29]
  repeat' (first
    | simp (disch := omega) only [wrap_i64, wrap_i32]
    | (simp (disch := first | omega | assumption | (simp only [i64, i32]; omega) | (simp <;> omega) | fail) only [loadD_cpr, loadD_cprs, List.take_of_length_le]; simp [*])
    | (with_reducible refine And.intro ?_ ?_; focus first | omega | decide)
    | (with_reducible refine split_ite (fun hp => ?_) (fun hp => ?_) <;> (try simp at hp) <;> simp [*])
    | (with_reducible refine split_ite1 (fun hp => ?_) (fun hp => ?_) <;> (try simp at hp) <;> simp [*])
    | (refine split_cond (by simp) (fun hp => ?_) (fun hp => ?_) <;> simp at hp <;> simp [*])
    | (refine split_ops (by simp) (fun hp => ?_) (fun hp => ?_) <;> simp at hp <;> simp [*])
    | (refine split_opsD (by simp) (fun hp => ?_) (fun hp => ?_) <;> simp at hp <;> simp [*])
    | (refine split_pick (by simp) (fun hp => ?_) (fun hp => ?_) <;> simp at hp <;> simp [*])
    | omega
    | decide
    | (simp [*]))
  · exact hJa.out _ ⟨i + 1, by first | (simp [*]; done) | (simp [*]; omega) | rfl, by first | (simp [*]; done) | (simp [*]; omega) | rfl, by first | (simp [*]; done) | (simp [*]; omega) | rfl, by first | (simp [*]; done) | (simp [*]; omega) | rfl, by first | (simp [*]; done) | (simp [*]; omega) | rfl, by first | omega | (simp; omega) | simp [*], by omega, ⟨trivial⟩⟩
  · have : i = q := by omega
    subst this
    simp [kGet_q hk hn e hq]

@[simp] theorem pc_ref12_Get (n : Nat) (L : List (List Int)) (t : Int) (hL : small L) (ht : i64 t) : (W (n + 5)).pc 57 [kD L, .int .i64 t] = some (.tup [rn (kGet L t).1, eD (kGet L t).2]) := by
  apply runs c_typebarref12_Get
  simp only [i64] at ht
  cases hk : kIs L
  · simp [X_typebarref12_Get, nilR, hL, hk, kGet]
  by_cases h0 : t < 0
  · simp [X_typebarref12_Get, nilR, hL, hk, kGet, h0]
  by_cases hn : L.length = 0
  · simp [X_typebarref12_Get, nilR, hL, hk, kGet, h0, hn]
  obtain ⟨u, rfl⟩ := Int.eq_ofNat_of_zero_le (Int.not_lt.1 h0)
  obtain ⟨q, ⟨e⟩⟩ : ∃ q, Keep (q = u % L.length) := ⟨_, ⟨rfl⟩⟩
  have hm : (u : Int).tmod L.length = (q : Int) := by rw [tmod_nn, e]
  have hq : q < L.length := by rw [e]; exact Nat.mod_lt _ (by omega)
  have hl := hL.1
  simp [X_typebarref12_Get, nilR, hL, hk, hn, h0, hm]
  have hm2 : (u : Int) % L.length = (q : Int) := by rw [e]; rfl
  have ek : Keep (q = u % L.length) := ⟨e⟩
  clear e
  repeat' (first
    | simp (disch := omega) only [wrap_i64, wrap_i32]
    | (simp (disch := first | omega | assumption | (simp only [i64, i32]; omega) | (simp <;> omega) | fail) only [loadD_cpr, loadD_cprs, List.take_of_length_le]; simp [*, nilR])
    | (with_reducible refine And.intro ?_ ?_; focus first | omega | decide)
    | (with_reducible refine split_ite (fun hp => ?_) (fun hp => ?_) <;> (try simp at hp) <;> simp [*, nilR])
    | (with_reducible refine split_ite1 (fun hp => ?_) (fun hp => ?_) <;> (try simp at hp) <;> simp [*, nilR])
    | (refine split_cond (by simp) (fun hp => ?_) (fun hp => ?_) <;> simp at hp <;> simp [*, nilR])
    | (refine split_ops (by simp) (fun hp => ?_) (fun hp => ?_) <;> simp at hp <;> simp [*, nilR])
    | (refine split_opsD (by simp) (fun hp => ?_) (fun hp => ?_) <;> simp at hp <;> simp [*, nilR])
    | (refine split_pick (by simp) (fun hp => ?_) (fun hp => ?_) <;> simp at hp <;> simp [*, nilR])
    | omega
    | decide
    | (simp [*, nilR]))
  rw [kGet_q hk hn ek.out hq]
  exact ⟨by congr 1 <;> (rw [hm2]; omega), rfl⟩

end Go.Proofs.YtcaglmjfphjpfaaGreat
