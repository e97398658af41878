/- What the document's answer for layer 21 tells, and the laws' own functions. -/
import Derived.Test.YtlpgpnjplijgiaaFindB
import Derived.Test.YtlpgpnjplijgiaaPastB
namespace Go.Proofs.Ytlpgpnjplijgiaa
open Go E
set_option linter.unusedSimpArgs false
set_option linter.unusedVariables false

theorem fBack_hit {p : Past} {pat : List Int} {f : Int} {i : Nat} (hk : pIs p = true) (hz : ¬ pat = []) (hin : i < p.L.length) (h1 : (i : Int) ≤ f) (hq : 0 ≤ plL p.L[i] pat) (h0 : ∀ j, i < j → j < p.L.length → (j : Int) ≤ f → hitL p pat j = false) : fBack p pat f = ((i : Int), plL p.L[i] pat, 0) := by
  have hb : bkI (hitL p pat) f p.L.length = some i := bk_hit h1 (by simp only [hitL, getD_at hin]; simpa using hq) _ hin h0
  simp only [fBack, hb, fnd, hk, hz, getD_at hin]
  rfl

theorem fBack_miss {p : Past} {pat : List Int} {f : Int} (hk : pIs p = true) (hz : ¬ pat = []) (h0 : ∀ j, j < p.L.length → (j : Int) ≤ f → hitL p pat j = false) : fBack p pat f = (0, 0, 7) := by
  simp only [fBack, bk_miss _ h0, fnd, hk, hz]
  rfl

theorem fFore_hit {p : Past} {pat : List Int} {f : Int} {i : Nat} (hk : pIs p = true) (hz : ¬ pat = []) (hin : i < p.L.length) (h1 : f ≤ (i : Int)) (hq : 0 ≤ plL p.L[i] pat) (h0 : ∀ j, j < i → f ≤ (j : Int) → hitL p pat j = false) : fFore p pat f = ((i : Int), plL p.L[i] pat, 0) := by
  have hb : fwI (hitL p pat) f p.L.length = some i := fw_hit h1 (by simp only [hitL, getD_at hin]; simpa using hq) hin h0
  simp only [fFore, hb, fnd, hk, hz, getD_at hin]
  rfl

theorem fFore_miss {p : Past} {pat : List Int} {f : Int} (hk : pIs p = true) (hz : ¬ pat = []) (h0 : ∀ j, j < p.L.length → f ≤ (j : Int) → hitL p pat j = false) : fFore p pat f = (0, 0, 7) := by
  simp only [fFore, fw_miss h0, fnd, hk, hz]
  rfl

theorem fPre_hit {p : Past} {pat : List Int} {f : Int} {i : Nat} (hk : pIs p = true) (hin : i < p.L.length) (h1 : (i : Int) ≤ f) (hq : stL p.L[i] pat = true) (h0 : ∀ j, i < j → j < p.L.length → (j : Int) ≤ f → stL (p.L.getD j []) pat = false) : fPre p pat f = ((i : Int), 0) := by
  have hb : bkI (fun j => stL (p.L.getD j []) pat) f p.L.length = some i := bk_hit h1 (by simp only [getD_at hin]; exact hq) _ hin h0
  simp only [fPre, hb, hk]
  rfl

theorem fPre_miss {p : Past} {pat : List Int} {f : Int} (hk : pIs p = true) (h0 : ∀ j, j < p.L.length → (j : Int) ≤ f → stL (p.L.getD j []) pat = false) : fPre p pat f = (0, 7) := by
  simp only [fPre, bk_miss _ h0, hk]
  rfl

/-- One less. -/
theorem dn_step {q : Nat → Bool} {k n : Nat} {f : Int} (h : ∀ j, k ≤ j → j < n → (j : Int) ≤ f → q j = false) (h1 : (((k - 1 : Nat)) : Int) ≤ f → q (k - 1) = false) : ∀ j, k - 1 ≤ j → j < n → (j : Int) ≤ f → q j = false := by
  intro j a b c
  by_cases e : j = k - 1
  · subst e; exact h1 c
  · exact h j (by omega) b c

/-- One more. -/
theorem up_step {q : Nat → Bool} {k : Nat} {f : Int} (h : ∀ j, j < k → f ≤ (j : Int) → q j = false) (h1 : f ≤ (k : Int) → q k = false) : ∀ j, j < k + 1 → f ≤ (j : Int) → q j = false := by
  intro j a b
  by_cases e : j = k
  · subst e; exact h1 b
  · exact h j (by omega) b

theorem hit_no {p : Past} {pat : List Int} {i : Nat} (hin : i < p.L.length) (h : plL p.L[i] pat < 0) : hitL p pat i = false := by
  simp only [hitL, getD_at hin]
  simpa using h

theorem st_no {p : Past} {pat : List Int} {i : Nat} (hin : i < p.L.length) (h : stL p.L[i] pat = false) : stL (p.L.getD i []) pat = false := by
  rw [getD_at hin]; exact h

theorem pc_ref21_Back (n : Nat) (p : Past) (pat : List Int) (f : Int) (hp : small p.L) (hpat : pat.length < 2000000) : (W (n + 9)).pc 22 [pD p, rn pat, .int .i64 f] = some (fndD (fBack p pat f)) := by
  apply runs c_typebarref21_Back
  cases hk : pIs p
  · simp [X_typebarref21_Back, hp, hk, fBack, fnd]
  by_cases hz : pat = []
  · simp [X_typebarref21_Back, hp, hk, hz, fBack, fnd]
  have hz0 : ¬ pat.length = 0 := by simpa using hz
  obtain ⟨hL, hl⟩ := hp
  have hp : small p.L := ⟨hL, hl⟩
  simp [X_typebarref21_Back, hp, hk, hz, hz0]
  repeat' (first
    | simp (disch := omega) only [wrap_i64, wrap_i32]
    | (simp (disch := first | omega | assumption | (simp only [i64, i32]; omega) | (simp <;> omega) | fail) only [loadD_cpr, loadD_cprs, List.take_of_length_le]; simp [*])
    | (with_reducible refine And.intro ?_ ?_; focus first | omega | decide)
    | (with_reducible refine split_ite (fun hp => ?_) (fun hp => ?_) <;> (try simp at hp) <;> simp [*])
    | (with_reducible refine split_ite1 (fun hp => ?_) (fun hp => ?_) <;> (try simp at hp) <;> simp [*])
    | (refine split_cond (by simp) (fun hp => ?_) (fun hp => ?_) <;> simp at hp <;> simp [*])
    | (refine split_ops (by simp) (fun hp => ?_) (fun hp => ?_) <;> simp at hp <;> simp [*])
    | (refine split_opsD (by simp) (fun hp => ?_) (fun hp => ?_) <;> simp at hp <;> simp [*])
    | (refine split_pick (by simp) (fun hp => ?_) (fun hp => ?_) <;> simp at hp <;> simp [*])
    | omega
    | decide
    | (simp [*]))
  refine aw_rounds (fun m st => ∃ k : Nat, st = ⟨tab [(1, rn pat), (2, .int .i64 f), (3, .ptr 0 0 3), (9, .int .i64 ((k : Int) - 1))], [⟨[.int .i64 p.room, .int .i64 p.dup, rrn p.L], 0, true⟩]⟩ ∧ k ≤ p.L.length ∧ m = k + 1 ∧ Keep (∀ j, k ≤ j → j < p.L.length → (j : Int) ≤ f → hitL p pat j = false)) ?_ ?_ (n := (p.L.length) + 1) (by first | omega | (simp; omega)) ?_
  · rintro st ⟨k, hx⟩; omega
  rotate_left
  · exact ⟨p.L.length, by first | rfl | (simp [*, accS, accH]; done) | (simp only [*]; done) | (congr 1 <;> simp [*, accS, accH]; done) | (congr 1 <;> simp [*, accS, accH] <;> rfl) | (congr 1 <;> congr 1 <;> simp <;> omega), by first | omega | (simp; omega) | simp [*], by first | rfl | (simp; done) | omega, ⟨fun j a b => by omega⟩⟩
  rintro Ja ma _ ⟨k, rfl, fa1, hma, hqa⟩ hJa
  have hs : ∀ h : ((k : Int) - 1).toNat < p.L.length, p.L[((k : Int) - 1).toNat].length < 2000000 := fun h => hl _ (List.getElem_mem h)
  simp
  repeat' (first
    | simp (disch := omega) only [wrap_i64, wrap_i32]
    | (simp (disch := first | omega | assumption | (simp only [i64, i32]; omega) | (simp <;> omega) | fail) only [loadD_cpr, loadD_cprs, List.take_of_length_le, pc_ref21_Place]; simp [*])
    | (with_reducible refine And.intro ?_ ?_; focus first | omega | decide)
    | (with_reducible refine split_ite (fun hp => ?_) (fun hp => ?_) <;> (try simp at hp) <;> simp [*])
    | (with_reducible refine split_ite1 (fun hp => ?_) (fun hp => ?_) <;> (try simp at hp) <;> simp [*])
    | (refine split_cond (by simp) (fun hp => ?_) (fun hp => ?_) <;> simp at hp <;> simp [*])
    | (refine split_ops (by simp) (fun hp => ?_) (fun hp => ?_) <;> simp at hp <;> simp [*])
    | (refine split_opsD (by simp) (fun hp => ?_) (fun hp => ?_) <;> simp at hp <;> simp [*])
    | (refine split_pick (by simp) (fun hp => ?_) (fun hp => ?_) <;> simp at hp <;> simp [*])
    | omega
    | decide
    | (simp [*]))
  · rw [fBack_hit (i := k - 1) hk hz (by omega) (by omega) hp fun j a b c => hqa.out j (by omega) b c]
    simp
    omega
  · exact hJa.out _ ⟨k - 1, by first | rfl | (simp [*, accS, accH]; done) | (simp only [*]; done) | (congr 1 <;> simp [*, accS, accH]; done) | (congr 1 <;> simp [*, accS, accH] <;> rfl) | (congr 1 <;> congr 1 <;> simp <;> omega), by first | omega | (simp; omega) | simp [*], by omega, ⟨dn_step hqa.out fun _ => hit_no (by omega) hp⟩⟩
  · exact hJa.out _ ⟨k - 1, by first | rfl | (simp [*, accS, accH]; done) | (simp only [*]; done) | (congr 1 <;> simp [*, accS, accH]; done) | (congr 1 <;> simp [*, accS, accH] <;> rfl) | (congr 1 <;> congr 1 <;> simp <;> omega), by first | omega | (simp; omega) | simp [*], by omega, ⟨dn_step hqa.out fun _ => by omega⟩⟩
  · rw [fBack_miss hk hz fun j a b => hqa.out j (by omega) a b]
    simp

theorem pc_ref21_Fore (n : Nat) (p : Past) (pat : List Int) (f : Int) (hp : small p.L) (hpat : pat.length < 2000000) : (W (n + 9)).pc 24 [pD p, rn pat, .int .i64 f] = some (fndD (fFore p pat f)) := by
  apply runs c_typebarref21_Fore
  cases hk : pIs p
  · simp [X_typebarref21_Fore, hp, hk, fFore, fnd]
  by_cases hz : pat = []
  · simp [X_typebarref21_Fore, hp, hk, hz, fFore, fnd]
  have hz0 : ¬ pat.length = 0 := by simpa using hz
  obtain ⟨hL, hl⟩ := hp
  have hp : small p.L := ⟨hL, hl⟩
  simp [X_typebarref21_Fore, hp, hk, hz, hz0]
  repeat' (first
    | simp (disch := omega) only [wrap_i64, wrap_i32]
    | (simp (disch := first | omega | assumption | (simp only [i64, i32]; omega) | (simp <;> omega) | fail) only [loadD_cpr, loadD_cprs, List.take_of_length_le]; simp [*])
    | (with_reducible refine And.intro ?_ ?_; focus first | omega | decide)
    | (with_reducible refine split_ite (fun hp => ?_) (fun hp => ?_) <;> (try simp at hp) <;> simp [*])
    | (with_reducible refine split_ite1 (fun hp => ?_) (fun hp => ?_) <;> (try simp at hp) <;> simp [*])
    | (refine split_cond (by simp) (fun hp => ?_) (fun hp => ?_) <;> simp at hp <;> simp [*])
    | (refine split_ops (by simp) (fun hp => ?_) (fun hp => ?_) <;> simp at hp <;> simp [*])
    | (refine split_opsD (by simp) (fun hp => ?_) (fun hp => ?_) <;> simp at hp <;> simp [*])
    | (refine split_pick (by simp) (fun hp => ?_) (fun hp => ?_) <;> simp at hp <;> simp [*])
    | omega
    | decide
    | (simp [*]))
  refine aw_rounds (fun m st => ∃ k : Nat, st = ⟨tab [(1, rn pat), (2, .int .i64 f), (3, .ptr 0 0 3), (9, .int .i64 k)], [⟨[.int .i64 p.room, .int .i64 p.dup, rrn p.L], 0, true⟩]⟩ ∧ k ≤ p.L.length ∧ m = p.L.length - k + 1 ∧ Keep (∀ j, j < k → f ≤ (j : Int) → hitL p pat j = false)) ?_ ?_ (n := p.L.length - (0) + 1) (by first | omega | (simp; omega)) ?_
  · rintro st ⟨k, hx⟩; omega
  rotate_left
  · exact ⟨0, by first | rfl | (simp [*, accS, accH]; done) | (simp only [*]; done) | (congr 1 <;> simp [*, accS, accH]; done) | (congr 1 <;> simp [*, accS, accH] <;> rfl) | (congr 1 <;> congr 1 <;> simp <;> omega), by first | omega | (simp; omega) | simp [*], by first | rfl | (simp; done) | omega, ⟨fun j a b => by omega⟩⟩
  rintro Ja ma _ ⟨k, rfl, fa1, hma, hqa⟩ hJa
  have hs : ∀ h : k < p.L.length, p.L[k].length < 2000000 := fun h => hl _ (List.getElem_mem h)
  simp
  repeat' (first
    | simp (disch := omega) only [wrap_i64, wrap_i32]
    | (simp (disch := first | omega | assumption | (simp only [i64, i32]; omega) | (simp <;> omega) | fail) only [loadD_cpr, loadD_cprs, List.take_of_length_le, pc_ref21_Place]; simp [*])
    | (with_reducible refine And.intro ?_ ?_; focus first | omega | decide)
    | (with_reducible refine split_ite (fun hp => ?_) (fun hp => ?_) <;> (try simp at hp) <;> simp [*])
    | (with_reducible refine split_ite1 (fun hp => ?_) (fun hp => ?_) <;> (try simp at hp) <;> simp [*])
    | (refine split_cond (by simp) (fun hp => ?_) (fun hp => ?_) <;> simp at hp <;> simp [*])
    | (refine split_ops (by simp) (fun hp => ?_) (fun hp => ?_) <;> simp at hp <;> simp [*])
    | (refine split_opsD (by simp) (fun hp => ?_) (fun hp => ?_) <;> simp at hp <;> simp [*])
    | (refine split_pick (by simp) (fun hp => ?_) (fun hp => ?_) <;> simp at hp <;> simp [*])
    | omega
    | decide
    | (simp [*]))
  · rw [fFore_hit (i := k) hk hz (by omega) (by omega) hp hqa.out]
    simp
  · exact hJa.out _ ⟨k + 1, by first | rfl | (simp [*, accS, accH]; done) | (simp only [*]; done) | (congr 1 <;> simp [*, accS, accH]; done) | (congr 1 <;> simp [*, accS, accH] <;> rfl) | (congr 1 <;> congr 1 <;> simp <;> omega), by first | omega | (simp; omega) | simp [*], by omega, ⟨up_step hqa.out fun _ => hit_no (by omega) hp⟩⟩
  · exact hJa.out _ ⟨k + 1, by first | rfl | (simp [*, accS, accH]; done) | (simp only [*]; done) | (congr 1 <;> simp [*, accS, accH]; done) | (congr 1 <;> simp [*, accS, accH] <;> rfl) | (congr 1 <;> congr 1 <;> simp <;> omega), by first | omega | (simp; omega) | simp [*], by omega, ⟨up_step hqa.out fun _ => by omega⟩⟩
  · rw [fFore_miss hk hz fun j a b => hqa.out j (by omega) b]
    simp

@[simp] theorem pc_st0 (n : Nat) (l pat : List Int) (hl : l.length < 2000000) (hp : pat.length < 2000000) : (W (n + 2)).pc 40 [rn l, rn pat, .int .i64 0] = some (.bool (stL l pat)) := by
  have := pc_ref21_Stands n l pat 0 hl hp (Nat.zero_le _)
  simpa using this

theorem pc_ref21_Prefix (n : Nat) (p : Past) (pat : List Int) (f : Int) (hp : small p.L) (hpat : pat.length < 2000000) : (W (n + 9)).pc 26 [pD p, rn pat, .int .i64 f] = some (.tup [.int .i64 (fPre p pat f).1, eD (fPre p pat f).2]) := by
  apply runs c_typebarref21_Prefix
  cases hk : pIs p
  · simp [X_typebarref21_Prefix, hp, hk, fPre]
  obtain ⟨hL, hl⟩ := hp
  have hp : small p.L := ⟨hL, hl⟩
  simp [X_typebarref21_Prefix, hp, hk]
  repeat' (first
    | simp (disch := omega) only [wrap_i64, wrap_i32]
    | (simp (disch := first | omega | assumption | (simp only [i64, i32]; omega) | (simp <;> omega) | fail) only [loadD_cpr, loadD_cprs, List.take_of_length_le]; simp [*])
    | (with_reducible refine And.intro ?_ ?_; focus first | omega | decide)
    | (with_reducible refine split_ite (fun hp => ?_) (fun hp => ?_) <;> (try simp at hp) <;> simp [*])
    | (with_reducible refine split_ite1 (fun hp => ?_) (fun hp => ?_) <;> (try simp at hp) <;> simp [*])
    | (refine split_cond (by simp) (fun hp => ?_) (fun hp => ?_) <;> simp at hp <;> simp [*])
    | (refine split_ops (by simp) (fun hp => ?_) (fun hp => ?_) <;> simp at hp <;> simp [*])
    | (refine split_opsD (by simp) (fun hp => ?_) (fun hp => ?_) <;> simp at hp <;> simp [*])
    | (refine split_pick (by simp) (fun hp => ?_) (fun hp => ?_) <;> simp at hp <;> simp [*])
    | omega
    | decide
    | (simp [*]))
  refine aw_rounds (fun m st => ∃ k : Nat, st = ⟨tab [(1, rn pat), (2, .int .i64 f), (3, .ptr 0 0 3), (8, .int .i64 ((k : Int) - 1))], [⟨[.int .i64 p.room, .int .i64 p.dup, rrn p.L], 0, true⟩]⟩ ∧ k ≤ p.L.length ∧ m = k + 1 ∧ Keep (∀ j, k ≤ j → j < p.L.length → (j : Int) ≤ f → stL (p.L.getD j []) pat = false)) ?_ ?_ (n := (p.L.length) + 1) (by first | omega | (simp; omega)) ?_
  · rintro st ⟨k, hx⟩; omega
  rotate_left
  · exact ⟨p.L.length, by first | rfl | (simp [*, accS, accH]; done) | (simp only [*]; done) | (congr 1 <;> simp [*, accS, accH]; done) | (congr 1 <;> simp [*, accS, accH] <;> rfl) | (congr 1 <;> congr 1 <;> simp <;> omega), by first | omega | (simp; omega) | simp [*], by first | rfl | (simp; done) | omega, ⟨fun j a b => by omega⟩⟩
  rintro Ja ma _ ⟨k, rfl, fa1, hma, hqa⟩ hJa
  have hs : ∀ h : ((k : Int) - 1).toNat < p.L.length, p.L[((k : Int) - 1).toNat].length < 2000000 := fun h => hl _ (List.getElem_mem h)
  simp
  repeat' (first
    | simp (disch := omega) only [wrap_i64, wrap_i32]
    | (simp (disch := first | omega | assumption | (simp only [i64, i32]; omega) | (simp <;> omega) | fail) only [loadD_cpr, loadD_cprs, List.take_of_length_le, pc_st0]; simp [*])
    | (with_reducible refine And.intro ?_ ?_; focus first | omega | decide)
    | (with_reducible refine split_ite (fun hp => ?_) (fun hp => ?_) <;> (try simp at hp) <;> simp [*])
    | (with_reducible refine split_ite1 (fun hp => ?_) (fun hp => ?_) <;> (try simp at hp) <;> simp [*])
    | (refine split_cond (by simp) (fun hp => ?_) (fun hp => ?_) <;> simp at hp <;> simp [*])
    | (refine split_ops (by simp) (fun hp => ?_) (fun hp => ?_) <;> simp at hp <;> simp [*])
    | (refine split_opsD (by simp) (fun hp => ?_) (fun hp => ?_) <;> simp at hp <;> simp [*])
    | (refine split_pick (by simp) (fun hp => ?_) (fun hp => ?_) <;> simp at hp <;> simp [*])
    | omega
    | decide
    | (simp [*]))
  · rw [fPre_hit (i := k - 1) hk (by omega) (by omega) hp fun j a b c => hqa.out j (by omega) b c]
    simp
    omega
  · exact hJa.out _ ⟨k - 1, by first | rfl | (simp [*, accS, accH]; done) | (simp only [*]; done) | (congr 1 <;> simp [*, accS, accH]; done) | (congr 1 <;> simp [*, accS, accH] <;> rfl) | (congr 1 <;> congr 1 <;> simp <;> omega), by first | omega | (simp; omega) | simp [*], by omega, ⟨dn_step hqa.out fun _ => st_no (by omega) hp⟩⟩
  · exact hJa.out _ ⟨k - 1, by first | rfl | (simp [*, accS, accH]; done) | (simp only [*]; done) | (congr 1 <;> simp [*, accS, accH]; done) | (congr 1 <;> simp [*, accS, accH] <;> rfl) | (congr 1 <;> congr 1 <;> simp <;> omega), by first | omega | (simp; omega) | simp [*], by omega, ⟨dn_step hqa.out fun _ => by omega⟩⟩
  · rw [fPre_miss hk fun j a b => hqa.out j (by omega) a b]
    simp

def fBig (p : Past) (l : List Int) : Bool := decide (100 < p.L.length) || decide (300 < l.length) || p.L.any fun x => decide (300 < x.length)

theorem pc_fBig (n : Nat) (p : Past) (l : List Int) : (W (n + 1)).pc 20 [pD p, rn l] = some (.bool (fBig p l)) := by
  apply runs c_typebarlaw21_big
  simp [X_typebarlaw21_big]
  refine aw_rounds (fun m st => ∃ i : Nat, st.t 1 = rn l ∧ st.t 2 = .ptr 0 0 3 ∧ st.t 5 = .int .i64 i ∧ st.h = [⟨[.int .i64 p.room, .int .i64 p.dup, rrn p.L], 0, true⟩] ∧ i ≤ p.L.length ∧ i ≤ 100 ∧ m = 100 - i + 1 ∧ Keep ((p.L.take i).any (fun x => decide (300 < x.length)) = false)) ?_ ?_ (n := 100 - (0) + 1) (by first | omega | (simp; omega)) ?_
  · rintro st ⟨i, hx⟩; omega
  rotate_left
  · exact ⟨0, by first | (simp [*]; done) | (simp [*]; omega) | rfl, by first | (simp [*]; done) | (simp [*]; omega) | rfl, by first | (simp [*]; done) | (simp [*]; omega) | rfl, by first | (simp [*]; done) | (simp [*]; omega) | rfl, by first | omega | (simp; omega) | simp [*], by first | omega | (simp; omega) | simp [*], by first | rfl | (simp; done) | omega, ⟨by simp⟩⟩
  rintro Ja ma ⟨t, h⟩ ⟨i, ea1, ea2, ea5, hha, fa1, fa2, hma, hqa⟩ hJa
  simp only [] at ea1 ea2 ea5 hha
  subst hha
  simp [ea1, ea2, ea5]
  repeat' (first
    | simp (disch := omega) only [wrap_i64, wrap_i32]
    | (simp (disch := first | omega | assumption | (simp only [i64, i32]; omega) | (simp <;> omega) | fail) only [loadD_cpr, loadD_cprs, List.take_of_length_le]; simp [*])
    | (with_reducible refine And.intro ?_ ?_; focus first | omega | decide)
    | (with_reducible refine split_ite (fun hp => ?_) (fun hp => ?_) <;> (try simp at hp) <;> simp [*])
    | (with_reducible refine split_ite1 (fun hp => ?_) (fun hp => ?_) <;> (try simp at hp) <;> simp [*])
    | (refine split_cond (by simp) (fun hp => ?_) (fun hp => ?_) <;> simp at hp <;> simp [*])
    | (refine split_ops (by simp) (fun hp => ?_) (fun hp => ?_) <;> simp at hp <;> simp [*])
    | (refine split_opsD (by simp) (fun hp => ?_) (fun hp => ?_) <;> simp at hp <;> simp [*])
    | (refine split_pick (by simp) (fun hp => ?_) (fun hp => ?_) <;> simp at hp <;> simp [*])
    | omega
    | decide
    | (simp [*]))
  · simp only [fBig, any_yes (p := fun x : List Int => decide (300 < x.length)) (l := p.L) (i := i) (by assumption) (by simp; omega), Bool.or_true]
  · exact hJa.out _ ⟨i + 1, by first | (simp [*]; done) | (simp [*]; omega) | rfl, by first | (simp [*]; done) | (simp [*]; omega) | rfl, by first | (simp [*]; done) | (simp [*]; omega) | rfl, by first | (simp [*]; done) | (simp [*]; omega) | rfl, by first | omega | (simp; omega) | simp [*], by first | omega | (simp; omega) | simp [*], by omega, ⟨by rw [List.take_succ_eq_append_getElem (by assumption), List.any_append, hqa.out]; simp; omega⟩⟩
  · simp [fBig]; omega
  · have := hqa.out
    rw [List.take_of_length_le (by omega)] at this
    rw [Bool.eq_iff_iff]; simp only [fBig, this]; simp; omega

theorem fBig_small {p : Past} {l : List Int} (h : fBig p l = false) : small p.L ∧ l.length ≤ 300 ∧ p.L.length ≤ 100 ∧ ∀ x ∈ p.L, x.length ≤ 300 := by
  simp only [fBig, Bool.or_eq_false_iff, decide_eq_false_iff_not, List.any_eq_false, decide_eq_true_eq] at h
  refine ⟨⟨by omega, fun x hx => ?_⟩, by omega, by omega, fun x hx => ?_⟩
  · have := h.2 x hx; omega
  · have := h.2 x hx; omega

theorem small_bears {L : List (List Int)} (h : small L) : bearsL L := ⟨by have := h.1; omega, fun l hl => by have := h.2 l hl; omega⟩

theorem pc_found (n : Nat) : (W (n + 16)).pc 17 [] = some (.bool true) := by kernel_rfl

end Go.Proofs.Ytlpgpnjplijgiaa
