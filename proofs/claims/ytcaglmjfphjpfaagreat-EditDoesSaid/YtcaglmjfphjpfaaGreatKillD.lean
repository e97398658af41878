/- What the laws of layer 12 compute. -/
import Derived.Test.YtcaglmjfphjpfaaGreatKillC
import Derived.Test.YtcaglmjfphjpfaaGreatGapC
namespace Go.Proofs.YtcaglmjfphjpfaaGreat
open Go E
set_option linter.unusedSimpArgs false
set_option linter.unusedVariables false
set_option maxRecDepth 100000

theorem killBig_small {L : List (List Int)} {l : List Int} (h : killBig L l = false) : small L ∧ l.length ≤ 1000 ∧ L.length ≤ 100 ∧ ∀ x ∈ L, x.length ≤ 1000 := by
  simp only [killBig, Bool.or_eq_false_iff, decide_eq_false_iff_not, List.any_eq_false, decide_eq_true_eq] at h
  refine ⟨⟨by omega, fun x hx => ?_⟩, by omega, by omega, fun x hx => ?_⟩
  · have := h.2 x hx; omega
  · have := h.2 x hx; omega

theorem mem_getD {L : List (List Int)} (i : Nat) : L.getD i [] ∈ L ∨ L.getD i [] = [] := by
  rw [List.getD_eq_getElem?_getD]
  rcases Nat.lt_or_ge i L.length with h | h
  · left; rw [List.getElem?_eq_getElem h]; exact List.getElem_mem h
  · right; rw [List.getElem?_eq_none h]; rfl

theorem getD_len {L : List (List Int)} {m : Nat} (h : ∀ x ∈ L, x.length ≤ m) (i : Nat) : (L.getD i []).length ≤ m := by
  rcases mem_getD (L := L) i with h1 | h1
  · exact h _ h1
  · rw [h1]; simp

theorem kGet_len {L : List (List Int)} {m : Nat} (h : ∀ x ∈ L, x.length ≤ m) (t : Int) : (kGet L t).1.length ≤ m := by
  simp only [kGet]
  split
  · simp
  split
  · simp
  · exact getD_len h _

theorem kAdd_len {L : List (List Int)} {l : List Int} (how : Int) (h : ∀ x ∈ L, x.length ≤ 1000) (hl : l.length ≤ 1000) (hL : L.length ≤ 100) : (kAdd L l how).length ≤ 101 ∧ ∀ x ∈ kAdd L l how, x.length ≤ 2000 := by
  have hg := getD_len h (L.length - 1)
  simp only [kAdd]
  split
  · exact ⟨by omega, fun x hx => by have := h x hx; omega⟩
  split
  · refine ⟨by simp; omega, fun x hx => ?_⟩
    rcases List.mem_append.1 hx with hx | hx
    · have := h x (List.mem_of_mem_drop hx); omega
    · simp at hx; subst hx; omega
  · refine ⟨by simp; omega, fun x hx => ?_⟩
    rcases List.mem_append.1 hx with hx | hx
    · have := h x (List.mem_of_mem_take hx); omega
    · simp only [List.mem_singleton] at hx; subst hx; split <;> rw [List.length_append] <;> omega

theorem kAdd_small {L : List (List Int)} {l : List Int} (how : Int) (h : ∀ x ∈ L, x.length ≤ 1000) (hl : l.length ≤ 1000) (hL : L.length ≤ 100) : small (kAdd L l how) := by
  obtain ⟨h1, h2⟩ := kAdd_len how h hl hL
  exact ⟨by omega, fun x hx => by have := h2 x hx; omega⟩



theorem kGet_zero {L : List (List Int)} (hk : kIs L = true) (i : Nat) (hi : i < L.length) : kGet L (i : Int) = (L[L.length - 1 - i], 0) :=
  kGet_q hk (by omega) (Nat.mod_eq_of_lt hi).symm hi

theorem kIs_mk {L : List (List Int)} (h : L.length ≤ 8) (h2 : ∀ l ∈ L, kOne l = true) : kIs L = true := by
  simp only [kIs, Bool.and_eq_true, decide_eq_true_eq, List.all_eq_true]; exact ⟨h, h2⟩

theorem kOne_mk {l : List Int} (h : 0 < l.length) (h2 : l.length ≤ 200) (h3 : allR l = true) : kOne l = true := by
  simp [kOne, h, h2, h3]

/-- What is added: a new text, or one that is joined. -/
theorem kAdd_new {L : List (List Int)} {l : List Int} (how : Int) (hk : kIs L = true) (ho : kOne l = true) :
    (kAdd L l how = L.drop (L.length + 1 - 8) ++ [l] ∧ kIs (L.drop (L.length + 1 - 8) ++ [l]) = true) ∨
    ∃ x, how ≠ 0 ∧ 0 < L.length ∧ L.getD (L.length - 1) [] = x ∧ x.length + l.length ≤ 200 ∧ kOne x = true ∧ kAdd L l how = L.take (L.length - 1) ++ [if how < 0 then l ++ x else x ++ l] ∧ kIs (L.take (L.length - 1) ++ [if how < 0 then l ++ x else x ++ l]) = true := by
  obtain ⟨k1, k2⟩ := kIs_len hk
  obtain ⟨o1, o2, o3⟩ := kOne_len ho
  by_cases h : how = 0 ∨ L.length = 0 ∨ 200 < (L.getD (L.length - 1) []).length + l.length
  · left
    refine ⟨by rw [kAdd, if_neg (by simp [hk, ho]), if_pos h], kIs_mk (by simp; omega) fun x hx => ?_⟩
    rcases List.mem_append.1 hx with hx | hx
    · exact k2 x (List.mem_of_mem_drop hx)
    · rw [List.mem_singleton.1 hx]; exact ho
  · right
    have hm : L.getD (L.length - 1) [] = L[L.length - 1]'(by omega) := getD_at (by omega) _
    have hx := k2 _ (List.getElem_mem (show L.length - 1 < L.length by omega))
    obtain ⟨x1, x2, x3⟩ := kOne_len hx
    refine ⟨L[L.length - 1]'(by omega), by omega, by omega, hm, by rw [← hm]; omega, hx, by rw [kAdd, if_neg (by simp [hk, ho]), if_neg h, hm], kIs_mk (by simp; omega) fun y hy => ?_⟩
    rw [hm] at h
    rcases List.mem_append.1 hy with hy | hy
    · exact k2 y (List.mem_of_mem_take hy)
    · rw [List.mem_singleton.1 hy]
      split
      · exact kOne_mk (by rw [List.length_append]; omega) (by rw [List.length_append]; omega) (by simp [o3, x3])
      · exact kOne_mk (by rw [List.length_append]; omega) (by rw [List.length_append]; omega) (by simp [o3, x3])

theorem kGet_last {L : List (List Int)} {x : List Int} (hk : kIs (L ++ [x]) = true) : kGet (L ++ [x]) 0 = (x, 0) := by
  have := kGet_zero hk 0 (by simp)
  simpa using this

theorem kGet_none : kGet [] 0 = ([], 6) := by decide



theorem ty_runes {d : Nat} {p : List D} (h : TyD Tryz.prog (d + 2) 22 p) : ∃ a, p = rrC.enc a ∧ True := by
  obtain ⟨b, rfl, _, _⟩ := ty_row (C := runeC) (Q := i32) (e := 21) (by kernel_rfl) (fun p hp => ty_rune (by kernel_rfl) hp) h
  exact ⟨b, rfl, trivial⟩

theorem arg_kills {x : D} (h : ArgD Tryz.prog 27 x) : ∃ L : List (List Int), x = kD L := by
  obtain ⟨ds, rfl, hl⟩ := arg_struct (ts := [25]) (by kernel_rfl) h
  obtain ⟨p, r, rfl, h1, hl⟩ := tyL_cons hl
  have := tyL_nil hl
  subst this
  obtain ⟨a, rfl, _, _⟩ := ty_row (C := rrC) (Q := fun _ => True) (e := 22) (by kernel_rfl) (fun p hp => ty_runes hp) h1
  exact ⟨a, rfl⟩

end Go.Proofs.YtcaglmjfphjpfaaGreat
