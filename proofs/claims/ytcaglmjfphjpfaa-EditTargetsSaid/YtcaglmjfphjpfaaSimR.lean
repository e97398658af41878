/- A part of the store, its blocks numbered anew: what stands for what there. -/
import Derived.Test.YtcaglmjfphjpfaaSimF
namespace Go.Proofs.Ytcaglmjfphjpfaa.E
open Go
set_option linter.unusedSimpArgs false
set_option linter.unusedVariables false

/-- Where the blocks of one store lie in another one. -/
def Moves (ρ : Nat → Option Nat) (φ : List Nat) (h : List Blk) (φ2 : List Nat) (h2 : List Blk) : Prop :=
  ∀ b b' k, ρ b = some b' → h[b]? = some k → ∃ k2, h2[b']? = some k2 ∧ k2.box = k.box ∧ k2.cs.length = k.cs.length ∧ φ2[b']? = φ[b]?

section
variable {w : World} {Pr : Nat → Nat → Prop} {φ φ2 : List Nat} {h h2 : List Blk} {ρ : Nat → Option Nat}

mutual
theorem ren_rep (mv : Moves ρ φ h φ2 h2) : (d d' : D) → (v : Value) → d.ren ρ = some d' → Rep w Pr φ h d v → Rep w Pr φ2 h2 d' v
  | .int k n, d', v, e, r => by simp only [D.ren, Option.some.injEq] at e; subst e; exact r
  | .bool b, d', v, e, r => by simp only [D.ren, Option.some.injEq] at e; subst e; exact r
  | .str s, d', v, e, r => by simp only [D.ren, Option.some.injEq] at e; subst e; exact r
  | .arr n full cs, d', v, e, r => by simp only [D.ren, Option.some.injEq] at e; subst e; simpa only [Rep] using r
  | .cptr cs, d', v, e, r => by simp only [D.ren, Option.some.injEq] at e; subst e; simpa only [Rep] using r
  | .nilp, d', v, e, r => by simp only [D.ren, Option.some.injEq] at e; subst e; exact r
  | .nilf, d', v, e, r => by simp only [D.ren, Option.some.injEq] at e; subst e; exact r
  | .nili, d', v, e, r => by simp only [D.ren, Option.some.injEq] at e; subst e; exact r
  | .any, d', v, e, r => by simp only [D.ren, Option.some.injEq] at e; subst e; exact r
  | .anyb, d', v, e, r => by simp only [D.ren, Option.some.injEq] at e; subst e; exact r
  | .ref b off n sz gen full, d', v, e, r => by
    simp only [D.ren] at e
    split at e <;> simp at e
    rename_i b' hb
    subst e
    simp only [Rep] at r ⊢
    obtain ⟨a, cap, blk, h1, h2', h3, h4, h5, h6, h7, h8, h9⟩ := r
    obtain ⟨k2, g1, g2, g3, g4⟩ := mv b b' blk hb h6
    refine ⟨a, cap, k2, h1, h2', h3, h4, h5, g1, g2.trans h7, by omega, fun hg => ?_⟩
    obtain ⟨c, q1, q2⟩ := h9 (by omega)
    exact ⟨c, g4.trans q1, q2⟩
  | .ptr b off gen, d', v, e, r => by
    simp only [D.ren] at e
    split at e <;> simp at e
    rename_i b' hb
    subst e
    simp only [Rep] at r ⊢
    obtain ⟨ad, blk, h1, h6, h8, h9⟩ := r
    obtain ⟨k2, g1, g2, g3, g4⟩ := mv b b' blk hb h6
    refine ⟨ad, k2, h1, g1, by omega, fun hg => ?_⟩
    obtain ⟨c, q1, q2⟩ := h9 (by omega)
    exact ⟨c, g4.trans q1, q2⟩
  | .agg cs, d', v, e, r => by
    simp only [D.ren] at e
    split at e <;> simp at e
    rename_i cs' hc
    subst e
    simp only [Rep] at r ⊢
    obtain ⟨vs, h1, h2', h3⟩ := r
    obtain ⟨q1, q2⟩ := renL_rep mv cs cs' _ hc h3
    exact ⟨vs, h1, by rw [q2]; exact h2', q1⟩
  | .tup cs, d', v, e, r => by
    simp only [D.ren] at e
    split at e <;> simp at e
    rename_i cs' hc
    subst e
    simp only [Rep] at r ⊢
    obtain ⟨vs, h1, h3⟩ := r
    exact ⟨vs, h1, (renL_rep mv cs cs' _ hc h3).1⟩
  | .fn f a c, d', v, e, r => by
    simp only [D.ren] at e
    split at e <;> simp at e
    rename_i a' c' ha hc
    subst e
    simp only [Rep] at r ⊢
    obtain ⟨va, vc, h1, h2', h3⟩ := r
    exact ⟨va, vc, h1, (renL_rep mv a a' _ ha h2').1, (renL_rep mv c c' _ hc h3).1⟩
  | .ifc t d, d', v, e, r => by
    simp only [D.ren] at e
    split at e <;> simp at e
    rename_i d2 hd
    subst e
    simp only [Rep] at r ⊢
    obtain ⟨v', h1, h2'⟩ := r
    exact ⟨v', h1, ren_rep mv d d2 _ hd h2'⟩
theorem renL_rep (mv : Moves ρ φ h φ2 h2) : (ds ds' : List D) → (vs : List Value) → renL ρ ds = some ds' → RepL w Pr φ h ds vs → RepL w Pr φ2 h2 ds' vs ∧ ds'.all D.one = ds.all D.one
  | [], ds', vs, e, r => by simp [renL] at e; subst e; exact ⟨by simpa only [RepL] using r, rfl⟩
  | d :: ds, ds', vs, e, r => by
    simp only [renL] at e
    split at e <;> simp at e
    rename_i d1 ds1 h1 h2'
    subst e
    simp only [RepL] at r ⊢
    obtain ⟨v, q, rfl, r1, r2⟩ := r
    obtain ⟨q1, q2⟩ := renL_rep mv ds ds1 q h2' r2
    refine ⟨⟨v, q, rfl, ren_rep mv d d1 v h1 r1, q1⟩, ?_⟩
    have : d1.one = d.one := by
      cases d <;> simp only [D.ren] at h1 <;> (try (split at h1)) <;> simp at h1 <;> subst h1 <;> rfl
    simp only [List.all_cons, q2, this]
end

theorem renL_len {ds ds' : List D} (e : renL ρ ds = some ds') : ds'.length = ds.length := by
  induction ds generalizing ds' with
  | nil => simp [renL] at e; subst e; rfl
  | cons d ds ih =>
    simp only [renL] at e
    split at e <;> simp at e
    rename_i d1 ds1 h1 h2'
    subst e
    simp [ih h2']

theorem blkren_spec {k k' : Blk} (e : k.ren ρ = some k') : k'.box = k.box ∧ k'.cs.length = k.cs.length ∧ k'.fz = k.fz ∧ (k.box = true → renL ρ k.cs = some k'.cs) ∧ (k.box = false → k' = k) := by
  unfold Blk.ren at e
  cases hb : k.box <;> simp only [hb, cond_true, cond_false] at e
  · simp at e; subst e; simp [hb]
  · split at e <;> simp at e
    rename_i cs hc
    subst e
    simp [hc, renL_len hc]

theorem idx_spec : {bs : List Nat} → {b i : Nat} → idx bs b = some i → bs[i]? = some b
  | [], b, i, e => by simp [idx] at e
  | x :: r, b, i, e => by
    simp only [idx] at e
    split at e
    · rename_i hx; simp at e; subst e; simp [hx]
    · split at e <;> simp at e
      rename_i j hj
      subst e
      simpa using idx_spec hj

theorem partH_spec : {bs : List Nat} → {hs : List Blk} → partH ρ h bs = some hs → hs.length = bs.length ∧ ∀ (i b : Nat), bs[i]? = some b → ∃ (k k' : Blk), h[b]? = some k ∧ k.ren ρ = some k' ∧ hs[i]? = some k'
  | [], hs, e => by simp [partH] at e; subst e; simp
  | b :: r, hs, e => by
    simp only [partH] at e
    split at e <;> try (simp at e; done)
    rename_i k hk
    split at e <;> simp at e
    rename_i k' r' h1 h2'
    subst e
    obtain ⟨q1, q2⟩ := partH_spec h2'
    refine ⟨by simp [q1], fun i b' hb => ?_⟩
    cases i with
    | zero => simp at hb; subst hb; exact ⟨k, k', hk, h1, by simp⟩
    | succ i => simpa using q2 i b' (by simpa using hb)

theorem renBs_spec : {ks ks' : List Blk} → renBs ρ ks = some ks' → ks'.length = ks.length ∧ ∀ (i : Nat) (k : Blk), ks[i]? = some k → ∃ (k' : Blk), k.ren ρ = some k' ∧ ks'[i]? = some k'
  | [], ks', e => by simp [renBs] at e; subst e; simp
  | k :: r, ks', e => by
    simp only [renBs] at e
    split at e <;> simp at e
    rename_i k' r' h1 h2'
    subst e
    obtain ⟨q1, q2⟩ := renBs_spec h2'
    refine ⟨by simp [q1], fun i b' hb => ?_⟩
    cases i with
    | zero => simp at hb; subst hb; exact ⟨k', h1, by simp⟩
    | succ i => simpa using q2 i b' (by simpa using hb)

/-- The feet of some blocks. -/
def feetOf (φ : List Nat) (bs : List Nat) : List Nat := bs.map fun b => φ.getD b 0

theorem part_moves (S : Sim w Pr φ h) {bs : List Nat} {hs : List Blk} (e : partH (idx bs) h bs = some hs) : Moves (idx bs) φ h (feetOf φ bs) hs := by
  intro b i k hb hk
  have hi := idx_spec hb
  obtain ⟨_, q⟩ := partH_spec e
  obtain ⟨k1, k', h1, h2', h3⟩ := q i b hi
  rw [hk] at h1; simp at h1; subst h1
  obtain ⟨g1, g2, _⟩ := blkren_spec h2'
  refine ⟨k', h3, g1, g2, ?_⟩
  have hlt : b < φ.length := by rw [S.len]; exact (List.getElem?_eq_some_iff.1 hk).1
  simp [feetOf, hi, List.getElem?_eq_getElem hlt]

theorem part_sim (S : Sim w Pr φ h) {bs : List Nat} {hs : List Blk} (hn : bs.Nodup) (e : partH (idx bs) h bs = some hs) : Sim w Pr (feetOf φ bs) hs := by
  have mv := part_moves S e
  obtain ⟨q1, q2⟩ := partH_spec e
  have hfoot : ∀ (i c : Nat), (feetOf φ bs)[i]? = some c → ∃ b : Nat, bs[i]? = some b ∧ φ[b]? = some c := by
    intro i c hc
    simp only [feetOf, List.getElem?_map, Option.map_eq_some_iff] at hc
    obtain ⟨b, hb, hc⟩ := hc
    obtain ⟨k, k', hk, _, _⟩ := q2 i b hb
    have hlt : b < φ.length := by rw [S.len]; exact (List.getElem?_eq_some_iff.1 hk).1
    refine ⟨b, hb, ?_⟩
    simp only [List.getD_eq_getElem?_getD, List.getElem?_eq_getElem hlt, Option.getD_some] at hc
    rw [List.getElem?_eq_getElem hlt, hc]
  refine ⟨by simp [feetOf, q1], S.prlt, fun i k c hk hc => ?_, fun i j c hi hj => ?_⟩
  · obtain ⟨b, hb, hbc⟩ := hfoot i c hc
    obtain ⟨k0, k', h1, h2', h3⟩ := q2 i b hb
    rw [hk] at h3; simp at h3; subst h3
    obtain ⟨g1, g2, g3, g4, g5⟩ := blkren_spec h2'
    obtain ⟨vs, ee, p1, p2, p3, p4, p5, p6⟩ := S.blk b k0 c h1 hbc
    cases hbox : k0.box
    · rw [g5 hbox]; 
      simp only [hbox, cond_false] at p3
      exact ⟨vs, ee, p1, p2, by simp only [hbox, cond_false]; exact p3, p4, p5, p6⟩
    · simp only [hbox, cond_true] at p3
      obtain ⟨r1, r2⟩ := renL_rep mv _ _ _ (g4 hbox) p3
      exact ⟨vs, ee, p1, by omega, by simp only [g1, hbox, cond_true, g2]; exact r1, by rw [r2]; exact p4, by omega, by rw [g3]; exact p6⟩
  · obtain ⟨b, hb, hbc⟩ := hfoot i c hi
    obtain ⟨b', hb', hbc'⟩ := hfoot j c hj
    have := S.inj b b' c hbc hbc'
    subst this
    obtain ⟨hi1, hi2⟩ := List.getElem?_eq_some_iff.1 hb
    obtain ⟨hj1, hj2⟩ := List.getElem?_eq_some_iff.1 hb'
    have hp := List.pairwise_iff_getElem.1 hn
    rcases Nat.lt_trichotomy i j with hlt | heq | hlt
    · exact absurd (hi2.trans hj2.symm) (hp i j hi1 hj1 hlt)
    · exact heq
    · exact absurd (hj2.trans hi2.symm) (hp j i hj1 hi1 hlt)

theorem feetOf_mem (S : Sim w Pr φ h) {bs : List Nat} {hs : List Blk} (e : partH (idx bs) h bs = some hs) {c : Nat} (hc : c ∈ feetOf φ bs) : c ∈ φ := by
  obtain ⟨_, q2⟩ := partH_spec e
  simp only [feetOf, List.mem_map] at hc
  obtain ⟨b, hb, rfl⟩ := hc
  obtain ⟨i, hi⟩ := List.getElem?_of_mem hb
  obtain ⟨k, k', hk, _, _⟩ := q2 i b hi
  have hlt : b < φ.length := by rw [S.len]; exact (List.getElem?_eq_some_iff.1 hk).1
  simp [List.getD_eq_getElem?_getD, List.getElem?_eq_getElem hlt]

/-! ### Laid back -/

theorem putBs_len : (h : List Blk) → (bs : List Nat) → (ks : List Blk) → (putBs h bs ks).length = h.length
  | h, [], ks => by simp [putBs]
  | h, b :: bs, [] => by simp [putBs]
  | h, b :: bs, k :: ks => by simp [putBs, putBs_len]

theorem putBs_other : (h : List Blk) → (bs : List Nat) → (ks : List Blk) → (i : Nat) → i ∉ bs → (putBs h bs ks)[i]? = h[i]?
  | h, [], ks, i, hi => by simp [putBs]
  | h, b :: bs, [], i, hi => by simp [putBs]
  | h, b :: bs, k :: ks, i, hi => by
    simp at hi
    rw [putBs, putBs_other _ bs ks i hi.2, List.getElem?_set_ne (fun hh => hi.1 hh.symm)]

theorem putBs_at : (h : List Blk) → (bs : List Nat) → (ks : List Blk) → bs.Nodup → (∀ b ∈ bs, b < h.length) → bs.length ≤ ks.length → (j : Nat) → (b : Nat) → bs[j]? = some b → (putBs h bs ks)[b]? = ks[j]?
  | h, [], ks, _, _, _, j, b, hj => by simp at hj
  | h, x :: bs, [], _, _, hl, j, b, hj => by simp at hl
  | h, x :: bs, k :: ks, hn, hlt, hl, j, b, hj => by
    rw [List.nodup_cons] at hn
    cases j with
    | zero =>
      simp at hj; subst hj
      rw [putBs, putBs_other _ bs ks _ hn.1, List.getElem?_set_self (hlt x (by simp))]
      simp
    | succ j =>
      rw [putBs, putBs_at _ bs ks hn.2 (fun b hb => by simp; exact hlt b (by simp [hb])) (by simpa using hl) j b (by simpa using hj)]
      simp

def putF : List Nat → List Nat → List Nat → List Nat
  | f, b :: bs, k :: ks => putF (f.set b k) bs ks
  | f, _, _ => f

theorem putF_len : (f : List Nat) → (bs : List Nat) → (ks : List Nat) → (putF f bs ks).length = f.length
  | f, [], ks => by simp [putF]
  | f, b :: bs, [] => by simp [putF]
  | f, b :: bs, k :: ks => by simp [putF, putF_len]

theorem putF_other : (h : List Nat) → (bs : List Nat) → (ks : List Nat) → (i : Nat) → i ∉ bs → (putF h bs ks)[i]? = h[i]?
  | h, [], ks, i, hi => by simp [putF]
  | h, b :: bs, [], i, hi => by simp [putF]
  | h, b :: bs, k :: ks, i, hi => by
    simp at hi
    rw [putF, putF_other _ bs ks i hi.2, List.getElem?_set_ne (fun hh => hi.1 hh.symm)]

theorem putF_at : (h : List Nat) → (bs : List Nat) → (ks : List Nat) → bs.Nodup → (∀ b ∈ bs, b < h.length) → bs.length ≤ ks.length → (j : Nat) → (b : Nat) → bs[j]? = some b → (putF h bs ks)[b]? = ks[j]?
  | h, [], ks, _, _, _, j, b, hj => by simp at hj
  | h, x :: bs, [], _, _, hl, j, b, hj => by simp at hl
  | h, x :: bs, k :: ks, hn, hlt, hl, j, b, hj => by
    rw [List.nodup_cons] at hn
    cases j with
    | zero =>
      simp at hj; subst hj
      rw [putF, putF_other _ bs ks _ hn.1, List.getElem?_set_self (hlt x (by simp))]
      simp
    | succ j =>
      rw [putF, putF_at _ bs ks hn.2 (fun b hb => by simp; exact hlt b (by simp [hb])) (by simpa using hl) j b (by simpa using hj)]
      simp

/-- A part of the store was lent, and is laid back. -/
theorem back_ok {w' : World} {Pr' : Nat → Nat → Prop} (S : Sim w Pr φ h) {bs : List Nat} {hs h2 h' : List Blk} {φ2 : List Nat} {r r' : D} {v : Value} (hn : bs.Nodup) (e : partH (idx bs) h bs = some hs)
    (l : Le w Pr (feetOf φ bs) hs w' Pr' φ2 h2) (f : Fr w Pr (feetOf φ bs) w' Pr' φ2) (S2 : Sim w' Pr' φ2 h2) (rv : Rep w' Pr' φ2 h2 r v) (hb : back h bs r h2 = some (r', h')) :
    ∃ φ', Le w Pr φ h w' Pr' φ' h' ∧ Fr w Pr φ w' Pr' φ' ∧ Sim w' Pr' φ' h' ∧ Rep w' Pr' φ' h' r' v := by
  have S1 := part_sim S hn e
  obtain ⟨pl, pq⟩ := partH_spec e
  unfold back at hb
  split at hb <;> simp at hb
  rename_i r1 ks hr hks
  obtain ⟨rfl, rfl⟩ := hb
  obtain ⟨kl, kq⟩ := renBs_spec hks
  have hbl : ∀ b ∈ bs, b < h.length := by
    intro b hb
    obtain ⟨i, hi⟩ := List.getElem?_of_mem hb
    obtain ⟨k, k', hk, _, _⟩ := pq i b hi
    exact (List.getElem?_eq_some_iff.1 hk).1
  have hm : bs.length ≤ h2.length := by
    rcases Nat.lt_or_ge h2.length bs.length with hlt | hge
    · exfalso
      have hx : h2.length < hs.length := by omega
      obtain ⟨k', hk', _⟩ := l.blk h2.length hs[h2.length] (List.getElem?_eq_getElem hx)
      have := (List.getElem?_eq_some_iff.1 hk').1
      omega
    · exact hge
  have hlen2 := S2.len
  -- where a block of the store lies behind it
  have hin : ∀ (j b : Nat), bs[j]? = some b → (putBs h bs (ks.take bs.length) ++ ks.drop bs.length)[b]? = ks[j]? := by
    intro j b hj
    have hjl := (List.getElem?_eq_some_iff.1 hj).1
    have hbm := hbl b (List.mem_of_getElem? hj)
    rw [List.getElem?_append_left (by rw [putBs_len]; exact hbm), putBs_at h bs _ hn hbl (by simp; omega) j b hj, List.getElem?_take, if_pos hjl]
  have hout : ∀ (i : Nat), i < h.length → i ∉ bs → (putBs h bs (ks.take bs.length) ++ ks.drop bs.length)[i]? = h[i]? := by
    intro i hi hnm
    rw [List.getElem?_append_left (by rw [putBs_len]; exact hi), putBs_other _ _ _ _ hnm]
  have hnew : ∀ (i : Nat), h.length ≤ i → (putBs h bs (ks.take bs.length) ++ ks.drop bs.length)[i]? = ks[bs.length + (i - h.length)]? := by
    intro i hi
    rw [List.getElem?_append_right (by rw [putBs_len]; exact hi), putBs_len, List.getElem?_drop]
  have hφl : φ.length = h.length := S.len
  have fin : ∀ (j b : Nat), bs[j]? = some b → (putF φ bs (φ2.take bs.length) ++ φ2.drop bs.length)[b]? = φ2[j]? := by
    intro j b hj
    have hjl := (List.getElem?_eq_some_iff.1 hj).1
    have hbm := hbl b (List.mem_of_getElem? hj)
    rw [List.getElem?_append_left (by rw [putF_len]; omega), putF_at φ bs _ hn (fun b hb => by have := hbl b hb; omega) (by simp; omega) j b hj, List.getElem?_take, if_pos hjl]
  have fout : ∀ (i : Nat), i < h.length → i ∉ bs → (putF φ bs (φ2.take bs.length) ++ φ2.drop bs.length)[i]? = φ[i]? := by
    intro i hi hnm
    rw [List.getElem?_append_left (by rw [putF_len]; omega), putF_other _ _ _ _ hnm]
  have fnew : ∀ (i : Nat), h.length ≤ i → (putF φ bs (φ2.take bs.length) ++ φ2.drop bs.length)[i]? = φ2[bs.length + (i - h.length)]? := by
    intro i hi
    rw [List.getElem?_append_right (by rw [putF_len]; omega), putF_len, List.getElem?_drop, hφl]
  -- the other way round
  have mv : Moves (backN h.length bs) φ2 h2 (putF φ bs (φ2.take bs.length) ++ φ2.drop bs.length) (putBs h bs (ks.take bs.length) ++ ks.drop bs.length) := by
    intro i b k hi hk
    obtain ⟨k', g1, g2⟩ := kq i k hk
    obtain ⟨q1, q2, _⟩ := blkren_spec g1
    simp only [backN] at hi
    split at hi
    · exact ⟨k', by rw [hin i b hi]; exact g2, q1, q2, fin i b hi⟩
    · simp at hi
      subst hi
      refine ⟨k', ?_, q1, q2, ?_⟩
      · rw [hnew _ (by omega), show bs.length + (h.length + (i - bs.length) - h.length) = i by omega]; exact g2
      · rw [fnew _ (by omega), show bs.length + (h.length + (i - bs.length) - h.length) = i by omega]
  have hfoot : ∀ (i c : Nat), φ[i]? = some c → i ∉ bs → c ∉ feetOf φ bs := by
    intro i c hc hi hm
    simp only [feetOf, List.mem_map] at hm
    obtain ⟨b, hb, hbc⟩ := hm
    have hbm := hbl b hb
    have : φ[b]? = some c := by
      rw [List.getElem?_eq_getElem (by omega)]
      simp only [List.getD_eq_getElem?_getD, List.getElem?_eq_getElem (show b < φ.length by omega), Option.getD_some] at hbc
      rw [hbc]
    exact hi (S.inj i b c hc this ▸ hb)
  have hfc : ∀ (j b : Nat), bs[j]? = some b → (feetOf φ bs)[j]? = φ[b]? := by
    intro j b hj
    have hbm := hbl b (List.mem_of_getElem? hj)
    simp [feetOf, hj, List.getElem?_eq_getElem (show b < φ.length by omega)]
  have room : ∀ c n, c ∉ feetOf φ bs → Room w c n → Room w' c n := by
    rintro c n hc ⟨vs, ee, q1, q2⟩
    have hlt : c < w.heap.size := by
      rcases Nat.lt_or_ge c w.heap.size with hh | hh
      · exact hh
      · rw [Array.getElem?_eq_none hh] at q1; simp at q1
    exact ⟨vs, ee, by rw [f.keep c hlt hc]; exact q1, q2⟩
  have hle : Le w Pr φ h w' Pr' (putF φ bs (φ2.take bs.length) ++ φ2.drop bs.length) (putBs h bs (ks.take bs.length) ++ ks.drop bs.length) := by
    refine ⟨l.pr, fun i k hk => ?_⟩
    have hil := (List.getElem?_eq_some_iff.1 hk).1
    by_cases hm : i ∈ bs
    · obtain ⟨j, hj⟩ := List.getElem?_of_mem hm
      obtain ⟨k0, k1, h1, h2', h3⟩ := pq j i hj
      rw [hk] at h1; simp at h1; subst h1
      obtain ⟨g1, g2, _⟩ := blkren_spec h2'
      obtain ⟨k2, p1, p2, p3, p4⟩ := l.blk j k1 h3
      obtain ⟨k3, r1, r2⟩ := kq j k2 p1
      obtain ⟨s1, s2, _⟩ := blkren_spec r1
      refine ⟨k3, by rw [hin j i hj]; exact r2, s1.trans (p2.trans g1), by omega, fun hl c hc => ?_⟩
      obtain ⟨u1, u2⟩ := p4 (by omega) c (by rw [hfc j i hj]; exact hc)
      exact ⟨by rw [fin j i hj]; exact u1, u2⟩
    · refine ⟨k, by rw [hout i hil hm]; exact hk, rfl, Nat.le_refl _, fun _ c hc => ⟨by rw [fout i hil hm]; exact hc, fun n => room c n (hfoot i c hc hm)⟩⟩
  have hmem : ∀ c, c ∈ putF φ bs (φ2.take bs.length) ++ φ2.drop bs.length → c ∈ φ ∨ c ∈ φ2 := by
    intro c hc
    obtain ⟨i, hi⟩ := List.getElem?_of_mem hc
    have hil := (List.getElem?_eq_some_iff.1 hi).1
    by_cases hlt : i < h.length
    · by_cases hm : i ∈ bs
      · obtain ⟨j, hj⟩ := List.getElem?_of_mem hm
        rw [fin j i hj] at hi
        exact .inr (List.mem_of_getElem? hi)
      · rw [fout i hlt hm] at hi
        exact .inl (List.mem_of_getElem? hi)
    · rw [fnew i (by omega)] at hi
      exact .inr (List.mem_of_getElem? hi)
  have hfr : Fr w Pr φ w' Pr' (putF φ bs (φ2.take bs.length) ++ φ2.drop bs.length) := by
    refine ⟨f.os, f.tape, f.output, f.size, fun b hb hnm => f.keep b hb fun hm => hnm (feetOf_mem S e hm), fun c hc => ?_, fun b o hp => ?_⟩
    · rcases hmem c hc with hc | hc
      · exact .inl hc
      · rcases f.own c hc with hc | hc
        · exact .inl (feetOf_mem S e hc)
        · exact .inr hc
    · rcases f.prn b o hp with q | q | q
      · exact .inl q
      · exact .inr (.inl (feetOf_mem S e q))
      · exact .inr (.inr q)
  have hsim : Sim w' Pr' (putF φ bs (φ2.take bs.length) ++ φ2.drop bs.length) (putBs h bs (ks.take bs.length) ++ ks.drop bs.length) := by
    have lent : ∀ (j : Nat) (k3 : Blk) (c : Nat), ks[j]? = some k3 → φ2[j]? = some c → ∃ vs e, w'.heap[c]? = some (.cells vs e (0, 0)) ∧ k3.cs.length ≤ vs.size ∧
        (bif k3.box then RepL w' Pr' (putF φ bs (φ2.take bs.length) ++ φ2.drop bs.length) (putBs h bs (ks.take bs.length) ++ ks.drop bs.length) k3.cs (vs.toList.take k3.cs.length) else RepL w' Pr' [] [] k3.cs (vs.toList.take k3.cs.length)) ∧
        k3.cs.all D.one = true ∧ k3.fz ≤ k3.cs.length ∧ ∀ o, Pr' c o → o < k3.fz := by
      intro j k3 c hk3 hc
      have hjl : j < h2.length := by have := (List.getElem?_eq_some_iff.1 hk3).1; omega
      obtain ⟨k4, g1, g2⟩ := kq j h2[j] (List.getElem?_eq_getElem hjl)
      rw [hk3] at g2; simp at g2; subst g2
      obtain ⟨s1, s2, s3, s4, s5⟩ := blkren_spec g1
      obtain ⟨vs, ee, p1, p2, p3, p4, p5, p6⟩ := S2.blk j h2[j] c (List.getElem?_eq_getElem hjl) hc
      cases hbox : h2[j].box
      · rw [s5 hbox]
        simp only [hbox, cond_false] at p3
        exact ⟨vs, ee, p1, p2, by simp only [hbox, cond_false]; exact p3, p4, p5, p6⟩
      · simp only [hbox, cond_true] at p3
        obtain ⟨r1, r2⟩ := renL_rep mv _ _ _ (s4 hbox) p3
        exact ⟨vs, ee, p1, by omega, by simp only [s1, hbox, cond_true, s2]; exact r1, by rw [r2]; exact p4, by omega, by rw [s3]; exact p6⟩
    refine ⟨?_, S2.prlt, fun i k c hk hc => ?_, fun i j c hi hj => ?_⟩
    · simp only [List.length_append, putF_len, putBs_len, List.length_drop]; omega
    · by_cases hlt : i < h.length
      · by_cases hm : i ∈ bs
        · obtain ⟨j, hj⟩ := List.getElem?_of_mem hm
          rw [hin j i hj] at hk
          rw [fin j i hj] at hc
          exact lent j k c hk hc
        · rw [hout i hlt hm] at hk
          rw [fout i hlt hm] at hc
          obtain ⟨vs, ee, p1, p2, p3, p4, p5, p6⟩ := S.blk i k c hk hc
          have hcn := hfoot i c hc hm
          have hcl : c < w.heap.size := by
            rcases Nat.lt_or_ge c w.heap.size with hh | hh
            · exact hh
            · rw [Array.getElem?_eq_none hh] at p1; simp at p1
          refine ⟨vs, ee, by rw [f.keep c hcl hcn]; exact p1, p2, ?_, p4, p5, fun o ho => ?_⟩
          · cases hbox : k.box <;> simp only [hbox, cond_true, cond_false] at p3 ⊢
            · exact RepL.mono hle.closed _ _ p3
            · exact RepL.mono hle _ _ p3
          · rcases f.prn c o ho with q | q | q
            · exact p6 o q
            · exact absurd q hcn
            · omega
      · rw [hnew i (by omega)] at hk
        rw [fnew i (by omega)] at hc
        exact lent _ k c hk hc
    · -- different blocks, different feet
      have ori : ∀ (i c : Nat), (putF φ bs (φ2.take bs.length) ++ φ2.drop bs.length)[i]? = some c → (∃ j : Nat, φ2[j]? = some c ∧ ((bs[j]? = some i) ∨ (h.length ≤ i ∧ j = bs.length + (i - h.length)))) ∨ (i < h.length ∧ i ∉ bs ∧ φ[i]? = some c) := by
        intro i c hi
        by_cases hlt : i < h.length
        · by_cases hm : i ∈ bs
          · obtain ⟨j, hj⟩ := List.getElem?_of_mem hm
            rw [fin j i hj] at hi
            exact .inl ⟨j, hi, .inl hj⟩
          · rw [fout i hlt hm] at hi
            exact .inr ⟨hlt, hm, hi⟩
        · rw [fnew i (by omega)] at hi
          exact .inl ⟨_, hi, .inr ⟨by omega, rfl⟩⟩
      have cross : ∀ (i c j : Nat), i < h.length → i ∉ bs → φ[i]? = some c → φ2[j]? = some c → False := by
        intro i c j hlt hm hi hj
        rcases f.own c (List.mem_of_getElem? hj) with q | q
        · exact hfoot i c hi hm q
        · have := S.mem_lt (List.mem_of_getElem? hi)
          omega
      rcases ori i c hi with ⟨a, ha, ha'⟩ | ⟨h1, h2', h3⟩
      · rcases ori j c hj with ⟨b, hb, hb'⟩ | ⟨h1, h2', h3⟩
        · have hab := S2.inj a b c ha hb
          subst hab
          rcases ha' with ha' | ⟨ha', ha''⟩
          · rcases hb' with hb' | ⟨hb', hb''⟩
            · rw [ha'] at hb'; simpa using hb'
            · have := (List.getElem?_eq_some_iff.1 ha').1; omega
          · rcases hb' with hb' | ⟨hb', hb''⟩
            · have := (List.getElem?_eq_some_iff.1 hb').1; omega
            · omega
        · exact (cross j c a h1 h2' h3 ha).elim
      · rcases ori j c hj with ⟨b, hb, hb'⟩ | ⟨h1', h2'', h3'⟩
        · exact (cross i c b h1 h2' h3 hb).elim
        · exact S.inj i j c h3 h3'
  exact ⟨_, hle, hfr, hsim, ren_rep mv _ _ _ hr rv⟩

/-- Some blocks of the store go on, the first m ones among them. -/
theorem part_le (S : Sim w Pr φ h) {m : Nat} {bs : List Nat} {hs : List Blk} (e : partH (idx bs) h bs = some hs) (hm : ∀ i, i < m → bs[i]? = some i) {φ0 : List Nat} {h0 : List Blk} {w0 : World} {Pr0 : Nat → Nat → Prop} (h0l : h0.length = m)
    (l : Le w0 Pr0 φ0 h0 w Pr φ h) : Le w0 Pr0 φ0 h0 w Pr (feetOf φ bs) hs := by
  obtain ⟨_, q2⟩ := partH_spec e
  refine ⟨l.pr, fun i k hk => ?_⟩
  have hi : i < m := by have := (List.getElem?_eq_some_iff.1 hk).1; omega
  obtain ⟨k', p1, p2, p3, p4⟩ := l.blk i k hk
  obtain ⟨k1, k2, r1, r2, r3⟩ := q2 i i (hm i hi)
  rw [p1] at r1; simp at r1; subst r1
  obtain ⟨g1, g2, _⟩ := blkren_spec r2
  refine ⟨k2, r3, g1.trans p2, by omega, fun hl c hc => ?_⟩
  obtain ⟨u1, u2⟩ := p4 (by omega) c hc
  refine ⟨?_, u2⟩
  have hlt : i < φ.length := by rw [S.len]; exact (List.getElem?_eq_some_iff.1 p1).1
  simp [feetOf, hm i hi, List.getElem?_eq_getElem hlt]
  rw [List.getElem?_eq_getElem hlt] at u1
  simpa using u1

theorem part_fr (S : Sim w Pr φ h) {bs : List Nat} {hs : List Blk} (e : partH (idx bs) h bs = some hs) {φ0 : List Nat} {w0 : World} {Pr0 : Nat → Nat → Prop} (f : Fr w0 Pr0 φ0 w Pr φ) : Fr w0 Pr0 φ0 w Pr (feetOf φ bs) :=
  ⟨f.os, f.tape, f.output, f.size, f.keep, fun c hc => f.own c (feetOf_mem S e hc), f.prn⟩

end

end Go.Proofs.Ytcaglmjfphjpfaa.E
