/- What the evaluator's data stand for in the model's memory, and how that is kept while the program runs. -/
import Derived.Test.YtcaglmjfphjpfaaEv
namespace Go.Proofs.Ytcaglmjfphjpfaa.E
open Go
set_option linter.unusedSimpArgs false
set_option linter.unusedVariables false

def D.one : D → Bool
  | .agg _ | .tup _ | .any => false
  | _ => true

/-- The cells 'vs' lie from 'a' on, and nobody writes there. -/
def At (w : World) (Pr : Nat → Nat → Prop) (a : Option Addr) (vs : List Value) : Prop :=
  vs = [] ∨ ∃ b o, a = some ⟨b, o, none⟩ ∧ ∀ j v, vs[j]? = some v → w.cell? ⟨b, o + j, none⟩ = some v ∧ Pr b (o + j)

/-- The block c holds at least 'n' cells, none of them frozen. -/
def Room (w : World) (c n : Nat) : Prop := ∃ vs e, w.heap[c]? = some (.cells vs e (0, 0)) ∧ n ≤ vs.size

mutual
/-- The value v is the datum d, where block i of the store h is block φ i of the memory. -/
def Rep (w : World) (Pr : Nat → Nat → Prop) (φ : List Nat) (h : List Blk) : D → Value → Prop
  | .int k n, v => v = .int k n
  | .bool b, v => v = .bool b
  | .str s, v => v = .string s
  | .arr n full cs, v => ∃ a cap vs, v = .slice a n cap ∧ n ≤ cap ∧ cap ≤ maxLen ∧ (full = true → cap = n) ∧ (a = none → cap = 0) ∧ At w Pr a vs ∧ cs.all D.one = true ∧ RepL w Pr [] [] cs vs
  | .ref b off n sz gen full, v => ∃ a cap blk, v = .slice a n cap ∧ n ≤ cap ∧ cap ≤ maxLen ∧ ((full = true → cap = n) ∧ (full = false → gen ≤ off + cap * sz)) ∧ (a = none → cap = 0) ∧
      h[b]? = some blk ∧ blk.box = false ∧ gen ≤ blk.cs.length ∧
      (blk.cs.length = gen → ∃ c, φ[b]? = some c ∧ (0 < cap → a = some ⟨c, off, none⟩) ∧ off + n * sz ≤ gen ∧ Room w c (off + cap * sz))
  | .nilp, v => v = .pointer none
  | .ptr b off gen, v => ∃ ad blk, v = .pointer (some ad) ∧ h[b]? = some blk ∧ gen ≤ blk.cs.length ∧ (blk.cs.length = gen → ∃ c, φ[b]? = some c ∧ ad = ⟨c, off, none⟩)
  | .cptr cs, v => ∃ a vs, v = .pointer (some a) ∧ At w Pr (some a) vs ∧ cs.all D.one = true ∧ RepL w Pr [] [] cs vs
  | .agg cs, v => ∃ vs, v = .agg vs ∧ cs.all D.one = true ∧ RepL w Pr φ h cs vs.toList
  | .tup cs, v => ∃ vs, v = .tuple vs ∧ RepL w Pr φ h cs vs.toList
  | .fn f a c, v => ∃ va vc, v = .func f va vc ∧ RepL w Pr φ h a va.toList ∧ RepL w Pr φ h c vc.toList
  | .nilf, v => v = .nilFunc
  | .ifc t d, v => ∃ v', v = .iface t v' ∧ Rep w Pr φ h d v'
  | .nili, v => v = .nilIface
  | .any, _ => True
  | .anyb, v => ∃ b, v = .bool b
def RepL (w : World) (Pr : Nat → Nat → Prop) (φ : List Nat) (h : List Blk) : List D → List Value → Prop
  | [], vs => vs = []
  | d :: ds, vs => ∃ v r, vs = v :: r ∧ Rep w Pr φ h d v ∧ RepL w Pr φ h ds r
end

/-- Nothing that is known of the first memory is lost in the second one. -/
structure Le (w : World) (Pr : Nat → Nat → Prop) (φ : List Nat) (h : List Blk) (w' : World) (Pr' : Nat → Nat → Prop) (φ' : List Nat) (h' : List Blk) : Prop where
  pr : ∀ b o, Pr b o → Pr' b o ∧ w'.cell? ⟨b, o, none⟩ = w.cell? ⟨b, o, none⟩
  blk : ∀ (i : Nat) (k : Blk), h[i]? = some k → ∃ k', h'[i]? = some k' ∧ k'.box = k.box ∧ k.cs.length ≤ k'.cs.length ∧
    (k'.cs.length = k.cs.length → ∀ c, φ[i]? = some c → φ'[i]? = some c ∧ ∀ n, Room w c n → Room w' c n)

theorem Le.refl (w : World) (Pr : Nat → Nat → Prop) (φ : List Nat) (h : List Blk) : Le w Pr φ h w Pr φ h :=
  ⟨fun _ _ p => ⟨p, rfl⟩, fun _ k hk => ⟨k, hk, rfl, Nat.le_refl _, fun _ _ hc => ⟨hc, fun _ r => r⟩⟩⟩

theorem Le.trans {w : World} {Pr : Nat → Nat → Prop} {φ : List Nat} {h : List Blk} {w' : World} {Pr' : Nat → Nat → Prop} {φ' : List Nat} {h' : List Blk} {w'' : World} {Pr'' : Nat → Nat → Prop} {φ'' : List Nat} {h'' : List Blk}
    (a : Le w Pr φ h w' Pr' φ' h') (b : Le w' Pr' φ' h' w'' Pr'' φ'' h'') : Le w Pr φ h w'' Pr'' φ'' h'' := by
  refine ⟨fun x o p => ?_, fun i k hk => ?_⟩
  · obtain ⟨p1, e1⟩ := a.pr x o p
    obtain ⟨p2, e2⟩ := b.pr x o p1
    exact ⟨p2, e2.trans e1⟩
  · obtain ⟨k1, h1, b1, l1, c1⟩ := a.blk i k hk
    obtain ⟨k2, h2, b2, l2, c2⟩ := b.blk i k1 h1
    refine ⟨k2, h2, b2.trans b1, Nat.le_trans l1 l2, fun e c hc => ?_⟩
    obtain ⟨hc1, r1⟩ := c1 (by omega) c hc
    obtain ⟨hc2, r2⟩ := c2 (by omega) c hc1
    exact ⟨hc2, fun n r => r2 n (r1 n r)⟩

theorem Le.closed {w : World} {Pr : Nat → Nat → Prop} {φ : List Nat} {h : List Blk} {w' : World} {Pr' : Nat → Nat → Prop} {φ' : List Nat} {h' : List Blk}
    (a : Le w Pr φ h w' Pr' φ' h') : Le w Pr [] [] w' Pr' [] [] :=
  ⟨a.pr, fun i k hk => by simp at hk⟩

theorem At.mono {w w' : World} {Pr Pr' : Nat → Nat → Prop} {a : Option Addr} {vs : List Value}
    (pr : ∀ b o, Pr b o → Pr' b o ∧ w'.cell? ⟨b, o, none⟩ = w.cell? ⟨b, o, none⟩) (h : At w Pr a vs) : At w' Pr' a vs := by
  rcases h with h | ⟨b, o, ha, hc⟩
  · exact .inl h
  · refine .inr ⟨b, o, ha, fun j v hv => ?_⟩
    obtain ⟨h1, h2⟩ := hc j v hv
    obtain ⟨p, e⟩ := pr _ _ h2
    exact ⟨e.trans h1, p⟩

mutual
theorem Rep.mono {w : World} {Pr : Nat → Nat → Prop} {φ : List Nat} {h : List Blk} {w' : World} {Pr' : Nat → Nat → Prop} {φ' : List Nat} {h' : List Blk}
    (l : Le w Pr φ h w' Pr' φ' h') : (d : D) → (v : Value) → Rep w Pr φ h d v → Rep w' Pr' φ' h' d v
  | .int k n, v, r => r
  | .bool b, v, r => r
  | .str s, v, r => r
  | .arr n full cs, v, r => by
    simp only [Rep] at r ⊢
    obtain ⟨a, cap, vs, h1, h2, h3, h4, h5, h6, h7, h8⟩ := r
    exact ⟨a, cap, vs, h1, h2, h3, h4, h5, h6.mono l.pr, h7, RepL.mono l.closed cs vs h8⟩
  | .ref b off n sz gen full, v, r => by
    simp only [Rep] at r ⊢
    obtain ⟨a, cap, blk, h1, h2, h3, h4, h5, h6, h7, h8, h9⟩ := r
    obtain ⟨k', hk', hb, hl, hc⟩ := l.blk b blk h6
    refine ⟨a, cap, k', h1, h2, h3, h4, h5, hk', hb.trans h7, by omega, fun e => ?_⟩
    obtain ⟨c, g1, g2, g3, g4⟩ := h9 (by omega)
    obtain ⟨q1, q2⟩ := hc (by omega) c g1
    exact ⟨c, q1, g2, g3, q2 _ g4⟩
  | .nilp, v, r => r
  | .ptr b off gen, v, r => by
    simp only [Rep] at r ⊢
    obtain ⟨c, blk, h1, h2, h3, h4⟩ := r
    obtain ⟨k', hk', hb, hl, hc⟩ := l.blk b blk h2
    refine ⟨c, k', h1, hk', by omega, fun e => ?_⟩
    obtain ⟨x, g1, g2⟩ := h4 (by omega)
    exact ⟨x, (hc (by omega) x g1).1, g2⟩
  | .cptr cs, v, r => by
    simp only [Rep] at r ⊢
    obtain ⟨a, vs, h1, h2, h3, h4⟩ := r
    exact ⟨a, vs, h1, h2.mono l.pr, h3, RepL.mono l.closed cs vs h4⟩
  | .agg cs, v, r => by
    simp only [Rep] at r ⊢
    obtain ⟨vs, h1, h2, h3⟩ := r
    exact ⟨vs, h1, h2, RepL.mono l cs _ h3⟩
  | .tup cs, v, r => by
    simp only [Rep] at r ⊢
    obtain ⟨vs, h1, h2⟩ := r
    exact ⟨vs, h1, RepL.mono l cs _ h2⟩
  | .fn f a c, v, r => by
    simp only [Rep] at r ⊢
    obtain ⟨va, vc, h1, h2, h3⟩ := r
    exact ⟨va, vc, h1, RepL.mono l a _ h2, RepL.mono l c _ h3⟩
  | .nilf, v, r => r
  | .ifc t d, v, r => by
    simp only [Rep] at r ⊢
    obtain ⟨v', h1, h2⟩ := r
    exact ⟨v', h1, Rep.mono l d v' h2⟩
  | .nili, v, r => r
  | .any, v, r => trivial
  | .anyb, v, r => r
theorem RepL.mono {w : World} {Pr : Nat → Nat → Prop} {φ : List Nat} {h : List Blk} {w' : World} {Pr' : Nat → Nat → Prop} {φ' : List Nat} {h' : List Blk}
    (l : Le w Pr φ h w' Pr' φ' h') : (ds : List D) → (vs : List Value) → RepL w Pr φ h ds vs → RepL w' Pr' φ' h' ds vs
  | [], vs, r => r
  | d :: ds, vs, r => by
    simp only [RepL] at r ⊢
    obtain ⟨v, q, h1, h2, h3⟩ := r
    exact ⟨v, q, h1, Rep.mono l d v h2, RepL.mono l ds q h3⟩
end

section
variable {w : World} {Pr : Nat → Nat → Prop} {φ : List Nat} {h : List Blk}

theorem RepL.nil_iff {vs : List Value} : RepL w Pr φ h [] vs ↔ vs = [] := by simp [RepL]
theorem RepL.cons_iff {d : D} {ds : List D} {vs : List Value} : RepL w Pr φ h (d :: ds) vs ↔ ∃ v r, vs = v :: r ∧ Rep w Pr φ h d v ∧ RepL w Pr φ h ds r := by simp [RepL]

theorem RepL.length : {ds : List D} → {vs : List Value} → RepL w Pr φ h ds vs → vs.length = ds.length
  | [], vs, r => by simp [RepL] at r; simp [r]
  | d :: ds, vs, r => by
    simp only [RepL] at r
    obtain ⟨v, q, rfl, _, h3⟩ := r
    simp [RepL.length h3]

theorem RepL.get : {ds : List D} → {vs : List Value} → RepL w Pr φ h ds vs → ∀ (j : Nat) (d : D), ds[j]? = some d → ∃ v, vs[j]? = some v ∧ Rep w Pr φ h d v
  | [], vs, r, j, d, hd => by simp at hd
  | e :: ds, vs, r, j, d, hd => by
    simp only [RepL] at r
    obtain ⟨v, q, rfl, h2, h3⟩ := r
    cases j with
    | zero => simp at hd; subst hd; exact ⟨v, by simp, h2⟩
    | succ j => simpa using RepL.get h3 j d (by simpa using hd)

theorem RepL.append : {ds es : List D} → {vs us : List Value} → RepL w Pr φ h ds vs → RepL w Pr φ h es us → RepL w Pr φ h (ds ++ es) (vs ++ us)
  | [], es, vs, us, r, q => by simp [RepL] at r; subst r; simpa using q
  | d :: ds, es, vs, us, r, q => by
    simp only [RepL] at r
    obtain ⟨v, p, rfl, h2, h3⟩ := r
    simp only [List.cons_append, RepL]
    exact ⟨v, p ++ us, rfl, h2, RepL.append h3 q⟩

theorem RepL.take : {ds : List D} → {vs : List Value} → (n : Nat) → RepL w Pr φ h ds vs → RepL w Pr φ h (ds.take n) (vs.take n)
  | [], vs, n, r => by simp [RepL] at r; subst r; simp [RepL]
  | d :: ds, vs, 0, r => by simp [RepL]
  | d :: ds, vs, n + 1, r => by
    simp only [RepL] at r
    obtain ⟨v, p, rfl, h2, h3⟩ := r
    simp only [List.take_succ_cons, RepL]
    exact ⟨v, _, rfl, h2, RepL.take n h3⟩

theorem RepL.drop : {ds : List D} → {vs : List Value} → (n : Nat) → RepL w Pr φ h ds vs → RepL w Pr φ h (ds.drop n) (vs.drop n)
  | [], vs, n, r => by simp [RepL] at r; subst r; simp [RepL]
  | d :: ds, vs, 0, r => by simpa using r
  | d :: ds, vs, n + 1, r => by
    simp only [RepL] at r
    obtain ⟨v, p, rfl, h2, h3⟩ := r
    simpa using RepL.drop n h3

theorem RepL.set : {ds : List D} → {vs : List Value} → RepL w Pr φ h ds vs → ∀ (j : Nat) {d : D} {v : Value}, Rep w Pr φ h d v → RepL w Pr φ h (ds.set j d) (vs.set j v)
  | [], vs, r, j, d, v, q => by simp [RepL] at r; subst r; simp [RepL]
  | e :: ds, vs, r, j, d, v, q => by
    simp only [RepL] at r
    obtain ⟨u, p, rfl, h2, h3⟩ := r
    cases j with
    | zero => simp only [List.set_cons_zero, RepL]; exact ⟨v, p, rfl, q, h3⟩
    | succ j => simp only [List.set_cons_succ, RepL]; exact ⟨u, _, rfl, h2, RepL.set h3 j q⟩

/-- A datum that leads to no block of the store. -/
theorem plain_closed {d : D} {v : Value} (hp : d.plain = true) (r : Rep w Pr φ h d v) : Rep w Pr [] [] d v := by
  cases d <;> simp only [D.plain, Bool.false_eq_true] at hp <;> first | exact r | skip
  rename_i f a c
  cases a <;> cases c <;> simp only [D.plain, Bool.false_eq_true] at hp
  simp only [Rep, RepL] at r ⊢
  exact r

theorem lift_closed {d : D} {v : Value} (r : Rep w Pr [] [] d v) : Rep w Pr φ h d v :=
  Rep.mono ⟨fun _ _ p => ⟨p, rfl⟩, fun i k hk => by simp at hk⟩ d v r
theorem liftL_closed {ds : List D} {vs : List Value} (r : RepL w Pr [] [] ds vs) : RepL w Pr φ h ds vs :=
  RepL.mono ⟨fun _ _ p => ⟨p, rfl⟩, fun i k hk => by simp at hk⟩ ds vs r

theorem one_value {d : D} {v : Value} (ho : d.one = true) (r : Rep w Pr φ h d v) : v.oneCell' = true ∧ v.cells = #[v] := by
  cases d <;> simp only [D.one, Bool.false_eq_true] at ho <;> simp only [Rep] at r
  case int => subst r; exact ⟨rfl, rfl⟩
  case bool => subst r; exact ⟨rfl, rfl⟩
  case str => subst r; exact ⟨rfl, rfl⟩
  case arr => obtain ⟨a, cap, vs, rfl, _⟩ := r; exact ⟨rfl, rfl⟩
  case ref => obtain ⟨a, cap, vs, rfl, _⟩ := r; exact ⟨rfl, rfl⟩
  case nilp => subst r; exact ⟨rfl, rfl⟩
  case ptr => obtain ⟨c, blk, rfl, _⟩ := r; exact ⟨rfl, rfl⟩
  case cptr => obtain ⟨a, vs, rfl, _⟩ := r; exact ⟨rfl, rfl⟩
  case fn => obtain ⟨a, vs, rfl, _⟩ := r; exact ⟨rfl, rfl⟩
  case nilf => subst r; exact ⟨rfl, rfl⟩
  case ifc => obtain ⟨v', rfl, _⟩ := r; exact ⟨rfl, rfl⟩
  case nili => subst r; exact ⟨rfl, rfl⟩
  case anyb => obtain ⟨b, rfl⟩ := r; exact ⟨rfl, rfl⟩

/-- The cells of a datum are the cells of its value. -/
theorem cells_rep {d : D} {v : Value} {cs : List D} (hc : d.cells = some cs) (r : Rep w Pr φ h d v) : RepL w Pr φ h cs v.cells.toList ∧ cs.all D.one = true := by
  by_cases ho : d.one = true
  · obtain ⟨_, hv⟩ := one_value ho r
    have : cs = [d] := by cases d <;> simp_all [D.cells, D.one]
    subst this
    rw [hv]
    exact ⟨by simp only [RepL]; exact ⟨v, [], rfl, r, rfl⟩, by simp [ho]⟩
  · cases d <;> simp [D.one] at ho
    · simp only [D.cells, Option.some.injEq] at hc
      subst hc
      simp only [Rep] at r
      obtain ⟨vs, rfl, h2, h3⟩ := r
      exact ⟨h3, h2⟩
    · simp [D.cells] at hc
    · simp [D.cells] at hc
end

/-- Memory, and the store that stands for a part of it. -/
structure Sim (w : World) (Pr : Nat → Nat → Prop) (φ : List Nat) (h : List Blk) : Prop where
  len : φ.length = h.length
  prlt : ∀ b o, Pr b o → b < w.heap.size
  blk : ∀ (i : Nat) (k : Blk) (c : Nat), h[i]? = some k → φ[i]? = some c → ∃ vs e, w.heap[c]? = some (.cells vs e (0, 0)) ∧ k.cs.length ≤ vs.size ∧
    (bif k.box then RepL w Pr φ h k.cs (vs.toList.take k.cs.length) else RepL w Pr [] [] k.cs (vs.toList.take k.cs.length)) ∧
    k.cs.all D.one = true ∧ k.fz ≤ k.cs.length ∧ ∀ o, Pr c o → o < k.fz
  inj : ∀ (i j c : Nat), φ[i]? = some c → φ[j]? = some c → i = j

/-- What else holds between two memories of one run. -/
structure Fr (w : World) (Pr : Nat → Nat → Prop) (φ : List Nat) (w' : World) (Pr' : Nat → Nat → Prop) (φ' : List Nat) : Prop where
  os : w'.os = w.os
  tape : w'.tape = w.tape
  output : w'.output = w.output
  size : w.heap.size ≤ w'.heap.size
  keep : ∀ b, b < w.heap.size → b ∉ φ → w'.heap[b]? = w.heap[b]?
  own : ∀ c, c ∈ φ' → c ∈ φ ∨ w.heap.size ≤ c
  prn : ∀ b o, Pr' b o → Pr b o ∨ b ∈ φ ∨ w.heap.size ≤ b

theorem Fr.refl (w : World) (Pr : Nat → Nat → Prop) (φ : List Nat) : Fr w Pr φ w Pr φ :=
  ⟨rfl, rfl, rfl, Nat.le_refl _, fun _ _ _ => rfl, fun _ h => .inl h, fun _ _ h => .inl h⟩

theorem Fr.trans {w : World} {Pr : Nat → Nat → Prop} {φ : List Nat} {w' : World} {Pr' : Nat → Nat → Prop} {φ' : List Nat} {w'' : World} {Pr'' : Nat → Nat → Prop} {φ'' : List Nat}
    (a : Fr w Pr φ w' Pr' φ') (b : Fr w' Pr' φ' w'' Pr'' φ'') : Fr w Pr φ w'' Pr'' φ'' := by
  have hs := a.size
  refine ⟨b.os.trans a.os, b.tape.trans a.tape, b.output.trans a.output, Nat.le_trans a.size b.size, fun x hx hn => ?_, fun c hc => ?_, fun x o hp => ?_⟩
  · rw [b.keep x (by omega) (fun hm => ?_), a.keep x hx hn]
    rcases a.own x hm with h | h
    · exact hn h
    · omega
  · rcases b.own c hc with h | h
    · exact a.own c h
    · exact .inr (by omega)
  · rcases b.prn x o hp with h | h | h
    · exact a.prn x o h
    · rcases a.own x h with h | h
      · exact .inr (.inl h)
      · exact .inr (.inr h)
    · exact .inr (.inr (by omega))

end Go.Proofs.Ytcaglmjfphjpfaa.E
