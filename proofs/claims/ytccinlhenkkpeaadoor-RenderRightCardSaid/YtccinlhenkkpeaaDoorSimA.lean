/- What the evaluator's data stand for in the model's memory, and how that is kept while the program runs. -/
import Derived.Test.YtccinlhenkkpeaaDoorEv
import Derived.Laws.StructEq
namespace Go.Proofs.YtccinlhenkkpeaaDoor.E
open Go
set_option linter.unusedSimpArgs false
set_option linter.unusedVariables false

def D.one : D → Bool
  | .agg _ | .tup _ | .any => false
  | _ => true

/-- The cells 'vs' lie from 'a' on, and nobody writes there. -/
def At (w : World) (Pr : Nat → Nat → Prop) (a : Option Addr) (vs : List Value) : Prop :=
  vs = [] ∨ ∃ b o, a = some ⟨b, o, none⟩ ∧ ∀ j v, vs[j]? = some v → w.cell? ⟨b, o + j, none⟩ = some v ∧ Pr b (o + j)

/-- The block c holds at least 'n' cells, none of them frozen. -/
def Room (w : World) (c n : Nat) : Prop := ∃ vs e, w.heap[c]? = some (.cells vs e (0, 0)) ∧ n ≤ vs.size

mutual
/-- The value v is the datum d, where block i of the store h is block φ i of the memory. -/
def Rep (w : World) (Pr : Nat → Nat → Prop) (φ : List Nat) (h : List Blk) : D → Value → Prop
  | .int k n, v => v = .int k n
  | .bool b, v => v = .bool b
  | .str s, v => v = .string s
  | .arr n full cs, v => ∃ a cap vs, v = .slice a n cap ∧ n ≤ cap ∧ cap ≤ maxLen ∧ (full = true → cap = n) ∧ (a = none → cap = 0) ∧ At w Pr a vs ∧ cs.all D.one = true ∧ RepL w Pr [] [] cs vs
  | .ref b off n sz gen full, v => ∃ a cap blk, v = .slice a n cap ∧ n ≤ cap ∧ cap ≤ maxLen ∧ ((full = true → cap = n) ∧ (full = false → gen ≤ off + cap * sz)) ∧ (a = none → cap = 0) ∧
      h[b]? = some blk ∧ blk.box = false ∧ gen ≤ blk.cs.length ∧
      (blk.cs.length = gen → ∃ c, φ[b]? = some c ∧ (0 < cap → a = some ⟨c, off, none⟩) ∧ off + n * sz ≤ gen ∧ Room w c (off + cap * sz))
  | .nilp, v => v = .pointer none
  | .ptr b off gen, v => ∃ ad blk, v = .pointer (some ad) ∧ h[b]? = some blk ∧ gen ≤ blk.cs.length ∧ (blk.cs.length = gen → ∃ c, φ[b]? = some c ∧ ad = ⟨c, off, none⟩)
  | .cptr cs, v => ∃ a vs, v = .pointer (some a) ∧ At w Pr (some a) vs ∧ cs.all D.one = true ∧ RepL w Pr [] [] cs vs
  | .agg cs, v => ∃ vs, v = .agg vs ∧ cs.all D.one = true ∧ RepL w Pr φ h cs vs.toList
  | .tup cs, v => ∃ vs, v = .tuple vs ∧ RepL w Pr φ h cs vs.toList
  | .fn f a c, v => ∃ va vc, v = .func f va vc ∧ RepL w Pr φ h a va.toList ∧ RepL w Pr φ h c vc.toList
  | .nilf, v => v = .nilFunc
  | .ifc t d, v => ∃ v', v = .iface t v' ∧ Rep w Pr φ h d v'
  | .nili, v => v = .nilIface
  | .any, _ => True
  | .anyb, v => ∃ b, v = .bool b
  | .mapd ks vs, v => ∃ b es c us ws, v = .map (some b) ∧ Pr b 0 ∧ w.heap[b]? = some (.map es c) ∧ RepL w Pr [] [] ks us ∧ RepL w Pr [] [] vs ws ∧ (es.toList.map fun e => (e.key, e.val)).Perm (us.zip ws) ∧ ks.length = vs.length
def RepL (w : World) (Pr : Nat → Nat → Prop) (φ : List Nat) (h : List Blk) : List D → List Value → Prop
  | [], vs => vs = []
  | d :: ds, vs => ∃ v r, vs = v :: r ∧ Rep w Pr φ h d v ∧ RepL w Pr φ h ds r
end

/-- Nothing that is known of the first memory is lost in the second one. -/
structure Le (w : World) (Pr : Nat → Nat → Prop) (φ : List Nat) (h : List Blk) (w' : World) (Pr' : Nat → Nat → Prop) (φ' : List Nat) (h' : List Blk) : Prop where
  pr : ∀ b o, Pr b o → Pr' b o ∧ w'.cell? ⟨b, o, none⟩ = w.cell? ⟨b, o, none⟩
  blk : ∀ (i : Nat) (k : Blk), h[i]? = some k → ∃ k', h'[i]? = some k' ∧ k'.box = k.box ∧ k.cs.length ≤ k'.cs.length ∧
    (k'.cs.length = k.cs.length → ∀ c, φ[i]? = some c → φ'[i]? = some c ∧ ∀ n, Room w c n → Room w' c n)
  mp : ∀ (b : Nat) (es : Array MapEntry) (c : Nat), Pr b 0 → w.heap[b]? = some (.map es c) → w'.heap[b]? = some (.map es c)

theorem Le.refl (w : World) (Pr : Nat → Nat → Prop) (φ : List Nat) (h : List Blk) : Le w Pr φ h w Pr φ h :=
  ⟨fun _ _ p => ⟨p, rfl⟩, fun _ k hk => ⟨k, hk, rfl, Nat.le_refl _, fun _ _ hc => ⟨hc, fun _ r => r⟩⟩, fun _ _ _ _ m => m⟩

theorem Le.trans {w : World} {Pr : Nat → Nat → Prop} {φ : List Nat} {h : List Blk} {w' : World} {Pr' : Nat → Nat → Prop} {φ' : List Nat} {h' : List Blk} {w'' : World} {Pr'' : Nat → Nat → Prop} {φ'' : List Nat} {h'' : List Blk}
    (a : Le w Pr φ h w' Pr' φ' h') (b : Le w' Pr' φ' h' w'' Pr'' φ'' h'') : Le w Pr φ h w'' Pr'' φ'' h'' := by
  refine ⟨fun x o p => ?_, fun i k hk => ?_, fun x es c p hm => b.mp x es c (a.pr x 0 p).1 (a.mp x es c p hm)⟩
  · obtain ⟨p1, e1⟩ := a.pr x o p
    obtain ⟨p2, e2⟩ := b.pr x o p1
    exact ⟨p2, e2.trans e1⟩
  · obtain ⟨k1, h1, b1, l1, c1⟩ := a.blk i k hk
    obtain ⟨k2, h2, b2, l2, c2⟩ := b.blk i k1 h1
    refine ⟨k2, h2, b2.trans b1, Nat.le_trans l1 l2, fun e c hc => ?_⟩
    obtain ⟨hc1, r1⟩ := c1 (by omega) c hc
    obtain ⟨hc2, r2⟩ := c2 (by omega) c hc1
    exact ⟨hc2, fun n r => r2 n (r1 n r)⟩

theorem Le.closed {w : World} {Pr : Nat → Nat → Prop} {φ : List Nat} {h : List Blk} {w' : World} {Pr' : Nat → Nat → Prop} {φ' : List Nat} {h' : List Blk}
    (a : Le w Pr φ h w' Pr' φ' h') : Le w Pr [] [] w' Pr' [] [] :=
  ⟨a.pr, fun i k hk => by simp at hk, a.mp⟩

theorem At.mono {w w' : World} {Pr Pr' : Nat → Nat → Prop} {a : Option Addr} {vs : List Value}
    (pr : ∀ b o, Pr b o → Pr' b o ∧ w'.cell? ⟨b, o, none⟩ = w.cell? ⟨b, o, none⟩) (h : At w Pr a vs) : At w' Pr' a vs := by
  rcases h with h | ⟨b, o, ha, hc⟩
  · exact .inl h
  · refine .inr ⟨b, o, ha, fun j v hv => ?_⟩
    obtain ⟨h1, h2⟩ := hc j v hv
    obtain ⟨p, e⟩ := pr _ _ h2
    exact ⟨e.trans h1, p⟩

mutual
theorem Rep.mono {w : World} {Pr : Nat → Nat → Prop} {φ : List Nat} {h : List Blk} {w' : World} {Pr' : Nat → Nat → Prop} {φ' : List Nat} {h' : List Blk}
    (l : Le w Pr φ h w' Pr' φ' h') : (d : D) → (v : Value) → Rep w Pr φ h d v → Rep w' Pr' φ' h' d v
  | .int k n, v, r => r
  | .bool b, v, r => r
  | .str s, v, r => r
  | .arr n full cs, v, r => by
    simp only [Rep] at r ⊢
    obtain ⟨a, cap, vs, h1, h2, h3, h4, h5, h6, h7, h8⟩ := r
    exact ⟨a, cap, vs, h1, h2, h3, h4, h5, h6.mono l.pr, h7, RepL.mono l.closed cs vs h8⟩
  | .ref b off n sz gen full, v, r => by
    simp only [Rep] at r ⊢
    obtain ⟨a, cap, blk, h1, h2, h3, h4, h5, h6, h7, h8, h9⟩ := r
    obtain ⟨k', hk', hb, hl, hc⟩ := l.blk b blk h6
    refine ⟨a, cap, k', h1, h2, h3, h4, h5, hk', hb.trans h7, by omega, fun e => ?_⟩
    obtain ⟨c, g1, g2, g3, g4⟩ := h9 (by omega)
    obtain ⟨q1, q2⟩ := hc (by omega) c g1
    exact ⟨c, q1, g2, g3, q2 _ g4⟩
  | .nilp, v, r => r
  | .ptr b off gen, v, r => by
    simp only [Rep] at r ⊢
    obtain ⟨c, blk, h1, h2, h3, h4⟩ := r
    obtain ⟨k', hk', hb, hl, hc⟩ := l.blk b blk h2
    refine ⟨c, k', h1, hk', by omega, fun e => ?_⟩
    obtain ⟨x, g1, g2⟩ := h4 (by omega)
    exact ⟨x, (hc (by omega) x g1).1, g2⟩
  | .cptr cs, v, r => by
    simp only [Rep] at r ⊢
    obtain ⟨a, vs, h1, h2, h3, h4⟩ := r
    exact ⟨a, vs, h1, h2.mono l.pr, h3, RepL.mono l.closed cs vs h4⟩
  | .agg cs, v, r => by
    simp only [Rep] at r ⊢
    obtain ⟨vs, h1, h2, h3⟩ := r
    exact ⟨vs, h1, h2, RepL.mono l cs _ h3⟩
  | .tup cs, v, r => by
    simp only [Rep] at r ⊢
    obtain ⟨vs, h1, h2⟩ := r
    exact ⟨vs, h1, RepL.mono l cs _ h2⟩
  | .fn f a c, v, r => by
    simp only [Rep] at r ⊢
    obtain ⟨va, vc, h1, h2, h3⟩ := r
    exact ⟨va, vc, h1, RepL.mono l a _ h2, RepL.mono l c _ h3⟩
  | .nilf, v, r => r
  | .ifc t d, v, r => by
    simp only [Rep] at r ⊢
    obtain ⟨v', h1, h2⟩ := r
    exact ⟨v', h1, Rep.mono l d v' h2⟩
  | .nili, v, r => r
  | .any, v, r => trivial
  | .anyb, v, r => r
  | .mapd ks vs, v, r => by
    simp only [Rep] at r ⊢
    obtain ⟨b, es, c, us, ws, h1, p, hm, h2, h3, h4, h5⟩ := r
    exact ⟨b, es, c, us, ws, h1, (l.pr b 0 p).1, l.mp b es c p hm, RepL.mono l.closed ks us h2, RepL.mono l.closed vs ws h3, h4, h5⟩
theorem RepL.mono {w : World} {Pr : Nat → Nat → Prop} {φ : List Nat} {h : List Blk} {w' : World} {Pr' : Nat → Nat → Prop} {φ' : List Nat} {h' : List Blk}
    (l : Le w Pr φ h w' Pr' φ' h') : (ds : List D) → (vs : List Value) → RepL w Pr φ h ds vs → RepL w' Pr' φ' h' ds vs
  | [], vs, r => r
  | d :: ds, vs, r => by
    simp only [RepL] at r ⊢
    obtain ⟨v, q, h1, h2, h3⟩ := r
    exact ⟨v, q, h1, Rep.mono l d v h2, RepL.mono l ds q h3⟩
end

section
variable {w : World} {Pr : Nat → Nat → Prop} {φ : List Nat} {h : List Blk}

theorem RepL.nil_iff {vs : List Value} : RepL w Pr φ h [] vs ↔ vs = [] := by simp [RepL]
theorem RepL.cons_iff {d : D} {ds : List D} {vs : List Value} : RepL w Pr φ h (d :: ds) vs ↔ ∃ v r, vs = v :: r ∧ Rep w Pr φ h d v ∧ RepL w Pr φ h ds r := by simp [RepL]

theorem RepL.length : {ds : List D} → {vs : List Value} → RepL w Pr φ h ds vs → vs.length = ds.length
  | [], vs, r => by simp [RepL] at r; simp [r]
  | d :: ds, vs, r => by
    simp only [RepL] at r
    obtain ⟨v, q, rfl, _, h3⟩ := r
    simp [RepL.length h3]

theorem RepL.get : {ds : List D} → {vs : List Value} → RepL w Pr φ h ds vs → ∀ (j : Nat) (d : D), ds[j]? = some d → ∃ v, vs[j]? = some v ∧ Rep w Pr φ h d v
  | [], vs, r, j, d, hd => by simp at hd
  | e :: ds, vs, r, j, d, hd => by
    simp only [RepL] at r
    obtain ⟨v, q, rfl, h2, h3⟩ := r
    cases j with
    | zero => simp at hd; subst hd; exact ⟨v, by simp, h2⟩
    | succ j => simpa using RepL.get h3 j d (by simpa using hd)

theorem RepL.append : {ds es : List D} → {vs us : List Value} → RepL w Pr φ h ds vs → RepL w Pr φ h es us → RepL w Pr φ h (ds ++ es) (vs ++ us)
  | [], es, vs, us, r, q => by simp [RepL] at r; subst r; simpa using q
  | d :: ds, es, vs, us, r, q => by
    simp only [RepL] at r
    obtain ⟨v, p, rfl, h2, h3⟩ := r
    simp only [List.cons_append, RepL]
    exact ⟨v, p ++ us, rfl, h2, RepL.append h3 q⟩

theorem RepL.take : {ds : List D} → {vs : List Value} → (n : Nat) → RepL w Pr φ h ds vs → RepL w Pr φ h (ds.take n) (vs.take n)
  | [], vs, n, r => by simp [RepL] at r; subst r; simp [RepL]
  | d :: ds, vs, 0, r => by simp [RepL]
  | d :: ds, vs, n + 1, r => by
    simp only [RepL] at r
    obtain ⟨v, p, rfl, h2, h3⟩ := r
    simp only [List.take_succ_cons, RepL]
    exact ⟨v, _, rfl, h2, RepL.take n h3⟩

theorem RepL.drop : {ds : List D} → {vs : List Value} → (n : Nat) → RepL w Pr φ h ds vs → RepL w Pr φ h (ds.drop n) (vs.drop n)
  | [], vs, n, r => by simp [RepL] at r; subst r; simp [RepL]
  | d :: ds, vs, 0, r => by simpa using r
  | d :: ds, vs, n + 1, r => by
    simp only [RepL] at r
    obtain ⟨v, p, rfl, h2, h3⟩ := r
    simpa using RepL.drop n h3

theorem RepL.set : {ds : List D} → {vs : List Value} → RepL w Pr φ h ds vs → ∀ (j : Nat) {d : D} {v : Value}, Rep w Pr φ h d v → RepL w Pr φ h (ds.set j d) (vs.set j v)
  | [], vs, r, j, d, v, q => by simp [RepL] at r; subst r; simp [RepL]
  | e :: ds, vs, r, j, d, v, q => by
    simp only [RepL] at r
    obtain ⟨u, p, rfl, h2, h3⟩ := r
    cases j with
    | zero => simp only [List.set_cons_zero, RepL]; exact ⟨v, p, rfl, q, h3⟩
    | succ j => simp only [List.set_cons_succ, RepL]; exact ⟨u, _, rfl, h2, RepL.set h3 j q⟩

/-- A datum that leads to no block of the store. -/
theorem plain_closed {d : D} {v : Value} (hp : d.plain = true) (r : Rep w Pr φ h d v) : Rep w Pr [] [] d v := by
  cases d <;> simp only [D.plain, Bool.false_eq_true] at hp <;> first | exact r | skip
  rename_i f a c
  cases a <;> cases c <;> simp only [D.plain, Bool.false_eq_true] at hp
  simp only [Rep, RepL] at r ⊢
  exact r

theorem lift_closed {d : D} {v : Value} (r : Rep w Pr [] [] d v) : Rep w Pr φ h d v :=
  Rep.mono ⟨fun _ _ p => ⟨p, rfl⟩, fun i k hk => by simp at hk, fun _ _ _ _ m => m⟩ d v r
theorem liftL_closed {ds : List D} {vs : List Value} (r : RepL w Pr [] [] ds vs) : RepL w Pr φ h ds vs :=
  RepL.mono ⟨fun _ _ p => ⟨p, rfl⟩, fun i k hk => by simp at hk, fun _ _ _ _ m => m⟩ ds vs r

theorem one_value {d : D} {v : Value} (ho : d.one = true) (r : Rep w Pr φ h d v) : v.oneCell' = true ∧ v.cells = #[v] := by
  cases d <;> simp only [D.one, Bool.false_eq_true] at ho <;> simp only [Rep] at r
  case int => subst r; exact ⟨rfl, rfl⟩
  case bool => subst r; exact ⟨rfl, rfl⟩
  case str => subst r; exact ⟨rfl, rfl⟩
  case arr => obtain ⟨a, cap, vs, rfl, _⟩ := r; exact ⟨rfl, rfl⟩
  case ref => obtain ⟨a, cap, vs, rfl, _⟩ := r; exact ⟨rfl, rfl⟩
  case nilp => subst r; exact ⟨rfl, rfl⟩
  case ptr => obtain ⟨c, blk, rfl, _⟩ := r; exact ⟨rfl, rfl⟩
  case cptr => obtain ⟨a, vs, rfl, _⟩ := r; exact ⟨rfl, rfl⟩
  case fn => obtain ⟨a, vs, rfl, _⟩ := r; exact ⟨rfl, rfl⟩
  case nilf => subst r; exact ⟨rfl, rfl⟩
  case ifc => obtain ⟨v', rfl, _⟩ := r; exact ⟨rfl, rfl⟩
  case nili => subst r; exact ⟨rfl, rfl⟩
  case anyb => obtain ⟨b, rfl⟩ := r; exact ⟨rfl, rfl⟩
  case mapd => obtain ⟨b, es, c, us, ws, rfl, _⟩ := r; exact ⟨rfl, rfl⟩

/-- The cells of a datum are the cells of its value. -/
theorem cells_rep {d : D} {v : Value} {cs : List D} (hc : d.cells = some cs) (r : Rep w Pr φ h d v) : RepL w Pr φ h cs v.cells.toList ∧ cs.all D.one = true := by
  by_cases ho : d.one = true
  · obtain ⟨_, hv⟩ := one_value ho r
    have : cs = [d] := by cases d <;> simp_all [D.cells, D.one]
    subst this
    rw [hv]
    exact ⟨by simp only [RepL]; exact ⟨v, [], rfl, r, rfl⟩, by simp [ho]⟩
  · cases d <;> simp [D.one] at ho
    · simp only [D.cells, Option.some.injEq] at hc
      subst hc
      simp only [Rep] at r
      obtain ⟨vs, rfl, h2, h3⟩ := r
      exact ⟨h3, h2⟩
    · simp [D.cells] at hc
    · simp [D.cells] at hc
end

/-- The package variables hold what the table says, and nobody writes them. -/
def Glob (w : World) (Pr : Nat → Nat → Prop) : Prop := ∀ g cs, glob g = some cs → ∃ vs, At w Pr (some ⟨g, 0, none⟩) vs ∧ cs.all D.one = true ∧ RepL w Pr [] [] cs vs

theorem Glob.mono {w : World} {Pr : Nat → Nat → Prop} {φ : List Nat} {h : List Blk} {w' : World} {Pr' : Nat → Nat → Prop} {φ' : List Nat} {h' : List Blk}
    (l : Le w Pr φ h w' Pr' φ' h') (g : Glob w Pr) : Glob w' Pr' := fun x cs hx => by
  obtain ⟨vs, h1, h2, h3⟩ := g x cs hx
  exact ⟨vs, h1.mono l.pr, h2, RepL.mono l.closed _ _ h3⟩

/-- Memory, and the store that stands for a part of it. -/
structure Sim (w : World) (Pr : Nat → Nat → Prop) (φ : List Nat) (h : List Blk) : Prop where
  len : φ.length = h.length
  prlt : ∀ b o, Pr b o → b < w.heap.size
  blk : ∀ (i : Nat) (k : Blk) (c : Nat), h[i]? = some k → φ[i]? = some c → ∃ vs e, w.heap[c]? = some (.cells vs e (0, 0)) ∧ k.cs.length ≤ vs.size ∧
    (bif k.box then RepL w Pr φ h k.cs (vs.toList.take k.cs.length) else RepL w Pr [] [] k.cs (vs.toList.take k.cs.length)) ∧
    k.cs.all D.one = true ∧ k.fz ≤ k.cs.length ∧ ∀ o, Pr c o → o < k.fz
  inj : ∀ (i j c : Nat), φ[i]? = some c → φ[j]? = some c → i = j
  gl : Glob w Pr

/-- What else holds between two memories of one run. -/
structure Fr (w : World) (Pr : Nat → Nat → Prop) (φ : List Nat) (w' : World) (Pr' : Nat → Nat → Prop) (φ' : List Nat) : Prop where
  os : w'.os = w.os
  tape : w'.tape = w.tape
  output : w'.output = w.output
  size : w.heap.size ≤ w'.heap.size
  keep : ∀ b, b < w.heap.size → b ∉ φ → w'.heap[b]? = w.heap[b]?
  own : ∀ c, c ∈ φ' → c ∈ φ ∨ w.heap.size ≤ c
  prn : ∀ b o, Pr' b o → Pr b o ∨ b ∈ φ ∨ w.heap.size ≤ b

theorem Fr.refl (w : World) (Pr : Nat → Nat → Prop) (φ : List Nat) : Fr w Pr φ w Pr φ :=
  ⟨rfl, rfl, rfl, Nat.le_refl _, fun _ _ _ => rfl, fun _ h => .inl h, fun _ _ h => .inl h⟩

theorem Fr.trans {w : World} {Pr : Nat → Nat → Prop} {φ : List Nat} {w' : World} {Pr' : Nat → Nat → Prop} {φ' : List Nat} {w'' : World} {Pr'' : Nat → Nat → Prop} {φ'' : List Nat}
    (a : Fr w Pr φ w' Pr' φ') (b : Fr w' Pr' φ' w'' Pr'' φ'') : Fr w Pr φ w'' Pr'' φ'' := by
  have hs := a.size
  refine ⟨b.os.trans a.os, b.tape.trans a.tape, b.output.trans a.output, Nat.le_trans a.size b.size, fun x hx hn => ?_, fun c hc => ?_, fun x o hp => ?_⟩
  · rw [b.keep x (by omega) (fun hm => ?_), a.keep x hx hn]
    rcases a.own x hm with h | h
    · exact hn h
    · omega
  · rcases b.own c hc with h | h
    · exact a.own c h
    · exact .inr (by omega)
  · rcases b.prn x o hp with h | h | h
    · exact a.prn x o h
    · rcases a.own x h with h | h
      · exact .inr (.inl h)
      · exact .inr (.inr h)
    · exact .inr (.inr (by omega))

end Go.Proofs.YtccinlhenkkpeaaDoor.E

namespace Go.Proofs.YtccinlhenkkpeaaDoor.E
open Go

section
variable {w w' : World} {Pr Pr' : Nat → Nat → Prop} {φ : List Nat} {h : List Blk}

theorem cell_of_heap (hb : ∀ c, c < w.heap.size → w'.heap[c]? = w.heap[c]?) {b : Nat} (hlt : b < w.heap.size) (o : Nat) : w'.cell? ⟨b, o, none⟩ = w.cell? ⟨b, o, none⟩ := by
  simp [World.cell?, hb b hlt]

theorem Room.lt {c n : Nat} (r : Room w c n) : c < w.heap.size := by
  obtain ⟨vs, e, hc, _⟩ := r
  exact (Array.getElem?_eq_some_iff.1 hc).1

theorem Room.same {c n : Nat} (hb : w'.heap[c]? = w.heap[c]?) (r : Room w c n) : Room w' c n := by
  obtain ⟨vs, e, hc, hn⟩ := r
  exact ⟨vs, e, hb.trans hc, hn⟩

theorem Room.of_below {c n : Nat} (hb : ∀ c, c < w.heap.size → w'.heap[c]? = w.heap[c]?) (r : Room w c n) : Room w' c n := r.same (hb c r.lt)

/-- All that was there is as it was. -/
theorem Le.of_below (hb : ∀ c, c < w.heap.size → w'.heap[c]? = w.heap[c]?) (hp : ∀ b o, Pr b o → Pr' b o) (hlt : ∀ b o, Pr b o → b < w.heap.size) : Le w Pr φ h w' Pr' φ h :=
  ⟨fun b o p => ⟨hp b o p, cell_of_heap hb (hlt b o p) o⟩, fun _ k hk => ⟨k, hk, rfl, Nat.le_refl _, fun _ _ hc => ⟨hc, fun _ r => r.of_below hb⟩⟩, fun b _ _ p hm => (hb b (hlt b 0 p)).trans hm⟩

theorem Sim.lt (S : Sim w Pr φ h) {i c : Nat} (hc : φ[i]? = some c) : c < w.heap.size := by
  have hi : i < h.length := by rw [← S.len]; exact (List.getElem?_eq_some_iff.1 hc).1
  obtain ⟨vs, e, he, _⟩ := S.blk i h[i] c (List.getElem?_eq_getElem hi) hc
  exact (Array.getElem?_eq_some_iff.1 he).1

theorem Sim.mem_lt (S : Sim w Pr φ h) {c : Nat} (hc : c ∈ φ) : c < w.heap.size := by
  obtain ⟨i, hi⟩ := List.getElem?_of_mem hc
  exact S.lt hi

theorem Sim.of_below (S : Sim w Pr φ h) (hb : ∀ c, c < w.heap.size → w'.heap[c]? = w.heap[c]?) (hp : ∀ b o, Pr b o → Pr' b o)
    (hn : ∀ b o, Pr' b o → Pr b o ∨ (w.heap.size ≤ b ∧ b < w'.heap.size)) (hs : w.heap.size ≤ w'.heap.size) : Sim w' Pr' φ h := by
  have l : Le w Pr φ h w' Pr' φ h := Le.of_below hb hp S.prlt
  refine ⟨S.len, fun b o p => ?_, fun i k c hk hc => ?_, S.inj, S.gl.mono l⟩
  · rcases hn b o p with q | q
    · have := S.prlt b o q; omega
    · exact q.2
  · obtain ⟨vs, e, he, hl, hr, ho, hf, hpr⟩ := S.blk i k c hk hc
    have hlt := S.lt hc
    refine ⟨vs, e, (hb c hlt).trans he, hl, ?_, ho, hf, fun o p => ?_⟩
    · cases hbx : k.box <;> simp only [hbx, cond_true, cond_false] at hr ⊢
      · exact RepL.mono l.closed _ _ hr
      · exact RepL.mono l _ _ hr
    · rcases hn c o p with q | q
      · exact hpr o q
      · omega

theorem Fr.of_below (hb : ∀ c, c < w.heap.size → w'.heap[c]? = w.heap[c]?) (hn : ∀ b o, Pr' b o → Pr b o ∨ (w.heap.size ≤ b ∧ b < w'.heap.size)) (hs : w.heap.size ≤ w'.heap.size)
    (h1 : w'.os = w.os) (h2 : w'.tape = w.tape) (h3 : w'.output = w.output) : Fr w Pr φ w' Pr' φ :=
  ⟨h1, h2, h3, hs, fun b hb' _ => hb b hb', fun _ hc => .inl hc, fun b o p => (hn b o p).elim .inl fun q => .inr (.inr q.1)⟩

theorem below_alloc (w : World) (o : Obj) : ∀ c, c < w.heap.size → (w.alloc o).heap[c]? = w.heap[c]? := by
  intro c hc
  show (w.heap.push o)[c]? = _
  rw [Array.getElem?_push, if_neg (by omega)]
theorem below_drew (w : World) : ∀ c, c < w.heap.size → w.drew.heap[c]? = w.heap[c]? := fun _ _ => rfl

/-- A new block that nobody writes. -/
theorem imm_alloc (S : Sim w Pr φ h) (o : Obj) : let Pr' := fun b o => Pr b o ∨ b = w.heap.size
    Le w Pr φ h (w.alloc o) Pr' φ h ∧ Fr w Pr φ (w.alloc o) Pr' φ ∧ Sim (w.alloc o) Pr' φ h := by
  intro Pr'
  have hn : ∀ b p, Pr' b p → Pr b p ∨ (w.heap.size ≤ b ∧ b < (w.alloc o).heap.size) := fun b p q => q.imp id fun e => by simp [e]
  exact ⟨Le.of_below (below_alloc w o) (fun _ _ p => .inl p) S.prlt, Fr.of_below (below_alloc w o) hn (by simp) rfl rfl rfl, S.of_below (below_alloc w o) (fun _ _ p => .inl p) hn (by simp)⟩

theorem drew_all (S : Sim w Pr φ h) : Le w Pr φ h w.drew Pr φ h ∧ Fr w Pr φ w.drew Pr φ ∧ Sim w.drew Pr φ h :=
  ⟨Le.of_below (below_drew w) (fun _ _ p => p) S.prlt, Fr.of_below (below_drew w) (fun _ _ p => .inl p) (Nat.le_refl _) rfl rfl rfl, S.of_below (below_drew w) (fun _ _ p => p) (fun _ _ p => .inl p) (Nat.le_refl _)⟩

/-- A block of the memory that is there already becomes one of the store's. -/
theorem adopt (S : Sim w Pr φ h) (c : Nat) (k : Blk) (hc : ∀ x ∈ φ, x ≠ c) {vs : Array Value} {e : TypeId} (he : w.heap[c]? = some (.cells vs e (0, 0))) (hl : k.cs.length ≤ vs.size)
    (hr : RepL w Pr (φ ++ [c]) (h ++ [k]) k.cs (vs.toList.take k.cs.length)) (hrc : k.box = false → RepL w Pr [] [] k.cs (vs.toList.take k.cs.length)) (ho : k.cs.all D.one = true) (hf : k.fz ≤ k.cs.length) (hpr : ∀ o, Pr c o → o < k.fz) :
    Le w Pr φ h w Pr (φ ++ [c]) (h ++ [k]) ∧ Sim w Pr (φ ++ [c]) (h ++ [k]) := by
  have l : Le w Pr φ h w Pr (φ ++ [c]) (h ++ [k]) := by
    refine ⟨fun _ _ p => ⟨p, rfl⟩, fun i k' hk => ⟨k', ?_, rfl, Nat.le_refl _, fun _ c' hc' => ⟨?_, fun _ r => r⟩⟩, fun _ _ _ _ m => m⟩
    · rw [List.getElem?_append_left (List.getElem?_eq_some_iff.1 hk).1]; exact hk
    · rw [List.getElem?_append_left (List.getElem?_eq_some_iff.1 hc').1]; exact hc'
  refine ⟨l, by simp [S.len], S.prlt, fun i k' c' hk' hc' => ?_, fun i j c' hi hj => ?_, S.gl⟩
  · by_cases hi : i < h.length
    · rw [List.getElem?_append_left hi] at hk'
      rw [List.getElem?_append_left (by rw [S.len]; exact hi)] at hc'
      obtain ⟨vs, e, he, hl, hr, ho, hf, hpr⟩ := S.blk i k' c' hk' hc'
      refine ⟨vs, e, he, hl, ?_, ho, hf, hpr⟩
      cases hbx : k'.box <;> simp only [hbx, cond_true, cond_false] at hr ⊢
      · exact hr
      · exact RepL.mono l _ _ hr
    · have hi' : i = h.length := by
        have := (List.getElem?_eq_some_iff.1 hk').1
        simp at this; omega
      subst hi'
      simp at hk'
      rw [← S.len] at hc'
      simp at hc'
      subst hk' hc'
      refine ⟨vs, e, he, hl, ?_, ho, hf, hpr⟩
      cases hbx : k.box <;> simp only [cond_true, cond_false]
      · exact hrc hbx
      · exact hr
  · have one : ∀ i, (φ ++ [c])[i]? = some c' → (i < φ.length ∧ φ[i]? = some c') ∨ (i = φ.length ∧ c' = c) := by
      intro i hi
      by_cases hlt : i < φ.length
      · rw [List.getElem?_append_left hlt] at hi; exact .inl ⟨hlt, hi⟩
      · have : i = φ.length := by have := (List.getElem?_eq_some_iff.1 hi).1; simp at this; omega
        subst this; simp at hi; exact .inr ⟨rfl, hi.symm⟩
    rcases one i hi with ⟨a, b⟩ | ⟨a, b⟩ <;> rcases one j hj with ⟨a', b'⟩ | ⟨a', b'⟩
    · exact S.inj i j c' b b'
    · subst b'; exact absurd rfl (hc c' (List.mem_of_getElem? b))
    · subst b; exact absurd rfl (hc c' (List.mem_of_getElem? b'))
    · omega

/-- A new block of the store. -/
theorem own_alloc (S : Sim w Pr φ h) (vs : Array Value) (e : TypeId) (k : Blk) (hl : k.cs.length ≤ vs.size)
    (hr : RepL w Pr φ h k.cs (vs.toList.take k.cs.length)) (hrc : k.box = false → RepL w Pr [] [] k.cs (vs.toList.take k.cs.length)) (ho : k.cs.all D.one = true) (hf : k.fz = 0) :
    Le w Pr φ h (w.alloc (.cells vs e)) Pr (φ ++ [w.heap.size]) (h ++ [k]) ∧ Fr w Pr φ (w.alloc (.cells vs e)) Pr (φ ++ [w.heap.size]) ∧ Sim (w.alloc (.cells vs e)) Pr (φ ++ [w.heap.size]) (h ++ [k]) := by
  have hn : ∀ b p, Pr b p → Pr b p ∨ (w.heap.size ≤ b ∧ b < (w.alloc (.cells vs e)).heap.size) := fun _ _ q => .inl q
  have l1 : Le w Pr φ h (w.alloc (.cells vs e)) Pr φ h := Le.of_below (below_alloc w _) (fun _ _ p => p) S.prlt
  have s1 : Sim (w.alloc (.cells vs e)) Pr φ h := S.of_below (below_alloc w _) (fun _ _ p => p) hn (by simp)
  have hc : ∀ x ∈ φ, x ≠ w.heap.size := fun x hx => Nat.ne_of_lt (S.mem_lt hx)
  have la : Le (w.alloc (.cells vs e)) Pr φ h (w.alloc (.cells vs e)) Pr (φ ++ [w.heap.size]) (h ++ [k]) := by
    refine ⟨fun _ _ p => ⟨p, rfl⟩, fun i k' hk => ⟨k', ?_, rfl, Nat.le_refl _, fun _ c' hc' => ⟨?_, fun _ r => r⟩⟩, fun _ _ _ _ m => m⟩
    · rw [List.getElem?_append_left (List.getElem?_eq_some_iff.1 hk).1]; exact hk
    · rw [List.getElem?_append_left (List.getElem?_eq_some_iff.1 hc').1]; exact hc'
  obtain ⟨l2, s2⟩ := adopt s1 w.heap.size k hc (heap_alloc_new w _) hl (RepL.mono (l1.trans la) _ _ hr) (fun hb => RepL.mono l1.closed _ _ (hrc hb)) ho (by omega) (fun o p => absurd (S.prlt _ o p) (by omega))
  refine ⟨l1.trans l2, ⟨rfl, rfl, rfl, by simp, fun b hb _ => below_alloc w _ b hb, fun c hc => ?_, fun b o p => .inl p⟩, s2⟩
  rcases List.mem_append.1 hc with h | h
  · exact .inl h
  · exact .inr (by simp at h; omega)

/-- A block of the store is written. -/
theorem own_write (S : Sim w Pr φ h) {i c : Nat} {k k' : Blk} (hi : h[i]? = some k) (hc : φ[i]? = some c) {vs vs' : Array Value} {e : TypeId} (he : w.heap[c]? = some (.cells vs e (0, 0)))
    (he' : w'.heap[c]? = some (.cells vs' e (0, 0))) (hoth : ∀ b, b ≠ c → w'.heap[b]? = w.heap[b]?) (hsz : w'.heap.size = w.heap.size) (h1 : w'.os = w.os) (h2 : w'.tape = w.tape) (h3 : w'.output = w.output)
    (hvs : vs.size ≤ vs'.size) (hpre : ∀ o, o < k.fz → vs'[o]? = vs[o]?) (hbx : k'.box = k.box) (hln : k.cs.length ≤ k'.cs.length) (hl : k'.cs.length ≤ vs'.size)
    (hfz : k'.fz = k.fz) (ho : k'.cs.all D.one = true)
    (hr : Le w Pr φ h w' Pr φ (h.set i k') → (bif k.box then RepL w' Pr φ (h.set i k') k'.cs (vs'.toList.take k'.cs.length) else RepL w' Pr [] [] k'.cs (vs'.toList.take k'.cs.length))) :
    Le w Pr φ h w' Pr φ (h.set i k') ∧ Fr w Pr φ w' Pr φ ∧ Sim w' Pr φ (h.set i k') := by
  have hil : i < h.length := (List.getElem?_eq_some_iff.1 hi).1
  obtain ⟨vs0, e0, q1, q2, q3, q4, q5, q6⟩ := S.blk i k c hi hc
  have hroom : ∀ b n, Room w b n → Room w' b n := by
    intro b n r
    by_cases hb : b = c
    · subst hb
      obtain ⟨u, f, hu, hn⟩ := r
      rw [he] at hu
      simp at hu
      obtain ⟨rfl, rfl⟩ := hu
      exact ⟨vs', e, he', by omega⟩
    · exact r.same (hoth b hb)
  have l : Le w Pr φ h w' Pr φ (h.set i k') := by
    refine ⟨fun b o p => ⟨p, ?_⟩, fun j kj hj => ?_, fun b es _ _ hm => by
      have hb : b ≠ c := by rintro rfl; rw [he] at hm; cases hm
      rw [hoth b hb]; exact hm⟩
    · by_cases hb : b = c
      · subst hb
        have hof := q6 o p
        simp [World.cell?, he, he', hpre o hof]
      · simp [World.cell?, hoth b hb]
    · by_cases hji : j = i
      · subst hji
        rw [hi] at hj
        simp at hj
        subst hj
        exact ⟨k', by simp [hil], hbx, hln, fun _ c' hc' => ⟨hc', fun n r => hroom c' n r⟩⟩
      · exact ⟨kj, by rw [List.getElem?_set_ne (Ne.symm hji)]; exact hj, rfl, Nat.le_refl _, fun _ c' hc' => ⟨hc', fun n r => hroom c' n r⟩⟩
  refine ⟨l, ⟨h1, h2, h3, by omega, fun b _ hn => hoth b fun hbc => hn (hbc ▸ List.mem_of_getElem? hc), fun _ hx => .inl hx, fun _ _ p => .inl p⟩, by simp [S.len], fun b o p => by rw [hsz]; exact S.prlt b o p, fun j kj cj hj hcj => ?_, S.inj, S.gl.mono l⟩
  by_cases hji : j = i
  · subst hji
    rw [hc] at hcj
    simp at hcj
    subst hcj
    simp [hil] at hj
    subst hj
    refine ⟨vs', e, he', hl, ?_, ho, by omega, fun o p => by rw [hfz]; exact q6 o p⟩
    rw [hbx]
    exact hr l
  · rw [List.getElem?_set_ne (Ne.symm hji)] at hj
    obtain ⟨us, f, g1, g2, g3, g4, g5, g6⟩ := S.blk j kj cj hj hcj
    have hne : cj ≠ c := fun hh => hji (S.inj j i c (hh ▸ hcj) hc)
    refine ⟨us, f, (hoth cj hne).trans g1, g2, ?_, g4, g5, g6⟩
    cases hb : kj.box <;> simp only [hb, cond_true, cond_false] at g3 ⊢
    · exact RepL.mono l.closed _ _ g3
    · exact RepL.mono l _ _ g3

/-- A row of the store grows into a new block. -/
theorem own_move (S : Sim w Pr φ h) {i c c' : Nat} {k k' : Blk} (hi : h[i]? = some k) (hc : φ[i]? = some c) (hnew : c' ∉ φ) (hnp : ∀ o, ¬ Pr c' o)
    {vs' : Array Value} {e : TypeId} (he' : w.heap[c']? = some (.cells vs' e (0, 0)))
    (hbx : k'.box = false) (hbk : k.box = false) (hln : k.cs.length < k'.cs.length) (hl : k'.cs.length ≤ vs'.size) (hfz : k'.fz ≤ k'.cs.length) (ho : k'.cs.all D.one = true)
    (hr : RepL w Pr [] [] k'.cs (vs'.toList.take k'.cs.length)) :
    Le w Pr φ h w Pr (φ.set i c') (h.set i k') ∧ Sim w Pr (φ.set i c') (h.set i k') := by
  have hil : i < h.length := (List.getElem?_eq_some_iff.1 hi).1
  have hil' : i < φ.length := by rw [S.len]; exact hil
  have l : Le w Pr φ h w Pr (φ.set i c') (h.set i k') := by
    refine ⟨fun b o p => ⟨p, rfl⟩, fun j kj hj => ?_, fun _ _ _ _ m => m⟩
    by_cases hji : j = i
    · subst hji
      rw [hi] at hj
      simp at hj
      subst hj
      exact ⟨k', by simp [hil], by rw [hbx, hbk], by omega, fun hh => by omega⟩
    · exact ⟨kj, by rw [List.getElem?_set_ne (Ne.symm hji)]; exact hj, rfl, Nat.le_refl _, fun _ c'' hc'' => ⟨by rw [List.getElem?_set_ne (Ne.symm hji)]; exact hc'', fun n r => r⟩⟩
  refine ⟨l, by simp [S.len], S.prlt, fun j kj cj hj hcj => ?_, fun a b x ha hb => ?_, S.gl⟩
  · by_cases hji : j = i
    · subst hji
      simp [hil'] at hcj
      subst hcj
      simp [hil] at hj
      subst hj
      refine ⟨vs', e, he', hl, ?_, ho, hfz, fun o p => absurd p (hnp o)⟩
      simp only [hbx, cond_false]
      exact hr
    · rw [List.getElem?_set_ne (Ne.symm hji)] at hj hcj
      obtain ⟨us, f, g1, g2, g3, g4, g5, g6⟩ := S.blk j kj cj hj hcj
      refine ⟨us, f, g1, g2, ?_, g4, g5, g6⟩
      cases hb : kj.box <;> simp only [hb, cond_true, cond_false] at g3 ⊢
      · exact g3
      · exact RepL.mono l _ _ g3
  · by_cases hai : a = i <;> by_cases hbi : b = i
    · omega
    · subst hai
      simp [hil'] at ha
      rw [List.getElem?_set_ne (Ne.symm hbi)] at hb
      subst ha
      exact absurd (List.mem_of_getElem? hb) hnew
    · subst hbi
      simp [hil'] at hb
      rw [List.getElem?_set_ne (Ne.symm hai)] at ha
      subst hb
      exact absurd (List.mem_of_getElem? ha) hnew
    · rw [List.getElem?_set_ne (Ne.symm hai)] at ha
      rw [List.getElem?_set_ne (Ne.symm hbi)] at hb
      exact S.inj a b x ha hb

/-- The first f cells of a block are written no more. -/
theorem own_freeze (S : Sim w Pr φ h) {i c f : Nat} {k k' : Blk} (hi : h[i]? = some k) (hc : φ[i]? = some c) (hf : f ≤ k.cs.length) (hk' : k' = ⟨k.cs, max k.fz f, k.box⟩) : let Pr' := fun b o => Pr b o ∨ (b = c ∧ o < f)
    Le w Pr φ h w Pr' φ (h.set i k') ∧ Fr w Pr φ w Pr' φ ∧ Sim w Pr' φ (h.set i k') := by
  intro Pr'
  subst hk'
  have hil : i < h.length := (List.getElem?_eq_some_iff.1 hi).1
  have l : Le w Pr φ h w Pr' φ (h.set i ⟨k.cs, max k.fz f, k.box⟩) := by
    refine ⟨fun b o p => ⟨.inl p, rfl⟩, fun j kj hj => ?_, fun _ _ _ _ m => m⟩
    by_cases hji : j = i
    · subst hji
      rw [hi] at hj
      simp at hj
      subst hj
      exact ⟨⟨k.cs, max k.fz f, k.box⟩, by simp [hil], rfl, Nat.le_refl _, fun _ c' hc' => ⟨hc', fun n r => r⟩⟩
    · exact ⟨kj, by rw [List.getElem?_set_ne (Ne.symm hji)]; exact hj, rfl, Nat.le_refl _, fun _ c'' hc'' => ⟨hc'', fun n r => r⟩⟩
  have hcl := S.lt hc
  refine ⟨l, ⟨rfl, rfl, rfl, Nat.le_refl _, fun _ _ _ => rfl, fun _ hx => .inl hx, fun b o p => by
    rcases p with p | ⟨rfl, _⟩
    · exact .inl p
    · exact .inr (.inl (List.mem_of_getElem? hc))⟩, by simp [S.len], fun b o p => ?_, fun j kj cj hj hcj => ?_, S.inj, S.gl.mono l⟩
  · rcases p with p | ⟨rfl, _⟩
    · exact S.prlt b o p
    · exact hcl
  · by_cases hji : j = i
    · subst hji
      rw [hc] at hcj
      simp at hcj
      subst hcj
      simp [hil] at hj
      subst hj
      obtain ⟨us, e, g1, g2, g3, g4, g5, g6⟩ := S.blk j k c hi hc
      refine ⟨us, e, g1, g2, ?_, g4, by simp only; omega, fun o p => ?_⟩
      · cases hb : k.box <;> simp only [hb, cond_true, cond_false] at g3 ⊢
        · exact RepL.mono l.closed _ _ g3
        · have := RepL.mono l _ _ g3
          rw [hb] at this
          exact this
      · simp only
        rcases p with p | ⟨_, p⟩
        · have := g6 o p; omega
        · omega
    · rw [List.getElem?_set_ne (Ne.symm hji)] at hj
      obtain ⟨us, e, g1, g2, g3, g4, g5, g6⟩ := S.blk j kj cj hj hcj
      have hne : cj ≠ c := fun hh => hji (S.inj j i c (hh ▸ hcj) hc)
      refine ⟨us, e, g1, g2, ?_, g4, g5, fun o p => ?_⟩
      · cases hb : kj.box <;> simp only [hb, cond_true, cond_false] at g3 ⊢
        · exact RepL.mono l.closed _ _ g3
        · exact RepL.mono l _ _ g3
      · rcases p with p | ⟨q, _⟩
        · exact g6 o p
        · exact absurd q hne
end

end Go.Proofs.YtccinlhenkkpeaaDoor.E

namespace Go.Proofs.YtccinlhenkkpeaaDoor.E
open Go

theorem ofCells_rep {w : World} {Pr : Nat → Nat → Prop} {φ : List Nat} {h : List Blk} : (vs : List Value) → (ds : List D) → ofCells vs = some ds → RepL w Pr φ h ds vs ∧ ds.all D.one = true
  | [], ds, he => by simp [ofCells] at he; subst he; simp [RepL]
  | v :: r, ds, he => by
    simp only [ofCells] at he
    split at he
    · rename_i d es hd hr
      simp at he
      subst he
      obtain ⟨h1, h2⟩ := ofCells_rep r es hr
      have : Rep w Pr φ h d v ∧ d.one = true := by
        split at hd <;> simp only [Option.some.injEq, reduceCtorEq] at hd <;> subst hd <;> refine ⟨?_, rfl⟩ <;> simp only [Rep]
        exact ⟨none, 0, [], rfl, Nat.le_refl _, Nat.zero_le _, fun _ => rfl, fun _ => rfl, .inl rfl, rfl, rfl⟩
      exact ⟨by simp only [RepL]; exact ⟨v, r, rfl, this.1, h1⟩, by simp [this.2, h2]⟩
    · simp at he

theorem ofConst_rep {w : World} {Pr : Nat → Nat → Prop} {φ : List Nat} {h : List Blk} {v : Value} {d : D} (he : ofConst v = some d) : Rep w Pr φ h d v := by
  unfold ofConst at he
  split at he
  · rename_i cs
    split at he
    · rename_i ds hd
      simp at he
      subst he
      obtain ⟨h1, h2⟩ := ofCells_rep (w := w) (Pr := Pr) (φ := φ) (h := h) _ _ hd
      simp only [Rep]
      exact ⟨cs, rfl, h2, h1⟩
    · simp at he
  · simp at he
    subst he
    simp [Rep]
  · split at he
    · rename_i d' hd
      simp at he
      subst he
      obtain ⟨h1, _⟩ := ofCells_rep (w := w) (Pr := Pr) (φ := φ) (h := h) _ _ hd
      simp only [RepL] at h1
      obtain ⟨v', r, e, h2, _⟩ := h1
      simp at e
      rw [e.1]
      exact h2
    · simp at he

/-- The frame's slots are the evaluator's. -/
def Slots (w : World) (Pr : Nat → Nat → Prop) (φ : List Nat) (h : List Blk) (t : Nat → D) (a : Act) : Prop := ∀ i, Rep w Pr φ h (t i) (a.tmps.getD i undef)

section
variable {w : World} {Pr : Nat → Nat → Prop} {φ : List Nat} {h : List Blk} {t : Nat → D} {a : Act}

theorem cO_rep (gg : Glob w Pr) (s : Slots w Pr φ h t a) {x : Operand} {y : XO} (hx : cO x = some y) : Rep w Pr φ h (y.ev t) (a.eval x) := by
  cases x with
  | tmp i => simp [cO] at hx; subst hx; exact s i
  | const v =>
    simp only [cO] at hx
    split at hx
    · rename_i d hd
      simp at hx; subst hx
      exact ofConst_rep hd
    · simp at hx
  | global g =>
    simp only [cO] at hx
    split at hx
    · rename_i cs hg
      simp at hx; subst hx
      obtain ⟨vs, h1, h2, h3⟩ := gg g cs hg
      simp only [XO.ev, Act.eval, Rep]
      exact ⟨_, vs, rfl, h1, h2, h3⟩
    · simp at hx
  | func f =>
    simp [cO] at hx; subst hx
    simp only [XO.ev, Act.eval, Rep]
    exact ⟨#[], #[], rfl, rfl, rfl⟩

theorem cOs_rep (gg : Glob w Pr) (s : Slots w Pr φ h t a) : (xs : List Operand) → (ys : List XO) → cOs xs = some ys → RepL w Pr φ h (ys.map (XO.ev t)) (xs.map a.eval)
  | [], ys, hx => by simp [cOs] at hx; subst hx; simp [RepL]
  | x :: r, ys, hx => by
    simp only [cOs] at hx
    split at hx
    · rename_i y q hy hq
      simp at hx; subst hx
      simp only [List.map_cons, RepL]
      exact ⟨_, _, rfl, cO_rep gg s hy, cOs_rep gg s r q hq⟩
    · simp at hx

theorem cOO_none (gg : Glob w Pr) (s : Slots w Pr φ h t a) {x : Option Operand} {y : Option XO} (hx : cOO x = some y) : (x = none ∧ y = none) ∨ ∃ x' y', x = some x' ∧ y = some y' ∧ Rep w Pr φ h (y'.ev t) (a.eval x') := by
  cases x with
  | none => simp [cOO] at hx; exact .inl ⟨rfl, hx.symm⟩
  | some x =>
    simp only [cOO] at hx
    split at hx
    · rename_i y' hy
      simp at hx
      exact .inr ⟨x, y', rfl, hx.symm, cO_rep gg s hy⟩
    · simp at hx
end

/-- The operation does what the evaluator says. -/
def OKop (P : Program) (o : Oper) (a : Act) (w : World) (Pr : Nat → Nat → Prop) (φ : List Nat) (h : List Blk) (d : D) (h' : List Blk) : Prop :=
  ∀ (K : Act → World → Prop) (Q : Exit → Act → World → Prop),
    (∀ w' Pr' φ' v, Le w Pr φ h w' Pr' φ' h' → Fr w Pr φ w' Pr' φ' → Sim w' Pr' φ' h' → Rep w' Pr' φ' h' d v → K (a.put o.dst v) w') → o.wp P a w K Q

section
variable {P : Program} {o : Oper} {w : World} {Pr : Nat → Nat → Prop} {φ : List Nat} {h : List Blk} {t : Nat → D} {a : Act}

theorem OKop.go {d : D} {h' : List Blk} {w' : World} {v : Value} {Pr' : Nat → Nat → Prop} {φ' : List Nat} (hv : (execOp a.eval o).run P w = .ok (.value v) w')
    (l : Le w Pr φ h w' Pr' φ' h') (f : Fr w Pr φ w' Pr' φ') (S : Sim w' Pr' φ' h') (r : Rep w' Pr' φ' h' d v) : OKop P o a w Pr φ h d h' := by
  intro K Q hK
  unfold Oper.wp
  rw [hv, Oper.upon_value]
  exact hK _ _ _ _ l f S r

theorem OKop.after {d : D} {h1 h' : List Blk} {Pr1 : Nat → Nat → Prop} (k : OKop P o a w Pr1 φ h1 d h') (l : Le w Pr φ h w Pr1 φ h1) (f : Fr w Pr φ w Pr1 φ) : OKop P o a w Pr φ h d h' := by
  intro K Q hK
  exact k K Q fun w' Pr' φ' v l' f' S' r' => hK w' Pr' φ' v (l.trans l') (f.trans f') S' r'

theorem OKop.val (S : Sim w Pr φ h) {d : D} {v : Value} (hv : (execOp a.eval o).run P w = .ok (.value v) w) (r : Rep w Pr φ h d v) : OKop P o a w Pr φ h d h :=
  OKop.go hv (Le.refl _ _ _ _) (Fr.refl _ _ _) S r

theorem run_v {ρ : Operand → Value} {s : Sem Value} {v : Value} {w' : World} (he : execOp ρ o = (do pure (.value (← s)))) (hs : s.run P w = .ok v w') : (execOp ρ o).run P w = .ok (.value v) w' := by
  rw [he]
  simp [hs]

theorem ok_move (S : Sim w Pr φ h) (s : Slots w Pr φ h t a) {x : Operand} {y : XO} (ho : o.op = .move x ∨ o.op = .assign x) (hx : cO x = some y) : OKop P o a w Pr φ h (y.ev t) h := by
  refine OKop.val S (v := a.eval x) ?_ (cO_rep S.gl s hx)
  rcases ho with ho | ho <;> simp [execOp, ho]

theorem ok_pick (S : Sim w Pr φ h) (s : Slots w Pr φ h t a) {x y z : Operand} {x' y' z' : XO} {b : Bool} (ho : o.op = .pick x y z) (hx : cO x = some x') (hy : cO y = some y') (hz : cO z = some z')
    (hb : x'.ev t = .bool b) : OKop P o a w Pr φ h (bif b then y'.ev t else z'.ev t) h := by
  have r1 := cO_rep S.gl s hx
  rw [hb] at r1
  simp only [Rep] at r1
  refine OKop.val S (v := if b then a.eval y else a.eval z) ?_ ?_
  · simp [execOp, ho, r1, asBool]
  · cases b
    · exact cO_rep S.gl s hz
    · exact cO_rep S.gl s hy

theorem info_run {e : TypeId} {i : TypeInfo} (hi : P.info? e = some i) : (typeInfo e).run P w = .ok i w := by simp [typeInfo, hi]
theorem size_run {e : TypeId} {i : TypeInfo} (hi : P.info? e = some i) : (sizeOf e).run P w = .ok i.size w := by simp [sizeOf, typeInfo, hi]

theorem tInfo_spec {e : TypeId} {sz by_ : Nat} {zs : List D} (hi : tInfo P e = some (sz, by_, zs)) :
    ∃ i z, P.info? e = some i ∧ i.zero = some z ∧ i.size = sz ∧ i.bytes = by_ ∧ ofCells z.cells.toList = some zs ∧ zs.length = sz := by
  unfold tInfo at hi
  split at hi
  · rename_i i hi'
    split at hi
    · rename_i z hz
      split at hi
      · rename_i ds hd
        split at hi
        · rename_i hl
          simp at hi
          obtain ⟨rfl, rfl, rfl⟩ := hi
          exact ⟨i, z, hi', hz, rfl, rfl, hd, hl⟩
        · simp at hi
      · simp at hi
    · simp at hi
  · simp at hi

theorem zero_run {e : TypeId} {i : TypeInfo} {z : Value} (hi : P.info? e = some i) (hz : i.zero = some z) : (zeroValue e).run P w = .ok z w := by simp [zeroValue, typeInfo, hi, hz]

theorem tAgg_spec {e : TypeId} {sz : Option Nat} (hi : tAgg P e = some sz) : ∃ i d, P.info? e = some i ∧ P.underlying e = some d ∧
    ((sz = some i.size ∧ (isAgg e).run P w = .ok true w) ∨ (sz = none ∧ (isAgg e).run P w = .ok false w)) := by
  unfold tAgg at hi
  split at hi
  · rename_i fs i hu hi'
    simp at hi
    exact ⟨i, _, hi', hu, .inl ⟨hi.symm, by simp [isAgg, run_underlying hu]⟩⟩
  · rename_i n e' i hu hi'
    simp at hi
    exact ⟨i, _, hi', hu, .inl ⟨hi.symm, by simp [isAgg, run_underlying hu]⟩⟩
  · rename_i d i hn1 hn2 hu hi'
    simp at hi
    refine ⟨i, d, hi', hu, .inr ⟨hi.symm, ?_⟩⟩
    cases d <;> first | (simp [isAgg, run_underlying hu]; done) | exact absurd rfl (hn1 _) | exact absurd rfl (hn2 _ _)
  · simp at hi
end

end Go.Proofs.YtccinlhenkkpeaaDoor.E

namespace Go.Proofs.YtccinlhenkkpeaaDoor.E
open Go

section
variable {P : Program} {o : Oper} {w : World} {Pr : Nat → Nat → Prop} {φ : List Nat} {h : List Blk} {t : Nat → D} {a : Act}

theorem all_drop {p : D → Bool} {cs : List D} (n : Nat) (h : cs.all p = true) : (cs.drop n).all p = true := by
  rw [List.all_eq_true] at h ⊢
  exact fun x hx => h x (List.mem_of_mem_drop hx)
theorem all_take {p : D → Bool} {cs : List D} (n : Nat) (h : cs.all p = true) : (cs.take n).all p = true := by
  rw [List.all_eq_true] at h ⊢
  exact fun x hx => h x (List.mem_of_mem_take hx)

/-- A part of a struct or an array. -/
theorem part_run {e : TypeId} {sz : Option Nat} {cs : Array Value} {ds : List D} {off : Nat} {d : D} (ht : tAgg P e = some sz) (h1 : ds.all D.one = true) (r : RepL w Pr φ h ds cs.toList) (hd : take1 ds off sz = some d) :
    ∃ v, (part e cs off).run P w = .ok v w ∧ Rep w Pr φ h d v := by
  obtain ⟨i, dd, hi, hu, ⟨rfl, ha⟩ | ⟨rfl, ha⟩⟩ := tAgg_spec (w := w) ht
  · simp only [take1] at hd
    split at hd
    · rename_i hle
      simp at hd; subst hd
      refine ⟨.agg (cs.extract off (off + i.size)), by simp [part, ha, size_run hi], ?_⟩
      simp only [Rep]
      refine ⟨_, rfl, all_take _ (all_drop _ h1), ?_⟩
      have := (r.drop off).take i.size
      simpa [Array.toList_extract, List.extract_eq_take_drop] using this
    · simp at hd
  · simp only [take1] at hd
    obtain ⟨v, hv, hr⟩ := r.get off d hd
    refine ⟨v, ?_, hr⟩
    have : cs[off]? = some v := by simpa using hv
    simp [part, ha, this]

theorem ok_field (S : Sim w Pr φ h) (s : Slots w Pr φ h t a) {ty : TypeId} {x : Operand} {f : Nat} {y : XO} {fs : Array Field} {fd : Field} {sz : Option Nat} {cs : List D} {d : D} (ho : o.op = .field ty x f) (hx : cO x = some y)
    (hu : P.underlying ty = some (.struct fs)) (hf : fs[f]? = some fd) (ht : tAgg P fd.type = some sz) (he : y.ev t = .agg cs) (hd : take1 cs fd.offset sz = some d) : OKop P o a w Pr φ h d h := by
  have r1 := cO_rep S.gl s hx
  rw [he] at r1
  simp only [Rep] at r1
  obtain ⟨vs, hv, h1, r2⟩ := r1
  obtain ⟨v, hr, hv'⟩ := part_run ht h1 r2 hd
  refine OKop.val S (v := v) ?_ hv'
  simp [execOp, ho, Instr.field, run_underlying hu, hf, hv, asAgg, hr]

theorem ok_extract (S : Sim w Pr φ h) (s : Slots w Pr φ h t a) {x : Operand} {i : Nat} {y : XO} {ds : List D} {d : D} (ho : o.op = .extract x i) (hx : cO x = some y) (he : y.ev t = .tup ds) (hd : ds[i]? = some d) : OKop P o a w Pr φ h d h := by
  have r1 := cO_rep S.gl s hx
  rw [he] at r1
  simp only [Rep] at r1
  obtain ⟨vs, hv, r2⟩ := r1
  obtain ⟨v, hr, hv'⟩ := r2.get i d hd
  have : vs[i]? = some v := by simpa using hr
  refine OKop.val S (v := v) ?_ hv'
  simp [execOp, ho, Instr.extract, hv, this]

theorem ok_fieldAddr (S : Sim w Pr φ h) (s : Slots w Pr φ h t a) {ty : TypeId} {x : Operand} {f : Nat} {y : XO} {fs : Array Field} {fd : Field} {i : TypeInfo} {d : D} (ho : o.op = .fieldAddr ty x f) (hx : cO x = some y)
    (hu : P.underlying ty = some (.struct fs)) (hf : fs[f]? = some fd) (hi : P.info? fd.type = some i) (hs : 0 < i.size)
    (hd : (match y.ev t with
      | .ptr b o g => some (D.ptr b (o + fd.offset) g)
      | .cptr cs => if fd.offset ≤ cs.length then some (.cptr (cs.drop fd.offset)) else none
      | _ => none) = some d) : OKop P o a w Pr φ h d h := by
  have r1 := cO_rep S.gl s hx
  have hrun : ∀ ad : Addr, a.eval x = .pointer (some ad) → (execOp a.eval o).run P w = .ok (.value (.pointer (some (ad.add fd.offset)))) w := by
    intro ad had
    simp [execOp, ho, Instr.fieldAt, run_underlying hu, hf, had, Instr.sureAddr, fieldPlace, size_run hi, Nat.ne_of_gt hs]
  split at hd
  · rename_i b off g he
    simp at hd; subst hd
    rw [he] at r1
    simp only [Rep] at r1
    obtain ⟨ad, blk, hv, h1, h2, h3⟩ := r1
    refine OKop.val S (hrun _ hv) ?_
    simp only [Rep]
    refine ⟨_, blk, rfl, h1, h2, fun e => ?_⟩
    obtain ⟨c, g1, rfl⟩ := h3 e
    exact ⟨c, g1, by rw [Addr.add_lit]⟩
  · rename_i cs he
    split at hd
    · rename_i hle
      simp at hd; subst hd
      rw [he] at r1
      simp only [Rep] at r1
      obtain ⟨ad, vs, hv, h1, h2, h3⟩ := r1
      refine OKop.val S (hrun _ hv) ?_
      simp only [Rep]
      refine ⟨_, vs.drop fd.offset, rfl, ?_, all_drop _ h2, h3.drop _⟩
      rcases h1 with h1 | ⟨b, of, hb, hc⟩
      · exact .inl (by simp [h1])
      · simp at hb
        subst hb
        refine .inr ⟨b, of + fd.offset, by rw [Addr.add_lit], fun j v hj => ?_⟩
        rw [List.getElem?_drop] at hj
        have := hc _ v hj
        rw [Nat.add_assoc]
        exact this
    · simp at hd
  · simp at hd

theorem At.drop {x : Option Addr} {vs : List Value} (n : Nat) (hp : At w Pr x vs) : At w Pr (x.map (·.add n)) (vs.drop n) := by
  rcases hp with h1 | ⟨b, of, hb, hc⟩
  · exact .inl (by simp [h1])
  · subst hb
    refine .inr ⟨b, of + n, by simp [Addr.add_lit], fun j v hj => ?_⟩
    rw [List.getElem?_drop] at hj
    have := hc _ v hj
    rw [Nat.add_assoc]
    exact this

theorem At.take {x : Option Addr} {vs : List Value} (n : Nat) (hp : At w Pr x vs) : At w Pr x (vs.take n) := by
  rcases hp with h1 | ⟨b, of, hb, hc⟩
  · exact .inl (by simp [h1])
  · refine .inr ⟨b, of, hb, fun j v hj => ?_⟩
    rw [List.getElem?_take] at hj
    split at hj
    · exact hc j v hj
    · simp at hj

theorem ok_indexAddr (S : Sim w Pr φ h) (s : Slots w Pr φ h t a) {ty e : TypeId} {x i : Operand} {x' i' : XO} {inf : TypeInfo} {d : D} (ho : o.op = .indexAddr ty x i) (hx : cO x = some x') (hi : cO i = some i')
    (hu : P.underlying ty = some (.slice e)) (hinf : P.info? e = some inf)
    (hd : (match x'.ev t, i'.ev t with
      | .arr n _ cs, .int _ i => if 0 ≤ i ∧ i < n then some (D.cptr (cs.drop (i.toNat * inf.size))) else none
      | .ref b off n _ g _, .int _ i => if 0 ≤ i ∧ i < n then some (.ptr b (off + i.toNat * inf.size) g) else none
      | _, _ => none) = some d) : OKop P o a w Pr φ h d h := by
  have r1 := cO_rep S.gl s hx
  have r2 := cO_rep S.gl s hi
  split at hd
  · rename_i n fl cs k ix hex hei
    split at hd
    · rename_i hle
      simp at hd; subst hd
      rw [hex] at r1; rw [hei] at r2
      simp only [Rep] at r1 r2
      obtain ⟨ad, cap, vs, hv, h1, h2, h3, h4, h5, h6, h7⟩ := r1
      cases ad with
      | none => have := h4 rfl; omega
      | some ad =>
        refine OKop.val S (v := .pointer (some (ad.add (ix.toNat * inf.size)))) ?_ ?_
        · simp [execOp, ho, Instr.indexAt, run_underlying hu, hv, r2, asIntOf, hle, size_run hinf]
        · simp only [Rep]
          exact ⟨_, vs.drop (ix.toNat * inf.size), rfl, by simpa using h5.drop (ix.toNat * inf.size), all_drop _ h6, h7.drop _⟩
    · simp at hd
  · rename_i b off n sz g fl k ix hex hei
    split at hd
    · rename_i hle
      simp at hd; subst hd
      rw [hex] at r1; rw [hei] at r2
      simp only [Rep] at r1 r2
      obtain ⟨ad, cap, blk, hv, h1, h2, h3, h4, h5, h6, h7, h8⟩ := r1
      cases ad with
      | none => have := h4 rfl; omega
      | some ad =>
        refine OKop.val S (v := .pointer (some (ad.add (ix.toNat * inf.size)))) ?_ ?_
        · simp [execOp, ho, Instr.indexAt, run_underlying hu, hv, r2, asIntOf, hle, size_run hinf]
        · simp only [Rep]
          refine ⟨_, blk, rfl, h5, h7, fun hg => ?_⟩
          obtain ⟨c, g1, g2, g3, g4⟩ := h8 hg
          have had : ad = ⟨c, off, none⟩ := by
            have := g2 (by omega)
            simpa using this
          subst had
          exact ⟨c, g1, by rw [Addr.add_lit]⟩
    · simp at hd
  · simp at hd


theorem ok_elemAddr (S : Sim w Pr φ h) (s : Slots w Pr φ h t a) {ty e : TypeId} {len : Nat} {x i : Operand} {x' i' : XO} {inf : TypeInfo} {d : D} (ho : o.op = .indexAddr ty x i) (hx : cO x = some x') (hi : cO i = some i')
    (hu : P.underlying ty = some (.array len e)) (hinf : P.info? e = some inf)
    (hd : (match x'.ev t, i'.ev t with
      | .cptr cs, .int _ i => if 0 ≤ i ∧ i < len ∧ i.toNat * inf.size ≤ cs.length then some (D.cptr (cs.drop (i.toNat * inf.size))) else none
      | .ptr b o g, .int _ i => if 0 ≤ i ∧ i < len then some (.ptr b (o + i.toNat * inf.size) g) else none
      | _, _ => none) = some d) : OKop P o a w Pr φ h d h := by
  have r1 := cO_rep S.gl s hx
  have r2 := cO_rep S.gl s hi
  have hrun : ∀ (ad : Addr) (k : IntKind) (ix : Int), a.eval x = .pointer (some ad) → a.eval i = .int k ix → 0 ≤ ix ∧ ix < len → (execOp a.eval o).run P w = .ok (.value (.pointer (some (ad.add (ix.toNat * inf.size))))) w := by
    intro ad k ix had hix hle
    simp [execOp, ho, Instr.indexAt, run_underlying hu, had, hix, asIntOf, Instr.sureAddr, hle, size_run hinf]
  split at hd
  · rename_i cs k ix hex hei
    split at hd
    · rename_i hle
      simp at hd; subst hd
      rw [hex] at r1; rw [hei] at r2
      simp only [Rep] at r1 r2
      obtain ⟨ad, vs, hv, h1, h2, h3⟩ := r1
      refine OKop.val S (hrun _ _ _ hv r2 ⟨hle.1, hle.2.1⟩) ?_
      simp only [Rep]
      exact ⟨_, vs.drop (ix.toNat * inf.size), rfl, by simpa using h1.drop (ix.toNat * inf.size), all_drop _ h2, h3.drop _⟩
    · simp at hd
  · rename_i b off g k ix hex hei
    split at hd
    · rename_i hle
      simp at hd; subst hd
      rw [hex] at r1; rw [hei] at r2
      simp only [Rep] at r1 r2
      obtain ⟨ad, blk, hv, h1, h2, h3⟩ := r1
      refine OKop.val S (hrun _ _ _ hv r2 hle) ?_
      simp only [Rep]
      refine ⟨_, blk, rfl, h1, h2, fun e => ?_⟩
      obtain ⟨c, g1, rfl⟩ := h3 e
      exact ⟨c, g1, by rw [Addr.add_lit]⟩
    · simp at hd
  · simp at hd

/-- The bounds of a slice expression, in the model. -/
theorem bounds_run {isS : Bool} {n cap : Nat} {lo hi mx : Option Operand} {lo' hi' mx' : Option XO} {l hh : Nat} {m : Option Nat} (gg : Glob w Pr) (s : Slots w Pr φ h t a) (hlo : cOO lo = some lo') (hhi : cOO hi = some hi') (hmx : cOO mx = some mx')
    (hmh : (mx.isSome && hi.isNone) = false) (hnc : n ≤ cap) (hb : bnds n (lo'.map (XO.ev t)) (hi'.map (XO.ev t)) (mx'.map (XO.ev t)) = some (l, hh, m)) :
    (Instr.sliceBounds isS n cap (lo.map a.eval) (hi.map a.eval) (mx.map a.eval)).run P w = .ok (l, hh, m.getD cap) w ∧
      l ≤ hh ∧ hh ≤ n ∧ (∀ x, m = some x → hh ≤ x ∧ x ≤ n) ∧ (m = none → hh ≤ n) := by
  have hbnd : ∀ (x : Operand) (y : XO) (k : IntKind) (i : Int), cO x = some y → y.ev t = .int k i → a.eval x = .int k i := by
    intro x y k i hx hy
    have := cO_rep gg s hx
    rw [hy] at this
    simpa [Rep] using this
  have cOOs : ∀ (x : Option Operand) (y : Option XO), cOO x = some y → (x = none ∧ y = none) ∨ ∃ x' y', x = some x' ∧ y = some y' ∧ cO x' = some y' := by
    intro x y hx
    cases x with
    | none => simp [cOO] at hx; exact .inl ⟨rfl, hx.symm⟩
    | some x =>
      simp only [cOO] at hx
      split at hx
      · rename_i y' hy
        simp at hx
        exact .inr ⟨x, y', rfl, hx.symm, hy⟩
      · simp at hx
  have b1s : ∀ (x : Option Operand) (y : Option XO) (dflt v : Nat), cOO x = some y → bnd1 (y.map (XO.ev t)) dflt = some v →
      (x = none ∧ v = dflt) ∨ ∃ x' k i, x = some x' ∧ a.eval x' = .int k i ∧ 0 ≤ i ∧ v = i.toNat := by
    intro x y dflt v hx hv
    rcases cOOs _ _ hx with ⟨rfl, rfl⟩ | ⟨x', y', rfl, rfl, hx'⟩
    · simp [bnd1] at hv; exact .inl ⟨rfl, hv.symm⟩
    · simp only [Option.map_some, bnd1] at hv
      split at hv
      · rename_i e; simp at e
      · rename_i k i e
        simp at e
        split at hv
        · rename_i h0
          simp at hv
          exact .inr ⟨x', k, i, rfl, hbnd _ _ _ _ hx' e, h0, hv.symm⟩
        · simp at hv
      · simp at hv
  unfold bnds at hb
  split at hb
  · rename_i l0 h0 e1 e2
    have c1 := b1s _ _ _ _ hlo e1
    have c2 := b1s _ _ _ _ hhi e2
    rcases cOOs _ _ hmx with ⟨rfl, rfl⟩ | ⟨xm, ym, rfl, rfl, hxm⟩
    · simp only [Option.map_none] at hb ⊢
      split at hb
      · rename_i hc
        simp at hb
        obtain ⟨rfl, rfl, rfl⟩ := hb
        refine ⟨?_, hc.1, hc.2, by simp, fun _ => hc.2⟩
        rcases c1 with ⟨rfl, rfl⟩ | ⟨xl, kl, il, rfl, el, l1, l2⟩ <;> rcases c2 with ⟨rfl, rfl⟩ | ⟨xh, kh, ih, rfl, eh, h1, h2⟩
        · simp [Instr.sliceBounds]
        · have b1 : 0 ≤ ih ∧ ih ≤ (cap : Int) := by omega
          simp [Instr.sliceBounds, Instr.sliceBound, eh, asIntOf, b1, h2]
        · have b1 : 0 ≤ il ∧ il ≤ (h0 : Int) := by omega
          simp [Instr.sliceBounds, Instr.sliceBound, el, asIntOf, b1, l2]
        · have b1 : 0 ≤ ih ∧ ih ≤ (cap : Int) := by omega
          have b2 : 0 ≤ il ∧ il ≤ max ih 0 := by omega
          simp [Instr.sliceBounds, Instr.sliceBound, el, eh, asIntOf, b1, b2, l2, h2]
      · simp at hb
    · simp only [Option.map_some] at hb ⊢
      split at hb
      · rename_i e; simp at e
      · rename_i km im e
        simp at e
        split at hb
        · rename_i hc
          simp at hb
          obtain ⟨rfl, rfl, rfl⟩ := hb
          have em := hbnd _ _ _ _ hxm e
          refine ⟨?_, hc.2.2.2, by omega, by simp; omega, by simp⟩
          rcases c2 with ⟨rfl, rfl⟩ | ⟨xh, kh, ih, rfl, eh, h1, h2⟩
          · simp at hmh
          · have b1 : 0 ≤ im ∧ im ≤ (cap : Int) := by omega
            have b2 : 0 ≤ ih ∧ ih ≤ max im 0 := by omega
            rcases c1 with ⟨rfl, rfl⟩ | ⟨xl, kl, il, rfl, el, l1, l2⟩
            · simp [Instr.sliceBounds, Instr.sliceBound, em, eh, asIntOf, b1, b2, h2]
            · have b3 : 0 ≤ il ∧ il ≤ max ih 0 := by omega
              simp [Instr.sliceBounds, Instr.sliceBound, em, eh, el, asIntOf, b1, b2, b3, h2, l2]
        · simp at hb
      · simp at hb
  · simp at hb

end

end Go.Proofs.YtccinlhenkkpeaaDoor.E
