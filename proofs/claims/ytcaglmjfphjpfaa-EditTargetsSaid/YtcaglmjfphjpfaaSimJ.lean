/- Regions: the operations one behind the other; and regions whose order is open. -/
import Derived.Test.YtcaglmjfphjpfaaSimI
namespace Go.Proofs.Ytcaglmjfphjpfaa.E
open Go
set_option linter.unusedSimpArgs false
set_option linter.unusedVariables false

def evSeq (C : Calls) (draw : Bool) : List XOp → St → Option St
  | [], st => some st
  | o :: r, st => match evOp C draw o st with
    | some st' => evSeq C draw r st'
    | none => none

theorem evOps_seq (C : Calls) : (l : List XOp) → (st : St) → evOps C l st = evSeq C false l st
  | [], st => rfl
  | o :: r, st => by
    simp only [evOps, evSeq]
    cases evOp C false o st with
    | none => rfl
    | some st' => exact evOps_seq C r st'

section
variable {P : Program} {w : World} {Pr : Nat → Nat → Prop} {φ : List Nat} {h : List Blk} {t : Nat → D} {a : Act}

theorem Slots.mono {w' : World} {Pr' : Nat → Nat → Prop} {φ' : List Nat} {h' : List Blk} (l : Le w Pr φ h w' Pr' φ' h') (s : Slots w Pr φ h t a) : Slots w' Pr' φ' h' t a := fun i => Rep.mono l _ _ (s i)

theorem Slots.put {nt : Nat} {dst : Option Nat} {d : D} {v : Value} (s : Slots w Pr φ h t a) (hb : below nt dst = true) (hn : nt ≤ a.tmps.size) (r : Rep w Pr φ h d v) : Slots w Pr φ h (updO t dst d) (a.put dst v) := by
  intro i
  cases dst with
  | none => exact s i
  | some j =>
    simp only [below, decide_eq_true_eq] at hb
    simp only [updO, upd, Act.put]
    split
    · rename_i hij
      subst hij
      have : (a.tmps.setIfInBounds i v).getD i undef = v := by
        simp [Array.getD_eq_getD_getElem?, Array.getElem?_setIfInBounds, show i < a.tmps.size by omega]
      rw [this]; exact r
    · rename_i hij
      have : (a.tmps.setIfInBounds j v).getD i undef = a.tmps.getD i undef := by
        simp [Array.getD_eq_getD_getElem?, Array.getElem?_setIfInBounds, Ne.symm hij]
      rw [this]; exact s i

theorem size_put (dst : Option Nat) (v : Value) : (a.put dst v).tmps.size = a.tmps.size := by cases dst <;> simp [Act.put]
theorem defers_put (dst : Option Nat) (v : Value) : (a.put dst v).defers = a.defers := by cases dst <;> rfl

theorem rep_bool {d : D} {b : Bool} (hn : d ≠ .any) (hn' : d ≠ .anyb) (r : Rep w Pr φ h d (.bool b)) : d = .bool b := by
  cases d <;> simp only [Rep] at r
  case int => simp at r
  case bool => simp at r; rw [r]
  case str => simp at r
  case arr => obtain ⟨_, _, _, h, _⟩ := r; simp at h
  case ref => obtain ⟨_, _, _, h, _⟩ := r; simp at h
  case nilp => simp at r
  case ptr => obtain ⟨_, _, h, _⟩ := r; simp at h
  case cptr => obtain ⟨_, _, h, _⟩ := r; simp at h
  case agg => obtain ⟨_, h, _⟩ := r; simp at h
  case tup => obtain ⟨_, h, _⟩ := r; simp at h
  case fn => obtain ⟨_, _, h, _⟩ := r; simp at h
  case nilf => simp at r
  case ifc => obtain ⟨_, h, _⟩ := r; simp at h
  case nili => simp at r
  case any => exact absurd rfl hn
  case anyb => exact absurd rfl hn'

theorem wanted_wants {nt : Nat} {ops : Array Oper} {o : Oper} {x : XOp} (hc : cOp P nt ops o = some x) (hk : known t x.guard = true) (s : Slots w Pr φ h t a) : Region.wanted o (yielded ops a.tmps) = wants t x.guard ∧ x.dst = o.dst ∧ cX P o.op = some x.x ∧ below nt o.dst = true := by
  unfold cOp at hc
  split at hc
  · simp at hc
  · rename_i x' hx
    cases hbl : below nt o.dst
    · simp [hbl] at hc
    · simp only [hbl, cond_true] at hc
      split at hc
      · rename_i hg
        simp at hc; subst hc
        exact ⟨by simp [Region.wanted, hg, wants], rfl, hx, rfl⟩
      · rename_i j b hg
        split at hc
        · rename_i sl hs
          simp at hc; subst hc
          refine ⟨?_, rfl, hx, rfl⟩
          simp only [Region.wanted, hg, yielded, hs, Option.bind_some, wants]
          have r := s sl
          by_cases hlt : sl < a.tmps.size
          · have e1 : a.tmps[sl]? = some a.tmps[sl] := Array.getElem?_eq_getElem hlt
            have e2 : a.tmps.getD sl undef = a.tmps[sl] := by simp [Array.getD_eq_getD_getElem?, e1]
            rw [e1]
            rw [e2] at r
            cases ht : t sl with
            | bool b' =>
              rw [ht] at r
              simp only [Rep] at r
              rw [r]
              simp
            | any => simp [known, ht] at hk
            | anyb => simp [known, ht] at hk
            | _ =>
              split
              · rename_i b' hb'
                simp at hb'
                rw [hb'] at r
                have := rep_bool (by rw [ht]; simp) (by rw [ht]; simp) r
                rw [ht] at this
                simp at this
              · rfl
          · have e1 : a.tmps[sl]? = none := Array.getElem?_eq_none (Nat.not_lt.1 hlt)
            have e2 : a.tmps.getD sl undef = undef := by simp [Array.getD_eq_getD_getElem?, e1]
            rw [e1]
            rw [e2] at r
            cases ht : t sl with
            | bool b' => rw [ht] at r; simp [Rep, undef] at r
            | any => simp [known, ht] at hk
            | anyb => simp [known, ht] at hk
            | _ => rfl
        · simp at hc

/-- The operations of a list, one behind the other, in the model. -/
theorem ops_ok {C : Calls} (snd : Sound P C) {draw : Bool} {nt : Nat} {ops : Array Oper} {Q : Exit → Act → World → Prop} : (l : List (Nat × XOp)) → (∀ p ∈ l, ∃ o, ops[p.1]? = some o ∧ cOp P nt ops o = some p.2) →
    ∀ (st st' : St), evSeq C draw (l.map (·.2)) st = some st' → ∀ (a : Act) (w : World) (Pr : Nat → Nat → Prop) (φ : List Nat), Sim w Pr φ st.h → Slots w Pr φ st.h st.t a → nt ≤ a.tmps.size →
    (∀ w' Pr' φ' a', Le w Pr φ st.h w' Pr' φ' st'.h → Fr w Pr φ w' Pr' φ' → Sim w' Pr' φ' st'.h → Slots w' Pr' φ' st'.h st'.t a' → a'.tmps.size = a.tmps.size → a'.defers = a.defers → Q .normal a' w') →
    wpOps P ops Q (l.map (·.1)) a w
  | [], hl, st, st', he, a, w, Pr, φ, S, s, hn, hQ => by
    simp [evSeq] at he; subst he
    exact hQ _ _ _ _ (Le.refl _ _ _ _) (Fr.refl _ _ _) S s rfl rfl
  | (i, x) :: l, hl, st, st', he, a, w, Pr, φ, S, s, hn, hQ => by
    obtain ⟨o, ho, hc⟩ := hl (i, x) (by simp)
    simp only [List.map_cons, evSeq] at he
    split at he
    · rename_i st1 he1
      unfold evOp at he1
      cases hkn : known st.t x.guard
      · simp [hkn] at he1
      rw [hkn, cond_true] at he1
      obtain ⟨hw, hdst, hx, hbl⟩ := wanted_wants hc hkn s
      simp only [List.map_cons, wpOps, ho, hw]
      cases hwt : wants st.t x.guard
      · simp only [hwt, cond_false, Option.some.injEq] at he1
        subst he1
        simp only [Bool.false_eq_true, if_false]
        rw [hdst] at he
        refine ops_ok snd l (fun p hp => hl p (by simp [hp])) _ st' he (a.put o.dst undef) w Pr φ S (s.put hbl hn (by simp only [Rep]; exact ⟨#[], rfl, rfl⟩)) (by rw [size_put]; exact hn) ?_
        intro w' Pr' φ' a' l' f' S' s' hs hd
        exact hQ _ _ _ _ l' f' S' s' (by rw [hs, size_put]) (by rw [hd, defers_put])
      · simp only [hwt, cond_true] at he1
        split at he1 <;> simp at he1
        rename_i d h1 hev
        subst he1
        simp only [if_true]
        refine .inl ?_
        refine evX_ok S s snd hx hev _ _ ?_
        intro w1 Pr1 φ1 v l1 f1 S1 r1
        have s1 : Slots w1 Pr1 φ1 h1 (updO st.t x.dst d) (a.put o.dst v) := by
          rw [hdst]
          exact (s.mono l1).put hbl hn r1
        refine ops_ok snd l (fun p hp => hl p (by simp [hp])) _ st' he (a.put o.dst v) w1 Pr1 φ1 S1 s1 (by rw [size_put]; exact hn) ?_
        intro w' Pr' φ' a' l' f' S' s' hs hd
        exact hQ _ _ _ _ (l1.trans l') (f1.trans f') S' s' (by rw [hs, size_put]) (by rw [hd, defers_put])
    · simp at he

theorem cOps_get {nt : Nat} {ops : Array Oper} : (l : List Oper) → (xs : List XOp) → cOps P nt ops l = some xs → l.length = xs.length ∧ ∀ (j : Nat) (x : XOp), xs[j]? = some x → ∃ o, l[j]? = some o ∧ cOp P nt ops o = some x
  | [], xs, h => by simp [cOps] at h; subst h; simp
  | o :: l, xs, h => by
    simp only [cOps] at h
    split at h <;> simp at h
    rename_i x xs' h1 h2
    subst h
    obtain ⟨g1, g2⟩ := cOps_get l xs' h2
    refine ⟨by simp [g1], fun j y hj => ?_⟩
    cases j with
    | zero => simp at hj; subst hj; exact ⟨o, rfl, h1⟩
    | succ j => simpa using g2 j y (by simpa using hj)

/-- The operations with their numbers. -/
def numbered (xs : List XOp) : List (Nat × XOp) := xs.zipIdx.map fun (x, i) => (i, x)

theorem numbered_snd (xs : List XOp) : (numbered xs).map (·.2) = xs := by
  simp only [numbered, List.map_map]
  have : (fun x : XOp × Nat => x.1) = ((fun x : Nat × XOp => x.2) ∘ fun (x : XOp × Nat) => (x.2, x.1)) := rfl
  rw [← this]
  exact List.zipIdx_map_fst 0 xs

theorem numbered_fst (xs : List XOp) : (numbered xs).map (·.1) = List.range xs.length := by
  simp only [numbered, List.map_map]
  have : (fun x : XOp × Nat => x.2) = ((fun x : Nat × XOp => x.1) ∘ fun (x : XOp × Nat) => (x.2, x.1)) := rfl
  rw [← this, List.zipIdx_map_snd, List.range_eq_range']

theorem numbered_mem {xs : List XOp} {p : Nat × XOp} (h : p ∈ numbered xs) : xs[p.1]? = some p.2 := by
  simp only [numbered, List.mem_map] at h
  obtain ⟨⟨x, i⟩, hm, rfl⟩ := h
  have := List.mem_zipIdx_iff_getElem?.1 hm
  simpa using this

theorem numbered_ok {nt : Nat} {ops : Array Oper} {xs : List XOp} (hc : cOps P nt ops ops.toList = some xs) : ∀ p ∈ numbered xs, ∃ o, ops[p.1]? = some o ∧ cOp P nt ops o = some p.2 := by
  intro p hp
  obtain ⟨o, h1, h2⟩ := (cOps_get _ _ hc).2 p.1 p.2 (numbered_mem hp)
  exact ⟨o, by simpa using h1, h2⟩
end

/-! ### The order is open -/

theorem XO.ev_congr {t t' : Nat → D} {x : XO} (h : ∀ i ∈ x.use, t i = t' i) : x.ev t = x.ev t' := by
  cases x with
  | t i => exact h i (by simp [XO.use])
  | c d => rfl

theorem XO.map_congr {t t' : Nat → D} {xs : List XO} (h : ∀ i ∈ xs.flatMap XO.use, t i = t' i) : xs.map (XO.ev t) = xs.map (XO.ev t') :=
  List.map_congr_left fun x hx => XO.ev_congr fun i hi => h i (List.mem_flatMap.2 ⟨x, hx, hi⟩)

theorem evX_congr {C : Calls} {draw : Bool} {x : X} {t t' : Nat → D} {h : List Blk} (hu : ∀ i ∈ x.uses, t i = t' i) : evX C draw x t h = evX C draw x t' h := by
  have parts : ∀ (ps : List (Nat × Nat × XO)), (∀ i ∈ ps.flatMap (fun p => p.2.2.use), t i = t' i) → (ps.map fun (o, s, x) => (o, s, x.ev t)) = (ps.map fun (o, s, x) => (o, s, x.ev t')) := by
    intro ps hps
    refine List.map_congr_left fun p hp => ?_
    obtain ⟨o, s, y⟩ := p
    simp only [Prod.mk.injEq, true_and]
    exact XO.ev_congr fun i hi => hps i (List.mem_flatMap.2 ⟨_, hp, hi⟩)
  have opt : ∀ (y : Option XO), (∀ i ∈ y.toList.flatMap XO.use, t i = t' i) → y.map (XO.ev t) = y.map (XO.ev t') := by
    intro y hy
    cases y with
    | none => rfl
    | some y => simp only [Option.map_some]; rw [XO.ev_congr fun i hi => hy i (by simpa using hi)]
  cases x <;> simp only [X.uses, List.mem_append] at hu
  case alloc => rfl
  case pick c y z =>
    have e1 := XO.ev_congr (x := c) fun i hi => hu i (.inl (.inl hi))
    have e2 := XO.ev_congr (x := y) fun i hi => hu i (.inl (.inr hi))
    have e3 := XO.ev_congr (x := z) fun i hi => hu i (.inr hi)
    simp only [evX, X.cls, evS, e1, e2, e3]
  case build z ps => simp only [evX, X.cls, evS, parts ps hu]
  case buildSlice n z ps => cases draw <;> simp only [evX, X.cls, cond_true, cond_false, evS, evW, parts ps hu]
  case slice sz y lo hi mx =>
    have e1 := XO.ev_congr (x := y) fun i hi => hu i (.inl hi)
    have e2 := opt lo fun i hi' => hu i (.inr (by simp only [List.flatMap_append, List.mem_append]; exact .inl (.inl hi')))
    have e3 := opt hi fun i hi' => hu i (.inr (by simp only [List.flatMap_append, List.mem_append]; exact .inl (.inr hi')))
    have e4 := opt mx fun i hi' => hu i (.inr (by simp only [List.flatMap_append, List.mem_append]; exact .inr hi'))
    simp only [evX, X.cls, evS, e1, e2, e3, e4]
  case sliceStr y lo hi =>
    have e1 := XO.ev_congr (x := y) fun i hi => hu i (.inl hi)
    have e2 := opt lo fun i hi' => hu i (.inr (by simp only [List.flatMap_append, List.mem_append]; exact .inl hi'))
    have e3 := opt hi fun i hi' => hu i (.inr (by simp only [List.flatMap_append, List.mem_append]; exact .inr hi'))
    simp only [evX, X.cls, evS, e1, e2, e3]
  case min xs => simp only [evX, X.cls, evS, XO.map_congr hu]
  case max xs => simp only [evX, X.cls, evS, XO.map_congr hu]
  case call f xs => cases draw <;> cases ho : C.own f <;> simp only [evX, X.cls, ho, cond_true, cond_false, evS, evW, XO.map_congr hu]
  case callv f xs =>
    have e1 := XO.ev_congr (x := f) fun i hi => hu i (.inl hi)
    have e2 := XO.map_congr (xs := xs) fun i hi => hu i (.inr hi)
    simp only [evX, X.cls, evW, e1, e2]
  case mkfn f xs ys =>
    have e1 := XO.map_congr (xs := xs) fun i hi => hu i (.inl hi)
    have e2 := XO.map_congr (xs := ys) fun i hi => hu i (.inr hi)
    simp only [evX, X.cls, evS, e1, e2]
  case load sz y =>
    have e1 := XO.ev_congr (x := y) hu
    simp only [evX, X.cls, evL, e1]
  case mov y => have e1 := XO.ev_congr (x := y) hu; simp only [evX, X.cls, evS, e1]
  case box y => have e1 := XO.ev_congr (x := y) hu; simp only [evX, X.cls, evW, e1]
  case fieldAddr o y => have e1 := XO.ev_congr (x := y) hu; simp only [evX, X.cls, evS, e1]
  case field s o y => have e1 := XO.ev_congr (x := y) hu; simp only [evX, X.cls, evS, e1]
  case un s y => have e1 := XO.ev_congr (x := y) hu; simp only [evX, X.cls, evS, e1]
  case conv s y => have e1 := XO.ev_congr (x := y) hu; simp only [evX, X.cls, evS, e1]
  case extract y s => have e1 := XO.ev_congr (x := y) hu; simp only [evX, X.cls, evS, e1]
  case len y => have e1 := XO.ev_congr (x := y) hu; simp only [evX, X.cls, evS, e1]
  case lenStr y => have e1 := XO.ev_congr (x := y) hu; simp only [evX, X.cls, evS, e1]
  case nilCheck y => have e1 := XO.ev_congr (x := y) hu; simp only [evX, X.cls, evS, e1]
  case mkifc s y => have e1 := XO.ev_congr (x := y) hu; simp only [evX, X.cls, evS, e1]
  case isNil s y => have e1 := XO.ev_congr (x := y) hu; simp only [evX, X.cls, evS, e1]
  case isNilP s y => have e1 := XO.ev_congr (x := y) hu; simp only [evX, X.cls, evS, e1]
  case cap y => have e1 := XO.ev_congr (x := y) hu; simp only [evX, X.cls, evS, e1]
  case clear s z y => have e1 := XO.ev_congr (x := y) hu; simp only [evX, X.cls, evW, e1]
  case stuck => simp only [evX, X.cls, evW]
  all_goals
    rename_i y z
    have e1 := XO.ev_congr (x := y) fun i hi => hu i (.inl hi)
    have e2 := XO.ev_congr (x := z) fun i hi => hu i (.inr hi)
    simp only [evX, X.cls, evS, evW, e1, e2]

theorem wants_congr {t t' : Nat → D} {g : Option (Nat × Bool)} (h : ∀ i b, g = some (i, b) → t i = t' i) : wants t g = wants t' g := by
  cases g with
  | none => rfl
  | some p => obtain ⟨i, b⟩ := p; simp only [wants, h i b rfl]

theorem known_congr {t t' : Nat → D} {g : Option (Nat × Bool)} (h : ∀ i b, g = some (i, b) → t i = t' i) : known t g = known t' g := by
  cases g with
  | none => rfl
  | some p => obtain ⟨i, b⟩ := p; simp only [known, h i b rfl]

theorem foot_congr {C : Calls} {x : X} {t t' : Nat → D} {h : List Blk} (hu : ∀ i ∈ x.uses, t i = t' i) : footR (XO.ev t) x = footR (XO.ev t') x ∧ footW C h (XO.ev t) x = footW C h (XO.ev t') x := by
  cases x <;> simp only [X.uses, List.mem_append] at hu <;> simp only [footR, footW, and_self, true_and, and_true]
  case load sz y => have e1 := XO.ev_congr (x := y) hu; rw [e1]
  case store sz y z =>
    have e1 := XO.ev_congr (x := y) fun i hi => hu i (.inl hi)
    have e2 := XO.ev_congr (x := z) fun i hi => hu i (.inr hi)
    rw [e1, e2]
  case append sz b y z =>
    have e1 := XO.ev_congr (x := y) fun i hi => hu i (.inl hi)
    have e2 := XO.ev_congr (x := z) fun i hi => hu i (.inr hi)
    rw [e1, e2]
  case call f xs => rw [XO.map_congr hu]
  case copy sz y z =>
    have e1 := XO.ev_congr (x := y) fun i hi => hu i (.inl hi)
    have e2 := XO.ev_congr (x := z) fun i hi => hu i (.inr hi)
    rw [e1, e2]

/-- What an operation gives, and the store behind it. -/
def eff (C : Calls) (o : XOp) (t : Nat → D) (h : List Blk) : Option (D × List Blk) := bif known t o.guard then (bif wants t o.guard then evX C true o.x t h else some (.tup [], h)) else none

theorem evOp_eff {C : Calls} {o : XOp} {st : St} : evOp C true o st = (eff C o st.t st.h).map fun (d, h') => ⟨updO st.t o.dst d, h'⟩ := by
  unfold evOp eff
  cases known st.t o.guard
  · rfl
  simp only [cond_true]
  cases wants st.t o.guard
  · rfl
  · simp only [cond_true]
    split <;> simp_all

theorem eff_congr {C : Calls} {o : XOp} {t t' : Nat → D} {h : List Blk} (hu : ∀ i ∈ o.uses, t i = t' i) : eff C o t h = eff C o t' h ∧ evFoot C o ⟨t, h⟩ = evFoot C o ⟨t', h⟩ := by
  have h1 : ∀ i ∈ o.x.uses, t i = t' i := fun i hi => hu i (by simp [XOp.uses, hi])
  have h2 : wants t o.guard = wants t' o.guard := wants_congr fun i b hg => hu i (by simp [XOp.uses, hg])
  have h3 : known t o.guard = known t' o.guard := known_congr fun i b hg => hu i (by simp [XOp.uses, hg])
  unfold eff evFoot
  simp only [h2, h3, evX_congr h1, (foot_congr (C := C) (h := h) h1).1, (foot_congr (C := C) (h := h) h1).2]
  exact ⟨trivial, trivial⟩

theorem evS_foot {C : Calls} {o : XOp} {t : Nat → D} {h h2 : List Blk} (hf : evFoot C o ⟨t, h⟩ = some .none) : evFoot C o ⟨t, h2⟩ = some .none ∧ ∀ d h', eff C o t h = some (d, h') → h' = h ∧ eff C o t h2 = some (d, h2) := by
  unfold evFoot eff at *
  cases hkn : known t o.guard
  · simp [hkn] at hf
  simp only [hkn, cond_true] at *
  cases hw : wants t o.guard
  · simp
  · simp only [hw, cond_true] at hf ⊢
    cases hc : o.x.cls true C.own <;> simp only [hc] at hf ⊢
    · refine ⟨trivial, fun d h' he => ?_⟩
      obtain ⟨e1, e2⟩ := evX_s hc he
      refine ⟨e2, ?_⟩
      simp only [evX, hc, e1]
    · simp only [Option.some.injEq] at hf
      refine ⟨by rw [hf], fun d h' he => ?_⟩
      cases hx : o.x <;> simp only [hx, X.cls, reduceCtorEq] at hc
      case load sz y =>
        simp only [hx, footR] at hf
        simp only [hx, evX, X.cls, evL] at he ⊢
        split at hf
        · simp at hf
        · rename_i hn
          cases hy : y.ev t <;> simp only [hy] at he hn ⊢
          case ptr => exact absurd rfl (hn _ _ _)
          case cptr cs =>
            split at he <;> simp at he
            rename_i d' hd
            obtain ⟨rfl, rfl⟩ := he
            exact ⟨rfl, rfl⟩
          all_goals simp at he
      case call f xs => simp only [cond_true] at hc; cases ho : C.own f <;> simp [ho] at hc
      case buildSlice => simp at hc
    · exfalso
      cases hx : o.x <;> simp only [hx, footW] at hf <;> (try simp at hf; done) <;> (try (split at hf <;> simp at hf; done)) <;> (split at hf <;> (try (simp at hf; done)) <;> (revert hf; cases storeLight _ _ _ <;> simp))

theorem evR_foot {C : Calls} {o : XOp} {t : Nat → D} {h : List Blk} {b : Nat} (hf : evFoot C o ⟨t, h⟩ = some (.rd b)) : ∀ d h', eff C o t h = some (d, h') → h' = h ∧ ∀ h2, h2[b]? = h[b]? → evFoot C o ⟨t, h2⟩ = some (.rd b) ∧ eff C o t h2 = some (d, h2) := by
  intro d h' he
  unfold evFoot eff at *
  cases hkn : known t o.guard
  · simp [hkn] at hf
  simp only [hkn, cond_true] at *
  cases hw : wants t o.guard
  · simp [hw] at hf
  · simp only [hw, cond_true] at hf he ⊢
    cases hc : o.x.cls true C.own <;> simp only [hc] at hf ⊢
    · simp at hf
    · simp only [Option.some.injEq] at hf
      cases hx : o.x <;> simp only [hx, X.cls, reduceCtorEq] at hc
      case load sz y =>
        have hf' := hf
        simp only [hx, footR] at hf
        split at hf <;> simp at hf
        rename_i b' off g hy
        subst hf
        simp only [hx, evX, X.cls, evL, hy] at he ⊢
        split at he <;> simp at he
        rename_i d' hd
        obtain ⟨rfl, rfl⟩ := he
        refine ⟨rfl, fun h2 hb => ⟨by rw [← hx, hf'], ?_⟩⟩
        rw [hb, hd]
      case call f xs => simp only [cond_true] at hc; cases ho : C.own f <;> simp [ho] at hc
      case buildSlice => simp at hc
    · exfalso
      cases hx : o.x <;> simp only [hx, footW] at hf <;> (try simp at hf; done) <;> (try (split at hf <;> simp at hf; done)) <;> (split at hf <;> (try (simp at hf; done)) <;> (revert hf; cases storeLight _ _ _ <;> simp))

theorem seal1_freeze {d d' : D} {h : List Blk} (hs : seal1 d = some d') : freeze1 d h = some (d', h) := by
  unfold seal1 at hs
  split at hs
  · simp at hs; subst hs; rfl
  · rename_i hn
    split at hs <;> simp at hs
    rename_i hp
    subst hs
    cases d <;> simp [D.plain] at hp <;> first | rfl | (simp [freeze1, D.plain, hp]; done) | exact absurd rfl (hn _ _ _)
theorem sealL_freeze {h : List Blk} : (ds ds' : List D) → sealL ds = some ds' → freezeL ds h = some (ds', h)
  | [], ds', hs => by simp [sealL] at hs; subst hs; rfl
  | d :: ds, ds', hs => by
    simp only [sealL] at hs
    split at hs <;> simp at hs
    rename_i e r h1 h2
    subst hs
    simp only [freezeL, seal1_freeze h1, sealL_freeze ds r h2]
theorem sealV_freeze {d d' : D} {h : List Blk} (hs : sealV d = some d') : freezeV d h = some (d', h) := by
  unfold sealV at hs
  split at hs
  · split at hs <;> simp at hs
    rename_i cs' h1
    subst hs
    simp only [freezeV, sealL_freeze _ _ h1]
  · rename_i hn
    unfold freezeV
    split
    · exact absurd rfl (hn _)
    · exact seal1_freeze hs
theorem sealVs_freeze {h : List Blk} : (ds ds' : List D) → sealVs ds = some ds' → freezeVs ds h = some (ds', h)
  | [], ds', hs => by simp [sealVs] at hs; subst hs; rfl
  | d :: ds, ds', hs => by
    simp only [sealVs] at hs
    split at hs <;> simp at hs
    rename_i e r h1 h2
    subst hs
    simp only [freezeVs, sealV_freeze h1, sealVs_freeze ds r h2]

theorem evW_foot {C : Calls} {o : XOp} {t : Nat → D} {h : List Blk} {bs : List Nat} {n : Nat} (hf : evFoot C o ⟨t, h⟩ = some (.wr bs n)) : ∀ d h', eff C o t h = some (d, h') → n = h.length ∧ ∀ b, b ∉ bs → b < n → h'[b]? = h[b]? := by
  intro d h' he
  unfold evFoot eff at *
  cases hkn : known t o.guard
  · simp [hkn] at hf
  simp only [hkn, cond_true] at *
  cases hw : wants t o.guard
  · simp [hw] at hf
  · simp only [hw, cond_true] at hf he
    cases hc : o.x.cls true C.own <;> simp only [hc] at hf
    · simp at hf
    · exfalso
      cases hx : o.x <;> simp only [hx, footR] at hf <;> (try simp at hf) <;> (try (split at hf <;> simp at hf))
    · have q := evX_w hc he
      cases hx : o.x <;> simp only [hx, footW] at hf q <;> (try (simp at hf; done))
      case box y =>
        simp at hf
        obtain ⟨rfl, rfl⟩ := hf
        simp only [evW] at q
        split at q <;> simp at q
        obtain ⟨rfl, rfl⟩ := q
        exact ⟨rfl, fun b _ hb => List.getElem?_append_left hb⟩
      case alloc z =>
        simp at hf
        obtain ⟨rfl, rfl⟩ := hf
        simp only [evW, Option.some.injEq, Prod.mk.injEq] at q
        obtain ⟨rfl, rfl⟩ := q
        exact ⟨rfl, fun b _ hb => List.getElem?_append_left hb⟩
      case makeSlice sz by_ z l c =>
        simp at hf
        obtain ⟨rfl, rfl⟩ := hf
        simp only [evW] at q
        split at q <;> try (simp at q; done)
        split at q <;> simp at q
        obtain ⟨rfl, rfl⟩ := q
        exact ⟨rfl, fun b _ hb => List.getElem?_append_left hb⟩
      case store sz y z =>
        split at hf <;> try (simp at hf; done)
        rename_i b0 off g hy
        cases hsl : storeLight h b0 (XO.ev t z) <;> simp only [hsl, cond_true, cond_false, Option.some.injEq, Foot.wr.injEq] at hf <;> obtain ⟨rfl, rfl⟩ := hf
        · exact ⟨rfl, fun b hb hlt => absurd (by simpa using hlt) hb⟩
        simp only [evW, hy] at q
        refine ⟨rfl, fun b hb _ => ?_⟩
        have hne : b0 ≠ b := fun hh => hb (by simp [hh])
        split at q <;> try (simp at q; done)
        rename_i b1 off1 g1 new e1 hn
        simp at e1
        obtain ⟨rfl, rfl, rfl⟩ := e1
        split at q <;> try (simp at q; done)
        rename_i blk hblk
        split at q <;> try (simp at q; done)
        cases hbx : blk.box
        · simp only [storeLight, hblk, hbx, hn, Bool.false_or] at hsl
          simp only [hbx, cond_false] at q
          split at q
          · simp at q
            obtain ⟨rfl, rfl⟩ := q
            rw [List.getElem?_set_ne hne]
          · rename_i hs
            rw [hs] at hsl
            simp at hsl
        · simp only [hbx, cond_true, Option.some.injEq, Prod.mk.injEq] at q
          obtain ⟨rfl, rfl⟩ := q
          rw [List.getElem?_set_ne hne]
      case callv f xs =>
        simp at hf
        obtain ⟨rfl, rfl⟩ := hf
        exact ⟨rfl, fun b hb hlt => absurd (by simpa using hlt) hb⟩
      case call f xs =>
        split at hf <;> simp at hf
        · rename_i hcc
          obtain ⟨rfl, rfl⟩ := hf
          obtain ⟨hm, ht, hs⟩ := hcc
          refine ⟨rfl, fun b _ hb => ?_⟩
          obtain ⟨ds, hds⟩ := Option.isSome_iff_exists.1 hs
          simp only [evW, callW, hm, ht, sealVs_freeze _ _ hds] at q
          simp at q
          split at q <;> try (simp at q; done)
          · split at q <;> try (simp at q; done)
            split at q <;> simp at q
            obtain ⟨rfl, rfl⟩ := q
            exact List.getElem?_append_left hb
          · simp at q
            obtain ⟨rfl, rfl⟩ := q
            rfl
        · obtain ⟨rfl, rfl⟩ := hf
          exact ⟨rfl, fun b hb hlt => absurd (by simpa using hlt) hb⟩
      case append sz by_ y z =>
        split at hf <;> simp at hf
        · rename_i n1 f1 c1 n2 f2 c2 hy hz
          obtain ⟨rfl, rfl⟩ := hf
          simp only [evW, hy, hz, contents] at q
          refine ⟨rfl, fun b _ hb => ?_⟩
          split at q
          · simp at q
            obtain ⟨rfl, rfl⟩ := q
            rfl
          · split at q <;> try (simp at q; done)
            split at q <;> simp at q
            obtain ⟨rfl, rfl⟩ := q
            exact List.getElem?_append_left hb
        · rename_i b0 o0 n0 s0 g0 fl0 n2 f2 c2 hy hz
          obtain ⟨rfl, rfl⟩ := hf
          simp only [evW, hy, hz, contents] at q
          refine ⟨rfl, fun b hb hlt => ?_⟩
          have hne : b0 ≠ b := fun hh => hb (by simp [hh])
          split at q
          · simp at q
            obtain ⟨rfl, rfl⟩ := q
            rfl
          · split at q <;> try (simp at q; done)
            split at q <;> try (simp at q; done)
            split at q
            · split at q <;> simp at q
              obtain ⟨rfl, rfl⟩ := q
              rw [List.getElem?_set_ne hne]
            split at q <;> try (simp at q; done)
            cases fl0
            · simp only [cond_false] at q
              split at q <;> simp at q
              obtain ⟨rfl, rfl⟩ := q
              rw [List.getElem?_set_ne hne]
            · simp only [cond_true, Option.some.injEq, Prod.mk.injEq] at q
              obtain ⟨rfl, rfl⟩ := q
              exact List.getElem?_append_left hlt
      case copy sz y z =>
        split at hf <;> simp at hf
        · rename_i b0 o0 n0 s0 g0 fl0 n2 f2 c2 hy hz
          obtain ⟨rfl, rfl⟩ := hf
          simp only [evW, hy, hz, contents] at q
          refine ⟨rfl, fun b hb _ => ?_⟩
          have hne : b0 ≠ b := fun hh => hb (by simp [hh])
          split at q <;> try (simp at q; done)
          split at q <;> simp at q
          obtain ⟨rfl, rfl⟩ := q
          rw [List.getElem?_set_ne hne]
        · rename_i b0 o0 n0 s0 g0 fl0 b2 o2 n2 s2 g2 fl2 hy hz
          obtain ⟨rfl, rfl⟩ := hf
          simp only [evW, hy] at q
          refine ⟨rfl, fun b hb _ => ?_⟩
          have hne : b0 ≠ b := fun hh => hb (by simp [hh])
          split at q <;> try (simp at q; done)
          rename_i hcon e1
          simp at e1
          obtain ⟨rfl, rfl, rfl, rfl, rfl, rfl⟩ := e1
          split at q <;> try (simp at q; done)
          split at q <;> simp at q
          obtain ⟨rfl, rfl⟩ := q
          rw [List.getElem?_set_ne hne]
          all_goals (rename_i hh; simp at hh)
        · rename_i n1 f1 c1 n2 f2 c2 hy hz
          obtain ⟨rfl, rfl⟩ := hf
          simp only [evW, hy, hz, contents] at q
          split at q <;> simp at q
          obtain ⟨rfl, rfl⟩ := q
          exact ⟨rfl, fun _ _ _ => rfl⟩

theorem updO_comm (t : Nat → D) {x y : Option Nat} (d e : D) (h : ∀ i, x = some i → y ≠ some i) : updO (updO t x d) y e = updO (updO t y e) x d := by
  cases x with
  | none => rfl
  | some i =>
    cases y with
    | none => rfl
    | some j =>
      have hne : i ≠ j := fun hh => h i rfl (hh ▸ rfl)
      funext k
      simp only [updO, upd]
      split <;> split <;> first | rfl | omega

theorem updO_same (t : Nat → D) {x : Option Nat} {d : D} {l : List Nat} (h : ∀ i, x = some i → i ∉ l) : ∀ i ∈ l, updO t x d i = t i := by
  intro i hi
  cases x with
  | none => rfl
  | some j =>
    simp only [updO, upd]
    split
    · rename_i hij
      exact absurd (hij ▸ hi) (h j rfl)
    · rfl

theorem indep_spec {a b : XOp} (h : indep a b = true) : (∀ i, a.dst = some i → i ∉ b.uses) ∧ (∀ i, b.dst = some i → i ∉ a.uses) ∧ (∀ i, a.dst = some i → b.dst ≠ some i) := by
  simp only [indep, Bool.and_eq_true] at h
  obtain ⟨⟨h1, h2⟩, h3⟩ := h
  refine ⟨fun i hi => ?_, fun i hi => ?_, fun i hi => ?_⟩
  · rw [hi] at h1; simpa using h1
  · rw [hi] at h2; simpa using h2
  · rw [hi] at h3
    intro hb
    rw [hb] at h3
    simp at h3

/-- Two operations whose order is open may change places. -/
theorem swap_ops {C : Calls} {x y : XOp} {st st1 st2 : St} {fx fy : Foot} (hi : indep x y = true) (hf : fx.fits fy = true) (h1 : evFoot C x st = some fx) (h2 : evOp C true x st = some st1) (h3 : evFoot C y st1 = some fy) (h4 : evOp C true y st1 = some st2) :
    evFoot C y st = some fy ∧ ∃ st1', evOp C true y st = some st1' ∧ evFoot C x st1' = some fx ∧ evOp C true x st1' = some st2 := by
  obtain ⟨i1, i2, i3⟩ := indep_spec hi
  rw [evOp_eff] at h2 h4
  simp only [Option.map_eq_some_iff, Prod.exists] at h2 h4
  obtain ⟨d, hh, e1, rfl⟩ := h2
  obtain ⟨d', hh', e2, rfl⟩ := h4
  obtain ⟨t, h⟩ := st
  simp only at *
  obtain ⟨c1, c2⟩ := eff_congr (C := C) (o := y) (h := hh) (updO_same t (d := d) i1)
  rw [c1] at e2
  rw [c2] at h3
  have back : ∀ {hy : List Blk}, eff C y t h = some (d', hy) → evFoot C x ⟨t, hy⟩ = some fx → eff C x t hy = some (d, hh') → evFoot C y ⟨t, h⟩ = some fy →
      evFoot C y ⟨t, h⟩ = some fy ∧ ∃ st1', evOp C true y ⟨t, h⟩ = some st1' ∧ evFoot C x st1' = some fx ∧ evOp C true x st1' = some ⟨updO (updO t x.dst d) y.dst d', hh'⟩ := by
    intro hy g1 g2 g3 g4
    obtain ⟨c3, c4⟩ := eff_congr (C := C) (o := x) (h := hy) (updO_same t (d := d') i2)
    refine ⟨g4, ⟨updO t y.dst d', hy⟩, by rw [evOp_eff, g1]; rfl, c4.trans g2, ?_⟩
    rw [evOp_eff]
    simp only [c3, g3, Option.map_some]
    rw [updO_comm t d d' i3]
  cases fx with
  | none =>
    obtain ⟨s1, s2⟩ := evS_foot (C := C) (h2 := hh') h1
    obtain ⟨rfl, s3⟩ := s2 d hh e1
    exact back e2 s1 s3 h3
  | rd b =>
    obtain ⟨rfl, s3⟩ := evR_foot (C := C) h1 d hh e1
    cases fy with
    | none =>
      obtain ⟨u1, u2⟩ := evS_foot (C := C) (h2 := hh) h3
      obtain ⟨rfl, u3⟩ := u2 d' hh' e2
      exact back e2 h1 e1 h3
    | rd b' =>
      obtain ⟨rfl, _⟩ := evR_foot (C := C) h3 d' hh' e2
      exact back e2 h1 e1 h3
    | wr bs n =>
      simp only [Foot.fits, Bool.and_eq_true, Bool.not_eq_true', decide_eq_true_eq] at hf
      obtain ⟨rfl, w2⟩ := evW_foot (C := C) h3 d' hh' e2
      have := w2 b (by simpa using hf.1) hf.2
      obtain ⟨s4, s5⟩ := s3 hh' this
      exact back e2 s4 s5 h3
  | wr bs n =>
    obtain ⟨rfl, w2⟩ := evW_foot (C := C) h1 d hh e1
    cases fy with
    | none =>
      obtain ⟨u1, u2⟩ := evS_foot (C := C) (h2 := h) h3
      obtain ⟨rfl, _⟩ := u2 d' hh' e2
      have u5 := (evS_foot (C := C) (h2 := h) h3).2 d' hh' e2
      exact back u5.2 h1 e1 u1
    | rd b' =>
      simp only [Foot.fits, Bool.and_eq_true, Bool.not_eq_true', decide_eq_true_eq] at hf
      obtain ⟨rfl, s3⟩ := evR_foot (C := C) h3 d' hh' e2
      have := w2 b' (by simpa using hf.1) hf.2
      obtain ⟨s4, s5⟩ := s3 h this.symm
      exact back s5 h1 e1 s4
    | wr bs' n' => simp [Foot.fits] at hf

end Go.Proofs.Ytcaglmjfphjpfaa.E
