/- Regions: the operations one behind the other; and regions whose order is open. -/
import Derived.Test.YtccinlhenkkpeaaDoorSimI
import Derived.LoopNIn
import Derived.Scope
namespace Go.Proofs.YtccinlhenkkpeaaDoor.E
open Go
set_option linter.unusedSimpArgs false
set_option linter.unusedVariables false

def evSeq (C : Calls) (draw : Bool) : List XOp → St → Option St
  | [], st => some st
  | o :: r, st => match evOp C draw o st with
    | some st' => evSeq C draw r st'
    | none => none

theorem evOps_seq (C : Calls) : (l : List XOp) → (st : St) → evOps C l st = evSeq C false l st
  | [], st => rfl
  | o :: r, st => by
    simp only [evOps, evSeq]
    cases evOp C false o st with
    | none => rfl
    | some st' => exact evOps_seq C r st'

section
variable {P : Program} {w : World} {Pr : Nat → Nat → Prop} {φ : List Nat} {h : List Blk} {t : Nat → D} {a : Act}

theorem Slots.mono {w' : World} {Pr' : Nat → Nat → Prop} {φ' : List Nat} {h' : List Blk} (l : Le w Pr φ h w' Pr' φ' h') (s : Slots w Pr φ h t a) : Slots w' Pr' φ' h' t a := fun i => Rep.mono l _ _ (s i)

theorem Slots.put {nt : Nat} {dst : Option Nat} {d : D} {v : Value} (s : Slots w Pr φ h t a) (hb : below nt dst = true) (hn : nt ≤ a.tmps.size) (r : Rep w Pr φ h d v) : Slots w Pr φ h (updO t dst d) (a.put dst v) := by
  intro i
  cases dst with
  | none => exact s i
  | some j =>
    simp only [below, decide_eq_true_eq] at hb
    simp only [updO, upd, Act.put]
    split
    · rename_i hij
      subst hij
      have : (a.tmps.setIfInBounds i v).getD i undef = v := by
        simp [Array.getD_eq_getD_getElem?, Array.getElem?_setIfInBounds, show i < a.tmps.size by omega]
      rw [this]; exact r
    · rename_i hij
      have : (a.tmps.setIfInBounds j v).getD i undef = a.tmps.getD i undef := by
        simp [Array.getD_eq_getD_getElem?, Array.getElem?_setIfInBounds, Ne.symm hij]
      rw [this]; exact s i

theorem size_put (dst : Option Nat) (v : Value) : (a.put dst v).tmps.size = a.tmps.size := by cases dst <;> simp [Act.put]
theorem defers_put (dst : Option Nat) (v : Value) : (a.put dst v).defers = a.defers := by cases dst <;> rfl

theorem rep_bool {d : D} {b : Bool} (hn : d ≠ .any) (hn' : d ≠ .anyb) (r : Rep w Pr φ h d (.bool b)) : d = .bool b := by
  cases d <;> simp only [Rep] at r
  case int => simp at r
  case bool => simp at r; rw [r]
  case str => simp at r
  case arr => obtain ⟨_, _, _, h, _⟩ := r; simp at h
  case mapd => obtain ⟨_, _, _, _, _, h, _⟩ := r; simp at h
  case ref => obtain ⟨_, _, _, h, _⟩ := r; simp at h
  case nilp => simp at r
  case ptr => obtain ⟨_, _, h, _⟩ := r; simp at h
  case cptr => obtain ⟨_, _, h, _⟩ := r; simp at h
  case agg => obtain ⟨_, h, _⟩ := r; simp at h
  case tup => obtain ⟨_, h, _⟩ := r; simp at h
  case fn => obtain ⟨_, _, h, _⟩ := r; simp at h
  case nilf => simp at r
  case ifc => obtain ⟨_, h, _⟩ := r; simp at h
  case nili => simp at r
  case any => exact absurd rfl hn
  case anyb => exact absurd rfl hn'

theorem wanted_wants {nt : Nat} {ops : Array Oper} {o : Oper} {x : XOp} (hc : cOp P nt ops o = some x) (hk : known t x.guard = true) (s : Slots w Pr φ h t a) : Region.wanted o (yielded ops a.tmps) = wants t x.guard ∧ x.dst = o.dst ∧ cX P o.op = some x.x ∧ below nt o.dst = true := by
  unfold cOp at hc
  split at hc
  · simp at hc
  · rename_i x' hx
    cases hbl : below nt o.dst
    · simp [hbl] at hc
    · simp only [hbl, cond_true] at hc
      split at hc
      · rename_i hg
        simp at hc; subst hc
        exact ⟨by simp [Region.wanted, hg, wants], rfl, hx, rfl⟩
      · rename_i j b hg
        split at hc
        · rename_i sl hs
          simp at hc; subst hc
          refine ⟨?_, rfl, hx, rfl⟩
          simp only [Region.wanted, hg, yielded, hs, Option.bind_some, wants]
          have r := s sl
          by_cases hlt : sl < a.tmps.size
          · have e1 : a.tmps[sl]? = some a.tmps[sl] := Array.getElem?_eq_getElem hlt
            have e2 : a.tmps.getD sl undef = a.tmps[sl] := by simp [Array.getD_eq_getD_getElem?, e1]
            rw [e1]
            rw [e2] at r
            cases ht : t sl with
            | bool b' =>
              rw [ht] at r
              simp only [Rep] at r
              rw [r]
              simp
            | any => simp [known, ht] at hk
            | anyb => simp [known, ht] at hk
            | _ =>
              split
              · rename_i b' hb'
                simp at hb'
                rw [hb'] at r
                have := rep_bool (by rw [ht]; simp) (by rw [ht]; simp) r
                rw [ht] at this
                simp at this
              · rfl
          · have e1 : a.tmps[sl]? = none := Array.getElem?_eq_none (Nat.not_lt.1 hlt)
            have e2 : a.tmps.getD sl undef = undef := by simp [Array.getD_eq_getD_getElem?, e1]
            rw [e1]
            rw [e2] at r
            cases ht : t sl with
            | bool b' => rw [ht] at r; simp [Rep, undef] at r
            | any => simp [known, ht] at hk
            | anyb => simp [known, ht] at hk
            | _ => rfl
        · simp at hc

/-! ### Frames of a round, and plain ones -/

theorem calls_FR {rd : Option Nat} {n : Nat} {f : FuncId} {vs : Array Value} {R : Ending → World → Prop} (h : Go.Calls P f vs w R) : CallsIn (FR rd) n P f vs w R :=
  (callsIn_wide (n := n)).2 h

theorem rows_FR {rd : Option Nat} {n : Nat} {row : String} {vs : Array Value} {R : Value → World → Prop} (h : Rows P row vs w R) : RowsIn (FR rd) n P row vs w R := fun c cs _ =>
  let ⟨v, w', r, s⟩ := h c cs
  ⟨v, w', r, stepsIn_wide.2 s⟩

theorem oper_FR {rd : Option Nat} {o : Oper} {K : Act → World → Prop} {Q : Exit → Act → World → Prop} (hnd : ∀ c, o.op ≠ .defer c) (h : o.wp P a w K Q) : o.wpIn (FR rd) 0 P a w K Q := by
  refine ⟨fun _ _ => trivial, ?_⟩
  rw [Oper.semAt_eq _ _ _ hnd]
  unfold Oper.wp at h
  revert h
  cases (execOp a.eval o).run P w with
  | ok nx w' =>
    cases nx with
    | enter f vs => exact fun h => ⟨fun h => by simp [FR, Fence.wide] at h, calls_FR h⟩
    | row row vs => exact fun h => ⟨fun h => by simp [FR, Fence.wide] at h, rows_FR h⟩
    | value v => exact id
    | skip => exact id
    | defer d => exact id
    | _ => exact fun h => h.elim
  | halt hl w' =>
    cases hl with
    | panic v => exact id
    | _ => exact fun h => h.elim

theorem cX_noDefer {C : Calls} {draw : Bool} {op : Op} {x : X} {t : Nat → D} {h : List Blk} {r : D × List Blk} (hx : cX P op = some x) (he : evX C draw x t h = some r) : ∀ c, op ≠ .defer c := by
  intro c e
  subst e
  have : x = .stuck := by
    unfold cX at hx
    simp [cX0, cNil] at hx
    exact hx.symm
  subst this
  cases draw <;> simp [evX, X.cls, evW] at he

/-- The operations of a list, one behind the other, in the model. -/
theorem ops_okR {rd : Option Nat} {C : Calls} (snd : Sound P C) {draw : Bool} {nt : Nat} {ops : Array Oper} {Q : Exit → Act → World → Prop} {rest : List Nat} : (l : List (Nat × XOp)) → (∀ p ∈ l, ∃ o, ops[p.1]? = some o ∧ cOp P nt ops o = some p.2) →
    ∀ (st st' : St), evSeq C draw (l.map (·.2)) st = some st' → ∀ (a : Act) (w : World) (Pr : Nat → Nat → Prop) (φ : List Nat), Sim w Pr φ st.h → Slots w Pr φ st.h st.t a → nt ≤ a.tmps.size →
    (∀ w' Pr' φ' a', Le w Pr φ st.h w' Pr' φ' st'.h → Fr w Pr φ w' Pr' φ' → Sim w' Pr' φ' st'.h → Slots w' Pr' φ' st'.h st'.t a' → a'.tmps.size = a.tmps.size → a'.defers = a.defers → wpOpsIn (FR rd) 0 P ops Q rest a' w') →
    wpOpsIn (FR rd) 0 P ops Q (l.map (·.1) ++ rest) a w
  | [], hl, st, st', he, a, w, Pr, φ, S, s, hn, hQ => by
    simp [evSeq] at he; subst he
    exact hQ _ _ _ _ (Le.refl _ _ _ _) (Fr.refl _ _ _) S s rfl rfl
  | (i, x) :: l, hl, st, st', he, a, w, Pr, φ, S, s, hn, hQ => by
    obtain ⟨o, ho, hc⟩ := hl (i, x) (by simp)
    simp only [List.map_cons, evSeq] at he
    split at he
    · rename_i st1 he1
      unfold evOp at he1
      cases hkn : known st.t x.guard
      · simp [hkn] at he1
      rw [hkn, cond_true] at he1
      obtain ⟨hw, hdst, hx, hbl⟩ := wanted_wants hc hkn s
      simp only [List.map_cons, List.cons_append, wpOpsIn, ho, hw]
      cases hwt : wants st.t x.guard
      · simp only [hwt, cond_false, Option.some.injEq] at he1
        subst he1
        simp only [Bool.false_eq_true, if_false]
        rw [hdst] at he
        refine ⟨fun _ _ => trivial, ?_⟩
        refine ops_okR snd l (fun p hp => hl p (by simp [hp])) _ st' he (a.put o.dst undef) w Pr φ S (s.put hbl hn (by simp only [Rep]; exact ⟨#[], rfl, rfl⟩)) (by rw [size_put]; exact hn) ?_
        intro w' Pr' φ' a' l' f' S' s' hs hd
        exact hQ _ _ _ _ l' f' S' s' (by rw [hs, size_put]) (by rw [hd, defers_put])
      · simp only [hwt, cond_true] at he1
        split at he1 <;> simp at he1
        rename_i d h1 hev
        subst he1
        simp only [if_true]
        refine oper_FR (cX_noDefer hx hev) (evX_ok S s snd hx hev _ _ ?_)
        intro w1 Pr1 φ1 v l1 f1 S1 r1
        have s1 : Slots w1 Pr1 φ1 h1 (updO st.t x.dst d) (a.put o.dst v) := by
          rw [hdst]
          exact (s.mono l1).put hbl hn r1
        refine ops_okR snd l (fun p hp => hl p (by simp [hp])) _ st' he (a.put o.dst v) w1 Pr1 φ1 S1 s1 (by rw [size_put]; exact hn) ?_
        intro w' Pr' φ' a' l' f' S' s' hs hd
        exact hQ _ _ _ _ (l1.trans l') (f1.trans f') S' s' (by rw [hs, size_put]) (by rw [hd, defers_put])
    · simp at he

theorem ops_ok {rd : Option Nat} {C : Calls} (snd : Sound P C) {draw : Bool} {nt : Nat} {ops : Array Oper} {Q : Exit → Act → World → Prop} (l : List (Nat × XOp)) (hl : ∀ p ∈ l, ∃ o, ops[p.1]? = some o ∧ cOp P nt ops o = some p.2)
    (st st' : St) (he : evSeq C draw (l.map (·.2)) st = some st') (a : Act) (w : World) (Pr : Nat → Nat → Prop) (φ : List Nat) (S : Sim w Pr φ st.h) (s : Slots w Pr φ st.h st.t a) (hn : nt ≤ a.tmps.size)
    (hQ : ∀ w' Pr' φ' a', Le w Pr φ st.h w' Pr' φ' st'.h → Fr w Pr φ w' Pr' φ' → Sim w' Pr' φ' st'.h → Slots w' Pr' φ' st'.h st'.t a' → a'.tmps.size = a.tmps.size → a'.defers = a.defers → Q .normal a' w') :
    wpOpsIn (FR rd) 0 P ops Q (l.map (·.1)) a w := by
  have := ops_okR (rd := rd) (rest := []) snd l hl st st' he a w Pr φ S s hn hQ
  rwa [List.append_nil] at this

theorem cOps_get {nt : Nat} {ops : Array Oper} : (l : List Oper) → (xs : List XOp) → cOps P nt ops l = some xs → l.length = xs.length ∧ ∀ (j : Nat) (x : XOp), xs[j]? = some x → ∃ o, l[j]? = some o ∧ cOp P nt ops o = some x
  | [], xs, h => by simp [cOps] at h; subst h; simp
  | o :: l, xs, h => by
    simp only [cOps] at h
    split at h <;> simp at h
    rename_i x xs' h1 h2
    subst h
    obtain ⟨g1, g2⟩ := cOps_get l xs' h2
    refine ⟨by simp [g1], fun j y hj => ?_⟩
    cases j with
    | zero => simp at hj; subst hj; exact ⟨o, rfl, h1⟩
    | succ j => simpa using g2 j y (by simpa using hj)

/-- The operations with their numbers. -/
def numbered (xs : List XOp) : List (Nat × XOp) := xs.zipIdx.map fun (x, i) => (i, x)

theorem numbered_snd (xs : List XOp) : (numbered xs).map (·.2) = xs := by
  simp only [numbered, List.map_map]
  have : (fun x : XOp × Nat => x.1) = ((fun x : Nat × XOp => x.2) ∘ fun (x : XOp × Nat) => (x.2, x.1)) := rfl
  rw [← this]
  exact List.zipIdx_map_fst 0 xs

theorem numbered_fst (xs : List XOp) : (numbered xs).map (·.1) = List.range xs.length := by
  simp only [numbered, List.map_map]
  have : (fun x : XOp × Nat => x.2) = ((fun x : Nat × XOp => x.1) ∘ fun (x : XOp × Nat) => (x.2, x.1)) := rfl
  rw [← this, List.zipIdx_map_snd, List.range_eq_range']

theorem numbered_mem {xs : List XOp} {p : Nat × XOp} (h : p ∈ numbered xs) : xs[p.1]? = some p.2 := by
  simp only [numbered, List.mem_map] at h
  obtain ⟨⟨x, i⟩, hm, rfl⟩ := h
  have := List.mem_zipIdx_iff_getElem?.1 hm
  simpa using this

theorem numbered_ok {nt : Nat} {ops : Array Oper} {xs : List XOp} (hc : cOps P nt ops ops.toList = some xs) : ∀ p ∈ numbered xs, ∃ o, ops[p.1]? = some o ∧ cOp P nt ops o = some p.2 := by
  intro p hp
  obtain ⟨o, h1, h2⟩ := (cOps_get _ _ hc).2 p.1 p.2 (numbered_mem hp)
  exact ⟨o, by simpa using h1, h2⟩
end

/-! ### The order is open -/

theorem XO.ev_congr {t t' : Nat → D} {x : XO} (h : ∀ i ∈ x.use, t i = t' i) : x.ev t = x.ev t' := by
  cases x with
  | t i => exact h i (by simp [XO.use])
  | c d => rfl

theorem XO.map_congr {t t' : Nat → D} {xs : List XO} (h : ∀ i ∈ xs.flatMap XO.use, t i = t' i) : xs.map (XO.ev t) = xs.map (XO.ev t') :=
  List.map_congr_left fun x hx => XO.ev_congr fun i hi => h i (List.mem_flatMap.2 ⟨x, hx, hi⟩)

theorem evX_congr {C : Calls} {draw : Bool} {x : X} {t t' : Nat → D} {h : List Blk} (hu : ∀ i ∈ x.uses, t i = t' i) : evX C draw x t h = evX C draw x t' h := by
  have parts : ∀ (ps : List (Nat × Nat × XO)), (∀ i ∈ ps.flatMap (fun p => p.2.2.use), t i = t' i) → (ps.map fun (o, s, x) => (o, s, x.ev t)) = (ps.map fun (o, s, x) => (o, s, x.ev t')) := by
    intro ps hps
    refine List.map_congr_left fun p hp => ?_
    obtain ⟨o, s, y⟩ := p
    simp only [Prod.mk.injEq, true_and]
    exact XO.ev_congr fun i hi => hps i (List.mem_flatMap.2 ⟨_, hp, hi⟩)
  have opt : ∀ (y : Option XO), (∀ i ∈ y.toList.flatMap XO.use, t i = t' i) → y.map (XO.ev t) = y.map (XO.ev t') := by
    intro y hy
    cases y with
    | none => rfl
    | some y => simp only [Option.map_some]; rw [XO.ev_congr fun i hi => hy i (by simpa using hi)]
  cases x <;> simp only [X.uses, List.mem_append] at hu
  case alloc => rfl
  case pick c y z =>
    have e1 := XO.ev_congr (x := c) fun i hi => hu i (.inl (.inl hi))
    have e2 := XO.ev_congr (x := y) fun i hi => hu i (.inl (.inr hi))
    have e3 := XO.ev_congr (x := z) fun i hi => hu i (.inr hi)
    simp only [evX, X.cls, evS, e1, e2, e3]
  case build z ps => simp only [evX, X.cls, evS, parts ps hu]
  case buildSlice n z ps => cases draw <;> simp only [evX, X.cls, cond_true, cond_false, evS, evW, parts ps hu]
  case slice sz y lo hi mx =>
    have e1 := XO.ev_congr (x := y) fun i hi => hu i (.inl hi)
    have e2 := opt lo fun i hi' => hu i (.inr (by simp only [List.flatMap_append, List.mem_append]; exact .inl (.inl hi')))
    have e3 := opt hi fun i hi' => hu i (.inr (by simp only [List.flatMap_append, List.mem_append]; exact .inl (.inr hi')))
    have e4 := opt mx fun i hi' => hu i (.inr (by simp only [List.flatMap_append, List.mem_append]; exact .inr hi'))
    simp only [evX, X.cls, evS, e1, e2, e3, e4]
  case sliceStr y lo hi =>
    have e1 := XO.ev_congr (x := y) fun i hi => hu i (.inl hi)
    have e2 := opt lo fun i hi' => hu i (.inr (by simp only [List.flatMap_append, List.mem_append]; exact .inl hi'))
    have e3 := opt hi fun i hi' => hu i (.inr (by simp only [List.flatMap_append, List.mem_append]; exact .inr hi'))
    simp only [evX, X.cls, evS, e1, e2, e3]
  case min xs => simp only [evX, X.cls, evS, XO.map_congr hu]
  case max xs => simp only [evX, X.cls, evS, XO.map_congr hu]
  case call f xs => cases draw <;> cases ho : C.own f <;> simp only [evX, X.cls, ho, cond_true, cond_false, evS, evW, XO.map_congr hu]
  case callv f xs =>
    have e1 := XO.ev_congr (x := f) fun i hi => hu i (.inl hi)
    have e2 := XO.map_congr (xs := xs) fun i hi => hu i (.inr hi)
    simp only [evX, X.cls, evW, e1, e2]
  case mkfn f xs ys =>
    have e1 := XO.map_congr (xs := xs) fun i hi => hu i (.inl hi)
    have e2 := XO.map_congr (xs := ys) fun i hi => hu i (.inr hi)
    simp only [evX, X.cls, evS, e1, e2]
  case load sz y =>
    have e1 := XO.ev_congr (x := y) hu
    simp only [evX, X.cls, evL, e1]
  case mov y => have e1 := XO.ev_congr (x := y) hu; simp only [evX, X.cls, evS, e1]
  case box y => have e1 := XO.ev_congr (x := y) hu; simp only [evX, X.cls, evW, e1]
  case fieldAddr o y => have e1 := XO.ev_congr (x := y) hu; simp only [evX, X.cls, evS, e1]
  case field s o y => have e1 := XO.ev_congr (x := y) hu; simp only [evX, X.cls, evS, e1]
  case un s y => have e1 := XO.ev_congr (x := y) hu; simp only [evX, X.cls, evS, e1]
  case conv s y => have e1 := XO.ev_congr (x := y) hu; simp only [evX, X.cls, evS, e1]
  case extract y s => have e1 := XO.ev_congr (x := y) hu; simp only [evX, X.cls, evS, e1]
  case len y => have e1 := XO.ev_congr (x := y) hu; simp only [evX, X.cls, evS, e1]
  case lenStr y => have e1 := XO.ev_congr (x := y) hu; simp only [evX, X.cls, evS, e1]
  case nilCheck y => have e1 := XO.ev_congr (x := y) hu; simp only [evX, X.cls, evS, e1]
  case mkifc s y => have e1 := XO.ev_congr (x := y) hu; simp only [evX, X.cls, evS, e1]
  case isNil s y => have e1 := XO.ev_congr (x := y) hu; simp only [evX, X.cls, evS, e1]
  case isNilP s y => have e1 := XO.ev_congr (x := y) hu; simp only [evX, X.cls, evS, e1]
  case cap y => have e1 := XO.ev_congr (x := y) hu; simp only [evX, X.cls, evS, e1]
  case clear s z y => have e1 := XO.ev_congr (x := y) hu; simp only [evX, X.cls, evW, e1]
  case stuck => simp only [evX, X.cls, evW]
  case mkmap => simp only [evX, X.cls, evW]
  case newSlice sz z ps => simp only [evX, X.cls, evW, parts ps hu]
  case insert ks ag m k v => simp only [evX, X.cls, evW]
  all_goals
    rename_i y z
    have e1 := XO.ev_congr (x := y) fun i hi => hu i (.inl hi)
    have e2 := XO.ev_congr (x := z) fun i hi => hu i (.inr hi)
    simp only [evX, X.cls, evS, evW, e1, e2]

theorem wants_congr {t t' : Nat → D} {g : Option (Nat × Bool)} (h : ∀ i b, g = some (i, b) → t i = t' i) : wants t g = wants t' g := by
  cases g with
  | none => rfl
  | some p => obtain ⟨i, b⟩ := p; simp only [wants, h i b rfl]

theorem known_congr {t t' : Nat → D} {g : Option (Nat × Bool)} (h : ∀ i b, g = some (i, b) → t i = t' i) : known t g = known t' g := by
  cases g with
  | none => rfl
  | some p => obtain ⟨i, b⟩ := p; simp only [known, h i b rfl]

theorem foot_congr {C : Calls} {x : X} {t t' : Nat → D} {h : List Blk} (hu : ∀ i ∈ x.uses, t i = t' i) : footR (XO.ev t) x = footR (XO.ev t') x ∧ footW C h (XO.ev t) x = footW C h (XO.ev t') x := by
  cases x <;> simp only [X.uses, List.mem_append] at hu <;> simp only [footR, footW, and_self, true_and, and_true]
  case load sz y => have e1 := XO.ev_congr (x := y) hu; rw [e1]
  case store sz y z =>
    have e1 := XO.ev_congr (x := y) fun i hi => hu i (.inl hi)
    have e2 := XO.ev_congr (x := z) fun i hi => hu i (.inr hi)
    rw [e1, e2]
  case append sz b y z =>
    have e1 := XO.ev_congr (x := y) fun i hi => hu i (.inl hi)
    have e2 := XO.ev_congr (x := z) fun i hi => hu i (.inr hi)
    rw [e1, e2]
  case call f xs => rw [XO.map_congr hu]
  case copy sz y z =>
    have e1 := XO.ev_congr (x := y) fun i hi => hu i (.inl hi)
    have e2 := XO.ev_congr (x := z) fun i hi => hu i (.inr hi)
    rw [e1, e2]

/-- What an operation gives, and the store behind it. -/
def eff (C : Calls) (o : XOp) (t : Nat → D) (h : List Blk) : Option (D × List Blk) := bif known t o.guard then (bif wants t o.guard then evX C true o.x t h else some (.tup [], h)) else none

theorem evOp_eff {C : Calls} {o : XOp} {st : St} : evOp C true o st = (eff C o st.t st.h).map fun (d, h') => ⟨updO st.t o.dst d, h'⟩ := by
  unfold evOp eff
  cases known st.t o.guard
  · rfl
  simp only [cond_true]
  cases wants st.t o.guard
  · rfl
  · simp only [cond_true]
    split <;> simp_all

theorem eff_congr {C : Calls} {o : XOp} {t t' : Nat → D} {h : List Blk} (hu : ∀ i ∈ o.uses, t i = t' i) : eff C o t h = eff C o t' h ∧ evFoot C o ⟨t, h⟩ = evFoot C o ⟨t', h⟩ := by
  have h1 : ∀ i ∈ o.x.uses, t i = t' i := fun i hi => hu i (by simp [XOp.uses, hi])
  have h2 : wants t o.guard = wants t' o.guard := wants_congr fun i b hg => hu i (by simp [XOp.uses, hg])
  have h3 : known t o.guard = known t' o.guard := known_congr fun i b hg => hu i (by simp [XOp.uses, hg])
  unfold eff evFoot
  simp only [h2, h3, evX_congr h1, (foot_congr (C := C) (h := h) h1).1, (foot_congr (C := C) (h := h) h1).2]
  exact ⟨trivial, trivial⟩

theorem evS_foot {C : Calls} {o : XOp} {t : Nat → D} {h h2 : List Blk} (hf : evFoot C o ⟨t, h⟩ = some .none) : evFoot C o ⟨t, h2⟩ = some .none ∧ ∀ d h', eff C o t h = some (d, h') → h' = h ∧ eff C o t h2 = some (d, h2) := by
  unfold evFoot eff at *
  cases hkn : known t o.guard
  · simp [hkn] at hf
  simp only [hkn, cond_true] at *
  cases hw : wants t o.guard
  · simp
  · simp only [hw, cond_true] at hf ⊢
    cases hc : o.x.cls true C.own <;> simp only [hc] at hf ⊢
    · refine ⟨trivial, fun d h' he => ?_⟩
      obtain ⟨e1, e2⟩ := evX_s hc he
      refine ⟨e2, ?_⟩
      simp only [evX, hc, e1]
    · simp only [Option.some.injEq] at hf
      refine ⟨by rw [hf], fun d h' he => ?_⟩
      cases hx : o.x <;> simp only [hx, X.cls, reduceCtorEq] at hc
      case load sz y =>
        simp only [hx, footR] at hf
        simp only [hx, evX, X.cls, evL] at he ⊢
        split at hf
        · simp at hf
        · rename_i hn
          cases hy : y.ev t <;> simp only [hy] at he hn ⊢
          case ptr => exact absurd rfl (hn _ _ _)
          case cptr cs =>
            split at he <;> simp at he
            rename_i d' hd
            obtain ⟨rfl, rfl⟩ := he
            exact ⟨rfl, rfl⟩
          all_goals simp at he
      case call f xs => simp only [cond_true] at hc; cases ho : C.own f <;> simp [ho] at hc
      case buildSlice => simp at hc
    · exfalso
      cases hx : o.x <;> simp only [hx, footW] at hf <;> (try simp at hf; done) <;> (try (split at hf <;> simp at hf; done)) <;> (split at hf <;> (try (simp at hf; done)) <;> (revert hf; cases storeLight _ _ _ <;> simp))

theorem evR_foot {C : Calls} {o : XOp} {t : Nat → D} {h : List Blk} {b : Nat} (hf : evFoot C o ⟨t, h⟩ = some (.rd b)) : ∀ d h', eff C o t h = some (d, h') → h' = h ∧ ∀ h2, h2[b]? = h[b]? → evFoot C o ⟨t, h2⟩ = some (.rd b) ∧ eff C o t h2 = some (d, h2) := by
  intro d h' he
  unfold evFoot eff at *
  cases hkn : known t o.guard
  · simp [hkn] at hf
  simp only [hkn, cond_true] at *
  cases hw : wants t o.guard
  · simp [hw] at hf
  · simp only [hw, cond_true] at hf he ⊢
    cases hc : o.x.cls true C.own <;> simp only [hc] at hf ⊢
    · simp at hf
    · simp only [Option.some.injEq] at hf
      cases hx : o.x <;> simp only [hx, X.cls, reduceCtorEq] at hc
      case load sz y =>
        have hf' := hf
        simp only [hx, footR] at hf
        split at hf <;> simp at hf
        rename_i b' off g hy
        subst hf
        simp only [hx, evX, X.cls, evL, hy] at he ⊢
        split at he <;> simp at he
        rename_i d' hd
        obtain ⟨rfl, rfl⟩ := he
        refine ⟨rfl, fun h2 hb => ⟨by rw [← hx, hf'], ?_⟩⟩
        rw [hb, hd]
      case call f xs => simp only [cond_true] at hc; cases ho : C.own f <;> simp [ho] at hc
      case buildSlice => simp at hc
    · exfalso
      cases hx : o.x <;> simp only [hx, footW] at hf <;> (try simp at hf; done) <;> (try (split at hf <;> simp at hf; done)) <;> (split at hf <;> (try (simp at hf; done)) <;> (revert hf; cases storeLight _ _ _ <;> simp))

theorem seal1_freeze {d d' : D} {h : List Blk} (hs : seal1 d = some d') : freeze1 d h = some (d', h) := by
  unfold seal1 at hs
  split at hs
  · simp at hs; subst hs; rfl
  · rename_i hn
    split at hs <;> simp at hs
    rename_i hp
    subst hs
    cases d <;> simp [D.plain] at hp <;> first | rfl | (simp [freeze1, D.plain, hp]; done) | exact absurd rfl (hn _ _ _)
theorem sealL_freeze {h : List Blk} : (ds ds' : List D) → sealL ds = some ds' → freezeL ds h = some (ds', h)
  | [], ds', hs => by simp [sealL] at hs; subst hs; rfl
  | d :: ds, ds', hs => by
    simp only [sealL] at hs
    split at hs <;> simp at hs
    rename_i e r h1 h2
    subst hs
    simp only [freezeL, seal1_freeze h1, sealL_freeze ds r h2]
theorem sealV_freeze {d d' : D} {h : List Blk} (hs : sealV d = some d') : freezeV d h = some (d', h) := by
  unfold sealV at hs
  split at hs
  · split at hs <;> simp at hs
    rename_i cs' h1
    subst hs
    simp only [freezeV, sealL_freeze _ _ h1]
  · rename_i hn
    unfold freezeV
    split
    · exact absurd rfl (hn _)
    · exact seal1_freeze hs
theorem sealVs_freeze {h : List Blk} : (ds ds' : List D) → sealVs ds = some ds' → freezeVs ds h = some (ds', h)
  | [], ds', hs => by simp [sealVs] at hs; subst hs; rfl
  | d :: ds, ds', hs => by
    simp only [sealVs] at hs
    split at hs <;> simp at hs
    rename_i e r h1 h2
    subst hs
    simp only [freezeVs, sealV_freeze h1, sealVs_freeze ds r h2]

theorem evW_foot {C : Calls} {o : XOp} {t : Nat → D} {h : List Blk} {bs : List Nat} {n : Nat} (hf : evFoot C o ⟨t, h⟩ = some (.wr bs n)) : ∀ d h', eff C o t h = some (d, h') → n = h.length ∧ ∀ b, b ∉ bs → b < n → h'[b]? = h[b]? := by
  intro d h' he
  unfold evFoot eff at *
  cases hkn : known t o.guard
  · simp [hkn] at hf
  simp only [hkn, cond_true] at *
  cases hw : wants t o.guard
  · simp [hw] at hf
  · simp only [hw, cond_true] at hf he
    cases hc : o.x.cls true C.own <;> simp only [hc] at hf
    · simp at hf
    · exfalso
      cases hx : o.x <;> simp only [hx, footR] at hf <;> (try simp at hf) <;> (try (split at hf <;> simp at hf))
    · have q := evX_w hc he
      cases hx : o.x <;> simp only [hx, footW] at hf q <;> (try (simp at hf; done))
      case box y =>
        simp at hf
        obtain ⟨rfl, rfl⟩ := hf
        simp only [evW] at q
        split at q <;> simp at q
        obtain ⟨rfl, rfl⟩ := q
        exact ⟨rfl, fun b _ hb => List.getElem?_append_left hb⟩
      case alloc z =>
        simp at hf
        obtain ⟨rfl, rfl⟩ := hf
        simp only [evW, Option.some.injEq, Prod.mk.injEq] at q
        obtain ⟨rfl, rfl⟩ := q
        exact ⟨rfl, fun b _ hb => List.getElem?_append_left hb⟩
      case makeSlice sz by_ z l c =>
        simp at hf
        obtain ⟨rfl, rfl⟩ := hf
        simp only [evW] at q
        split at q <;> try (simp at q; done)
        split at q <;> simp at q
        obtain ⟨rfl, rfl⟩ := q
        exact ⟨rfl, fun b _ hb => List.getElem?_append_left hb⟩
      case store sz y z =>
        split at hf <;> try (simp at hf; done)
        rename_i b0 off g hy
        cases hsl : storeLight h b0 (XO.ev t z) <;> simp only [hsl, cond_true, cond_false, Option.some.injEq, Foot.wr.injEq] at hf <;> obtain ⟨rfl, rfl⟩ := hf
        · exact ⟨rfl, fun b hb hlt => absurd (by simpa using hlt) hb⟩
        simp only [evW, hy] at q
        refine ⟨rfl, fun b hb _ => ?_⟩
        have hne : b0 ≠ b := fun hh => hb (by simp [hh])
        split at q <;> try (simp at q; done)
        rename_i b1 off1 g1 new e1 hn
        simp at e1
        obtain ⟨rfl, rfl, rfl⟩ := e1
        split at q <;> try (simp at q; done)
        rename_i blk hblk
        split at q <;> try (simp at q; done)
        cases hbx : blk.box
        · simp only [storeLight, hblk, hbx, hn, Bool.false_or] at hsl
          simp only [hbx, cond_false] at q
          split at q
          · simp at q
            obtain ⟨rfl, rfl⟩ := q
            rw [List.getElem?_set_ne hne]
          · rename_i hs
            rw [hs] at hsl
            simp at hsl
        · simp only [hbx, cond_true, Option.some.injEq, Prod.mk.injEq] at q
          obtain ⟨rfl, rfl⟩ := q
          rw [List.getElem?_set_ne hne]
      case callv f xs =>
        simp at hf
        obtain ⟨rfl, rfl⟩ := hf
        exact ⟨rfl, fun b hb hlt => absurd (by simpa using hlt) hb⟩
      case call f xs =>
        split at hf <;> simp at hf
        · rename_i hcc
          obtain ⟨rfl, rfl⟩ := hf
          obtain ⟨hm, ht, hs⟩ := hcc
          refine ⟨rfl, fun b _ hb => ?_⟩
          obtain ⟨ds, hds⟩ := Option.isSome_iff_exists.1 hs
          simp only [evW, callW, hm, ht, sealVs_freeze _ _ hds] at q
          simp at q
          split at q <;> try (simp at q; done)
          · split at q <;> try (simp at q; done)
            split at q <;> simp at q
            obtain ⟨rfl, rfl⟩ := q
            exact List.getElem?_append_left hb
          · simp at q
            obtain ⟨rfl, rfl⟩ := q
            rfl
        · obtain ⟨rfl, rfl⟩ := hf
          exact ⟨rfl, fun b hb hlt => absurd (by simpa using hlt) hb⟩
      case append sz by_ y z =>
        split at hf <;> simp at hf
        · rename_i n1 f1 c1 n2 f2 c2 hy hz
          obtain ⟨rfl, rfl⟩ := hf
          simp only [evW, hy, hz, contents] at q
          refine ⟨rfl, fun b _ hb => ?_⟩
          split at q
          · simp at q
            obtain ⟨rfl, rfl⟩ := q
            rfl
          · split at q <;> try (simp at q; done)
            split at q <;> simp at q
            obtain ⟨rfl, rfl⟩ := q
            exact List.getElem?_append_left hb
        · rename_i b0 o0 n0 s0 g0 fl0 n2 f2 c2 hy hz
          obtain ⟨rfl, rfl⟩ := hf
          simp only [evW, hy, hz, contents] at q
          refine ⟨rfl, fun b hb hlt => ?_⟩
          have hne : b0 ≠ b := fun hh => hb (by simp [hh])
          split at q
          · simp at q
            obtain ⟨rfl, rfl⟩ := q
            rfl
          · split at q <;> try (simp at q; done)
            split at q <;> try (simp at q; done)
            split at q
            · split at q <;> simp at q
              obtain ⟨rfl, rfl⟩ := q
              rw [List.getElem?_set_ne hne]
            split at q <;> try (simp at q; done)
            cases fl0
            · simp only [cond_false] at q
              split at q <;> simp at q
              obtain ⟨rfl, rfl⟩ := q
              rw [List.getElem?_set_ne hne]
            · simp only [cond_true, Option.some.injEq, Prod.mk.injEq] at q
              obtain ⟨rfl, rfl⟩ := q
              exact List.getElem?_append_left hlt
      case copy sz y z =>
        split at hf <;> simp at hf
        · rename_i b0 o0 n0 s0 g0 fl0 n2 f2 c2 hy hz
          obtain ⟨rfl, rfl⟩ := hf
          simp only [evW, hy, hz, contents] at q
          refine ⟨rfl, fun b hb _ => ?_⟩
          have hne : b0 ≠ b := fun hh => hb (by simp [hh])
          split at q <;> try (simp at q; done)
          split at q <;> simp at q
          obtain ⟨rfl, rfl⟩ := q
          rw [List.getElem?_set_ne hne]
        · rename_i b0 o0 n0 s0 g0 fl0 b2 o2 n2 s2 g2 fl2 hy hz
          obtain ⟨rfl, rfl⟩ := hf
          simp only [evW, hy] at q
          refine ⟨rfl, fun b hb _ => ?_⟩
          have hne : b0 ≠ b := fun hh => hb (by simp [hh])
          split at q <;> try (simp at q; done)
          rename_i hcon e1
          simp at e1
          obtain ⟨rfl, rfl, rfl, rfl, rfl, rfl⟩ := e1
          split at q <;> try (simp at q; done)
          split at q <;> simp at q
          obtain ⟨rfl, rfl⟩ := q
          rw [List.getElem?_set_ne hne]
          all_goals (rename_i hh; simp at hh)
        · rename_i n1 f1 c1 n2 f2 c2 hy hz
          obtain ⟨rfl, rfl⟩ := hf
          simp only [evW, hy, hz, contents] at q
          split at q <;> simp at q
          obtain ⟨rfl, rfl⟩ := q
          exact ⟨rfl, fun _ _ _ => rfl⟩

theorem updO_comm (t : Nat → D) {x y : Option Nat} (d e : D) (h : ∀ i, x = some i → y ≠ some i) : updO (updO t x d) y e = updO (updO t y e) x d := by
  cases x with
  | none => rfl
  | some i =>
    cases y with
    | none => rfl
    | some j =>
      have hne : i ≠ j := fun hh => h i rfl (hh ▸ rfl)
      funext k
      simp only [updO, upd]
      split <;> split <;> first | rfl | omega

theorem updO_same (t : Nat → D) {x : Option Nat} {d : D} {l : List Nat} (h : ∀ i, x = some i → i ∉ l) : ∀ i ∈ l, updO t x d i = t i := by
  intro i hi
  cases x with
  | none => rfl
  | some j =>
    simp only [updO, upd]
    split
    · rename_i hij
      exact absurd (hij ▸ hi) (h j rfl)
    · rfl

theorem indep_spec {a b : XOp} (h : indep a b = true) : (∀ i, a.dst = some i → i ∉ b.uses) ∧ (∀ i, b.dst = some i → i ∉ a.uses) ∧ (∀ i, a.dst = some i → b.dst ≠ some i) := by
  simp only [indep, Bool.and_eq_true] at h
  obtain ⟨⟨h1, h2⟩, h3⟩ := h
  refine ⟨fun i hi => ?_, fun i hi => ?_, fun i hi => ?_⟩
  · rw [hi] at h1; simpa using h1
  · rw [hi] at h2; simpa using h2
  · rw [hi] at h3
    intro hb
    rw [hb] at h3
    simp at h3

/-- Two operations whose order is open may change places. -/
theorem swap_ops {C : Calls} {x y : XOp} {st st1 st2 : St} {fx fy : Foot} (hi : indep x y = true) (hf : fx.fits fy = true) (h1 : evFoot C x st = some fx) (h2 : evOp C true x st = some st1) (h3 : evFoot C y st1 = some fy) (h4 : evOp C true y st1 = some st2) :
    evFoot C y st = some fy ∧ ∃ st1', evOp C true y st = some st1' ∧ evFoot C x st1' = some fx ∧ evOp C true x st1' = some st2 := by
  obtain ⟨i1, i2, i3⟩ := indep_spec hi
  rw [evOp_eff] at h2 h4
  simp only [Option.map_eq_some_iff, Prod.exists] at h2 h4
  obtain ⟨d, hh, e1, rfl⟩ := h2
  obtain ⟨d', hh', e2, rfl⟩ := h4
  obtain ⟨t, h⟩ := st
  simp only at *
  obtain ⟨c1, c2⟩ := eff_congr (C := C) (o := y) (h := hh) (updO_same t (d := d) i1)
  rw [c1] at e2
  rw [c2] at h3
  have back : ∀ {hy : List Blk}, eff C y t h = some (d', hy) → evFoot C x ⟨t, hy⟩ = some fx → eff C x t hy = some (d, hh') → evFoot C y ⟨t, h⟩ = some fy →
      evFoot C y ⟨t, h⟩ = some fy ∧ ∃ st1', evOp C true y ⟨t, h⟩ = some st1' ∧ evFoot C x st1' = some fx ∧ evOp C true x st1' = some ⟨updO (updO t x.dst d) y.dst d', hh'⟩ := by
    intro hy g1 g2 g3 g4
    obtain ⟨c3, c4⟩ := eff_congr (C := C) (o := x) (h := hy) (updO_same t (d := d') i2)
    refine ⟨g4, ⟨updO t y.dst d', hy⟩, by rw [evOp_eff, g1]; rfl, c4.trans g2, ?_⟩
    rw [evOp_eff]
    simp only [c3, g3, Option.map_some]
    rw [updO_comm t d d' i3]
  cases fx with
  | none =>
    obtain ⟨s1, s2⟩ := evS_foot (C := C) (h2 := hh') h1
    obtain ⟨rfl, s3⟩ := s2 d hh e1
    exact back e2 s1 s3 h3
  | rd b =>
    obtain ⟨rfl, s3⟩ := evR_foot (C := C) h1 d hh e1
    cases fy with
    | none =>
      obtain ⟨u1, u2⟩ := evS_foot (C := C) (h2 := hh) h3
      obtain ⟨rfl, u3⟩ := u2 d' hh' e2
      exact back e2 h1 e1 h3
    | rd b' =>
      obtain ⟨rfl, _⟩ := evR_foot (C := C) h3 d' hh' e2
      exact back e2 h1 e1 h3
    | wr bs n =>
      simp only [Foot.fits, Bool.and_eq_true, Bool.not_eq_true', decide_eq_true_eq] at hf
      obtain ⟨rfl, w2⟩ := evW_foot (C := C) h3 d' hh' e2
      have := w2 b (by simpa using hf.1) hf.2
      obtain ⟨s4, s5⟩ := s3 hh' this
      exact back e2 s4 s5 h3
  | wr bs n =>
    obtain ⟨rfl, w2⟩ := evW_foot (C := C) h1 d hh e1
    cases fy with
    | none =>
      obtain ⟨u1, u2⟩ := evS_foot (C := C) (h2 := h) h3
      obtain ⟨rfl, _⟩ := u2 d' hh' e2
      have u5 := (evS_foot (C := C) (h2 := h) h3).2 d' hh' e2
      exact back u5.2 h1 e1 u1
    | rd b' =>
      simp only [Foot.fits, Bool.and_eq_true, Bool.not_eq_true', decide_eq_true_eq] at hf
      obtain ⟨rfl, s3⟩ := evR_foot (C := C) h3 d' hh' e2
      have := w2 b' (by simpa using hf.1) hf.2
      obtain ⟨s4, s5⟩ := s3 h this.symm
      exact back s5 h1 e1 s4
    | wr bs' n' => simp [Foot.fits] at hf

end Go.Proofs.YtccinlhenkkpeaaDoor.E

namespace Go.Proofs.YtccinlhenkkpeaaDoor.E
open Go

/-- A run with the feet of its operations. -/
def runF (C : Calls) : List (Nat × XOp) → St → Option (St × List ((Nat × XOp) × Foot))
  | [], st => some (st, [])
  | p :: r, st => match evFoot C p.2 st, evOp C true p.2 st with
    | some f, some st' => match runF C r st' with
      | some (st'', fs) => some (st'', (p, f) :: fs)
      | none => none
    | _, _ => none

theorem runF_cons {C : Calls} {p : Nat × XOp} {r : List (Nat × XOp)} {st st' : St} {F : List ((Nat × XOp) × Foot)} :
    runF C (p :: r) st = some (st', F) ↔ ∃ f st1 F', evFoot C p.2 st = some f ∧ evOp C true p.2 st = some st1 ∧ runF C r st1 = some (st', F') ∧ F = (p, f) :: F' := by
  constructor
  · intro h
    simp only [runF] at h
    split at h
    · rename_i f st1 h1 h2
      split at h
      · rename_i st2 fs h3
        simp at h
        obtain ⟨rfl, rfl⟩ := h
        exact ⟨f, st1, fs, h1, h2, h3, rfl⟩
      · simp at h
    · simp at h
  · rintro ⟨f, st1, F', h1, h2, h3, rfl⟩
    simp [runF, h1, h2, h3]

theorem runF_fst {C : Calls} : (l : List (Nat × XOp)) → (st st' : St) → (F : List ((Nat × XOp) × Foot)) → runF C l st = some (st', F) → F.map (·.1) = l
  | [], st, st', F, h => by simp [runF] at h; simp [← h.2]
  | p :: r, st, st', F, h => by
    obtain ⟨f, st1, F', _, _, h3, rfl⟩ := runF_cons.1 h
    simp [runF_fst r st1 st' F' h3]

theorem runF_seq {C : Calls} : (l : List (Nat × XOp)) → (st st' : St) → (F : List ((Nat × XOp) × Foot)) → runF C l st = some (st', F) → evSeq C true (l.map (·.2)) st = some st'
  | [], st, st', F, h => by simp [runF] at h; simp [evSeq, h.1]
  | p :: r, st, st', F, h => by
    obtain ⟨f, st1, F', _, h2, h3, rfl⟩ := runF_cons.1 h
    simp [evSeq, h2, runF_seq r st1 st' F' h3]

/-- Two operations that may change places. -/
def Free (e f : (Nat × XOp) × Foot) : Prop := indep e.1.2 f.1.2 = true ∧ e.2.fits f.2 = true

theorem runF_front {C : Calls} : (F1 F2 : List ((Nat × XOp) × Foot)) → (e : (Nat × XOp) × Foot) → (st st' : St) → runF C ((F1 ++ e :: F2).map (·.1)) st = some (st', F1 ++ e :: F2) → (∀ x ∈ F1, Free x e) →
    runF C ((e :: (F1 ++ F2)).map (·.1)) st = some (st', e :: (F1 ++ F2))
  | [], F2, e, st, st', h, _ => h
  | x :: F1, F2, e, st, st', h, hf => by
    simp only [List.cons_append, List.map_cons] at h
    obtain ⟨f, st1, F', h1, h2, h3, he⟩ := runF_cons.1 h
    simp only [List.cons.injEq] at he
    obtain ⟨he1, rfl⟩ := he
    have ih := runF_front F1 F2 e st1 st' h3 (fun y hy => hf y (by simp [hy]))
    simp only [List.map_cons] at ih
    obtain ⟨g, st2, F'', g1, g2, g3, ge⟩ := runF_cons.1 ih
    simp only [List.cons.injEq] at ge
    obtain ⟨ge1, rfl⟩ := ge
    obtain ⟨fr1, fr2⟩ := hf x (by simp)
    have hx2 : x.2 = f := by rw [he1]
    have he2 : e.2 = g := by rw [ge1]
    rw [hx2, he2] at fr2
    obtain ⟨s1, st1', s2, s3, s4⟩ := swap_ops fr1 fr2 h1 h2 g1 g2
    simp only [List.cons_append, List.map_cons]
    refine runF_cons.2 ⟨g, st1', x :: (F1 ++ F2), s1, s2, runF_cons.2 ⟨f, st2, F1 ++ F2, s3, s4, g3, ?_⟩, ?_⟩
    · rw [← hx2]
    · rw [← he2]

/-- The masks of 'Region.before'. -/
theorem before_spec (ops : Array Oper) : ∀ (i k : Nat), ((Region.before ops).getD i 0).testBit k = true → ∃ o, ops[i]? = some o ∧ ∃ e ∈ o.after, Region.binds .any e = true ∧ (k = e.on ∨ (e.on < i ∧ ((Region.before ops).getD e.on 0).testBit k = true)) := by
  have inner : ∀ (acc : Array Nat) (es : List Edge) (s k : Nat), (es.foldl (fun s e => if Region.binds .any e then s ||| 2 ^ e.on ||| acc.getD e.on 0 else s) s).testBit k = true →
      s.testBit k = true ∨ ∃ e ∈ es, Region.binds .any e = true ∧ (k = e.on ∨ (acc.getD e.on 0).testBit k = true) := by
    intro acc es
    induction es with
    | nil => intro s k h; exact .inl h
    | cons e es ih =>
      intro s k h
      simp only [List.foldl_cons] at h
      rcases ih _ _ h with h | ⟨e', he', hb, hk⟩
      · split at h
        · rename_i hb
          simp only [Nat.testBit_or, Bool.or_eq_true, Nat.testBit_two_pow, decide_eq_true_eq] at h
          rcases h with (h | h) | h
          · exact .inl h
          · exact .inr ⟨e, by simp, hb, .inl h.symm⟩
          · exact .inr ⟨e, by simp, hb, .inr h⟩
        · exact .inl h
      · exact .inr ⟨e', by simp [he'], hb, hk⟩
  have outer : ∀ (l : List Oper) (pre : List Oper) (acc : Array Nat), acc.size = pre.length →
      (∀ (i k : Nat), (acc.getD i 0).testBit k = true → ∃ o, pre[i]? = some o ∧ ∃ e ∈ o.after, Region.binds .any e = true ∧ (k = e.on ∨ (e.on < i ∧ (acc.getD e.on 0).testBit k = true))) →
      ∀ (i k : Nat), ((l.foldl (fun acc o => acc.push (o.after.foldl (fun s e => if Region.binds .any e then s ||| 2 ^ e.on ||| acc.getD e.on 0 else s) 0)) acc).getD i 0).testBit k = true →
        ∃ o, (pre ++ l)[i]? = some o ∧ ∃ e ∈ o.after, Region.binds .any e = true ∧ (k = e.on ∨ (e.on < i ∧ ((l.foldl (fun acc o => acc.push (o.after.foldl (fun s e => if Region.binds .any e then s ||| 2 ^ e.on ||| acc.getD e.on 0 else s) 0)) acc).getD e.on 0).testBit k = true)) := by
    intro l
    induction l with
    | nil => intro pre acc _ h; simpa using h
    | cons o l ih =>
      intro pre acc hs h
      simp only [List.foldl_cons]
      have := ih (pre ++ [o]) (acc.push (o.after.foldl (fun s e => if Region.binds .any e then s ||| 2 ^ e.on ||| acc.getD e.on 0 else s) 0)) (by simp [hs]) ?_
      · simpa using this
      · intro i k hk
        by_cases hi : i < acc.size
        · have e1 : ∀ x, (acc.push x).getD i 0 = acc.getD i 0 := fun x => by simp [Array.getD_eq_getD_getElem?, Array.getElem?_push, Nat.ne_of_lt hi]
          rw [e1] at hk
          obtain ⟨o', ho', e, he, hb, hh⟩ := h i k hk
          refine ⟨o', by rw [List.getElem?_append_left (by omega)]; exact ho', e, he, hb, ?_⟩
          rcases hh with hh | ⟨h1, h2⟩
          · exact .inl hh
          · refine .inr ⟨h1, ?_⟩
            have : e.on < acc.size := by omega
            simpa [Array.getD_eq_getD_getElem?, Array.getElem?_push, Nat.ne_of_lt this] using h2
        · by_cases hi2 : i = acc.size
          · subst hi2
            have e1 : ∀ x, (acc.push x).getD acc.size 0 = x := fun x => by simp [Array.getD_eq_getD_getElem?]
            rw [e1, ← Array.foldl_toList] at hk
            rcases inner acc o.after.toList 0 k hk with hk | ⟨e, he, hb, hh⟩
            · simp at hk
            · refine ⟨o, by rw [hs]; simp, e, by simpa using he, hb, ?_⟩
              rcases hh with hh | hh
              · exact .inl hh
              · have hlt : e.on < acc.size := by
                  rcases Nat.lt_or_ge e.on acc.size with q | q
                  · exact q
                  · simp [Array.getD_eq_getD_getElem?, Array.getElem?_eq_none q] at hh
                refine .inr ⟨hlt, ?_⟩
                simpa [Array.getD_eq_getD_getElem?, Array.getElem?_push, Nat.ne_of_lt hlt] using hh
          · have : ∀ x, (acc.push x).getD i 0 = 0 := fun x => by
              rw [Array.getD_eq_getD_getElem?, Array.getElem?_eq_none (by simp; omega)]; rfl
            rw [this] at hk
            simp at hk
  intro i k h
  have := outer ops.toList [] #[] rfl (by intro i k h; simp at h) i k
  unfold Region.before at h ⊢
  rw [← Array.foldl_toList] at h ⊢
  simpa using this h

theorem feetOK_spec {bf : Nat} {f : Foot} : (l : List (Nat × Foot)) → feetOK bf f l = true → ∀ p ∈ l, bf.testBit p.1 = true ∨ p.2.fits f = true
  | [], h, p, hp => by simp at hp
  | (i, g) :: r, h, p, hp => by
    simp only [feetOK, Bool.and_eq_true, Bool.or_eq_true] at h
    rcases List.mem_cons.1 hp with rfl | hp
    · exact h.1
    · exact feetOK_spec r h.2 p hp

theorem evOpsD_run {C : Calls} {bs : List Nat} : (xs : List XOp) → (i : Nat) → (fs : List (Nat × Foot)) → (st st' : St) → evOpsD C bs i fs xs st = some st' →
    ∃ F, runF C ((xs.zipIdx i).map fun (x, j) => (j, x)) st = some (st', F) ∧ (∀ e ∈ F, ∀ p ∈ fs, (bs.getD e.1.1 0).testBit p.1 = true ∨ p.2.fits e.2 = true) ∧
      F.Pairwise (fun e e' => (bs.getD e'.1.1 0).testBit e.1.1 = true ∨ e.2.fits e'.2 = true)
  | [], i, fs, st, st', h => by
    simp [evOpsD] at h; subst h
    exact ⟨[], by simp [runF], by simp, List.Pairwise.nil⟩
  | x :: xs, i, fs, st, st', h => by
    simp only [evOpsD] at h
    split at h <;> try (simp at h; done)
    rename_i f hf
    cases hk : feetOK (bs.getD i 0) f fs
    · rw [hk] at h
      simp at h
    · simp only [hk, cond_true] at h
      split at h <;> try (simp at h; done)
      rename_i st1 h1
      obtain ⟨F, g1, g2, g3⟩ := evOpsD_run xs (i + 1) ((i, f) :: fs) st1 st' h
      refine ⟨((i, x), f) :: F, ?_, ?_, ?_⟩
      · simp only [List.zipIdx_cons, List.map_cons]
        exact runF_cons.2 ⟨f, st1, F, hf, h1, g1, rfl⟩
      · intro e he p hp
        rcases List.mem_cons.1 he with rfl | he
        · exact feetOK_spec fs hk p hp
        · exact g2 e he p (by simp [hp])
      · refine List.Pairwise.cons (fun e he => ?_) g3
        exact g2 e he (i, f) (by simp)

/-- Whatever order the edges allow, the run comes to one end. -/
theorem linear_run {C : Calls} {ops : Array Oper} {st' : St} (hedge : ∀ (i : Nat) (o : Oper), ops[i]? = some o → ∀ e ∈ o.after, Region.binds .any e = true → e.on < i) :
    ∀ (fuel t : Nat) (listed : Array Bool) (F : List ((Nat × XOp) × Foot)) (st : St), runF C (F.map (·.1)) st = some (st', F) → F.length ≤ fuel → listed.size = ops.size →
      (F.map (·.1.1)).Pairwise (· < ·) → (∀ i, i ∈ F.map (·.1.1) ↔ (i < ops.size ∧ listed.getD i true = false)) →
      F.Pairwise (fun e e' => ((Region.before ops).getD e'.1.1 0).testBit e.1.1 = true ∨ Free e e') →
      (∀ k, listed.getD k false = true → ∀ i, ((Region.before ops).getD k 0).testBit i = true → listed.getD i false = true) →
      ∃ L : List (Nat × XOp), L.map (·.1) = Region.linearise.go .any ops fuel t listed [] ∧ (∀ p ∈ L, p ∈ F.map (·.1)) ∧ evSeq C true (L.map (·.2)) st = some st' := by
  intro fuel
  induction fuel with
  | zero =>
    intro t listed F st hr hlen _ _ _ _ _
    have : F = [] := List.eq_nil_of_length_eq_zero (by omega)
    subst this
    exact ⟨[], by simp [Region.linearise.go], by simp, by simpa using runF_seq _ _ _ _ hr⟩
  | succ fuel ih =>
    intro t listed F st hr hlen hsz hsorted hmem hpair hdown
    simp only [Region.linearise.go]
    change ∃ L : List (Nat × XOp), L.map (·.1) = (match (Region.ready .any ops listed)[t % (Region.ready .any ops listed).length]? with
      | some i => Region.linearise.go .any ops fuel (t / (Region.ready .any ops listed).length) (listed.setIfInBounds i true) [i]
      | none => [].reverse) ∧ _
    cases hi : (Region.ready .any ops listed)[t % (Region.ready .any ops listed).length]? with
    | none =>
      have hnil : Region.ready .any ops listed = [] := by
        cases hrd : Region.ready .any ops listed with
        | nil => rfl
        | cons x xs =>
          rw [hrd] at hi
          have hlt : t % (x :: xs).length < (x :: xs).length := Nat.mod_lt _ (by simp)
          rw [List.getElem?_eq_getElem hlt] at hi
          simp at hi
      cases F with
      | nil => exact ⟨[], by simp, by simp, by simpa using runF_seq _ _ _ _ hr⟩
      | cons e F =>
        exfalso
        obtain ⟨hlt, hun⟩ := (hmem e.1.1).1 (by simp)
        have : e.1.1 ∈ Region.ready .any ops listed := by
          refine mem_ready.2 ⟨hun, ops[e.1.1], Array.getElem?_eq_getElem hlt, fun ed hed hb => ?_⟩
          have hon := hedge e.1.1 _ (Array.getElem?_eq_getElem hlt) ed hed hb
          cases hl : listed.getD ed.on false with
          | true => rfl
          | false =>
            exfalso
            have h1 : listed.getD ed.on true = false := by
              have hlo : ed.on < listed.size := by omega
              simp only [Array.getD_eq_getD_getElem?, Array.getElem?_eq_getElem hlo, Option.getD_some] at hl ⊢
              exact hl
            have := (hmem ed.on).2 ⟨by omega, h1⟩
            simp only [List.map_cons, List.mem_cons] at this
            rcases this with h2 | h2
            · omega
            · simp only [List.map_cons, List.pairwise_cons] at hsorted
              have := hsorted.1 ed.on h2
              omega
        rw [hnil] at this
        simp at this
    | some i =>
      simp only []
      have hrdy := mem_ready.1 (List.mem_of_getElem? hi)
      obtain ⟨hun, o, ho, hdeps⟩ := hrdy
      have hilt : i < ops.size := (Array.getElem?_eq_some_iff.1 ho).1
      have hbits : ∀ k, ((Region.before ops).getD i 0).testBit k = true → listed.getD k false = true := by
        intro k hk
        obtain ⟨o', ho', e, he, hb, hh⟩ := before_spec ops i k hk
        rw [ho] at ho'
        simp at ho'; subst ho'
        have hl := hdeps e he hb
        rcases hh with rfl | ⟨_, hh⟩
        · exact hl
        · exact hdown _ hl k hh
      have himem := (hmem i).2 ⟨hilt, hun⟩
      obtain ⟨e, heF, hei⟩ := List.mem_map.1 himem
      obtain ⟨F1, F2, rfl⟩ := List.append_of_mem heF
      have hfree : ∀ x ∈ F1, Free x e := by
        intro x hx
        have hp := (List.pairwise_append.1 hpair).2.2 x hx e (by simp)
        rcases hp with hp | hp
        · exfalso
          rw [hei] at hp
          have hl := hbits _ hp
          have hxm := (hmem x.1.1).1 (List.mem_map.2 ⟨x, by simp [hx], rfl⟩)
          have hlo : x.1.1 < listed.size := by omega
          simp only [Array.getD_eq_getD_getElem?, Array.getElem?_eq_getElem hlo, Option.getD_some] at hl hxm
          rw [hl] at hxm
          simp at hxm
        · exact hp
      have hfront := runF_front F1 F2 e st st' hr hfree
      simp only [List.map_cons] at hfront
      obtain ⟨f, st1, F', h1, h2, h3, he⟩ := runF_cons.1 hfront
      simp only [List.cons.injEq] at he
      obtain ⟨he1, rfl⟩ := he
      have hsub : (F1 ++ F2).Sublist (F1 ++ e :: F2) := List.Sublist.append_left (List.sublist_cons_self e F2) F1
      have hnot : ∀ x ∈ F1 ++ F2, x.1.1 ≠ i := by
        intro x hx
        have hs := hsorted
        rw [List.map_append, List.map_cons, List.pairwise_append] at hs
        rcases List.mem_append.1 hx with hx | hx
        · have := hs.2.2 x.1.1 (List.mem_map.2 ⟨x, hx, rfl⟩) e.1.1 (by simp)
          omega
        · have := (List.pairwise_cons.1 hs.2.1).1 x.1.1 (List.mem_map.2 ⟨x, hx, rfl⟩)
          omega
      obtain ⟨L, g1, g2, g3⟩ := ih (t / (Region.ready .any ops listed).length) (listed.setIfInBounds i true) (F1 ++ F2) st1 h3 (by simp at hlen ⊢; omega) (by simp [hsz])
        (hsorted.sublist (hsub.map _)) (fun j => by
          constructor
          · intro hj
            obtain ⟨x, hx, rfl⟩ := List.mem_map.1 hj
            have hne := hnot x hx
            have := (hmem x.1.1).1 (List.mem_map.2 ⟨x, hsub.subset hx, rfl⟩)
            refine ⟨this.1, ?_⟩
            simp only [Array.getD_eq_getD_getElem?, Array.getElem?_setIfInBounds, Ne.symm hne, if_false] at this ⊢
            exact this.2
          · rintro ⟨hj1, hj2⟩
            by_cases hji : j = i
            · subst hji
              have hlo : j < listed.size := by omega
              simp [Array.getD_eq_getD_getElem?, hlo] at hj2
            · have : listed.getD j true = false := by
                simp only [Array.getD_eq_getD_getElem?, Array.getElem?_setIfInBounds, Ne.symm hji, if_false] at hj2 ⊢
                exact hj2
              have hm := (hmem j).2 ⟨hj1, this⟩
              obtain ⟨x, hx, hxj⟩ := List.mem_map.1 hm
              refine List.mem_map.2 ⟨x, ?_, hxj⟩
              rcases List.mem_append.1 hx with hx | hx
              · exact List.mem_append_left _ hx
              · rcases List.mem_cons.1 hx with rfl | hx
                · exact absurd (hxj.symm.trans hei) hji
                · exact List.mem_append_right _ hx) (hpair.sublist hsub) (fun k hk j hj => by
          have set1 : ∀ x, listed.getD x false = true → (listed.setIfInBounds i true).getD x false = true := by
            intro x hx
            by_cases hxi : x = i
            · subst hxi
              have hlo : x < listed.size := by omega
              simp [Array.getD_eq_getD_getElem?, hlo]
            · simp only [Array.getD_eq_getD_getElem?, Array.getElem?_setIfInBounds, Ne.symm hxi, if_false] at hx ⊢
              exact hx
          by_cases hki : k = i
          · subst hki
            exact set1 _ (hbits j hj)
          · have : listed.getD k false = true := by
              simp only [Array.getD_eq_getD_getElem?, Array.getElem?_setIfInBounds, Ne.symm hki, if_false] at hk ⊢
              exact hk
            exact set1 _ (hdown k this j hj))
      refine ⟨e.1 :: L, ?_, ?_, ?_⟩
      · rw [linearise_go_acc]
        simp [g1, hei]
      · intro p hp
        rcases List.mem_cons.1 hp with rfl | hp
        · simp
        · have := g2 p hp
          obtain ⟨x, hx, rfl⟩ := List.mem_map.1 this
          exact List.mem_map.2 ⟨x, hsub.subset hx, rfl⟩
      · simp [evSeq, h2, g3]

end Go.Proofs.YtccinlhenkkpeaaDoor.E

namespace Go.Proofs.YtccinlhenkkpeaaDoor.E
open Go

def Ex.exit' : Ex → Exit
  | .normal => .normal
  | .exit id => .exit id
  | .ret => .ret

section
variable {P : Program} {C : Calls}

theorem zipIdx_fst_range (xs : List XOp) : ((xs.zipIdx 0).map fun (x, j) => (j, x)) = numbered xs := rfl

theorem region_ok {rd : Option Nat} (snd : Sound P C) {nt : Nat} {ops : Array Oper} {xs : List XOp} (hc : cOps P nt ops ops.toList = some xs) {id : Nat} {st st' : St} (he : evOps C xs st = some st') {a : Act} {w : World} {Pr : Nat → Nat → Prop} {φ : List Nat}
    (S : Sim w Pr φ st.h) (s : Slots w Pr φ st.h st.t a) (hn : nt ≤ a.tmps.size) {Q : Exit → Act → World → Prop}
    (hQ : ∀ w' Pr' φ' a', Le w Pr φ st.h w' Pr' φ' st'.h → Fr w Pr φ w' Pr' φ' → Sim w' Pr' φ' st'.h → Slots w' Pr' φ' st'.h st'.t a' → a'.tmps.size = a.tmps.size → a'.defers = a.defers → Q .normal a' w') :
    (Code.region id ops false).wpIn (FR rd) 0 P Q a w := by
  refine wpIn_region ?_
  have hl : ops.size = xs.length := by have := (cOps_get _ _ hc).1; simpa using this
  rw [hl, ← numbered_fst]
  rw [evOps_seq] at he
  exact ops_ok snd (numbered xs) (numbered_ok hc) st st' (by rw [numbered_snd]; exact he) a w Pr φ S s hn hQ

theorem regionD_ok {rd : Option Nat} (snd : Sound P C) {nt : Nat} {ops : Array Oper} {xs : List XOp} (hc : cOps P nt ops ops.toList = some xs) (hd : drawOK P ops xs = true) {id : Nat} {st st' : St} (he : evOpsD C (Region.before ops).toList 0 [] xs st = some st') {a : Act} {w : World} {Pr : Nat → Nat → Prop} {φ : List Nat}
    (S : Sim w Pr φ st.h) (s : Slots w Pr φ st.h st.t a) (hn : nt ≤ a.tmps.size) {Q : Exit → Act → World → Prop}
    (hQ : ∀ w' Pr' φ' a', Le w Pr φ st.h w' Pr' φ' st'.h → Fr w Pr φ w' Pr' φ' → Sim w' Pr' φ' st'.h → Slots w' Pr' φ' st'.h st'.t a' → a'.tmps.size = a.tmps.size → a'.defers = a.defers → Q .normal a' w') :
    (Code.region id ops true).wpIn (FR rd) 0 P Q a w := by
  refine wpIn_region_draw fun t => ?_
  simp only [drawOK, Bool.and_eq_true] at hd
  obtain ⟨⟨h1, h2⟩, h3⟩ := hd
  have hl : ops.size = xs.length := by have := (cOps_get _ _ hc).1; simpa using this
  have hsch : Region.schedule (P.follows .mixedOrders) ops t = Region.linearise .any ops t := by
    unfold Region.schedule
    rw [if_pos (by simpa using h1)]
  rw [hsch]
  obtain ⟨F, g1, _, g3⟩ := evOpsD_run xs 0 [] st st' he
  rw [zipIdx_fst_range] at g1
  have hfst := runF_fst _ _ _ _ g1
  have hidx : F.map (·.1.1) = List.range xs.length := by
    rw [← numbered_fst xs, ← hfst, List.map_map]; rfl
  have hedge : ∀ (i : Nat) (o : Oper), ops[i]? = some o → ∀ e ∈ o.after, Region.binds .any e = true → e.on < i := by
    intro i o ho e hm hb
    have := List.all_eq_true.1 h2 (o, i) (List.mem_zipIdx_iff_getElem?.2 (by simpa using ho))
    have := List.all_eq_true.1 this e (by simpa using hm)
    simp only [hb, Bool.not_true, Bool.false_or, decide_eq_true_eq] at this
    exact this
  have hbs : ∀ i, ((Region.before ops).toList).getD i 0 = (Region.before ops).getD i 0 := by
    intro i
    simp [Array.getD_eq_getD_getElem?, List.getD_eq_getElem?_getD]
  have hpair : F.Pairwise (fun e e' => ((Region.before ops).getD e'.1.1 0).testBit e.1.1 = true ∨ Free e e') := by
    have hsorted : (F.map (·.1.1)).Pairwise (· < ·) := by rw [hidx]; exact List.pairwise_lt_range
    rw [List.pairwise_map] at hsorted
    refine List.Pairwise.imp_of_mem ?_ (hsorted.and g3)
    intro e e' he1 he2 hh
    obtain ⟨hlt, hh⟩ := hh
    rw [hbs] at hh
    rcases hh with hh | hh
    · exact .inl hh
    · by_cases hb : ((Region.before ops).getD e'.1.1 0).testBit e.1.1 = true
      · exact .inl hb
      · refine .inr ⟨?_, hh⟩
        have m1 : xs[e.1.1]? = some e.1.2 := numbered_mem (by rw [← hfst]; exact List.mem_map.2 ⟨e, he1, rfl⟩)
        have m2 : xs[e'.1.1]? = some e'.1.2 := numbered_mem (by rw [← hfst]; exact List.mem_map.2 ⟨e', he2, rfl⟩)
        have := List.all_eq_true.1 h3 (e'.1.2, e'.1.1) (List.mem_zipIdx_iff_getElem?.2 (by simpa using m2))
        have := List.all_eq_true.1 this (e.1.2, e.1.1) (List.mem_zipIdx_iff_getElem?.2 (by simpa using m1))
        simp only [Bool.or_eq_true, decide_eq_true_eq] at this
        rcases this with (q | q) | q
        · omega
        · exact absurd q hb
        · exact q
  obtain ⟨L, l1, l2, l3⟩ := linear_run hedge ops.size t (Array.replicate ops.size false) F st (by rw [hfst]; exact g1) (by have := congrArg List.length hidx; simp at this; omega) (by simp) (by rw [hidx]; exact List.pairwise_lt_range)
    (fun i => by
      rw [hidx, List.mem_range, ← hl]
      constructor
      · intro hi; exact ⟨hi, by simp [Array.getD_eq_getD_getElem?, hi]⟩
      · exact fun hi => hi.1) hpair (fun k hk => by
        exfalso
        rw [Array.getD_eq_getD_getElem?, Array.getElem?_replicate] at hk
        split at hk <;> simp at hk)
  obtain ⟨ld, fd, Sd⟩ := drew_all S
  have := ops_ok (rd := rd) snd (Q := Q) (ops := ops) (nt := nt) L (fun p hp => numbered_ok hc p (by rw [← hfst]; exact l2 p hp)) st st' l3 a w.drew Pr φ Sd (s.mono ld) hn (fun w' Pr' φ' a' l f S' s' hs hdf => hQ w' Pr' φ' a' (ld.trans l) (fd.trans f) S' s' hs hdf)
  rw [l1] at this
  exact this

theorem Slots.keep {w : World} {Pr : Nat → Nat → Prop} {φ : List Nat} {h : List Blk} {st : St} {a : Act} (K : Option (List Nat)) (s : Slots w Pr φ h st.t a) : Slots w Pr φ h (st.keep K).t a := by
  cases K with
  | none => exact s
  | some l =>
    intro i
    simp only [St.keep]
    induction l with
    | nil => simp only [List.map_nil, tab, Rep]
    | cons j l ih =>
      simp only [List.map_cons, tab]
      split
      · rename_i hi; subst hi; exact s i
      · exact ih

theorem keep_h (K : Option (List Nat)) (st : St) : (st.keep K).h = st.h := by cases K <;> rfl

theorem wpIn_scope_straight {a : Act} {w : World} {F : Fence} {n : Nat} {c : Code} {Q : Exit → Act → World → Prop} (hc : c.wpIn F n P (Exit.noGoto Q) a w) : (Code.scope c).wpIn F n P Q a w := by
  intro b k cs hro hb hr
  obtain ⟨e, a₁, w₁, hq, harr⟩ := hc b (.inScope c :: k) cs hro hb hr
  have s1 : step P (lone (b.atR a (.code (.scope c) :: k)) cs w) = .next (lone (b.atR a (.code c :: .inScope c :: k)) cs w) := step_lone_go (by simp [stepG, stepG.exec, Frame.atR])
  have i1 := fenced_calm (P := P) (fr := b.atR a (.code (.scope c) :: k)) (cs := cs) (w := w) hb hr rfl
  have s2 : step P (lone (b.atR a₁ (.inScope c :: k)) cs w₁) = .next (lone (b.atR a₁ k) cs w₁) := step_lone_go (by simp [stepG, stepG.exec, Frame.atR])
  have i2 := fenced_calm (P := P) (fr := b.atR a₁ (.inScope c :: k)) (cs := cs) (w := w₁) hb hr rfl
  cases e with
  | normal => exact ⟨.normal, a₁, w₁, hq, .head i1 s1 (StepsIn.trans harr (.one i2 s2))⟩
  | goto l => exact hq.elim
  | exit id => exact ⟨_, a₁, w₁, hq, .of_steps (.one i1 s1) ⟨fun k' hk => harr.1 k' (by simp [exitTo, hk]), fun hr hk => harr.2 hr (by simp [exitTo, hk])⟩⟩
  | ret => exact ⟨_, a₁, w₁, hq, .of_steps (.one i1 s1) harr⟩
  | panic ch => exact ⟨_, a₁, w₁, hq, .of_steps (.one i1 s1) harr⟩
  | outgrown => exact ⟨_, a₁, w₁, hq, .of_steps (.one i1 s1) harr⟩

/-! ### Objects that are no cells -/

theorem keep_obj {w' : World} {Pr' : Nat → Nat → Prop} {φ' : List Nat} {w : World} {Pr : Nat → Nat → Prop} {φ : List Nat} {h : List Blk} (f : Fr w Pr φ w' Pr' φ') (S : Sim w Pr φ h) {k : Nat} {o : Obj} (hk : w.heap[k]? = some o) (ho : o.isCells = false) : w'.heap[k]? = some o := by
  rw [f.keep k (Array.getElem?_eq_some_iff.1 hk).1 ?_]; exact hk
  intro hm
  obtain ⟨i, hi, e⟩ := List.getElem_of_mem hm
  have hl : i < h.length := by rw [← S.len]; exact hi
  obtain ⟨vs, t, g, _⟩ := S.blk i h[i] k (List.getElem?_eq_getElem hl) (by rw [List.getElem?_eq_getElem hi, e])
  rw [g] at hk
  simp at hk
  subst hk
  simp [Obj.isCells] at ho

theorem cell_put {w : World} {l : Nat} {o o' : Obj} (hl : w.heap[l]? = some o) (ho : o.isCells = false) (ho' : o'.isCells = false) (x : Addr) : (w.putObj l o').cell? x = w.cell? x := by
  by_cases e : x.block = l
  · unfold World.cell?
    rw [e, hl, World.putObj_heap_same (Array.getElem?_eq_some_iff.1 hl).1]
    cases o <;> cases o' <;> first | rfl | simp [Obj.isCells] at ho ho'
  · unfold World.cell?
    rw [World.putObj_heap_other e]

theorem cells_put {w : World} {l c : Nat} {o o' : Obj} {vs : Array Value} {t : TypeId} {fz : Nat × Nat} (hl : w.heap[l]? = some o) (ho : o.isCells = false) (hc : w.heap[c]? = some (.cells vs t fz)) : (w.putObj l o').heap[c]? = some (.cells vs t fz) := by
  rw [World.putObj_heap_other]; exact hc
  intro e
  subst e
  rw [hc] at hl
  simp at hl
  subst hl
  simp [Obj.isCells] at ho

def mapO : Obj → Bool
  | .map .. => true
  | _ => false

theorem le_put {w : World} {Pr : Nat → Nat → Prop} {φ : List Nat} {h : List Blk} {l : Nat} {o o' : Obj} (hl : w.heap[l]? = some o) (ho : o.isCells = false) (ho' : o'.isCells = false) (hm : mapO o = false := by rfl) : Le w Pr φ h (w.putObj l o') Pr φ h :=
  ⟨fun b i p => ⟨p, cell_put hl ho ho' _⟩, fun i k hk => ⟨k, hk, rfl, Nat.le_refl _, fun _ c hc => ⟨hc, fun n r => by
    obtain ⟨vs, e, g, hn⟩ := r
    exact ⟨vs, e, cells_put hl ho g, hn⟩⟩⟩, fun b es c _ hb => by
    rw [World.putObj_heap_other]; exact hb
    rintro rfl
    rw [hl] at hb
    cases hb
    cases hm⟩

theorem sim_put {w : World} {Pr : Nat → Nat → Prop} {φ : List Nat} {h : List Blk} {l : Nat} {o o' : Obj} (S : Sim w Pr φ h) (hl : w.heap[l]? = some o) (ho : o.isCells = false) (ho' : o'.isCells = false) (hm : mapO o = false := by rfl) : Sim (w.putObj l o') Pr φ h := by
  have hsz : (w.putObj l o').heap.size = w.heap.size := by simp [World.putObj]
  refine ⟨S.len, fun b i p => by rw [hsz]; exact S.prlt b i p, fun i k c hk hc => ?_, S.inj, S.gl.mono (le_put (φ := φ) (h := h) hl ho ho' hm)⟩
  obtain ⟨vs, e, g1, g2, g3, g4⟩ := S.blk i k c hk hc
  refine ⟨vs, e, cells_put hl ho g1, g2, ?_, g4⟩
  have L := le_put (Pr := Pr) (φ := φ) (h := h) hl ho ho' hm
  cases hb : k.box
  · rw [hb] at g3
    exact RepL.mono L.closed _ _ g3
  · rw [hb] at g3
    exact RepL.mono L _ _ g3

theorem fr_put {w : World} {Pr : Nat → Nat → Prop} {φ : List Nat} {W : World} {Pr' : Nat → Nat → Prop} {φ' : List Nat} {l : Nat} {o' : Obj} (f : Fr w Pr φ W Pr' φ') (hl : w.heap.size ≤ l) : Fr w Pr φ (W.putObj l o') Pr' φ' := by
  have hsz : (W.putObj l o').heap.size = W.heap.size := by simp [World.putObj]
  exact ⟨f.os, f.tape, f.output, by rw [hsz]; exact f.size, fun b hb hn => by rw [World.putObj_heap_other (by omega)]; exact f.keep b hb hn, f.own, f.prn⟩

/-- What a function's activation owes at its end: marks alone (of ranges over functions that it came through). -/
def Marks (n0 : Nat) (w : World) (ds : List Deferred) : Prop :=
  n0 ≤ w.heap.size ∧ (∀ d ∈ ds, ∃ r, d = ⟨.collected r, #[]⟩ ∧ n0 ≤ r ∧ w.heap[r]? = some (.deferred (some []))) ∧ ds.Pairwise (· ≠ ·)

theorem Marks.nil (w : World) : Marks 0 w [] := ⟨Nat.zero_le _, (fun d h => absurd h (by simp)), List.Pairwise.nil⟩

theorem Marks.step {n0 : Nat} {w : World} {Pr : Nat → Nat → Prop} {φ : List Nat} {h : List Blk} {w' : World} {Pr' : Nat → Nat → Prop} {φ' : List Nat} {ds : List Deferred} (m : Marks n0 w ds) (f : Fr w Pr φ w' Pr' φ') (S : Sim w Pr φ h) : Marks n0 w' ds :=
  ⟨Nat.le_trans m.1 f.size, fun d hd => let ⟨r, e, hr, ho⟩ := m.2.1 d hd; ⟨r, e, hr, keep_obj f S ho rfl⟩, m.2.2⟩

theorem Marks.put {n0 : Nat} {w : World} {ds : List Deferred} {l : Nat} {o : Loop} {o' : Obj} (m : Marks n0 w ds) (hl : w.heap[l]? = some (.loop o)) : Marks n0 (w.putObj l o') ds :=
  ⟨by simpa [World.putObj] using m.1, fun d hd => let ⟨r, e, hr, ho⟩ := m.2.1 d hd; ⟨r, e, hr, by
    rw [World.putObj_heap_other]; exact ho
    intro q
    subst q
    rw [hl] at ho
    cases ho⟩, m.2.2⟩

theorem slots_putL {w : World} {Pr : Nat → Nat → Prop} {φ : List Nat} {h : List Blk} {nt : Nat} : (ps : List Nat) → (t : Nat → D) → (xs : List D) → (us : List Value) → (tm : Array Value) → (ds : List Deferred) → Slots w Pr φ h t ⟨tm, ds⟩ → RepL w Pr φ h xs us → (∀ p ∈ ps, p < nt) → nt ≤ tm.size →
    Slots w Pr φ h (putL t ps xs) ⟨(ps.zip us).foldl (fun t (p, v) => t.setIfInBounds p v) tm, ds⟩ ∧ ((ps.zip us).foldl (fun t (p, v) => t.setIfInBounds p v) tm).size = tm.size
  | [], t, xs, us, tm, ds, s, r, hp, hn => by
    simp only [putL, List.zip_nil_left, List.foldl_nil]
    exact ⟨s, by trivial⟩
  | p :: ps, t, [], us, tm, ds, s, r, hp, hn => by
    simp [RepL] at r
    subst r
    simp only [putL, List.zip_nil_right, List.foldl_nil]
    exact ⟨s, by trivial⟩
  | p :: ps, t, x :: xs, us, tm, ds, s, r, hp, hn => by
    simp only [RepL] at r
    obtain ⟨u, us', rfl, r1, r2⟩ := r
    simp only [putL, List.zip_cons_cons, List.foldl_cons]
    have := s.put (nt := nt) (dst := some p) (by simp [below, hp p (by simp)]) hn r1
    obtain ⟨g1, g2⟩ := slots_putL ps _ xs us' (tm.setIfInBounds p u) ds this r2 (fun q hq => hp q (by simp [hq])) (by simpa using hn)
    exact ⟨g1, by rw [g2]; simp⟩

theorem range_ok (snd : Sound P C) {lf nt n0 : Nat} {g : Operand} {f : XO} {ps : Array Tmp} {as b : Code} {x y : XC} (hcg : cO g = some f) (hps : ∀ p ∈ ps.toList, p < nt)
    (ihA : ∀ (l : Nat) (st : St) (e : Ex) (st' : St), evC C lf x st = some (e, st') → ∀ (a : Act) (w : World) (Pr : Nat → Nat → Prop) (φ : List Nat), Sim w Pr φ st.h → Slots w Pr φ st.h st.t a → nt ≤ a.tmps.size → Marks 0 w a.defers → ∀ (Q : Exit → Act → World → Prop),
      (∀ w' Pr' φ' a', Le w Pr φ st.h w' Pr' φ' st'.h → Fr w Pr φ w' Pr' φ' → Sim w' Pr' φ' st'.h → Slots w' Pr' φ' st'.h st'.t a' → a'.tmps.size = a.tmps.size → Marks 0 w' a'.defers → Q e.exit' a' w') → as.wpIn (FR (some l)) 0 P Q a w)
    (ihB : ∀ (l : Nat) (st : St) (e : Ex) (st' : St), evC C lf y st = some (e, st') → ∀ (a : Act) (w : World) (Pr : Nat → Nat → Prop) (φ : List Nat), Sim w Pr φ st.h → Slots w Pr φ st.h st.t a → nt ≤ a.tmps.size → Marks 0 w a.defers → ∀ (Q : Exit → Act → World → Prop),
      (∀ w' Pr' φ' a', Le w Pr φ st.h w' Pr' φ' st'.h → Fr w Pr φ w' Pr' φ' → Sim w' Pr' φ' st'.h → Slots w' Pr' φ' st'.h st'.t a' → a'.tmps.size = a.tmps.size → Marks 0 w' a'.defers → Q e.exit' a' w') → b.wpIn (FR (some l)) 0 P Q a w)
    {st : St} {e : Ex} {h' : List Blk} {gf : FuncId} {caps : List D} (hv : f.ev st.t = .fn (.func gf) [] caps)
    (he : rangeN (fun z h => bif z.length == ps.toList.length then (match evC C lf x ⟨putL st.t ps.toList z, h⟩ with
        | some (.normal, s) => evC C lf y s
        | _ => none) else none) (C.nx gf caps) lf .nilp st.h = some (e, h'))
    {a : Act} {w : World} {Pr : Nat → Nat → Prop} {φ : List Nat} (S : Sim w Pr φ st.h) (s : Slots w Pr φ st.h st.t a) (hn : nt ≤ a.tmps.size) (hd : Marks n0 w a.defers) {Q : Exit → Act → World → Prop}
    (hQ : ∀ w' Pr' φ' a', Le w Pr φ st.h w' Pr' φ' h' → Fr w Pr φ w' Pr' φ' → Sim w' Pr' φ' h' → Slots w' Pr' φ' h' st.t a' → a'.tmps.size = a.tmps.size → Marks n0 w' a'.defers → Q e.exit' a' w') :
    (Code.rangeFunc g ps as b).wpIn (FR none) 0 P Q a w := by
  have rg := cO_rep S.gl s hcg
  rw [hv] at rg
  simp only [Rep, RepL] at rg
  obtain ⟨va, vc, hg, hva, rc⟩ := rg
  have hva : va = #[] := by simpa using hva
  subst hva
  obtain ⟨F, hF⟩ : ∃ F, F = (fun (z : List D) (h : List Blk) => bif z.length == ps.toList.length then (match evC C lf x ⟨putL st.t ps.toList z, h⟩ with
        | some (.normal, s) => evC C lf y s
        | _ => none) else none) := ⟨_, rfl⟩
  rw [← hF] at he
  have hlf : ∃ m, lf = m + 1 := by
    cases lf with
    | zero => simp [rangeN] at he
    | succ m => exact ⟨m, rfl⟩
  have hnx : ∃ r, C.nx gf caps .nilp st.h = some r := by
    obtain ⟨m, hm⟩ := hlf
    rw [hm] at he
    simp only [rangeN] at he
    cases hr : C.nx gf caps .nilp st.h with
    | none => rw [hr] at he; simp at he
    | some r => exact ⟨r, rfl⟩
  obtain ⟨r0, hr0⟩ := hnx
  obtain ⟨hcl, hseq⟩ := snd.nx _ _ _ _ hr0
  refine wpIn_rangeFunc ?_
  intro fn hfn
  obtain ⟨rec, hrec⟩ : ∃ rec : LoopState → Option Code → Loop, rec = fun st pe => { state := st, pending := pe, fn, tmps := a.tmps, params := ps, assign := as, body := b, defers := w.heap.size } := ⟨_, rfl⟩
  obtain ⟨W1, hW1⟩ : ∃ W1, (w.alloc (.deferred (some []))).alloc (.loop (rec .ready none)) = W1 := ⟨_, rfl⟩
  have hsz : W1.heap.size = w.heap.size + 2 := by rw [← hW1]; simp
  have hb : ∀ c, c < w.heap.size → W1.heap[c]? = w.heap[c]? := fun c hc => by
    rw [← hW1]
    exact (below_alloc _ _ c (by simp; omega)).trans (below_alloc _ _ c hc)
  have hL1 : W1.heap[w.heap.size + 1]? = some (.loop (rec .ready none)) := by
    rw [← hW1]; have := World.alloc_heap_new (w.alloc (.deferred (some []))) (.loop (rec .ready none)); rwa [World.size_alloc] at this
  have hK1 : W1.heap[w.heap.size]? = some (.deferred (some [])) := by
    rw [← hW1]; exact (below_alloc _ _ _ (by simp)).trans (World.alloc_heap_new w _)
  have l1 : Le w Pr φ st.h W1 Pr φ st.h := Le.of_below hb (fun _ _ p => p) S.prlt
  have f1 : Fr w Pr φ W1 Pr φ := Fr.of_below hb (fun _ _ p => .inl p) (by omega) (by rw [← hW1]; rfl) (by rw [← hW1]; rfl) (by rw [← hW1]; rfl)
  have S1 : Sim W1 Pr φ st.h := S.of_below hb (fun _ _ p => p) (fun _ _ p => .inl p) (by omega)
  have hd1 : Marks n0 W1 a.defers := hd.step f1 S
  refine ⟨w.heap.size + 1, [{ target := .collected w.heap.size, args := #[] }], W1, { target := .fn (.func gf) vc, args := #[.func (.yield (w.heap.size + 1)) #[] #[]] }, W1, gf,
    #[.func (.yield (w.heap.size + 1)) #[] #[]] ++ vc, W1, ?_, ?_, fun _ _ => trivial, ?_, fun h => by simp [FR, Fence.wide] at h, ?_⟩
  · rw [← hW1, hrec]; exact run_enterLoop_outer _ _ _ _ _
  · simp only [resolve, hg]
    simp [go_sem]
  · simp [invoke, callFunc_run hcl]
  refine (hseq W1 Pr φ vc S1 (RepL.mono l1 _ _ rc) (w.heap.size + 1)
    (fun n z W Pr' φ' h => Le W1 Pr φ st.h W Pr' φ' h ∧ Fr w Pr φ W Pr' φ' ∧ Sim W Pr' φ' h ∧ W.heap[w.heap.size + 1]? = some (.loop (rec .ready none)) ∧ W.heap[w.heap.size]? = some (.deferred (some [])) ∧ Marks n0 W a.defers ∧ rangeN F (C.nx gf caps) n z h = some (e, h'))
    (fun W Pr' φ' h => Le W1 Pr φ st.h W Pr' φ' h ∧ Fr w Pr φ W Pr' φ' ∧ Sim W Pr' φ' h ∧ (∃ c, W.heap[w.heap.size + 1]? = some (.loop (rec .done (some c))) ∧ ((e = .ret ∧ c = .ret) ∨ ∃ id, e = .exit id ∧ c = .exit id)) ∧ W.heap[w.heap.size]? = some (.deferred (some [])) ∧ Marks n0 W a.defers ∧ h = h')
    ?_ ?_ ?_ (fun _ _ _ _ h => h.2.2.1) lf ⟨Le.refl _ _ _ _, f1, S1, hL1, hK1, hd1, he⟩).mono ?_
  · rintro n z W Pr2 φ2 h W' Pr' φ' ⟨q1, q2, q3, q4, q5, q6, q7⟩ l' f' S'
    exact ⟨q1.trans l', q2.trans f', S', keep_obj f' q3 q4 rfl, keep_obj f' q3 q5 rfl, q6.step f' q3, q7⟩
  · rintro W Pr2 φ2 h W' Pr' φ' ⟨q1, q2, q3, ⟨c, q4, q8⟩, q5, q6, q7⟩ l' f' S'
    exact ⟨q1.trans l', q2.trans f', S', ⟨c, keep_obj f' q3 q4 rfl, q8⟩, keep_obj f' q3 q5 rfl, q6.step f' q3, q7⟩
  · rintro n z W Pr2 φ2 h ⟨q1, q2, q3, q4, q5, q6, q7⟩
    refine ⟨q3, RepL.mono (l1.trans q1) _ _ rc, ?_⟩
    cases n with
    | zero => simp [rangeN] at q7
    | succ n =>
      simp only [rangeN] at q7
      cases hr : C.nx gf caps z h with
      | none => rw [hr] at q7; simp at q7
      | some r =>
        refine ⟨r, rfl, ?_⟩
        rintro z1 s' rfl
        refine ⟨n, rfl, fun us rus => ?_⟩
        rw [hr] at q7
        simp only [] at q7
        have hlen := rus.length
        -- what the round does
        have hround : ∃ s1 e1 s2, z1.length = ps.size ∧ evC C lf x ⟨putL st.t ps.toList z1, h⟩ = some (.normal, s1) ∧ evC C lf y s1 = some (e1, s2) ∧
            ((e1 = .normal ∧ rangeN F (C.nx gf caps) n s' s2.h = some (e, h')) ∨ (e1 ≠ .normal ∧ e = e1 ∧ h' = s2.h)) := by
          cases hFz : F z1 h with
          | none => rw [hFz] at q7; simp at q7
          | some p =>
            obtain ⟨e1, s2⟩ := p
            rw [hFz] at q7
            rw [hF] at hFz
            simp only [] at hFz
            cases hz : (z1.length == ps.toList.length)
            · rw [hz] at hFz; simp at hFz
            · rw [hz, cond_true] at hFz
              split at hFz
              · rename_i s1 h1
                refine ⟨s1, e1, s2, by simpa using hz, h1, hFz, ?_⟩
                cases e1 with
                | normal => exact .inl ⟨rfl, q7⟩
                | ret => simp at q7; exact .inr ⟨by simp, q7.1.symm, q7.2.symm⟩
                | exit id => simp at q7; exact .inr ⟨by simp, q7.1.symm, q7.2.symm⟩
              · simp at hFz
        obtain ⟨s1, e1, s2, hz, hx1, hy1, hcase⟩ := hround
        have hy := run_yield (P := P) (args := us.toArray) q4 (by rw [hrec]; simp; omega)
        rw [hrec] at hy
        refine ⟨fn, _, as, b, hy, roundIn_of_wpIn (F := FR none) trivial ?_⟩
        have sl : Slots W Pr2 φ2 h st.t ⟨a.tmps, []⟩ := fun i => Rep.mono (l1.trans q1) _ _ (s i)
        obtain ⟨sp, spz⟩ := slots_putL ps.toList st.t z1 us a.tmps [] sl rus hps hn
        have hfold : (ps.zip us.toArray).foldl (fun tmps (t, a) => tmps.setIfInBounds t a) a.tmps = (ps.toList.zip us).foldl (fun t (p, v) => t.setIfInBounds p v) a.tmps := by
          rw [← Array.foldl_toList, Array.toList_zip]
        simp only [hfold]
        refine ihA (w.heap.size + 1) _ _ _ hx1 _ W Pr2 φ2 q3 sp (by rw [spz]; exact hn) (Marks.nil W) _ ?_
        intro w3 Pr3 φ3 a3 l3 f3 S3 s3 hs3 hd3
        have k3 := keep_obj f3 q3 q4 rfl
        have d3 := keep_obj f3 q3 q5 rfl
        show ∃ w₂, _ ∧ _
        refine ⟨_, run_beginRound k3 (by rw [hrec]), ?_⟩
        have lt3 : w.heap.size + 1 < w3.heap.size := (Array.getElem?_eq_some_iff.1 k3).1
        have k4 := World.putObj_heap_same (o := .loop { rec .ready none with state := .busy }) lt3
        have d4 : (w3.putObj (w.heap.size + 1) (.loop { rec .ready none with state := .busy })).heap[w.heap.size]? = _ := (World.putObj_heap_other (by omega)).trans d3
        have l4 : Le w3 Pr3 φ3 s1.h (w3.putObj (w.heap.size + 1) (.loop { rec .ready none with state := .busy })) Pr3 φ3 s1.h := le_put k3 rfl rfl
        have S4 : Sim (w3.putObj (w.heap.size + 1) (.loop { rec .ready none with state := .busy })) Pr3 φ3 s1.h := sim_put S3 k3 rfl rfl
        have f4 : Fr w Pr φ (w3.putObj (w.heap.size + 1) (.loop { rec .ready none with state := .busy })) Pr3 φ3 := fr_put (q2.trans f3) (by omega)
        have m4 : Marks n0 (w3.putObj (w.heap.size + 1) (.loop { rec .ready none with state := .busy })) a.defers := (q6.step f3 q3).put k3
        refine ihB (w.heap.size + 1) _ _ _ hy1 a3 _ Pr3 φ3 S4 (s3.mono l4) (by rw [hs3]; show nt ≤ Array.size _; rw [spz]; exact hn) (hd3.put k3) _ ?_
        intro w5 Pr5 φ5 a5 l5 f5 S5 s5 hs5 hd5
        have k5 := keep_obj f5 S4 k4 rfl
        have d5 := keep_obj f5 S4 d4 rfl
        have m5 := m4.step f5 S4
        have lt5 : w.heap.size + 1 < w5.heap.size := (Array.getElem?_eq_some_iff.1 k5).1
        have fin : ∀ (jump : Option Code), ∃ w6, (Instr.endRound (w.heap.size + 1) jump).run P w5 = .ok (.bool jump.isNone) w6 ∧ Le W Pr2 φ2 h w6 Pr5 φ5 s2.h ∧
            Le W1 Pr φ st.h w6 Pr5 φ5 s2.h ∧ Fr w Pr φ w6 Pr5 φ5 ∧ Sim w6 Pr5 φ5 s2.h ∧ w6.heap[w.heap.size + 1]? = some (.loop (rec (if jump.isNone then .ready else .done) jump)) ∧ w6.heap[w.heap.size]? = some (.deferred (some [])) ∧ Marks n0 w6 a.defers := by
          intro jump
          have hr := run_endRound (P := P) jump k5
          refine ⟨_, hr, ((l3.trans l4).trans l5).trans (le_put k5 rfl rfl), (((q1.trans l3).trans l4).trans l5).trans (le_put k5 rfl rfl), fr_put (f4.trans f5) (by omega), sim_put S5 k5 rfl rfl, ?_, (World.putObj_heap_other (by omega)).trans d5, m5.put k5⟩
          rw [World.putObj_heap_same lt5, hrec]
        cases e1 with
        | normal =>
          rcases hcase with ⟨_, hc⟩ | ⟨hc, _⟩
          · obtain ⟨w6, hr, g0, g1, g2, g3, g4, g5, g6⟩ := fin none
            exact ⟨_, w6, hr, Pr5, φ5, s2.h, .inl ⟨rfl, ⟨g1, g2, g3, g4, g5, g6, hc⟩, g0⟩⟩
          · exact absurd rfl hc
        | ret =>
          rcases hcase with ⟨hc, _⟩ | ⟨_, hc, hh⟩
          · cases hc
          · obtain ⟨w6, hr, g0, g1, g2, g3, g4, g5, g6⟩ := fin (some .ret)
            exact ⟨_, w6, hr, Pr5, φ5, s2.h, .inr ⟨rfl, g1, g2, g3, ⟨_, g4, .inl ⟨hc, rfl⟩⟩, g5, g6, hh.symm⟩⟩
        | exit id =>
          rcases hcase with ⟨hc, _⟩ | ⟨_, hc, hh⟩
          · cases hc
          · obtain ⟨w6, hr, g0, g1, g2, g3, g4, g5, g6⟩ := fin (some (.exit id))
            exact ⟨_, w6, hr, Pr5, φ5, s2.h, .inr ⟨rfl, g1, g2, g3, ⟨_, g4, .inr ⟨id, hc, rfl⟩⟩, g5, g6, hh.symm⟩⟩
  · rintro e2 W2 ⟨⟨v, rfl⟩, Pr2, φ2, h2, hcase⟩
    have last : ∀ (o : Loop), W2.heap[w.heap.size + 1]? = some (.loop o) → W2.heap[w.heap.size]? = some (.deferred (some [])) → Le W1 Pr φ st.h W2 Pr2 φ2 h2 → Fr w Pr φ W2 Pr2 φ2 → Sim W2 Pr2 φ2 h2 → Marks n0 W2 a.defers → h2 = h' →
        Q e.exit' { a with defers := [{ target := .collected w.heap.size, args := #[] }] ++ a.defers } (W2.putObj (w.heap.size + 1) (.loop { o with state := .exhausted })) := by
      intro o k2 d2 g1 g2 g3 g4 g5
      subst g5
      have L := (l1.trans g1).trans (le_put (o' := .loop { o with state := .exhausted }) k2 rfl rfl)
      refine hQ _ Pr2 φ2 _ L (fr_put g2 (by omega)) (sim_put g3 k2 rfl rfl) (fun i => Rep.mono L _ _ (s i)) rfl ?_
      have g6 := g4.put (o' := .loop { o with state := .exhausted }) k2
      refine ⟨g6.1, fun d hd' => ?_, ?_⟩
      · simp only [List.cons_append, List.nil_append, List.mem_cons] at hd'
        rcases hd' with rfl | hd'
        · exact ⟨_, rfl, hd.1, (World.putObj_heap_other (by omega)).trans d2⟩
        · exact g6.2.1 d hd'
      · refine List.Pairwise.cons (fun d hd' he' => ?_) g4.2.2
        obtain ⟨r2, e2, _, ho2⟩ := hd.2.1 d hd'
        have := (Array.getElem?_eq_some_iff.1 ho2).1
        rw [← he'] at e2
        simp at e2
        omega
    rcases hcase with ⟨g1, g2, g3, ⟨c, k2, hj⟩, d2, g4, g5⟩ | ⟨n, z, ⟨g1, g2, g3, k2, d2, g4, g5⟩, hz⟩
    · have hend := run_endLoop (P := P) k2 (by rw [hrec]; simp)
      have hp : (rec .done (some c)).pending = some c := by rw [hrec]
      refine ⟨some c, _, hend.trans (by rw [hp]), ?_⟩
      have := last _ k2 d2 g1 g2 g3 g4 g5
      rw [hp] at this
      rcases hj with ⟨rfl, rfl⟩ | ⟨id, rfl, rfl⟩
      · exact wpIn_ret this
      · exact wpIn_exit this
    · have hend := run_endLoop (P := P) k2 (by rw [hrec]; simp)
      have hp : (rec .ready none).pending = none := by rw [hrec]
      refine ⟨none, _, hend.trans (by rw [hp]), ?_⟩
      cases n with
      | zero => simp [rangeN] at g5
      | succ n =>
        simp only [rangeN, hz, Option.some.injEq, Prod.mk.injEq] at g5
        obtain ⟨rfl, g5⟩ := g5
        have := last _ k2 d2 g1 g2 g3 g4 g5
        rw [hp] at this
        exact this

theorem code_ok (snd : Sound P C) {lf nt : Nat} {kp : Nat → Option (List Nat)} : (c : Code) → (x : XC) → cCode P nt kp c = some x → ∀ (rd : Option Nat), (rd = none ∨ x.flat = true) → ∀ (n0 : Nat) (st : St) (e : Ex) (st' : St), evC C lf x st = some (e, st') → ∀ (a : Act) (w : World) (Pr : Nat → Nat → Prop) (φ : List Nat),
    Sim w Pr φ st.h → Slots w Pr φ st.h st.t a → nt ≤ a.tmps.size → Marks n0 w a.defers → ∀ (Q : Exit → Act → World → Prop),
    (∀ w' Pr' φ' a', Le w Pr φ st.h w' Pr' φ' st'.h → Fr w Pr φ w' Pr' φ' → Sim w' Pr' φ' st'.h → Slots w' Pr' φ' st'.h st'.t a' → a'.tmps.size = a.tmps.size → Marks n0 w' a'.defers → Q e.exit' a' w') → c.wpIn (FR rd) 0 P Q a w := by
  intro c
  induction c with
  | skip =>
    intro x hx rd hf n0 st e st' he a w Pr φ S s hn hd Q hQ
    simp [cCode] at hx; subst hx
    simp [evC] at he; obtain ⟨rfl, rfl⟩ := he
    exact wpIn_skip (hQ _ _ _ _ (Le.refl _ _ _ _) (Fr.refl _ _ _) S s rfl hd)
  | label l =>
    intro x hx rd hf n0 st e st' he a w Pr φ S s hn hd Q hQ
    simp [cCode] at hx; subst hx
    simp [evC] at he; obtain ⟨rfl, rfl⟩ := he
    exact wpIn_label (hQ _ _ _ _ (Le.refl _ _ _ _) (Fr.refl _ _ _) S s rfl hd)
  | exit id =>
    intro x hx rd hf n0 st e st' he a w Pr φ S s hn hd Q hQ
    simp [cCode] at hx; subst hx
    simp [evC] at he; obtain ⟨rfl, rfl⟩ := he
    exact wpIn_exit (hQ _ _ _ _ (Le.refl _ _ _ _) (Fr.refl _ _ _) S s rfl hd)
  | ret =>
    intro x hx rd hf n0 st e st' he a w Pr φ S s hn hd Q hQ
    simp [cCode] at hx; subst hx
    simp [evC] at he; obtain ⟨rfl, rfl⟩ := he
    exact wpIn_ret (hQ _ _ _ _ (Le.refl _ _ _ _) (Fr.refl _ _ _) S s rfl hd)
  | region id ops draw =>
    intro x hx rd hf n0 st e st' he a w Pr φ S s hn hd Q hQ
    simp only [cCode] at hx
    split at hx <;> try (simp at hx; done)
    rename_i xs hxs
    cases draw
    · simp only [cond_false, Option.some.injEq] at hx
      subst hx
      simp only [evC] at he
      split at he <;> simp at he
      rename_i st1 h1
      obtain ⟨rfl, rfl⟩ := he
      exact region_ok snd hxs h1 S s hn fun w' Pr' φ' a' l f S' s' hs hdf => hQ w' Pr' φ' a' (by rw [keep_h]; exact l) f (by rw [keep_h]; exact S') (by rw [keep_h]; exact Slots.keep _ s') hs (by rw [hdf]; exact hd.step f S)
    · simp only [cond_true] at hx
      cases hdr : drawOK P ops xs
      · simp [hdr] at hx
      · simp only [hdr, cond_true, Option.some.injEq] at hx
        subst hx
        simp only [evC] at he
        split at he <;> simp at he
        rename_i st1 h1
        obtain ⟨rfl, rfl⟩ := he
        exact regionD_ok snd hxs hdr h1 S s hn fun w' Pr' φ' a' l f S' s' hs hdf => hQ w' Pr' φ' a' (by rw [keep_h]; exact l) f (by rw [keep_h]; exact S') (by rw [keep_h]; exact Slots.keep _ s') hs (by rw [hdf]; exact hd.step f S)
  | seq c1 c2 ih1 ih2 =>
    intro x hx rd hf n0 st e st' he a w Pr φ S s hn hd Q hQ
    simp only [cCode] at hx
    split at hx
    · simp at hx
    rename_i x2 h2
    split at hx
    · rename_i xg hg
      simp at hx; subst hx
      unfold cGuard at hg
      split at hg <;> try (simp at hg; done)
      rename_i id1 ops1 c id2 ops2
      split at hg <;> try (simp at hg; done)
      rename_i d1 y1 d2 b z c' k hx1 hc hx3
      simp at hg; subst hg
      simp only [evC] at he
      split at he <;> try (simp at he; done)
      rename_i st1 h1
      refine wpIn_seq (wpIn_seq (region_ok snd hx1 h1 S s hn ?_))
      intro w1 Pr1 φ1 a1 l1 f1 S1 s1 hs1 hd1
      simp only [Exit.then]
      have rc := cO_rep S1.gl s1 hc
      have fin : ∀ (st2 : St), evC C lf x2 st1 = some (e, st2) → (∀ w' Pr' φ' a', Le w Pr φ st.h w' Pr' φ' st2.h → Fr w Pr φ w' Pr' φ' → Sim w' Pr' φ' st2.h → Slots w' Pr' φ' st2.h st2.t a' → a'.tmps.size = a.tmps.size → Marks n0 w' a'.defers → Q e.exit' a' w') → a1.eval c = .bool false →
          (Code.cond c (((Code.region id2 ops2 false)).seq .ret) .skip).wpIn (FR rd) 0 P (Exit.then (c2.wpIn (FR rd) 0 P Q) Q) a1 w1 := by
        intro st2 he2 hQ2 rf
        refine wpIn_cond_false rf (wpIn_skip ?_)
        simp only [Exit.then]
        exact ih2 x2 h2 rd (hf.imp (fun q => q) fun q => by simp [XC.flat] at q; first | exact q.2 | exact q) n0 st1 e st2 he2 a1 w1 Pr1 φ1 S1 s1 (by rw [hs1]; exact hn) (by rw [hd1]; exact hd.step f1 S) Q fun w' Pr' φ' a' l f S' s' hs hdf => hQ2 w' Pr' φ' a' (l1.trans l) (f1.trans f) S' s' (hs.trans hs1) hdf
      have finA : ∀ (sA : St), evOps C [⟨some k, none, .mov (.c (.arr 0 true []))⟩] st1 = some sA → (∀ w' Pr' φ' a', Le w Pr φ st.h w' Pr' φ' sA.h → Fr w Pr φ w' Pr' φ' → Sim w' Pr' φ' sA.h → Slots w' Pr' φ' sA.h sA.t a' → a'.tmps.size = a.tmps.size → Marks n0 w' a'.defers → Q .ret a' w') → a1.eval c = .bool true →
          (Code.cond c (((Code.region id2 ops2 false)).seq .ret) .skip).wpIn (FR rd) 0 P (Exit.then (c2.wpIn (FR rd) 0 P Q) Q) a1 w1 := by
        intro sA heA hQA rt
        refine wpIn_cond_true rt (wpIn_seq (region_ok snd hx3 heA S1 s1 (by rw [hs1]; exact hn) ?_))
        intro w2 Pr2 φ2 a2 l2 f2 S2 s2 hs2 hd2
        simp only [Exit.then]
        refine wpIn_ret ?_
        simp only [Exit.then]
        exact hQA w2 Pr2 φ2 a2 (l1.trans l2) (f1.trans f2) S2 s2 (hs2.trans hs1) (by rw [hd2]; exact Marks.step (by rw [hd1]; exact hd.step f1 S) f2 S1)
      split at he <;> try (simp at he; done)
      · rename_i hcv
        rw [hcv] at rc
        simp only [Rep] at rc
        split at he <;> simp at he
        rename_i sA hA
        obtain ⟨rfl, rfl⟩ := he
        exact finA _ hA hQ rc
      · rename_i hcv
        rw [hcv] at rc
        simp only [Rep] at rc
        exact fin st' he hQ rc
      · rename_i hcv
        rw [hcv] at rc
        simp only [Rep] at rc
        obtain ⟨bv, rc⟩ := rc
        split at he <;> try (simp at he; done)
        rename_i sA sB hA hB
        split at he <;> simp at he
        rename_i ka kb ha hb
        obtain ⟨rfl, rfl⟩ := he
        have one : ∀ (sX : St), sX.t k = .arr 0 true [] → sX.h = [] → ∀ w' Pr' φ' a', Le w Pr φ st.h w' Pr' φ' sX.h → Fr w Pr φ w' Pr' φ' → Sim w' Pr' φ' sX.h → Slots w' Pr' φ' sX.h sX.t a' → a'.tmps.size = a.tmps.size → Marks n0 w' a'.defers → Q .ret a' w' := by
          intro sX hk hh w' Pr' φ' a' l f S' s' hs hdf
          rw [hh] at l S' s'
          refine hQ w' Pr' φ' a' l f S' (fun i => ?_) hs hdf
          by_cases hi : i = k
          · subst hi
            have := s' i
            rw [hk] at this
            simpa using this
          · simp only [hi, if_false, Rep]
        cases bv
        · exact fin sB hB (one sB kb hb) rc
        · exact finA sA hA (one sA ka ha) rc
    · split at hx <;> simp at hx
      rename_i x1 h1
      subst hx
      simp only [evC] at he
      split at he
      · rename_i st1 he1
        refine wpIn_seq (ih1 x1 h1 rd (hf.imp (fun q => q) fun q => by simp [XC.flat] at q; exact q.1) n0 st _ st1 he1 a w Pr φ S s hn hd _ ?_)
        intro w1 Pr1 φ1 a1 l1 f1 S1 s1 hs1 hd1
        simp only [Ex.exit', Exit.then]
        exact ih2 x2 h2 rd (hf.imp (fun q => q) fun q => by simp [XC.flat] at q; first | exact q.2 | exact q) n0 st1 e st' he a1 w1 Pr1 φ1 S1 s1 (by rw [hs1]; exact hn) hd1 Q fun w' Pr' φ' a' l f S' s' hs hdf => hQ w' Pr' φ' a' (l1.trans l) (f1.trans f) S' s' (hs.trans hs1) hdf
      · rename_i hne
        refine wpIn_seq (ih1 x1 h1 rd (hf.imp (fun q => q) fun q => by simp [XC.flat] at q; exact q.1) n0 st _ st' he a w Pr φ S s hn hd _ ?_)
        intro w1 Pr1 φ1 a1 l1 f1 S1 s1 hs1 hd1
        have hq := hQ w1 Pr1 φ1 a1 l1 f1 S1 s1 hs1 hd1
        cases e with
        | normal => exact absurd he (hne st')
        | exit id => exact hq
        | ret => exact hq
  | cond c c1 c2 ih1 ih2 =>
    intro x hx rd hf n0 st e st' he a w Pr φ S s hn hd Q hQ
    simp only [cCode] at hx
    split at hx <;> simp at hx
    rename_i c' x1 x2 hc h1 h2
    subst hx
    simp only [evC] at he
    split at he <;> try (simp at he; done)
    rename_i v hv
    have r := cO_rep S.gl s hc
    rw [hv] at r
    simp only [Rep] at r
    cases v
    · simp only [cond_false] at he
      exact wpIn_cond_false r (ih2 x2 h2 rd (hf.imp (fun q => q) fun q => by simp [XC.flat] at q; exact q.2) n0 st e st' he a w Pr φ S s hn hd Q hQ)
    · simp only [cond_true] at he
      exact wpIn_cond_true r (ih1 x1 h1 rd (hf.imp (fun q => q) fun q => by simp [XC.flat] at q; exact q.1) n0 st e st' he a w Pr φ S s hn hd Q hQ)
  | block id c1 ih =>
    intro x hx rd hf n0 st e st' he a w Pr φ S s hn hd Q hQ
    simp only [cCode] at hx
    split at hx <;> simp at hx
    rename_i x1 h1
    subst hx
    simp only [evC] at he
    split at he
    · rename_i id' st1 he1
      refine wpIn_block (ih x1 h1 rd (hf.imp (fun q => q) fun q => by simpa [XC.flat] using q) n0 st _ st1 he1 a w Pr φ S s hn hd _ ?_)
      intro w1 Pr1 φ1 a1 l1 f1 S1 s1 hs1 hd1
      simp only [Ex.exit', Exit.inBlock]
      split at he
      · rename_i hid
        simp at he
        obtain ⟨rfl, rfl⟩ := he
        rw [if_pos hid]
        exact hQ w1 Pr1 φ1 a1 l1 f1 S1 s1 hs1 hd1
      · rename_i hid
        simp at he
        obtain ⟨rfl, rfl⟩ := he
        rw [if_neg hid]
        exact hQ w1 Pr1 φ1 a1 l1 f1 S1 s1 hs1 hd1
    · rename_i hne
      refine wpIn_block (ih x1 h1 rd (hf.imp (fun q => q) fun q => by simpa [XC.flat] using q) n0 st _ st' he a w Pr φ S s hn hd _ ?_)
      intro w1 Pr1 φ1 a1 l1 f1 S1 s1 hs1 hd1
      have hq := hQ w1 Pr1 φ1 a1 l1 f1 S1 s1 hs1 hd1
      cases e with
      | normal => exact hq
      | exit id' => exact absurd he (hne id' st')
      | ret => exact hq
  | loop c1 ih =>
    intro x hx rd hf n0 st e st' he a w Pr φ S s hn hd Q hQ
    simp only [cCode] at hx
    split at hx <;> simp at hx
    rename_i x1 h1
    subst hx
    simp only [evC] at he
    refine wpIn_loop_rounds lf ?_
    have key : ∀ (n : Nat) (st : St), loopN (evC C lf x1) n st = some (e, st') → ∀ (a : Act) (w : World) (Pr : Nat → Nat → Prop) (φ : List Nat), Sim w Pr φ st.h → Slots w Pr φ st.h st.t a → nt ≤ a.tmps.size → Marks n0 w a.defers →
        (∀ w' Pr' φ' a', Le w Pr φ st.h w' Pr' φ' st'.h → Fr w Pr φ w' Pr' φ' → Sim w' Pr' φ' st'.h → Slots w' Pr' φ' st'.h st'.t a' → a'.tmps.size = a.tmps.size → Marks n0 w' a'.defers → Q e.exit' a' w') →
        Code.roundsIn (FR rd) 0 P c1 Q n a w := by
      intro n
      induction n with
      | zero => intro st he; simp [loopN] at he
      | succ n ihn =>
        intro st he a w Pr φ S s hn hd hQ
        simp only [loopN] at he
        rw [roundsIn_succ]
        split at he
        · rename_i st1 he1
          refine ih x1 h1 rd (hf.imp (fun q => q) fun q => by simpa [XC.flat] using q) n0 st _ st1 he1 a w Pr φ S s hn hd _ ?_
          intro w1 Pr1 φ1 a1 l1 f1 S1 s1 hs1 hd1
          simp only [Ex.exit', Exit.then]
          exact ihn st1 he a1 w1 Pr1 φ1 S1 s1 (by rw [hs1]; exact hn) hd1 fun w' Pr' φ' a' l f S' s' hs hdf => hQ w' Pr' φ' a' (l1.trans l) (f1.trans f) S' s' (hs.trans hs1) hdf
        · rename_i hne
          refine ih x1 h1 rd (hf.imp (fun q => q) fun q => by simpa [XC.flat] using q) n0 st _ st' he a w Pr φ S s hn hd _ ?_
          intro w1 Pr1 φ1 a1 l1 f1 S1 s1 hs1 hd1
          have hq := hQ w1 Pr1 φ1 a1 l1 f1 S1 s1 hs1 hd1
          cases e with
          | normal => exact absurd he (hne st')
          | exit id => exact hq
          | ret => exact hq
    exact key lf st he a w Pr φ S s hn hd hQ
  | scope c1 ih =>
    intro x hx rd hf n0 st e st' he a w Pr φ S s hn hd Q hQ
    simp only [cCode] at hx
    refine wpIn_scope_straight (ih x hx rd hf n0 st e st' he a w Pr φ S s hn hd _ ?_)
    intro w1 Pr1 φ1 a1 l1 f1 S1 s1 hs1 hd1
    have hq := hQ w1 Pr1 φ1 a1 l1 f1 S1 s1 hs1 hd1
    cases e <;> exact hq
  | rangeFunc g ps as b ih1 ih2 =>
    intro x hx rd hf n0 st e st' he a w Pr φ S s hn hd Q hQ
    simp only [cCode] at hx
    split at hx <;> try (simp at hx; done)
    rename_i f x1 x2 hg h1 h2
    cases hc : ps.toList.all (fun p => decide (p < nt)) && (x1.flat && x2.flat)
    · rw [hc] at hx; simp at hx
    rw [hc, cond_true] at hx
    simp at hx; subst hx
    simp only [Bool.and_eq_true] at hc
    obtain ⟨hc1, hc2, hc3⟩ := hc
    rcases hf with rfl | hf
    · simp only [evC] at he
      split at he <;> try (simp at he; done)
      rename_i gf caps hv
      split at he <;> simp at he
      rename_i e1 h1' hr
      obtain ⟨rfl, rfl⟩ := he
      exact range_ok snd hg (fun p hp => by simpa using List.all_eq_true.1 hc1 p hp)
        (fun l st e st' he a w Pr φ S s hn hd Q hQ => ih1 x1 h1 (some l) (.inr hc2) 0 st e st' he a w Pr φ S s hn hd Q hQ)
        (fun l st e st' he a w Pr φ S s hn hd Q hQ => ih2 x2 h2 (some l) (.inr hc3) 0 st e st' he a w Pr φ S s hn hd Q hQ) hv hr S s hn hd hQ
    · simp [XC.flat] at hf
  | goto l => intro x hx; simp [cCode] at hx
  | refuse w => intro x hx; simp [cCode] at hx

/-! ### Functions -/

def resOf (tmps : Array Value) : ResultVar → Sem Value
  | .tmp t => pure (tmps.getD t undef)
  | .cell x t => do loadVar t (← asAddr (tmps.getD x undef))

theorem results_ok {w : World} {Pr : Nat → Nat → Prop} {φ : List Nat} {st : St} {a : Act} (S : Sim w Pr φ st.h) (s : Slots w Pr φ st.h st.t a) : (rs : List ResultVar) → (xs : List XR) → cRes P rs = some xs → ∀ ds, evRess st xs = some ds →
    ∃ vs, (rs.mapM (resOf a.tmps)).run P w = .ok vs w ∧ RepL w Pr φ st.h ds vs
  | [], xs, hx, ds, he => by
    simp [cRes] at hx; subst hx
    simp [evRess] at he; subst he
    exact ⟨[], by simp, by simp [RepL]⟩
  | r :: rs, xs, hx, ds, he => by
    simp only [cRes] at hx
    split at hx <;> simp at hx
    rename_i x xs' h1 h2
    subst hx
    simp only [evRess] at he
    split at he <;> try (simp at he; done)
    rename_i d hd
    split at he <;> simp at he
    rename_i ds' hds
    subst he
    obtain ⟨vs, g1, g2⟩ := results_ok S s rs xs' h2 ds' hds
    have one : ∃ v, (resOf a.tmps r).run P w = .ok v w ∧ Rep w Pr φ st.h d v := by
      cases r with
      | tmp t =>
        simp at h1; subst h1
        simp only [evRes, Option.some.injEq] at hd
        subst hd
        exact ⟨_, by simp [resOf], s t⟩
      | cell x t =>
        simp only at h1
        split at h1 <;> simp at h1
        rename_i sz hsz
        subst h1
        simp only [evRes] at hd
        obtain ⟨ad, hv, u, q1, q2⟩ := evL_run (x := .t x) S s hsz (v := a.tmps.getD x undef) (s x) hd
        refine ⟨u, ?_, q2⟩
        simp only [resOf, hv, asAddr, Sem.run_bind, Sem.run_pure, Result.andThen_ok, q1]
    obtain ⟨v, e1, e2⟩ := one
    refine ⟨v :: vs, ?_, by simp only [RepL]; exact ⟨v, vs, rfl, e2, g2⟩⟩
    simp only [List.mapM_cons, Sem.run_bind, e1, Result.andThen_ok, g1, Sem.run_pure]

theorem body_ok (snd : Sound P C) {lf : Nat} {f : FuncId} {x : XF} {args : List D} {h : List Blk} {r : D} {h' : List Blk} (hc : cFunc P f = some x) (he : evBody C lf x args h = some (r, h')) : FullSound P f args h r h' := by
  unfold cFunc at hc
  split at hc <;> try (simp at hc; done)
  rename_i fn hfn
  split at hc <;> try (simp at hc; done)
  rename_i hname
  split at hc <;> try (simp at hc; done)
  rename_i c hbody
  split at hc <;> simp at hc
  rename_i b rr hb hr
  subst hc
  refine ⟨⟨fn, hfn, by simpa using hname, by simp [hbody]⟩, fun w Pr φ vs S rargs => ?_⟩
  refine callsIn_wide.1 (callsIn_of_wp_marks (n := 0) hfn hbody trivial ?_)
  have s0 : Slots w Pr φ h (args0 args) { tmps := vs ++ Array.replicate (fn.ntmps - vs.size) undef, defers := [] } := by
    intro i
    have hlen := rargs.length
    simp at hlen
    simp only [args0]
    by_cases hi : i < args.length
    · obtain ⟨v, hv, hrv⟩ := rargs.get i args[i] (List.getElem?_eq_getElem hi)
      have e1 : args.getD i (.tup []) = args[i] := by simp [List.getD_eq_getElem?_getD, hi]
      have e2 : (vs ++ Array.replicate (fn.ntmps - vs.size) undef).getD i undef = v := by
        have : vs[i]? = some v := by simpa using hv
        rw [Array.getD_eq_getD_getElem?, Array.getElem?_append_left (by omega), this]
        rfl
      rw [e1, e2]; exact hrv
    · have e1 : args.getD i (.tup []) = .tup [] := by
        rw [List.getD_eq_getElem?_getD, List.getElem?_eq_none (by omega)]; rfl
      have e2 : (vs ++ Array.replicate (fn.ntmps - vs.size) undef).getD i undef = undef := by
        rw [Array.getD_eq_getD_getElem?, Array.getElem?_append_right (by omega), Array.getElem?_replicate]
        split <;> rfl
      rw [e1, e2]
      simp only [Rep]
      exact ⟨#[], rfl, rfl⟩
  have fin : ∀ (st : St) (ds : List D), evRess st rr = some ds → r = oneOrTup ds → h' = st.h → ∀ (dl : List Deferred) w' Pr' φ' a', Le w Pr φ h w' Pr' φ' st.h → Fr w Pr φ w' Pr' φ' → Sim w' Pr' φ' st.h → Slots w' Pr' φ' st.h st.t a' → Marks w.heap.size w' dl →
      LeavesInM Fence.wide 0 P fn a'.tmps (fun e w' => ∃ v Pr' φ', e = .returned v ∧ Le w Pr φ h w' Pr' φ' h' ∧ Fr w Pr φ w' Pr' φ' ∧ Sim w' Pr' φ' h' ∧ Rep w' Pr' φ' h' r v) dl .returning w' := by
    intro st ds hds hre hh dl
    subst hh hre
    induction dl with
    | nil =>
      intro w' Pr' φ' a' l fr S' s' hd
      obtain ⟨us, g1, g2⟩ := results_ok S' s' _ _ hr ds hds
      have hres : (results fn a'.tmps).run P w' = .ok (if hsz : us.toArray.size = 1 then us.toArray[0] else .tuple us.toArray) w' := by
        have e : results fn a'.tmps = (do let vs ← fn.results.mapM (resOf a'.tmps); pure (if h : vs.size = 1 then vs[0] else .tuple vs)) := rfl
        rw [e, Array.mapM_eq_mapM_toList]
        simp only [Sem.run_bind, Sem.run_map, g1, Result.andThen_ok, Sem.run_pure]
      refine ⟨_, hres, _, Pr', φ', rfl, l, fr, S', ?_⟩
      match us, ds, g2 with
      | [u], [d], g2 =>
        simp only [RepL] at g2
        obtain ⟨v, q, e1, e2, _⟩ := g2
        simp at e1
        simp [oneOrTup, e1.1, e2]
      | [], [], g2 => simp [oneOrTup, Rep, RepL]
      | u :: u' :: us, d :: d' :: ds, g2 =>
        simp only [oneOrTup]
        have : ¬ ((u :: u' :: us).toArray.size = 1) := by simp
        rw [dif_neg this]
        simp only [Rep]
        exact ⟨_, rfl, by simpa using g2⟩
      | [], d :: ds, g2 => have := g2.length; simp at this
      | [u], [], g2 => have := g2.length; simp at this
      | [u], d :: d' :: ds, g2 => have := g2.length; simp at this
      | u :: u' :: us, [], g2 => have := g2.length; simp at this
      | u :: u' :: us, [d], g2 => have := g2.length; simp at this
    | cons d dl ih =>
      intro w' Pr' φ' a' l fr S' s' hd
      obtain ⟨k, e1, hk, ho⟩ := hd.2.1 d (by simp)
      subst e1
      have L : Le w' Pr' φ' st.h (w'.putObj k (.deferred none)) Pr' φ' st.h := le_put ho rfl rfl
      refine ⟨by simp, .inl ⟨k, _, rfl, run_takeDeferred ho, ih _ Pr' φ' a' (l.trans L) (fr_put fr hk) (sim_put S' ho rfl rfl) (s'.mono L) ?_⟩⟩
      refine ⟨by simpa [World.putObj] using hd.1, fun d' hd' => ?_, (List.pairwise_cons.1 hd.2.2).2⟩
      obtain ⟨k', e2, hk', ho'⟩ := hd.2.1 d' (by simp [hd'])
      refine ⟨k', e2, hk', ?_⟩
      rw [World.putObj_heap_other]; exact ho'
      intro q
      subst q
      exact (List.pairwise_cons.1 hd.2.2).1 d' hd' e2.symm
  simp only [evBody] at he
  split at he
  · rename_i st hst
    split at he <;> simp at he
    rename_i ds hds
    obtain ⟨rfl, rfl⟩ := he
    refine code_ok snd c b hb none (.inl rfl) w.heap.size _ _ st hst _ w Pr φ S s0 (by simp; omega) ⟨Nat.le_refl _, fun _ h => absurd h (by simp), List.Pairwise.nil⟩ _ ?_
    intro w' Pr' φ' a' l fr S' s' _ hd
    exact fin st ds hds rfl rfl a'.defers w' Pr' φ' a' l fr S' s' hd
  · rename_i st hst
    split at he <;> simp at he
    rename_i ds hds
    obtain ⟨rfl, rfl⟩ := he
    refine code_ok snd c b hb none (.inl rfl) w.heap.size _ _ st hst _ w Pr φ S s0 (by simp; omega) ⟨Nat.le_refl _, fun _ h => absurd h (by simp), List.Pairwise.nil⟩ _ ?_
    intro w' Pr' φ' a' l fr S' s' _ hd
    exact fin st ds hds rfl rfl a'.defers w' Pr' φ' a' l fr S' s' hd
  · simp at he

theorem FullSound.pure {f : FuncId} {ds : List D} {r r' : D} {h1 h2 : List Blk} (hf : FullSound P f ds [] r h1) (hr : freezeR r h1 = some (r', h2)) : PureSound P f ds r' := by
  refine ⟨hf.1, fun w Pr vs hlt hgl rargs => ?_⟩
  have S0 : Sim w Pr [] [] := ⟨rfl, hlt, fun i k c hk => by simp at hk, fun i j c hi => by simp at hi, hgl⟩
  refine (hf.2 w Pr [] vs S0 rargs).mono fun e w' he => ?_
  obtain ⟨v, Pr', φ', rfl, l, fr, S', rv⟩ := he
  obtain ⟨Pr2, l2, f2, S2, r2⟩ := freezeR_rep hr S' rv
  have ll := l.trans l2
  have ff := fr.trans f2
  exact ⟨v, Pr2, rfl, ⟨ll.pr, fun i k hk => by simp at hk, ll.mp⟩, ⟨ff.os, ff.tape, ff.output, ff.size, ff.keep, fun c hc => by simp at hc, ff.prn⟩, S2.prlt, r2⟩

theorem Sound.at {P : Program} {C : Calls} (s : Sound P C) (m : FuncId → Nat) : Sound P (C.at m) := ⟨s.pc, s.oc, s.fc, s.nx⟩

theorem evF_sound (P : Program) (mode : FuncId → FuncId → Nat) (orc : FuncId → List D → Option D) (orf : FuncId → List D → List Blk → Option (D × List Blk)) (nx : FuncId → List D → D → List Blk → Option (Option (List D × D))) (lf : Nat) (ho : ∀ f ds r, orc f ds = some r → PureSound P f ds r) (hf : ∀ f ds h r h', orf f ds h = some (r, h') → FullSound P f ds h r h') (hn : ∀ g caps h r, nx g caps .nilp h = some r → SeqOK P g caps (nx g caps) h) : ∀ n, Sound P (evF P mode orc orf nx lf n) := by
  intro n
  induction n with
  | zero => exact ⟨fun f ds r h => ho f ds r h, fun f ds r h' h => by simp [evF] at h, fun f ds h r h' hh => hf f ds h r h' hh, hn⟩
  | succ n ih =>
    refine ⟨fun f ds r h => ?_, fun f ds r h' h => ?_, fun f ds h r h' hh => ?_, hn⟩
    · simp only [evF] at h
      split at h
      · rename_i r0 h0
        simp at h; subst h
        exact ho f ds _ h0
      · split at h <;> try (simp at h; done)
        rename_i x hx
        split at h <;> try (simp at h; done)
        rename_i r1 h1 hb
        split at h <;> simp at h
        rename_i r2 h2 hr
        subst h
        exact (body_ok (ih.at _) hx hb).pure hr
    · simp only [evF] at h
      split at h <;> try (simp at h; done)
      rename_i x hx
      exact body_ok (ih.at _) hx h
    · simp only [evF] at hh
      split at hh
      · rename_i r0 h0
        simp at hh; subst hh
        exact hf f ds h _ _ h0
      · split at hh <;> try (simp at hh; done)
        rename_i x hx
        exact body_ok (ih.at _) hx hh
end

#print axioms evF_sound

end Go.Proofs.YtccinlhenkkpeaaDoor.E
