/- How the evaluator is run on data that are not known: rules for its statements, and the forms that simp uses. -/
import Derived.Test.YtccinlhenkkpeaaDoorEv
namespace Go.Proofs.YtccinlhenkkpeaaDoor.E
open Go
set_option linter.unusedSimpArgs false
set_option linter.unusedVariables false

/-- A fact that simp does not use. -/
structure Keep (p : Prop) : Prop where
  out : p

def oSat {α : Type} (x : Option α) (Q : α → Prop) : Prop := match x with
  | some a => Q a
  | none => False

@[simp] theorem oSat_some {α : Type} (a : α) (Q : α → Prop) : oSat (some a) Q = Q a := id rfl
@[simp] theorem oSat_none {α : Type} (Q : α → Prop) : oSat none Q = False := rfl

/-- The statement comes to an end, and there Q holds. -/
def aw (C : Calls) (lf : Nat) (c : XC) (st : St) (Q : Ex → St → Prop) : Prop := oSat (evC C lf c st) fun p => Q p.1 p.2

def thenQ (K : St → Prop) (Q : Ex → St → Prop) : Ex → St → Prop
  | .normal, st => K st
  | e, st => Q e st

@[simp] theorem thenQ_normal (K : St → Prop) (Q : Ex → St → Prop) (st : St) : thenQ K Q .normal st = K st := rfl
@[simp] theorem thenQ_exit (K : St → Prop) (Q : Ex → St → Prop) (id : Nat) (st : St) : thenQ K Q (.exit id) st = Q (.exit id) st := rfl
@[simp] theorem thenQ_ret (K : St → Prop) (Q : Ex → St → Prop) (st : St) : thenQ K Q .ret st = Q .ret st := rfl

def inQ (id : Nat) (Q : Ex → St → Prop) : Ex → St → Prop
  | .exit id', st => if id' = id then Q .normal st else Q (.exit id') st
  | e, st => Q e st

@[simp] theorem inQ_normal (id : Nat) (Q : Ex → St → Prop) (st : St) : inQ id Q .normal st = Q .normal st := rfl
@[simp] theorem inQ_ret (id : Nat) (Q : Ex → St → Prop) (st : St) : inQ id Q .ret st = Q .ret st := rfl
@[simp] theorem inQ_same (id : Nat) (Q : Ex → St → Prop) (st : St) : inQ id Q (.exit id) st = Q .normal st := by simp [inQ]
@[simp] theorem inQ_exit (id id' : Nat) (Q : Ex → St → Prop) (st : St) : inQ id Q (.exit id') st = if id' = id then Q .normal st else Q (.exit id') st := rfl

/-- What follows is the code b. -/
def thenC (C : Calls) (lf : Nat) (b : XC) (Q : Ex → St → Prop) (e : Ex) (st : St) : Prop := thenQ (fun st' => aw C lf b st' Q) Q e st

@[simp] theorem thenC_normal (C : Calls) (lf : Nat) (b : XC) (Q : Ex → St → Prop) (st : St) : thenC C lf b Q .normal st = aw C lf b st Q := rfl
@[simp] theorem thenC_exit (C : Calls) (lf : Nat) (b : XC) (Q : Ex → St → Prop) (id : Nat) (st : St) : thenC C lf b Q (.exit id) st = Q (.exit id) st := rfl
@[simp] theorem thenC_ret (C : Calls) (lf : Nat) (b : XC) (Q : Ex → St → Prop) (st : St) : thenC C lf b Q .ret st = Q .ret st := rfl

/-- One datum, the store as it is. -/
def oSat1 (x : Option D) (h : List Blk) (K : D × List Blk → Prop) : Prop := oSat x fun v => K (v, h)
@[simp] theorem oSat1_some (v : D) (h : List Blk) (K : D × List Blk → Prop) : oSat1 (some v) h K = K (v, h) := rfl
@[simp] theorem oSat1_none (h : List Blk) (K : D × List Blk → Prop) : oSat1 none h K = False := rfl
@[simp] theorem oSat1_ite (p : Prop) [Decidable p] (x : Option D) (h : List Blk) (K : D × List Blk → Prop) : oSat1 (if p then x else none) h K = (p ∧ oSat1 x h K) := by
  by_cases hp : p <;> simp [hp]
@[simp] theorem oSat1_ite' (p : Prop) [Decidable p] (x : Option D) (h : List Blk) (K : D × List Blk → Prop) : oSat1 (if p then none else x) h K = (¬ p ∧ oSat1 x h K) := by
  by_cases hp : p <;> simp [hp]

def resK (x : Option (List D)) (K : D → List Blk → Prop) (h : List Blk) : Prop := oSat x fun ds => K (oneOrTup ds) h
@[simp] theorem resK_some (ds : List D) (K : D → List Blk → Prop) (h : List Blk) : resK (some ds) K h = K (oneOrTup ds) h := rfl
@[simp] theorem resK_none (K : D → List Blk → Prop) (h : List Blk) : resK none K h = False := rfl

section
variable {C : Calls} {lf : Nat} {st : St} {Q : Ex → St → Prop}

@[simp] theorem aw_skip : aw C lf .skip st Q ↔ Q .normal st := Iff.rfl
@[simp] theorem aw_exit (id : Nat) : aw C lf (.exit id) st Q ↔ Q (.exit id) st := Iff.rfl
@[simp] theorem aw_ret : aw C lf .ret st Q ↔ Q .ret st := Iff.rfl

/-- What goes on behind a region: some slots. -/
def keepK (K : Option (List Nat)) (F : St → Prop) (st : St) : Prop := F (st.keep K)
@[simp] theorem keepK_none (F : St → Prop) (st : St) : keepK none F st = F st := rfl
@[simp] theorem keepK_some (l : List Nat) (F : St → Prop) (t : Nat → D) (h : List Blk) : keepK (some l) F ⟨t, h⟩ = F ⟨tab (l.map fun i => (i, t i)), h⟩ := id rfl
@[simp] theorem tab_nil (i : Nat) : tab [] i = .any := rfl
@[simp] theorem tab_hit (i : Nat) (d : D) (r : List (Nat × D)) : tab ((i, d) :: r) i = d := by simp [tab]
@[simp] theorem tab_miss {i j : Nat} (d : D) (r : List (Nat × D)) (h : ¬ i = j) : tab ((j, d) :: r) i = tab r i := by simp [tab, h]

@[simp] theorem aw_region (K : Option (List Nat)) (ops : List XOp) : aw C lf (.region K ops) st Q ↔ oSat (evOps C ops st) (keepK K (Q .normal)) := by
  simp only [aw, evC]
  cases evOps C ops st <;> rfl

@[simp] theorem aw_regionD (K : Option (List Nat)) (bs : List Nat) (ops : List XOp) : aw C lf (.regionD K bs ops) st Q ↔ oSat (evOpsD C bs 0 [] ops st) (keepK K (Q .normal)) := by
  simp only [aw, evC]
  cases evOpsD C bs 0 [] ops st <;> rfl

@[simp] theorem aw_seq (a b : XC) : aw C lf (.seq a b) st Q ↔ aw C lf a st (thenC C lf b Q) := by
  simp only [aw, evC]
  cases h : evC C lf a st with
  | none => rfl
  | some p =>
    obtain ⟨e, st'⟩ := p
    cases e <;> rfl

theorem aw_cond (c : XO) (a b : XC) : aw C lf (.cond c a b) st Q ↔ oSat (match c.ev st.t with | .bool v => some v | _ => none) (fun v => bif v then aw C lf a st Q else aw C lf b st Q) := by
  simp only [aw, evC]
  cases c.ev st.t <;> try rfl
  rename_i v
  cases v <;> rfl

@[simp] theorem aw_block (id : Nat) (b : XC) : aw C lf (.block id b) st Q ↔ aw C lf b st (inQ id Q) := by
  simp only [aw, evC]
  cases h : evC C lf b st with
  | none => rfl
  | some p =>
    obtain ⟨e, st'⟩ := p
    cases e with
    | normal => rfl
    | ret => rfl
    | exit id' =>
      by_cases h : id' = id <;> simp [oSat, inQ, h]

/-- What a test on nil leads to. -/
def guardK (C : Calls) (lf : Nat) (k : Nat) (c : XO) (ys : List XOp) (b : XC) (Q : Ex → St → Prop) (st1 : St) : Prop :=
  oSat (match c.ev st1.t with
      | .bool true => match evOps C ys st1 with
        | some st2 => some (.ret, st2)
        | none => none
      | .bool false => evC C lf b st1
      | .anyb => match evOps C ys st1, evC C lf b st1 with
        | some sA, some (.ret, sB) => match sA.t k, sB.t k, sA.h, sB.h with
          | .arr 0 true [], .arr 0 true [], [], [] => some (.ret, ⟨fun i => if i = k then .arr 0 true [] else .any, []⟩)
          | _, _, _, _ => none
        | _, _ => none
      | _ => none) fun p => Q p.1 p.2
@[simp] theorem aw_guard (k : Nat) (xs : List XOp) (c : XO) (ys : List XOp) (b : XC) : aw C lf (.guard k xs c ys b) st Q ↔ oSat (evOps C xs st) (guardK C lf k c ys b Q) := by
  simp only [aw, evC]
  cases evOps C xs st <;> rfl
@[simp] theorem guardK_f {k : Nat} {c : XO} {ys : List XOp} {b : XC} {t : Nat → D} {h : List Blk} (hc : c.ev t = .bool false) : guardK C lf k c ys b Q ⟨t, h⟩ = aw C lf b ⟨t, h⟩ Q := by
  simp only [guardK, hc]; rfl
@[simp] theorem guardK_t {k : Nat} {c : XO} {ys : List XOp} {b : XC} {t : Nat → D} {h : List Blk} (hc : c.ev t = .bool true) : guardK C lf k c ys b Q ⟨t, h⟩ = oSat (evOps C ys ⟨t, h⟩) (Q .ret) := by
  simp only [guardK, hc]
  cases evOps C ys ⟨t, h⟩ <;> rfl
theorem guardK_u {k : Nat} {c : XO} {ys : List XOp} {b : XC} {t : Nat → D} {h : List Blk} (hc : c.ev t = .anyb) (hA : oSat (evOps C ys ⟨t, h⟩) fun s => s.t k = .arr 0 true [] ∧ s.h = [])
    (hB : aw C lf b ⟨t, h⟩ fun e s => e = .ret ∧ s.t k = .arr 0 true [] ∧ s.h = []) (hQ : Q .ret ⟨fun i => if i = k then .arr 0 true [] else .any, []⟩) : guardK C lf k c ys b Q ⟨t, h⟩ := by
  simp only [guardK, hc]
  simp only [aw] at hB
  cases hx : evOps C ys ⟨t, h⟩ with
  | none => rw [hx] at hA; exact hA.elim
  | some sA =>
    rw [hx] at hA
    obtain ⟨a1, a2⟩ := hA
    cases hy : evC C lf b ⟨t, h⟩ with
    | none => rw [hy] at hB; exact hB.elim
    | some p =>
      rw [hy] at hB
      obtain ⟨e, sB⟩ := p
      simp only [oSat_some] at hB
      obtain ⟨rfl, b1, b2⟩ := hB
      simp only [a1, a2, b1, b2]
      exact hQ

/-- A loop: I n holds at the head of a round when at most n rounds are left. -/
theorem aw_loop {b : XC} (I : Nat → St → Prop) (h0 : ∀ st, ¬ I 0 st) (hr : ∀ n st, I (n + 1) st → aw C lf b st (thenQ (I n) Q)) {n : Nat} (hn : n ≤ lf) (hI : I n st) : aw C lf (.loop b) st Q := by
  have key : ∀ (m n : Nat) (st : St), n ≤ m → I n st → oSat (loopN (evC C lf b) m st) fun p => Q p.1 p.2 := by
    intro m
    induction m with
    | zero =>
      intro n st hn hI
      have : n = 0 := by omega
      subst this
      exact absurd hI (h0 st)
    | succ m ih =>
      intro n st hn hI
      cases n with
      | zero => exact absurd hI (h0 st)
      | succ n =>
        have := hr n st hI
        simp only [aw] at this
        simp only [loopN]
        cases h : evC C lf b st with
        | none => rw [h] at this; exact this.elim
        | some p =>
          obtain ⟨e, st'⟩ := p
          rw [h] at this
          cases e with
          | normal => exact ih n st' (by omega) this
          | exit id => exact this
          | ret => exact this
  exact key lf n st hn hI

/-- The same; what is behind a round is known by its law alone. -/
theorem aw_rounds {b : XC} (I : Nat → St → Prop) (h0 : ∀ st, ¬ I 0 st) (hr : ∀ (J : St → Prop) n st, I (n + 1) st → Keep (∀ st', I n st' → J st') → aw C lf b st (thenQ J Q)) {n : Nat} (hn : n ≤ lf) (hI : I n st) : aw C lf (.loop b) st Q :=
  aw_loop I h0 (fun n st hi => hr (I n) n st hi ⟨fun _ h => h⟩) hn hI

/-- What is asked behind a round of a range over a function. -/
def roundQ (t : Nat → D) (I : List Blk → Prop) (Q : Ex → St → Prop) : Ex → St → Prop
  | .normal, s => I s.h
  | .exit id, s => Q (.exit id) ⟨t, s.h⟩
  | .ret, s => Q .ret ⟨t, s.h⟩
@[simp] theorem roundQ_normal (t : Nat → D) (I : List Blk → Prop) : roundQ t I Q .normal st = I st.h := rfl
@[simp] theorem roundQ_exit (t : Nat → D) (I : List Blk → Prop) (id : Nat) : roundQ t I Q (.exit id) st = Q (.exit id) ⟨t, st.h⟩ := rfl
@[simp] theorem roundQ_ret (t : Nat → D) (I : List Blk → Prop) : roundQ t I Q .ret st = Q .ret ⟨t, st.h⟩ := rfl

/-- A range over a function: I n s h holds between two rounds, when at most n are left (but one), s the iterator's state. -/
theorem aw_range {f : XO} {ps : List Nat} {as b : XC} {g : FuncId} {caps : List D} (hv : f.ev st.t = .fn (.func g) [] caps) (I : Nat → D → List Blk → Prop) (h0 : ∀ s h, ¬ I 0 s h)
    (hr : ∀ n s h, I (n + 1) s h → (C.nx g caps s h = some none ∧ Q .normal ⟨st.t, h⟩) ∨ ∃ x s', C.nx g caps s h = some (some (x, s')) ∧ x.length = ps.length ∧
      aw C lf as ⟨putL st.t ps x, h⟩ (thenC C lf b (roundQ st.t (I n s') Q)))
    {n : Nat} (hn : n ≤ lf) (hI : I n .nilp st.h) (hflat : ∀ x h, ∀ p, evC C lf as ⟨putL st.t ps x, h⟩ = some p → p.1 = .normal) : aw C lf (.rangeF f ps as b) st Q := by
  have key : ∀ (m n : Nat) (s : D) (h : List Blk), n ≤ m → I n s h → oSat (rangeN (fun x h => bif x.length == ps.length then (match evC C lf as ⟨putL st.t ps x, h⟩ with
        | some (.normal, s) => evC C lf b s
        | _ => none) else none) (C.nx g caps) m s h) fun p => Q p.1 ⟨st.t, p.2⟩ := by
    intro m
    induction m with
    | zero =>
      intro n s h hn hI
      have : n = 0 := by omega
      subst this
      exact absurd hI (h0 s h)
    | succ m ih =>
      intro n s h hn hI
      cases n with
      | zero => exact absurd hI (h0 s h)
      | succ n =>
        simp only [rangeN]
        rcases hr n s h hI with ⟨e1, e2⟩ | ⟨x, s', e1, e2, e3⟩
        · rw [e1]; exact e2
        · rw [e1]
          simp only [e2, beq_self_eq_true, cond_true]
          simp only [aw] at e3
          cases hc : evC C lf as ⟨putL st.t ps x, h⟩ with
          | none => rw [hc] at e3; exact e3.elim
          | some p =>
            have hp := hflat x h p hc
            obtain ⟨e, s1⟩ := p
            simp only at hp
            subst hp
            rw [hc] at e3
            change oSat (evC C lf b s1) _ at e3
            simp only []
            cases hb : evC C lf b s1 with
            | none => rw [hb] at e3; exact e3.elim
            | some q =>
              obtain ⟨e4, s2⟩ := q
              rw [hb] at e3
              cases e4 with
              | normal => exact ih n s' s2.h (by omega) e3
              | ret => exact e3
              | exit id => exact e3
  simp only [aw, evC, hv]
  have := key lf n .nilp st.h hn hI
  cases hr : rangeN (fun x h => bif x.length == ps.length then (match evC C lf as ⟨putL st.t ps x, h⟩ with
        | some (.normal, s) => evC C lf b s
        | _ => none) else none) (C.nx g caps) lf .nilp st.h with
  | none => rw [hr] at this; exact this.elim
  | some p => rw [hr] at this; exact this

/-- What is asked at the end of a body. -/
def retQ (res : List XR) (K : D → List Blk → Prop) : Ex → St → Prop
  | .normal, st | .ret, st => resK (evRess st res) K st.h
  | .exit _, _ => False

@[simp] theorem retQ_normal (res : List XR) (K : D → List Blk → Prop) (t : Nat → D) (h : List Blk) : retQ res K .normal ⟨t, h⟩ = resK (evRess ⟨t, h⟩ res) K h := rfl
@[simp] theorem retQ_ret (res : List XR) (K : D → List Blk → Prop) (t : Nat → D) (h : List Blk) : retQ res K .ret ⟨t, h⟩ = resK (evRess ⟨t, h⟩ res) K h := rfl
@[simp] theorem retQ_exit (res : List XR) (K : D → List Blk → Prop) (id : Nat) : retQ res K (.exit id) st = False := rfl

theorem body_of_aw {x : XF} {args : List D} {h : List Blk} {K : D → List Blk → Prop} (ha : aw C lf x.body ⟨args0 args, h⟩ (retQ x.res K)) : ∃ d h', evBody C lf x args h = some (d, h') ∧ K d h' := by
  simp only [aw] at ha
  simp only [evBody]
  cases hc : evC C lf x.body ⟨args0 args, h⟩ with
  | none => rw [hc] at ha; exact ha.elim
  | some p =>
    obtain ⟨e, st'⟩ := p
    rw [hc] at ha
    cases e with
    | exit id => exact ha.elim
    | normal =>
      change resK (evRess st' x.res) K st'.h at ha
      cases hr : evRess st' x.res with
      | none => rw [hr] at ha; exact ha.elim
      | some ds => rw [hr] at ha; exact ⟨_, _, by simp only [hr], ha⟩
    | ret =>
      change resK (evRess st' x.res) K st'.h at ha
      cases hr : evRess st' x.res with
      | none => rw [hr] at ha; exact ha.elim
      | some ds => rw [hr] at ha; exact ⟨_, _, by simp only [hr], ha⟩
end

def givK (x : Option (D × List Blk)) (r : D) : Prop := oSat x fun p => p.1 = r
@[simp] theorem givK_some (d : D) (h : List Blk) (r : D) : givK (some (d, h)) r = (d = r) := rfl
@[simp] theorem givK_none (r : D) : givK none r = False := rfl

@[simp] theorem givK_ite (p : Prop) [Decidable p] (x : Option (D × List Blk)) (r : D) : givK (if p then x else none) r = (p ∧ givK x r) := by
  by_cases hp : p <;> simp [hp]

/-- What a pure call gives back. -/
def gives (r : D) (d : D) (h : List Blk) : Prop := givK (freezeR d h) r

@[simp] theorem at_pc (C : Calls) (m : FuncId → Nat) : (C.at m).pc = C.pc := rfl
@[simp] theorem at_oc (C : Calls) (m : FuncId → Nat) : (C.at m).oc = C.oc := rfl
@[simp] theorem at_fc (C : Calls) (m : FuncId → Nat) : (C.at m).fc = C.fc := rfl
@[simp] theorem at_nx (C : Calls) (m : FuncId → Nat) : (C.at m).nx = C.nx := rfl
@[simp] theorem at_mode (C : Calls) (m : FuncId → Nat) (f : FuncId) : (C.at m).mode f = m f := id rfl
/-- All calls are pure. -/
def m0 : FuncId → Nat := fun _ => 0
@[simp] theorem m0_at (f : FuncId) : m0 f = 0 := id rfl

section
variable {P : Program} {mode : FuncId → FuncId → Nat} {orc : FuncId → List D → Option D} {orf : FuncId → List D → List Blk → Option (D × List Blk)} {nx : FuncId → List D → D → List Blk → Option (Option (List D × D))} {lf n f : Nat} {x : XF} {args : List D}
theorem pc_of_aw {r : D} (ho : orc f args = none) (hx : cFunc P f = some x)
    (ha : aw ((evF P mode orc orf nx lf n).at (mode f)) lf x.body ⟨args0 args, []⟩ (retQ x.res (gives r))) : (evF P mode orc orf nx lf (n + 1)).pc f args = some r := by
  obtain ⟨d, h', e, hg⟩ := body_of_aw ha
  simp only [evF, ho, hx, e]
  simp only [gives] at hg
  cases hf : freezeR d h' with
  | none => rw [hf] at hg; exact hg.elim
  | some p => rw [hf] at hg; simp only [givK, oSat_some] at hg; rw [← hg]
theorem oc_of_aw {r : D} {h' : List Blk} (hx : cFunc P f = some x)
    (ha : aw ((evF P mode orc orf nx lf n).at (mode f)) lf x.body ⟨args0 args, []⟩ (retQ x.res (fun d h => d = r ∧ h = h'))) : (evF P mode orc orf nx lf (n + 1)).oc f args = some (r, h') := by
  obtain ⟨d, h1, e, rfl, rfl⟩ := body_of_aw ha
  simp only [evF, hx, e]
theorem fc_of_aw {h : List Blk} {K : D × List Blk → Prop} (ho : orf f args h = none) (hx : cFunc P f = some x)
    (ha : aw ((evF P mode orc orf nx lf n).at (mode f)) lf x.body ⟨args0 args, h⟩ (retQ x.res (fun d h => K (d, h)))) : oSat ((evF P mode orc orf nx lf (n + 1)).fc f args h) K := by
  obtain ⟨d, h1, e, hk⟩ := body_of_aw ha
  simp only [evF, ho, hx, e]
  exact hk
end

/-! ### What simp needs -/

theorem upd_at (t : Nat → D) (i j : Nat) (d : D) : upd t i d j = if j = i then d else t j := rfl
@[simp] theorem upd_hit (t : Nat → D) (i : Nat) (d : D) : upd t i d i = d := by simp [upd]
@[simp] theorem upd_miss (t : Nat → D) {i j : Nat} (d : D) (h : ¬ j = i) : upd t i d j = t j := by simp [upd, h]

section
variable {C : Calls} {dr : Bool} {t : Nat → D} {h : List Blk} {K : D × List Blk → Prop} {KS : St → Prop}

@[simp] theorem oSat_ite {α : Type} (p : Prop) [Decidable p] (x : Option α) (Q : α → Prop) : oSat (if p then x else none) Q = (p ∧ oSat x Q) := by
  by_cases hp : p <;> simp [hp]
@[simp] theorem oSat_ite' {α : Type} (p : Prop) [Decidable p] (x : Option α) (Q : α → Prop) : oSat (if p then none else x) Q = (¬ p ∧ oSat x Q) := by
  by_cases hp : p <;> simp [hp]
@[simp] theorem oSat_cond {α : Type} (p : Bool) (x y : Option α) (Q : α → Prop) : oSat (bif p then x else y) Q = if p = true then oSat x Q else oSat y Q := by
  cases p <;> rfl

def D.isB : D → Bool
  | .bool _ => true
  | _ => false

theorem isB_cases {d : D} (h : d.isB = true) : d = .bool true ∨ d = .bool false := by
  cases d <;> simp [D.isB] at h
  rename_i b
  cases b <;> simp

@[simp] theorem aw_cond_t {lf : Nat} {c : XO} {a b : XC} {Q : Ex → St → Prop} (hc : c.ev t = .bool true) : aw C lf (.cond c a b) ⟨t, h⟩ Q = aw C lf a ⟨t, h⟩ Q := by
  rw [aw_cond]; simp only [hc]; rfl
@[simp] theorem aw_cond_f {lf : Nat} {c : XO} {a b : XC} {Q : Ex → St → Prop} (hc : c.ev t = .bool false) : aw C lf (.cond c a b) ⟨t, h⟩ Q = aw C lf b ⟨t, h⟩ Q := by
  rw [aw_cond]; simp only [hc]; rfl
theorem split_cond {lf : Nat} {c : XO} {a b : XC} {Q : Ex → St → Prop} (hb : (c.ev t).isB = true) (h1 : c.ev t = .bool true → aw C lf a ⟨t, h⟩ Q) (h0 : c.ev t = .bool false → aw C lf b ⟨t, h⟩ Q) : aw C lf (.cond c a b) ⟨t, h⟩ Q := by
  rcases isB_cases hb with e | e
  · rw [aw_cond_t e]; exact h1 e
  · rw [aw_cond_f e]; exact h0 e

/-- What follows an operation of a region. -/
def opK (C : Calls) (r : List XOp) (d : Option Nat) (t : Nat → D) (KS : St → Prop) (p : D × List Blk) : Prop := oSat (evOps C r ⟨updO t d p.1, p.2⟩) KS
@[simp] theorem opK_at (r : List XOp) (d : Option Nat) (v : D) : opK C r d t KS (v, h) = oSat (evOps C r ⟨updO t d v, h⟩) KS := id rfl

def opKD (C : Calls) (bs : List Nat) (i : Nat) (fs : List (Nat × Foot)) (f : Foot) (r : List XOp) (d : Option Nat) (t : Nat → D) (KS : St → Prop) (p : D × List Blk) : Prop :=
  feetOK (bs.getD i 0) f fs = true ∧ oSat (evOpsD C bs (i + 1) ((i, f) :: fs) r ⟨updO t d p.1, p.2⟩) KS
@[simp] theorem opKD_at (bs : List Nat) (i : Nat) (fs : List (Nat × Foot)) (f : Foot) (r : List XOp) (d : Option Nat) (v : D) : opKD C bs i fs f r d t KS (v, h) =
  (feetOK (bs.getD i 0) f fs = true ∧ oSat (evOpsD C bs (i + 1) ((i, f) :: fs) r ⟨updO t d v, h⟩) KS) := rfl

def ftK (C : Calls) (bs : List Nat) (i : Nat) (fs : List (Nat × Foot)) (x : X) (r : List XOp) (d : Option Nat) (t : Nat → D) (h : List Blk) (KS : St → Prop) (f : Option Foot) : Prop :=
  oSat f fun f => oSat (evX C true x t h) (opKD C bs i fs f r d t KS)
@[simp] theorem ftK_some (bs : List Nat) (i : Nat) (fs : List (Nat × Foot)) (x : X) (r : List XOp) (d : Option Nat) (f : Foot) : ftK C bs i fs x r d t h KS (some f) = oSat (evX C true x t h) (opKD C bs i fs f r d t KS) := rfl

@[simp] theorem ops_nil : oSat (evOps C [] ⟨t, h⟩) KS = KS ⟨t, h⟩ := id rfl
@[simp] theorem ops_plain (d : Option Nat) (x : X) (r : List XOp) : oSat (evOps C (⟨d, none, x⟩ :: r) ⟨t, h⟩) KS = oSat (evX C false x t h) (opK C r d t KS) := by
  simp only [evOps, evOp, known, wants, cond_true]
  cases evX C false x t h <;> rfl
@[simp] theorem ops_met {d : Option Nat} {i : Nat} {b : Bool} {x : X} {r : List XOp} (hg : t i = .bool b) : oSat (evOps C (⟨d, some (i, b), x⟩ :: r) ⟨t, h⟩) KS = oSat (evX C false x t h) (opK C r d t KS) := by
  simp only [evOps, evOp, known, wants, hg, beq_self_eq_true, cond_true]
  cases evX C false x t h <;> rfl
@[simp] theorem ops_not {d : Option Nat} {i : Nat} {b : Bool} {x : X} {r : List XOp} (hg : t i = .bool !b) : oSat (evOps C (⟨d, some (i, b), x⟩ :: r) ⟨t, h⟩) KS = oSat (evOps C r ⟨updO t d (.tup []), h⟩) KS := by
  simp only [evOps, evOp, known, wants, hg]
  cases b <;> rfl
@[simp] theorem ops_off {d : Option Nat} {i : Nat} {b : Bool} {x : X} {r : List XOp} (hg : t i = .tup []) : oSat (evOps C (⟨d, some (i, b), x⟩ :: r) ⟨t, h⟩) KS = oSat (evOps C r ⟨updO t d (.tup []), h⟩) KS := by
  simp only [evOps, evOp, known, wants, hg]
  rfl
theorem split_ops {d : Option Nat} {i : Nat} {b : Bool} {x : X} {r : List XOp} (hb : (t i).isB = true) (h1 : t i = .bool true → oSat (evOps C (⟨d, some (i, b), x⟩ :: r) ⟨t, h⟩) KS) (h0 : t i = .bool false → oSat (evOps C (⟨d, some (i, b), x⟩ :: r) ⟨t, h⟩) KS) :
    oSat (evOps C (⟨d, some (i, b), x⟩ :: r) ⟨t, h⟩) KS := by
  rcases isB_cases hb with e | e
  · exact h1 e
  · exact h0 e

@[simp] theorem opsD_nil (bs : List Nat) (i : Nat) (fs : List (Nat × Foot)) : oSat (evOpsD C bs i fs [] ⟨t, h⟩) KS = KS ⟨t, h⟩ := rfl
@[simp] theorem opsD_plain (bs : List Nat) (i : Nat) (fs : List (Nat × Foot)) (d : Option Nat) (x : X) (r : List XOp) : oSat (evOpsD C bs i fs (⟨d, none, x⟩ :: r) ⟨t, h⟩) KS =
    ftK C bs i fs x r d t h KS (evFoot C ⟨d, none, x⟩ ⟨t, h⟩) := by
  simp only [evOpsD, evOp, known, wants, cond_true]
  cases evFoot C ⟨d, none, x⟩ ⟨t, h⟩ with
  | none => rfl
  | some f =>
    simp only [oSat_some]
    rw [ftK_some]
    cases hf : feetOK (bs.getD i 0) f fs <;> cases hx : evX C true x t h <;> simp [opKD, ← List.getD_eq_getElem?_getD, hf]
@[simp] theorem opsD_met {bs : List Nat} {i : Nat} {fs : List (Nat × Foot)} {d : Option Nat} {j : Nat} {b : Bool} {x : X} {r : List XOp} (hg : t j = .bool b) : oSat (evOpsD C bs i fs (⟨d, some (j, b), x⟩ :: r) ⟨t, h⟩) KS =
    ftK C bs i fs x r d t h KS (evFoot C ⟨d, none, x⟩ ⟨t, h⟩) := by
  rw [← opsD_plain]
  simp only [evOpsD, evOp, evFoot, known, wants, hg, beq_self_eq_true, cond_true]
@[simp] theorem opsD_not {bs : List Nat} {i : Nat} {fs : List (Nat × Foot)} {d : Option Nat} {j : Nat} {b : Bool} {x : X} {r : List XOp} (hg : t j = .bool !b) : oSat (evOpsD C bs i fs (⟨d, some (j, b), x⟩ :: r) ⟨t, h⟩) KS =
    (feetOK (bs.getD i 0) .none fs = true ∧ oSat (evOpsD C bs (i + 1) ((i, .none) :: fs) r ⟨updO t d (.tup []), h⟩) KS) := by
  have : ((!b) == b) = false := by cases b <;> rfl
  simp only [evOpsD, evOp, evFoot, known, wants, hg, this, cond_false, cond_true]
  cases feetOK (bs.getD i 0) .none fs <;> simp
@[simp] theorem opsD_off {bs : List Nat} {i : Nat} {fs : List (Nat × Foot)} {d : Option Nat} {j : Nat} {b : Bool} {x : X} {r : List XOp} (hg : t j = .tup []) : oSat (evOpsD C bs i fs (⟨d, some (j, b), x⟩ :: r) ⟨t, h⟩) KS =
    (feetOK (bs.getD i 0) .none fs = true ∧ oSat (evOpsD C bs (i + 1) ((i, .none) :: fs) r ⟨updO t d (.tup []), h⟩) KS) := by
  simp only [evOpsD, evOp, evFoot, known, wants, hg, cond_false, cond_true]
  cases feetOK (bs.getD i 0) .none fs <;> simp
theorem split_opsD {bs : List Nat} {i : Nat} {fs : List (Nat × Foot)} {d : Option Nat} {j : Nat} {b : Bool} {x : X} {r : List XOp} (hb : (t j).isB = true) (h1 : t j = .bool true → oSat (evOpsD C bs i fs (⟨d, some (j, b), x⟩ :: r) ⟨t, h⟩) KS)
    (h0 : t j = .bool false → oSat (evOpsD C bs i fs (⟨d, some (j, b), x⟩ :: r) ⟨t, h⟩) KS) : oSat (evOpsD C bs i fs (⟨d, some (j, b), x⟩ :: r) ⟨t, h⟩) KS := by
  rcases isB_cases hb with e | e
  · exact h1 e
  · exact h0 e

theorem x_s {x : X} (hx : x.cls dr C.own = .s) : oSat (evX C dr x t h) K = oSat1 (evS C (XO.ev t) x) h K := by
  simp only [evX, hx]
  cases evS C (XO.ev t) x <;> rfl
theorem x_w {x : X} (hx : x.cls dr C.own = .w) : oSat (evX C dr x t h) K = oSat (evW C h (XO.ev t) x) K := by
  simp only [evX, hx]

@[simp] theorem x_mov (x : XO) : oSat (evX C dr (.mov x) t h) K = K (x.ev t, h) := x_s rfl
@[simp] theorem x_pick_t {c a b : XO} (hc : c.ev t = .bool true) : oSat (evX C dr (.pick c a b) t h) K = K (a.ev t, h) := by
  rw [x_s rfl]; simp only [evS, hc]; rfl
@[simp] theorem x_pick_f {c a b : XO} (hc : c.ev t = .bool false) : oSat (evX C dr (.pick c a b) t h) K = K (b.ev t, h) := by
  rw [x_s rfl]; simp only [evS, hc]; rfl
theorem split_pick {c a b : XO} (hb : (c.ev t).isB = true) (h1 : c.ev t = .bool true → K (a.ev t, h)) (h0 : c.ev t = .bool false → K (b.ev t, h)) : oSat (evX C dr (.pick c a b) t h) K := by
  rcases isB_cases hb with e | e
  · rw [x_pick_t e]; exact h1 e
  · rw [x_pick_f e]; exact h0 e
def boxK (h : List Blk) (K : D × List Blk → Prop) (x : Option (List D)) : Prop := oSat x fun cs => K (.ptr h.length 0 cs.length, h ++ [⟨cs, 0, true⟩])
@[simp] theorem boxK_some (cs : List D) : boxK h K (some cs) = K (.ptr h.length 0 cs.length, h ++ [⟨cs, 0, true⟩]) := rfl
def bldK (h : List Blk) (K : D × List Blk → Prop) (x : Option (List D)) : Prop := oSat x fun cs => K (.agg cs, h)
@[simp] theorem bldK_some (cs : List D) : bldK h K (some cs) = K (.agg cs, h) := rfl
def frzK (n : Nat) (K : D × List Blk → Prop) (x : Option (List D × List Blk)) : Prop := oSat x fun p => K (.arr n true p.1, p.2)
@[simp] theorem frzK_some (n : Nat) (cs : List D) : frzK n K (some (cs, h)) = K (.arr n true cs, h) := rfl
def blsK (n : Nat) (h : List Blk) (K : D × List Blk → Prop) (x : Option (List D)) : Prop := oSat x fun cs => frzK n K (freezeL cs h)
@[simp] theorem blsK_some (n : Nat) (cs : List D) : blsK n h K (some cs) = frzK n K (freezeL cs h) := rfl
def seaK (n : Nat) (h : List Blk) (K : D × List Blk → Prop) (x : Option (List D)) : Prop := oSat x fun cs => K (.arr n true cs, h)
@[simp] theorem seaK_some (n : Nat) (cs : List D) : seaK n h K (some cs) = K (.arr n true cs, h) := rfl
def bldKD (n : Nat) (h : List Blk) (K : D × List Blk → Prop) (x : Option (List D)) : Prop := oSat x fun cs => seaK n h K (sealL cs)
@[simp] theorem bldKD_some (n : Nat) (cs : List D) : bldKD n h K (some cs) = seaK n h K (sealL cs) := rfl
def calD (C : Calls) (f : FuncId) (h : List Blk) (K : D × List Blk → Prop) (x : Option (List D)) : Prop := oSat x fun ds => oSat1 (C.pc f ds) h K
@[simp] theorem calD_some (f : FuncId) (ds : List D) : calD C f h K (some ds) = oSat1 (C.pc f ds) h K := rfl
def calK (C : Calls) (f : FuncId) (K : D × List Blk → Prop) (x : Option (List D × List Blk)) : Prop := oSat x fun p => oSat1 (C.pc f p.1) p.2 K
@[simp] theorem calK_some (f : FuncId) (ds : List D) : calK C f K (some (ds, h)) = oSat1 (C.pc f ds) h K := rfl

@[simp] theorem x_box (x : XO) : oSat (evX C dr (.box x) t h) K = boxK h K (x.ev t).cells := by
  rw [x_w rfl]
  simp only [evW]
  cases (x.ev t).cells <;> rfl
@[simp] theorem x_alloc (z : List D) : oSat (evX C dr (.alloc z) t h) K = K (.ptr h.length 0 z.length, h ++ [⟨z, 0, true⟩]) := x_w rfl
@[simp] theorem x_build (z : List D) (ps : List (Nat × Nat × XO)) : oSat (evX C dr (.build z ps) t h) K = bldK h K (fillD z (ps.map fun (o, s, x) => (o, s, x.ev t))) := by
  rw [x_s rfl]
  simp only [evS]
  cases fillD z (ps.map fun (o, s, x) => (o, s, x.ev t)) <;> rfl
@[simp] theorem x_buildSlice (n : Nat) (z : List D) (ps : List (Nat × Nat × XO)) : oSat (evX C false (.buildSlice n z ps) t h) K = blsK n h K (fillD z (ps.map fun (o, s, x) => (o, s, x.ev t))) := by
  rw [x_w rfl]
  simp only [evW]
  cases fillD z (ps.map fun (o, s, x) => (o, s, x.ev t)) with
  | none => rfl
  | some cs => simp only [blsK_some]; cases freezeL cs h <;> rfl
def newK (sz : Nat) (h : List Blk) (K : D × List Blk → Prop) (x : Option (List D)) : Prop := oSat x fun cs => oSat (freezeL cs h) fun p => p.1.length = sz ∧ K (.ref p.2.length 0 1 sz sz true, p.2 ++ [⟨p.1, 0, false⟩])
@[simp] theorem newK_some (sz : Nat) (cs : List D) : newK sz h K (some cs) = oSat (freezeL cs h) fun p => p.1.length = sz ∧ K (.ref p.2.length 0 1 sz sz true, p.2 ++ [⟨p.1, 0, false⟩]) := rfl
@[simp] theorem x_newSlice (sz : Nat) (z : List D) (ps : List (Nat × Nat × XO)) : oSat (evX C dr (.newSlice sz z ps) t h) K = newK sz h K (fillD z (ps.map fun (o, s, x) => (o, s, x.ev t))) := by
  rw [x_w rfl]
  simp only [evW]
  cases fillD z (ps.map fun (o, s, x) => (o, s, x.ev t)) with
  | none => rfl
  | some cs =>
    simp only [newK_some]
    cases freezeL cs h with
    | none => rfl
    | some p =>
      obtain ⟨a, b⟩ := p
      by_cases hl : a.length = sz <;> simp [hl]
@[simp] theorem x_buildSliceD (n : Nat) (z : List D) (ps : List (Nat × Nat × XO)) : oSat (evX C true (.buildSlice n z ps) t h) K = bldKD n h K (fillD z (ps.map fun (o, s, x) => (o, s, x.ev t))) := by
  rw [x_s rfl]
  simp only [evS]
  cases fillD z (ps.map fun (o, s, x) => (o, s, x.ev t)) with
  | none => rfl
  | some cs => simp only [bldKD_some]; cases sealL cs <;> rfl
@[simp] theorem x_field (sz : Option Nat) (o : Nat) (x : XO) : oSat (evX C dr (.field sz o x) t h) K = oSat1 (evS C (XO.ev t) (.field sz o x)) h K := x_s rfl
@[simp] theorem x_index (n sz : Nat) (ag : Bool) (x i : XO) : oSat (evX C dr (.index n sz ag x i) t h) K = oSat1 (evS C (XO.ev t) (.index n sz ag x i)) h K := x_s rfl
@[simp] theorem x_indexStr (x i : XO) : oSat (evX C dr (.indexStr x i) t h) K = oSat1 (evS C (XO.ev t) (.indexStr x i)) h K := x_s rfl
@[simp] theorem x_sliceStr (x : XO) (lo hi : Option XO) : oSat (evX C dr (.sliceStr x lo hi) t h) K = oSat1 (evS C (XO.ev t) (.sliceStr x lo hi)) h K := x_s rfl
@[simp] theorem x_bin (op : BinOp) (x y : XO) : oSat (evX C dr (.bin op x y) t h) K = oSat1 (evBin op (x.ev t) (y.ev t)) h K := x_s rfl
@[simp] theorem x_binB (op : BinOp) (x y : XO) : oSat (evX C dr (.binB op x y) t h) K = oSat1 (evBinB op (x.ev t) (y.ev t)) h K := x_s rfl
@[simp] theorem x_eqAgg (ks : List Nat) (ng : Bool) (x y : XO) : oSat (evX C dr (.eqAgg ks ng x y) t h) K = oSat1 (evS C (XO.ev t) (.eqAgg ks ng x y)) h K := x_s rfl
@[simp] theorem x_un (op : UnOp) (x : XO) : oSat (evX C dr (.un op x) t h) K = oSat1 (evUn op (x.ev t)) h K := x_s rfl
@[simp] theorem x_conv (k : IntKind) (x : XO) : oSat (evX C dr (.conv k x) t h) K = oSat1 (evS C (XO.ev t) (.conv k x)) h K := x_s rfl
@[simp] theorem x_extract (x : XO) (i : Nat) : oSat (evX C dr (.extract x i) t h) K = oSat1 (evS C (XO.ev t) (.extract x i)) h K := x_s rfl
@[simp] theorem x_lenStr (x : XO) : oSat (evX C dr (.lenStr x) t h) K = oSat1 (evS C (XO.ev t) (.lenStr x)) h K := x_s rfl
@[simp] theorem x_min (xs : List XO) : oSat (evX C dr (.min xs) t h) K = oSat1 (evS C (XO.ev t) (.min xs)) h K := x_s rfl
@[simp] theorem x_max (xs : List XO) : oSat (evX C dr (.max xs) t h) K = oSat1 (evS C (XO.ev t) (.max xs)) h K := x_s rfl
@[simp] theorem x_mkfn (f : Fn) (a b : List XO) : oSat (evX C dr (.mkfn f a b) t h) K = K (.fn f (a.map (XO.ev t)) (b.map (XO.ev t)), h) := x_s rfl
@[simp] theorem x_nilCheck (x : XO) : oSat (evX C dr (.nilCheck x) t h) K = oSat1 (evS C (XO.ev t) (.nilCheck x)) h K := x_s rfl
@[simp] theorem x_mkifc (ty : TypeId) (x : XO) : oSat (evX C dr (.mkifc ty x) t h) K = K (.ifc ty (x.ev t), h) := x_s rfl
@[simp] theorem x_callD {f : FuncId} {xs : List XO} (hm : C.mode f = 0) : oSat (evX C true (.call f xs) t h) K = calD C f h K (sealVs (xs.map (XO.ev t))) := by
  rw [x_s (by simp [X.cls, Calls.own, hm])]
  simp only [evS, hm, if_true]
  cases sealVs (xs.map (XO.ev t)) <;> rfl
@[simp] theorem x_callM {f : FuncId} {xs : List XO} (hm : C.mode f = 3 ∨ C.mode f = 4) : oSat (evX C true (.call f xs) t h) K = oSat (callW C h f (xs.map (XO.ev t))) K := x_w (by simp only [X.cls, Calls.own]; rcases hm with hm | hm <;> rw [hm] <;> rfl)
@[simp] theorem x_callO {f : FuncId} {xs : List XO} (hm : C.mode f = 1) : oSat (evX C true (.call f xs) t h) K = oSat (callW C h f (xs.map (XO.ev t))) K := x_w (by simp [X.cls, Calls.own, hm])
@[simp] theorem x_call (f : FuncId) (xs : List XO) : oSat (evX C false (.call f xs) t h) K = oSat (callW C h f (xs.map (XO.ev t))) K := x_w rfl
def callvD (C : Calls) (h : List Blk) (f : D) (args : List D) : Option (D × List Blk) := match f with
  | .fn (.func g) first cap => callW C h g (first ++ args ++ cap)
  | _ => none
@[simp] theorem callvD_fn (g : FuncId) (a b args : List D) : callvD C h (.fn (.func g) a b) args = callW C h g (a ++ args ++ b) := rfl
@[simp] theorem x_callv (f : XO) (xs : List XO) : oSat (evX C dr (.callv f xs) t h) K = oSat (callvD C h (f.ev t) (xs.map (XO.ev t))) K := x_w rfl

theorem callW_pure {f : FuncId} {ds : List D} (hm : C.mode f = 0) (ht : ds.any D.tied = false) : oSat (callW C h f ds) K = calK C f K (freezeVs ds h) := by
  simp only [callW, hm, ht]
  cases freezeVs ds h with
  | none => rfl
  | some p => simp [calK]; cases C.pc f p.1 <;> rfl

/-- A call whose answer the caller may write. -/
def own1 (r : Option (D × List Blk)) (h' : List Blk) : Option (D × List Blk) := match r with
  | some (.ref b off n sz gen full, h1) => match h1[b]? with
    | some blk => if blk.cs.length = gen ∧ blk.box = false ∧ blk.fz = 0 then some (.ref h'.length off n sz gen full, h' ++ [blk]) else none
    | none => none
  | some (.arr n full cs, _) => some (.arr n full cs, h')
  | _ => none
def ownK (C : Calls) (f : FuncId) (K : D × List Blk → Prop) (x : Option (List D × List Blk)) : Prop := oSat x fun p => oSat (own1 (C.oc f p.1) p.2) K
@[simp] theorem ownK_some (f : FuncId) (ds : List D) : ownK C f K (some (ds, h)) = oSat (own1 (C.oc f ds) h) K := rfl
@[simp] theorem own1_ref (b off n sz gen : Nat) (full : Bool) (h1 h' : List Blk) : own1 (some (.ref b off n sz gen full, h1)) h' = (match h1[b]? with
    | some blk => if blk.cs.length = gen ∧ blk.box = false ∧ blk.fz = 0 then some (.ref h'.length off n sz gen full, h' ++ [blk]) else none
    | none => none) := rfl
@[simp] theorem own1_arr (n : Nat) (full : Bool) (cs : List D) (h1 h' : List Blk) : own1 (some (.arr n full cs, h1)) h' = some (.arr n full cs, h') := rfl
theorem callW_own {f : FuncId} {ds : List D} (hm : C.mode f = 1) (ht : ds.any D.tied = false) : oSat (callW C h f ds) K = ownK C f K (freezeVs ds h) := by
  simp only [callW, hm, ht]
  cases freezeVs ds h with
  | none => rfl
  | some p =>
    simp only [ownK, own1, oSat_some]
    rfl
theorem callW_full {f : FuncId} {ds : List D} (hm : C.mode f = 2) : oSat (callW C h f ds) K = oSat (C.fc f ds h) K := by
  simp only [callW, hm]; rfl
theorem callW_tied {f : FuncId} {ds : List D} (ht : ds.any D.tied = true) (h3 : ¬ C.mode f = 3) (h4 : ¬ C.mode f = 4) : oSat (callW C h f ds) K = oSat (C.fc f ds h) K := by
  simp only [callW, ht, h3, h4, if_false]; simp
theorem callW_lend {f : FuncId} {ds : List D} (hm : C.mode f = 3) : oSat (callW C h f ds) K = oSat (lendF C h f ds) K := by
  simp only [callW, hm]; rfl
theorem callW_keep {f : FuncId} {ds : List D} (hm : C.mode f = 4) : oSat (callW C h f ds) K = oSat (lendW (lendK C f) h ds) K := by
  simp only [callW, hm]; rfl
@[simp] theorem lendS_at (m : FuncId → Nat) (f : FuncId) (ds : List D) (h : List Blk) : lendS (C.at m) f ds h = lendS C f ds h := rfl
@[simp] theorem lendK_at (m : FuncId → Nat) (f : FuncId) (ds : List D) (h : List Blk) : lendK (C.at m) f ds h = lendK C f ds h := rfl
@[simp] theorem callW_nil {f : FuncId} (hm : C.mode f = 0) : oSat (callW C h f []) K = oSat1 (C.pc f []) h K := by
  rw [callW_pure hm rfl]; rfl

@[simp] theorem evBin_add (k : IntKind) (a b : Int) : evBin .add (.int k a) (.int k b) = some (.int k (k.wrap (a + b))) := by simp [evBin]
@[simp] theorem evBin_sub (k : IntKind) (a b : Int) : evBin .sub (.int k a) (.int k b) = some (.int k (k.wrap (a - b))) := by simp [evBin]
@[simp] theorem evBin_mul (k : IntKind) (a b : Int) : evBin .mul (.int k a) (.int k b) = some (.int k (k.wrap (a * b))) := by simp [evBin]
@[simp] theorem evBin_quo (k : IntKind) (a b : Int) : evBin .quo (.int k a) (.int k b) = if b = 0 then none else some (.int k (k.wrap (a.tdiv b))) := by simp [evBin]
@[simp] theorem evBin_rem (k : IntKind) (a b : Int) : evBin .rem (.int k a) (.int k b) = if b = 0 then none else some (.int k (a.tmod b)) := by simp [evBin]
@[simp] theorem evBin_and (k : IntKind) (a b : Int) : evBin .and (.int k a) (.int k b) = some (.int k (k.wrap (BitVec.ofInt k.bits a &&& BitVec.ofInt k.bits b).toNat)) := by simp [evBin]
@[simp] theorem evBin_shr (k : IntKind) (a b : Int) : evBin .shr (.int k a) (.int k b) = if b < 0 then none else some (.int k (a.fdiv (2 ^ (min b.toNat k.bits)))) := by simp [evBin]
@[simp] theorem evBin_eql (k : IntKind) (a b : Int) : evBin .eql (.int k a) (.int k b) = some (.bool (decide (a = b))) := by simp [evBin, Bool.beq_eq_decide_eq, BEq.beq]
@[simp] theorem evBin_neq (k : IntKind) (a b : Int) : evBin .neq (.int k a) (.int k b) = some (.bool (decide (a ≠ b))) := by simp [evBin, bne, BEq.beq]
@[simp] theorem evBin_lss (k : IntKind) (a b : Int) : evBin .lss (.int k a) (.int k b) = some (.bool (decide (a < b))) := by simp [evBin]
@[simp] theorem evBin_leq (k : IntKind) (a b : Int) : evBin .leq (.int k a) (.int k b) = some (.bool (decide (a ≤ b))) := by simp [evBin]
@[simp] theorem evBin_gtr (k : IntKind) (a b : Int) : evBin .gtr (.int k a) (.int k b) = some (.bool (decide (b < a))) := by simp [evBin]
@[simp] theorem evBin_geq (k : IntKind) (a b : Int) : evBin .geq (.int k a) (.int k b) = some (.bool (decide (b ≤ a))) := by simp [evBin]
@[simp] theorem evBin_strEq (a b : ByteArray) : evBin .eql (.str a) (.str b) = some (.bool (a.toList == b.toList)) := rfl
@[simp] theorem evBin_strNe (a b : ByteArray) : evBin .neq (.str a) (.str b) = some (.bool (!(a.toList == b.toList))) := rfl
@[simp] theorem evBin_strAdd (a b : ByteArray) : evBin .add (.str a) (.str b) = if a.size + b.size ≤ 1099511627776 then some (.str (a ++ b)) else none := rfl

end

theorem wrap_i64 {x : Int} (h : -9223372036854775808 ≤ x ∧ x ≤ 9223372036854775807) : IntKind.i64.wrap x = x := IntWalk.i64_in x h

theorem wrap_i32 {x : Int} (h : -2147483648 ≤ x ∧ x ≤ 2147483647) : IntKind.i32.wrap x = x := by
  simp only [IntKind.wrap, IntKind.signed, IntKind.bits]
  simp
  omega

/-! ### The operations as functions of data -/

def nilD (is : Bool) : D → Option D
  | .arr n _ _ => some (if n = 0 then .anyb else .bool !is)
  | .ref _ _ n _ _ _ => some (if n = 0 then .anyb else .bool !is)
  | _ => none
def capD : D → Option D
  | .arr n true _ => some (.int .i64 n)
  | .ref _ _ n _ _ true => some (.int .i64 n)
  | _ => none
def clearD (h : List Blk) (sz : Nat) (zero : List D) : D → Option (D × List Blk)
  | .arr n _ _ => if n = 0 then some (.tup [], h) else none
  | .ref b off n k gen _ => match h[b]? with
    | some blk => if blk.cs.length = gen ∧ off + n * sz ≤ gen ∧ k = sz ∧ blk.box = false ∧ blk.fz ≤ off ∧ zero.length = sz then
        some (.tup [], h.set b ⟨putAt blk.cs off (zeros zero n), blk.fz, false⟩) else if n = 0 then some (.tup [], h) else none
    | none => none
  | _ => none
def lenD : D → Option D
  | .arr n _ _ => some (.int .i64 n)
  | .ref _ _ n _ _ _ => some (.int .i64 n)
  | _ => none
def sliceD (sz : Nat) (x : D) (lo hi mx : Option D) : Option D := match x with
  | .arr n full cs => match bnds n lo hi mx with
    | some (l, h, m) => some (.arr (h - l) (match m with | none => full && h == n | some m => h == m) ((cs.drop (l * sz)).take ((h - l) * sz)))
    | none => none
  | .ref b off n k g full => match bnds n lo hi mx with
    | some (l, h, m) => if k = sz ∧ roomB full n h m (off + n * sz) g = true then some (.ref b (off + l * sz) (h - l) sz g (match m with | none => full && h == n | some m => h == m)) else none
    | none => none
  | _ => none
def idxD (sz : Nat) (x i : D) : Option D := match x, i with
  | .arr n _ cs, .int _ i => if 0 ≤ i ∧ i < n then some (.cptr (cs.drop (i.toNat * sz))) else none
  | .ref b off n _ g _, .int _ i => if 0 ≤ i ∧ i < n then some (.ptr b (off + i.toNat * sz) g) else none
  | _, _ => none
def elD (len sz : Nat) (x i : D) : Option D := match x, i with
  | .cptr cs, .int _ i => if 0 ≤ i ∧ i < len ∧ i.toNat * sz ≤ cs.length then some (.cptr (cs.drop (i.toNat * sz))) else none
  | .ptr b o g, .int _ i => if 0 ≤ i ∧ i < len then some (.ptr b (o + i.toNat * sz) g) else none
  | _, _ => none
def faD (off : Nat) (a : D) : Option D := match a with
  | .ptr b o g => some (.ptr b (o + off) g)
  | .cptr cs => if off ≤ cs.length then some (.cptr (cs.drop off)) else none
  | _ => none
def loadD (h : List Blk) (sz : Option Nat) (a : D) : Option D := match a with
  | .cptr cs => take1 cs 0 sz
  | .ptr b o g => match h[b]? with
    | some blk => if blk.cs.length = g then take1 blk.cs o sz else none
    | none => none
  | _ => none
def appD (h : List Blk) (sz bytes : Nat) (s x : D) : Option (D × List Blk) := match contents h x with
  | some (m, cs2) => if m = 0 then (match s with | .arr .. => some (s, h) | .ref .. => some (s, h) | _ => none)
    else if cs2.length = m * sz then match s with
    | .arr n full cs => if full = true ∧ cs.length = n * sz ∧ (n + m) * bytes ≤ 140737488355328 ∧ n + m ≤ 1099511627776 then
        some (.ref h.length 0 (n + m) sz ((n + m) * sz) false, h ++ [⟨cs ++ cs2, 0, false⟩]) else none
    | .ref b off n sz' gen full => match h[b]? with
      | some blk => if off + n * sz < gen then
          (if blk.cs.length = gen ∧ sz' = sz ∧ blk.box = false ∧ full = false ∧ off + (n + m) * sz ≤ gen ∧ blk.fz ≤ off + n * sz then
            some (.ref b off (n + m) sz gen false, h.set b ⟨putAt blk.cs (off + n * sz) cs2, blk.fz, false⟩) else none)
          else if blk.cs.length = gen ∧ off + n * sz = gen ∧ sz' = sz ∧ blk.box = false ∧ (n + m) * bytes ≤ 140737488355328 ∧ n + m ≤ 1099511627776 then
          (bif full then some (.ref h.length 0 (n + m) sz ((n + m) * sz) false, h ++ [⟨blk.cs.drop off ++ cs2, 0, false⟩])
           else if off = 0 then some (.ref b 0 (n + m) sz ((n + m) * sz) false, h.set b ⟨blk.cs ++ cs2, blk.fz, false⟩) else none) else none
      | none => none
    | _ => none
    else none
  | none => none
def copyD (h : List Blk) (sz : Nat) (d s : D) : Option (D × List Blk) := match contents h s, d with
  | some (m, cs2), .ref b off n sz' gen _ => match h[b]? with
    | some blk => if blk.cs.length = gen ∧ off + n * sz ≤ gen ∧ sz' = sz ∧ blk.box = false ∧ blk.fz ≤ off ∧ cs2.length = m * sz then
        some (.int .i64 (Nat.min m n : Nat), h.set b ⟨putAt blk.cs off (cs2.take (Nat.min m n * sz)), blk.fz, false⟩) else none
    | none => none
  | some (m, _), .arr n _ _ => if n = 0 ∨ m = 0 then some (.int .i64 0, h) else none
  | _, _ => none
def appZD (h : List Blk) (sz bytes : Nat) (zero : List D) (s x : D) : Option (D × List Blk) := match s, x with
    | .arr n full cs, .int .i64 m => if m = 0 then some (.arr n full cs, h)
      else if 0 < m ∧ full = true ∧ cs.length = n * sz ∧ (n + m.toNat) * bytes ≤ 140737488355328 ∧ n + m.toNat ≤ 1099511627776 then
        some (.ref h.length 0 (n + m.toNat) sz ((n + m.toNat) * sz) false, h ++ [⟨cs ++ zeros zero m.toNat, 0, false⟩]) else none
    | _, _ => none
@[simp] theorem appZD_int (h : List Blk) (sz bytes : Nat) (zero : List D) (n : Nat) (full : Bool) (cs : List D) (m : Int) : appZD h sz bytes zero (.arr n full cs) (.int .i64 m) = if m = 0 then some (.arr n full cs, h)
      else if 0 < m ∧ full = true ∧ cs.length = n * sz ∧ (n + m.toNat) * bytes ≤ 140737488355328 ∧ n + m.toNat ≤ 1099511627776 then
        some (.ref h.length 0 (n + m.toNat) sz ((n + m.toNat) * sz) false, h ++ [⟨cs ++ zeros zero m.toNat, 0, false⟩]) else none := rfl
def storeD (h : List Blk) (sz : Nat) (a : D) (v : Option (List D)) : Option (D × List Blk) := match a, v with
  | .ptr b o g, some new => match h[b]? with
    | some blk => if blk.cs.length = g ∧ blk.fz ≤ o ∧ o + sz ≤ g ∧ new.length = sz then
        (bif blk.box then some (.tup [], h.set b ⟨putAt blk.cs o new, blk.fz, true⟩)
         else match sealL new with
          | some new => some (.tup [], h.set b ⟨putAt blk.cs o new, blk.fz, false⟩)
          | none => match freezeL new h with
            | some (new, h') => match h'[b]? with
              | some blk' => if blk'.cs.length = g ∧ blk'.fz ≤ o ∧ blk'.box = false then some (.tup [], h'.set b ⟨putAt blk'.cs o new, blk'.fz, false⟩) else none
              | none => none
            | none => none) else none
    | none => none
  | _, _ => none

def storeS (h : List Blk) (sz b o g : Nat) (new : List D) (cs : List D) (fz : Nat) (x : Option (List D)) : Option (D × List Blk) := match x with
  | some new' => if cs.length = g ∧ fz ≤ o ∧ o + sz ≤ g ∧ new.length = sz then some (.tup [], h.set b ⟨putAt cs o new', fz, false⟩) else none
  | none => storeD h sz (.ptr b o g) (some new)
@[simp] theorem storeS_some (h : List Blk) (sz b o g : Nat) (new new' : List D) (cs : List D) (fz : Nat) : storeS h sz b o g new cs fz (some new') =
    if cs.length = g ∧ fz ≤ o ∧ o + sz ≤ g ∧ new.length = sz then some (.tup [], h.set b ⟨putAt cs o new', fz, false⟩) else none := rfl
def storeB (h : List Blk) (sz b o g : Nat) (new : List D) (x : Option Blk) : Option (D × List Blk) := match x with
  | some ⟨cs, fz, true⟩ => if cs.length = g ∧ fz ≤ o ∧ o + sz ≤ g ∧ new.length = sz then some (.tup [], h.set b ⟨putAt cs o new, fz, true⟩) else none
  | some ⟨cs, fz, false⟩ => storeS h sz b o g new cs fz (sealL new)
  | none => none
@[simp] theorem storeB_box (h : List Blk) (sz b o g : Nat) (new : List D) (cs : List D) (fz : Nat) : storeB h sz b o g new (some ⟨cs, fz, true⟩) =
    if cs.length = g ∧ fz ≤ o ∧ o + sz ≤ g ∧ new.length = sz then some (.tup [], h.set b ⟨putAt cs o new, fz, true⟩) else none := rfl
@[simp] theorem storeB_arr (h : List Blk) (sz b o g : Nat) (new : List D) (cs : List D) (fz : Nat) : storeB h sz b o g new (some ⟨cs, fz, false⟩) = storeS h sz b o g new cs fz (sealL new) := rfl
@[simp] theorem storeB_none (h : List Blk) (sz b o g : Nat) (new : List D) : storeB h sz b o g new none = none := rfl
@[simp] theorem storeD_ptr (h : List Blk) (sz b o g : Nat) (new : List D) : storeD h sz (.ptr b o g) (some new) = storeB h sz b o g new h[b]? := by
  simp only [storeD, storeB]
  cases hb : h[b]? with
  | none => rfl
  | some blk =>
    obtain ⟨cs, fz, box⟩ := blk
    cases box
    · simp only [cond_false, storeS]
      cases hs : sealL new with
      | none => simp only [storeD, hb, cond_false, hs]
      | some n => rfl
    · rfl

@[simp] theorem storeS_none {h : List Blk} {sz b o g : Nat} {new cs : List D} {fz : Nat} (hb : h[b]? = some ⟨cs, fz, false⟩) (hs : sealL new = none) : storeS h sz b o g new cs fz none =
    if cs.length = g ∧ fz ≤ o ∧ o + sz ≤ g ∧ new.length = sz then (match freezeL new h with
      | some (new, h') => match h'[b]? with
        | some blk' => if blk'.cs.length = g ∧ blk'.fz ≤ o ∧ blk'.box = false then some (.tup [], h'.set b ⟨putAt blk'.cs o new, blk'.fz, false⟩) else none
        | none => none
      | none => none) else none := by
  simp only [storeS, storeD, hb, cond_false, hs]

def makeD (h : List Blk) (sz bytes : Nat) (zero : List D) (l c : D) : Option (D × List Blk) := match l, c with
  | .int .i64 l, .int .i64 c => if 0 ≤ l ∧ l ≤ c ∧ c ≤ 1099511627776 ∧ c * bytes ≤ 140737488355328 then
      some (.ref h.length 0 l.toNat sz (l.toNat * sz) (l == c), h ++ [⟨zeros zero l.toNat, 0, false⟩]) else none
  | _, _ => none
@[simp] theorem makeD_int (h : List Blk) (sz bytes : Nat) (zero : List D) (l c : Int) : makeD h sz bytes zero (.int .i64 l) (.int .i64 c) = if 0 ≤ l ∧ l ≤ c ∧ c ≤ 1099511627776 ∧ c * bytes ≤ 140737488355328 then
      some (.ref h.length 0 l.toNat sz (l.toNat * sz) (l == c), h ++ [⟨zeros zero l.toNat, 0, false⟩]) else none := rfl

section
variable {C : Calls} {dr : Bool} {t : Nat → D} {h : List Blk} {K : D × List Blk → Prop}
@[simp] theorem x_makeSlice (sz bytes : Nat) (z : List D) (l c : XO) : oSat (evX C dr (.makeSlice sz bytes z l c) t h) K = oSat (makeD h sz bytes z (l.ev t) (c.ev t)) K := x_w rfl
@[simp] theorem x_isNil (is : Bool) (x : XO) : oSat (evX C dr (.isNil is x) t h) K = oSat1 (nilD is (x.ev t)) h K := x_s rfl
@[simp] theorem x_isNilP (is : Bool) (x : XO) : oSat (evX C dr (.isNilP is x) t h) K = oSat1 (evS C (XO.ev t) (.isNilP is x)) h K := x_s rfl
@[simp] theorem x_cap (x : XO) : oSat (evX C dr (.cap x) t h) K = oSat1 (capD (x.ev t)) h K := x_s rfl
@[simp] theorem x_clear (sz : Nat) (z : List D) (x : XO) : oSat (evX C dr (.clear sz z x) t h) K = oSat (clearD h sz z (x.ev t)) K := x_w rfl
@[simp] theorem x_len (x : XO) : oSat (evX C dr (.len x) t h) K = oSat1 (lenD (x.ev t)) h K := x_s rfl
@[simp] theorem x_slice (sz : Nat) (x : XO) (lo hi mx : Option XO) : oSat (evX C dr (.slice sz x lo hi mx) t h) K = oSat1 (sliceD sz (x.ev t) (lo.map (XO.ev t)) (hi.map (XO.ev t)) (mx.map (XO.ev t))) h K := x_s rfl
@[simp] theorem x_indexAddr (sz : Nat) (x i : XO) : oSat (evX C dr (.indexAddr sz x i) t h) K = oSat1 (idxD sz (x.ev t) (i.ev t)) h K := x_s rfl
@[simp] theorem x_elemAddr (len sz : Nat) (x i : XO) : oSat (evX C dr (.elemAddr len sz x i) t h) K = oSat1 (elD len sz (x.ev t) (i.ev t)) h K := x_s rfl
@[simp] theorem x_fieldAddr (o : Nat) (x : XO) : oSat (evX C dr (.fieldAddr o x) t h) K = oSat1 (faD o (x.ev t)) h K := x_s rfl
@[simp] theorem x_load (sz : Option Nat) (a : XO) : oSat (evX C dr (.load sz a) t h) K = oSat1 (loadD h sz (a.ev t)) h K := by
  simp only [evX, X.cls]
  change oSat (match evL h (XO.ev t) sz a with | some d => some (d, h) | none => none) K = oSat1 (evL h (XO.ev t) sz a) h K
  cases evL h (XO.ev t) sz a <;> rfl
@[simp] theorem x_append (sz bytes : Nat) (s x : XO) : oSat (evX C dr (.append sz bytes s x) t h) K = oSat (appD h sz bytes (s.ev t) (x.ev t)) K := x_w rfl
@[simp] theorem x_appendZ (sz bytes : Nat) (z : List D) (s x : XO) : oSat (evX C dr (.appendZ sz bytes z s x) t h) K = oSat (appZD h sz bytes z (s.ev t) (x.ev t)) K := x_w rfl
@[simp] theorem x_copy (sz : Nat) (d s : XO) : oSat (evX C dr (.copy sz d s) t h) K = oSat (copyD h sz (d.ev t) (s.ev t)) K := x_w rfl
@[simp] theorem x_store (sz : Nat) (a v : XO) : oSat (evX C dr (.store sz a v) t h) K = oSat (storeD h sz (a.ev t) (v.ev t).cells) K := x_w rfl

@[simp] theorem res_tmp (i : Nat) : evRes ⟨t, h⟩ (.tmp i) = some (t i) := rfl
@[simp] theorem res_cell (i : Nat) (sz : Option Nat) : evRes ⟨t, h⟩ (.cell i sz) = loadD h sz (t i) := rfl
end

/-! ### Rows: slices of data of one type -/

structure Cell (α : Type) where
  enc : α → List D
  sz : Nat
  len : ∀ a, (enc a).length = sz
  inj : ∀ a b, enc a = enc b → a = b
  sealed : ∀ a, sealL (enc a) = some (enc a)

def cells {α : Type} (E : Cell α) (l : List α) : List D := l.flatMap E.enc
/-- A row: nobody writes it. -/
def row {α : Type} (E : Cell α) (b : Bool) (l : List α) : D := .arr l.length b (cells E l)
/-- The address of element k's part behind 'off' cells of it. -/
def cpr {α : Type} (E : Cell α) (l : List α) (k off : Nat) : D := .cptr ((cells E (l.drop k)).drop off)

section
variable {α : Type} {E : Cell α}

@[simp] theorem cells_nil : cells E [] = [] := rfl
@[simp] theorem cells_cons (a : α) (l : List α) : cells E (a :: l) = E.enc a ++ cells E l := rfl
@[simp] theorem cells_append (l r : List α) : cells E (l ++ r) = cells E l ++ cells E r := by simp [cells]
@[simp] theorem cells_length (l : List α) : (cells E l).length = l.length * E.sz := by
  induction l with
  | nil => simp
  | cons a l ih => simp [ih, E.len, Nat.add_mul]; omega
theorem cells_drop (l : List α) : (k : Nat) → (cells E l).drop (k * E.sz) = cells E (l.drop k) := by
  induction l with
  | nil => simp
  | cons a l ih =>
    intro k
    cases k with
    | zero => simp
    | succ k =>
      rw [Nat.add_mul, Nat.one_mul, Nat.add_comm, ← List.drop_drop, cells_cons, List.drop_left' (E.len a), ih]
      rfl
theorem cells_take (l : List α) : (k : Nat) → (cells E l).take (k * E.sz) = cells E (l.take k) := by
  induction l with
  | nil => simp
  | cons a l ih =>
    intro k
    cases k with
    | zero => simp
    | succ k =>
      have h1 : (k + 1) * E.sz = (E.enc a).length + k * E.sz := by rw [E.len, Nat.add_mul]; omega
      rw [h1, cells_cons, List.take_length_add_append, ih]
      rfl
theorem cells_inj : (l r : List α) → l.length = r.length → cells E l = cells E r → l = r
  | [], [], _, _ => rfl
  | a :: l, b :: r, hl, h => by
    simp only [cells_cons] at h
    obtain ⟨h1, h2⟩ := List.append_inj h (by rw [E.len, E.len])
    rw [E.inj _ _ h1, cells_inj l r (by simpa using hl) h2]
@[simp] theorem row_inj (b : Bool) (l r : List α) : row E b l = row E b r ↔ l = r := by
  constructor
  · intro h
    simp only [row, D.arr.injEq] at h
    exact cells_inj l r h.1 h.2.2
  · rintro rfl; rfl
theorem row_is {n : Nat} {b : Bool} {cs : List D} {l : List α} (hn : n = l.length) (hc : cs = cells E l) : D.arr n b cs = row E b l := by subst hn; subst hc; rfl

@[simp] theorem cells_take1 (hs : E.sz = 1) (l : List α) (k : Nat) : (cells E l).take k = cells E (l.take k) := by rw [← cells_take, hs, Nat.mul_one]
@[simp] theorem cells_drop1 (hs : E.sz = 1) (l : List α) (k : Nat) : (cells E l).drop k = cells E (l.drop k) := by rw [← cells_drop, hs, Nat.mul_one]
/-- r laid over l, from k on. -/
def over (l : List α) (k : Nat) (r : List α) : List α := l.take k ++ r ++ l.drop (k + r.length)
@[simp] theorem putAt_cells (hs : E.sz = 1) (l r : List α) (k : Nat) : putAt (cells E l) k (cells E r) = cells E (over l k r) := by
  simp only [putAt, over, cells_append, cells_length, hs, Nat.mul_one, cells_take1 hs, cells_drop1 hs]

theorem putAt_one (hs : E.sz = 1) (l : List α) (x : α) (i : Nat) (h : i < l.length) : putAt (cells E l) i (E.enc x) = cells E (l.set i x) := by
  have e : E.enc x = cells E [x] := by simp
  rw [e, putAt_cells hs, over, List.set_eq_take_append_cons_drop, if_pos h]
  simp
@[simp] theorem nilD_row (is b : Bool) (l : List α) : nilD is (row E b l) = some (if l = [] then .anyb else .bool !is) := by
  simp [nilD, row]
@[simp] theorem own1_row (b : Bool) (l : List α) (h1 h' : List Blk) : own1 (some (row E b l, h1)) h' = some (row E b l, h') := rfl
@[simp] theorem lenD_row (b : Bool) (l : List α) : lenD (row E b l) = some (.int .i64 l.length) := rfl
theorem sliceD_row_aux {sz : Nat} (hs : sz = E.sz) {b b' : Bool} {l : List α} {x y : Nat} (hx : x ≤ y) (hy : y ≤ l.length) : D.arr (y - x) b' (((cells E l).drop (x * sz)).take ((y - x) * sz)) = row E b' ((l.drop x).take (y - x)) := by
  subst hs
  rw [cells_drop, cells_take]
  exact row_is (by simp; omega) rfl
/-- A row's slice: from x, up to y. -/
@[simp] theorem sliceD_row {sz : Nat} (hs : sz = E.sz) (b : Bool) (l : List α) (x y : Int) (kx ky : IntKind) : sliceD sz (row E b l) (some (.int kx x)) (some (.int ky y)) none =
    if 0 ≤ x ∧ x ≤ y ∧ y ≤ l.length then some (row E (b && y.toNat == l.length) ((l.drop x.toNat).take (y.toNat - x.toNat))) else none := by
  simp only [sliceD, row, bnds, bnd1]
  by_cases hx : 0 ≤ x <;> by_cases hy : 0 ≤ y <;> simp only [hx, hy, if_true, if_false, true_and, false_and]
  · by_cases h : x.toNat ≤ y.toNat ∧ y.toNat ≤ l.length
    · rw [if_pos h, if_pos (by omega)]
      simp only []
      rw [sliceD_row_aux (b := b) hs h.1 h.2]; rfl
    · rw [if_neg h, if_neg (by omega)]
  · rw [if_neg (by omega)]
  all_goals rfl
@[simp] theorem sliceD_row_lo {sz : Nat} (hs : sz = E.sz) (b : Bool) (l : List α) (x : Int) (kx : IntKind) : sliceD sz (row E b l) (some (.int kx x)) none none =
    if 0 ≤ x ∧ x ≤ l.length then some (row E b (l.drop x.toNat)) else none := by
  simp only [sliceD, row, bnds, bnd1]
  by_cases hx : 0 ≤ x <;> simp only [hx, if_true, if_false, true_and, false_and]
  · by_cases h : x.toNat ≤ l.length
    · rw [if_pos (by omega), if_pos (by omega)]
      simp only []
      rw [sliceD_row_aux (b := b) hs h (Nat.le_refl _), List.take_of_length_le (by simp)]
      simp [row]
    · rw [if_neg (by omega), if_neg (by omega)]
@[simp] theorem sliceD_row_hi {sz : Nat} (hs : sz = E.sz) (b : Bool) (l : List α) (y : Int) (ky : IntKind) : sliceD sz (row E b l) none (some (.int ky y)) none =
    if 0 ≤ y ∧ y ≤ l.length then some (row E (b && y.toNat == l.length) (l.take y.toNat)) else none := by
  simp only [sliceD, row, bnds, bnd1]
  by_cases hx : 0 ≤ y <;> simp only [hx, if_true, if_false, true_and, false_and]
  · by_cases h : y.toNat ≤ l.length
    · rw [if_pos (by omega), if_pos (by omega)]
      simp only []
      rw [sliceD_row_aux (b := b) hs (Nat.zero_le _) h]; rfl
    · rw [if_neg (by omega), if_neg (by omega)]
@[simp] theorem sliceD_row_max {sz : Nat} (hs : sz = E.sz) (b : Bool) (l : List α) (y z : Int) (ky kz : IntKind) : sliceD sz (row E b l) none (some (.int ky y)) (some (.int kz z)) =
    if 0 ≤ y ∧ y ≤ z ∧ z ≤ l.length then some (row E (y.toNat == z.toNat) (l.take y.toNat)) else none := by
  simp only [sliceD, row, bnds, bnd1]
  by_cases hx : 0 ≤ y <;> simp only [hx, if_true, if_false, true_and, false_and]
  · by_cases h : y ≤ z ∧ z ≤ l.length
    · rw [if_pos (by omega), if_pos (by omega)]
      simp only []
      rw [sliceD_row_aux (b := b) hs (Nat.zero_le _) (by omega)]; rfl
    · rw [if_neg (by omega), if_neg (by omega)]
@[simp] theorem sliceD_row_3 {sz : Nat} (hs : sz = E.sz) (b : Bool) (l : List α) (x y z : Int) (kx ky kz : IntKind) : sliceD sz (row E b l) (some (.int kx x)) (some (.int ky y)) (some (.int kz z)) =
    if 0 ≤ x ∧ x ≤ y ∧ y ≤ z ∧ z ≤ l.length then some (row E (y.toNat == z.toNat) ((l.drop x.toNat).take (y.toNat - x.toNat))) else none := by
  simp only [sliceD, row, bnds, bnd1]
  by_cases hx : 0 ≤ x <;> by_cases hy : 0 ≤ y <;> simp only [hx, hy, if_true, if_false, true_and, false_and]
  · by_cases h : x ≤ y ∧ y ≤ z ∧ z ≤ l.length
    · rw [if_pos (by omega), if_pos (by omega)]
      simp only []
      rw [sliceD_row_aux (b := b) hs (by omega) (by omega)]; rfl
    · rw [if_neg (by omega), if_neg (by omega)]
  · rw [if_neg (by omega)]
  all_goals rfl
@[simp] theorem idxD_row {sz : Nat} (hs : sz = E.sz) (b : Bool) (l : List α) (i : Int) (k : IntKind) : idxD sz (row E b l) (.int k i) = if 0 ≤ i ∧ i < l.length then some (cpr E l i.toNat 0) else none := by
  subst hs
  simp only [idxD, row, cpr, cells_drop, List.drop_zero]
@[simp] theorem elD_cpr {len sz : Nat} {l : List α} (hs : sz = E.sz) (hl : len = l.length) (k : IntKind) (i : Int) : elD len sz (cpr E l 0 0) (.int k i) = if 0 ≤ i ∧ i < len then some (cpr E l i.toNat 0) else none := by
  subst hs hl
  simp only [elD, cpr, List.drop_zero, cells_drop, cells_length]
  by_cases h : 0 ≤ i ∧ i < l.length
  · have : i.toNat * E.sz ≤ l.length * E.sz := Nat.mul_le_mul_right _ (by omega)
    rw [if_pos ⟨h.1, h.2, this⟩, if_pos h]
  · rw [if_neg h, if_neg (fun q => h ⟨q.1, q.2.1⟩)]
@[simp] theorem faD_cpr (l : List α) (k o off : Nat) : faD off (cpr E l k o) = if off ≤ (l.length - k) * E.sz - o then some (cpr E l k (o + off)) else none := by
  simp [faD, cpr]
theorem cells_at {l : List α} {k : Nat} (h : k < l.length) : cells E (l.drop k) = E.enc l[k] ++ cells E (l.drop (k + 1)) := by rw [List.drop_eq_getElem_cons h]; rfl
theorem loadD_cpr {h : List Blk} {l : List α} {k o : Nat} (hk : k < l.length) (ho : o < E.sz) : loadD h none (cpr E l k o) = (E.enc l[k])[o]? := by
  simp only [loadD, cpr, take1, cells_at hk]
  rw [List.getElem?_drop, List.getElem?_append_left (by rw [E.len]; omega), Nat.add_zero]
theorem loadD_cprs {h : List Blk} {l : List α} {k o n : Nat} (hk : k < l.length) (ho : o + n ≤ E.sz) : loadD h (some n) (cpr E l k o) = some (.agg (((E.enc l[k]).drop o).take n)) := by
  have h1 : o ≤ (E.enc l[k]).length := by rw [E.len]; omega
  simp only [loadD, cpr, take1, cells_at hk, Nat.zero_add]
  rw [if_pos (by simp [E.len]; omega), List.drop_zero, List.drop_append_of_le_length h1, List.take_append_of_le_length (by simp [E.len]; omega)]
@[simp] theorem contents_row (h : List Blk) (b : Bool) (l : List α) : contents h (row E b l) = some (l.length, cells E l) := rfl
@[simp] theorem freeze1_row (h : List Blk) (b : Bool) (l : List α) : freeze1 (row E b l) h = some (row E false l, h) := rfl
@[simp] theorem freezeV_row (h : List Blk) (b : Bool) (l : List α) : freezeV (row E b l) h = some (row E false l, h) := rfl
@[simp] theorem freezeR_row (h : List Blk) (b : Bool) (l : List α) : freezeR (row E b l) h = some (row E false l, h) := rfl
@[simp] theorem seal1_row (b : Bool) (l : List α) : seal1 (row E b l) = some (row E false l) := rfl
@[simp] theorem sealV_row (b : Bool) (l : List α) : sealV (row E b l) = some (row E false l) := rfl
@[simp] theorem tied_row (b : Bool) (l : List α) : (row E b l).tied = false := rfl
@[simp] theorem cells_row (b : Bool) (l : List α) : (row E b l).cells = some [row E b l] := rfl
@[simp] theorem appD_row {sz : Nat} (hs : sz = E.sz) (h : List Blk) (bytes : Nat) (b b' : Bool) (l r : List α) : appD h sz bytes (row E b l) (row E b' r) = if r = [] then some (row E b l, h) else
    if b = true ∧ (l.length + r.length) * bytes ≤ 140737488355328 ∧ l.length + r.length ≤ 1099511627776 then
      some (.ref h.length 0 (l.length + r.length) sz ((l.length + r.length) * sz) false, h ++ [⟨cells E (l ++ r), 0, false⟩]) else none := by
  subst hs
  simp only [appD, contents_row, cells_append]
  by_cases hr : r = []
  · subst hr; simp [row]
  · have h0 : r.length ≠ 0 := by simpa using hr
    simp only [h0, if_false, cells_length, if_true, hr]
    simp [row]
@[simp] theorem appD_row_nil {β : Type} {E' : Cell β} {sz : Nat} (hs : sz = E'.sz) (h : List Blk) (bytes : Nat) (b b' : Bool) (r : List β) : appD h sz bytes (row E b []) (row E' b' r) = if r = [] then some (row E b [], h) else
    if b = true ∧ r.length * bytes ≤ 140737488355328 ∧ r.length ≤ 1099511627776 then
      some (.ref h.length 0 r.length sz (r.length * sz) false, h ++ [⟨cells E' r, 0, false⟩]) else none := by
  have e : row E b [] = row E' b [] := rfl
  rw [e, appD_row hs]
  simp
@[simp] theorem appD_nil_row {sz : Nat} (hs : sz = E.sz) (h : List Blk) (bytes : Nat) (b b' : Bool) (r : List α) : appD h sz bytes (.arr 0 b []) (row E b' r) = if r = [] then some (.arr 0 b [], h) else
    if b = true ∧ r.length * bytes ≤ 140737488355328 ∧ r.length ≤ 1099511627776 then
      some (.ref h.length 0 r.length sz (r.length * sz) false, h ++ [⟨cells E r, 0, false⟩]) else none := by
  have e : D.arr 0 b [] = row E b [] := rfl
  rw [e, appD_row hs]
  simp
@[simp] theorem arr_cells (b : Bool) (l : List α) : D.arr l.length b (cells E l) = row E b l := rfl
@[simp] theorem arr_app (b : Bool) (l r : List α) : D.arr (l.length + r.length) b (cells E l ++ cells E r) = row E b (l ++ r) := row_is (by simp) (by simp)
@[simp] theorem take_app (hs : E.sz = 1) (l r : List α) : (cells E l ++ cells E r).take (l.length + r.length) = cells E l ++ cells E r := List.take_of_length_le (by simp [hs])
@[simp] theorem tie_arr (n : Nat) (f : Bool) (cs : List D) : (D.arr n f cs).tied = false := rfl
@[simp] theorem tie_ref (b off n sz g : Nat) (f : Bool) : (D.ref b off n sz g f).tied = false := rfl
@[simp] theorem tie_int (k : IntKind) (n : Int) : (D.int k n).tied = false := rfl
@[simp] theorem tie_bool (b : Bool) : (D.bool b).tied = false := rfl
@[simp] theorem tie_str (s : ByteArray) : (D.str s).tied = false := rfl
@[simp] theorem tie_nilp : D.nilp.tied = false := rfl
@[simp] theorem tie_fn (f : Fn) (a b : List D) : (D.fn f a b).tied = !(a.isEmpty && b.isEmpty) := rfl
@[simp] theorem tie_nilf : D.nilf.tied = false := rfl
@[simp] theorem tie_nili : D.nili.tied = false := rfl
def tiedC : D → Bool
  | .ptr .. => true | .fn _ a b => !(a.isEmpty && b.isEmpty) | .ifc .. => true | _ => false
@[simp] theorem tie_agg (cs : List D) : (D.agg cs).tied = cs.any tiedC := rfl
@[simp] theorem tieC_row (b : Bool) (l : List α) : tiedC (row E b l) = false := rfl
@[simp] theorem tieC_arr (n : Nat) (f : Bool) (cs : List D) : tiedC (D.arr n f cs) = false := rfl
@[simp] theorem tieC_ref (b off n sz g : Nat) (f : Bool) : tiedC (D.ref b off n sz g f) = false := rfl
@[simp] theorem tieC_int (k : IntKind) (n : Int) : tiedC (D.int k n) = false := rfl
@[simp] theorem tieC_bool (b : Bool) : tiedC (D.bool b) = false := rfl
@[simp] theorem tieC_str (s : ByteArray) : tiedC (D.str s) = false := rfl
@[simp] theorem tieC_nilp : tiedC D.nilp = false := rfl
@[simp] theorem tieC_fn (f : Fn) (a b : List D) : tiedC (D.fn f a b) = !(a.isEmpty && b.isEmpty) := rfl
@[simp] theorem tieC_nilf : tiedC D.nilf = false := rfl
@[simp] theorem tieC_nili : tiedC D.nili = false := rfl
end

@[simp] theorem one_int (k : IntKind) (n : Int) : (D.int k n).cells = some [.int k n] := rfl
@[simp] theorem one_bool (b : Bool) : (D.bool b).cells = some [.bool b] := rfl
@[simp] theorem one_str (s : ByteArray) : (D.str s).cells = some [.str s] := rfl
@[simp] theorem one_arr (n : Nat) (f : Bool) (cs : List D) : (D.arr n f cs).cells = some [.arr n f cs] := rfl
@[simp] theorem one_ref (b off n sz g : Nat) (f : Bool) : (D.ref b off n sz g f).cells = some [.ref b off n sz g f] := rfl
@[simp] theorem one_nilp : D.nilp.cells = some [.nilp] := rfl
@[simp] theorem one_nilf : D.nilf.cells = some [.nilf] := rfl
@[simp] theorem one_nili : D.nili.cells = some [.nili] := rfl
@[simp] theorem one_ptr (b o g : Nat) : (D.ptr b o g).cells = some [.ptr b o g] := rfl
@[simp] theorem one_fn (f : Fn) (a b : List D) : (D.fn f a b).cells = some [.fn f a b] := rfl
@[simp] theorem one_agg (cs : List D) : (D.agg cs).cells = some cs := rfl

section
variable (h : List Blk)
@[simp] theorem fz_int (k : IntKind) (n : Int) : freeze1 (.int k n) h = some (.int k n, h) := rfl
@[simp] theorem fz_bool (b : Bool) : freeze1 (.bool b) h = some (.bool b, h) := rfl
@[simp] theorem fz_str (s : ByteArray) : freeze1 (.str s) h = some (.str s, h) := rfl
@[simp] theorem fz_arr (n : Nat) (f : Bool) (cs : List D) : freeze1 (.arr n f cs) h = some (.arr n false cs, h) := rfl
@[simp] theorem fz_nilp : freeze1 .nilp h = some (.nilp, h) := rfl
@[simp] theorem fz_fn (f : Fn) : freeze1 (.fn f [] []) h = some (.fn f [] [], h) := rfl
@[simp] theorem fz_nilf : freeze1 .nilf h = some (.nilf, h) := rfl
@[simp] theorem fz_nili : freeze1 .nili h = some (.nili, h) := rfl
@[simp] theorem fz_ref (b off n sz g : Nat) (f : Bool) : freeze1 (.ref b off n sz g f) h = match h[b]? with
    | some blk => if blk.cs.length = g ∧ off + n * sz ≤ g ∧ blk.box = false then
        some (.arr n false ((blk.cs.drop off).take (n * sz)), h.set b ⟨blk.cs, max blk.fz (off + n * sz), false⟩) else none
    | none => none := rfl
@[simp] theorem fv_int (k : IntKind) (n : Int) : freezeV (.int k n) h = some (.int k n, h) := rfl
@[simp] theorem fv_bool (b : Bool) : freezeV (.bool b) h = some (.bool b, h) := rfl
@[simp] theorem fv_str (s : ByteArray) : freezeV (.str s) h = some (.str s, h) := rfl
@[simp] theorem fv_arr (n : Nat) (f : Bool) (cs : List D) : freezeV (.arr n f cs) h = some (.arr n false cs, h) := rfl
@[simp] theorem fv_nilp : freezeV .nilp h = some (.nilp, h) := rfl
@[simp] theorem fv_fn (f : Fn) : freezeV (.fn f [] []) h = some (.fn f [] [], h) := rfl
@[simp] theorem fv_nilf : freezeV .nilf h = some (.nilf, h) := rfl
@[simp] theorem fv_nili : freezeV .nili h = some (.nili, h) := rfl
@[simp] theorem fv_ref (b off n sz g : Nat) (f : Bool) : freezeV (.ref b off n sz g f) h = freeze1 (.ref b off n sz g f) h := rfl
@[simp] theorem fv_agg (cs : List D) : freezeV (.agg cs) h = match freezeL cs h with | some (cs', h') => some (.agg cs', h') | none => none := rfl
@[simp] theorem fr_int (k : IntKind) (n : Int) : freezeR (.int k n) h = some (.int k n, h) := rfl
@[simp] theorem fr_bool (b : Bool) : freezeR (.bool b) h = some (.bool b, h) := rfl
@[simp] theorem fr_str (s : ByteArray) : freezeR (.str s) h = some (.str s, h) := rfl
@[simp] theorem fr_arr (n : Nat) (f : Bool) (cs : List D) : freezeR (.arr n f cs) h = some (.arr n false cs, h) := rfl
@[simp] theorem fr_nilp : freezeR .nilp h = some (.nilp, h) := rfl
@[simp] theorem fr_nilf : freezeR .nilf h = some (.nilf, h) := rfl
@[simp] theorem fr_nili : freezeR .nili h = some (.nili, h) := rfl
@[simp] theorem fr_ref (b off n sz g : Nat) (f : Bool) : freezeR (.ref b off n sz g f) h = freeze1 (.ref b off n sz g f) h := rfl
@[simp] theorem fr_agg (cs : List D) : freezeR (.agg cs) h = freezeV (.agg cs) h := rfl
@[simp] theorem fr_tup (vs : List D) : freezeR (.tup vs) h = match freezeVs vs h with | some (vs', h') => some (.tup vs', h') | none => none := rfl
@[simp] theorem ct_arr (n : Nat) (f : Bool) (cs : List D) : contents h (.arr n f cs) = some (n, cs) := rfl
@[simp] theorem ct_ref (b off n sz g : Nat) (f : Bool) : contents h (.ref b off n sz g f) = match h[b]? with
    | some blk => if blk.cs.length = g ∧ off + n * sz ≤ g ∧ blk.box = false then some (n, (blk.cs.drop off).take (n * sz)) else none
    | none => none := rfl
end
@[simp] theorem sl_int (k : IntKind) (n : Int) : seal1 (.int k n) = some (.int k n) := rfl
@[simp] theorem sl_bool (b : Bool) : seal1 (.bool b) = some (.bool b) := rfl
@[simp] theorem sl_str (s : ByteArray) : seal1 (.str s) = some (.str s) := rfl
@[simp] theorem sl_arr (n : Nat) (f : Bool) (cs : List D) : seal1 (.arr n f cs) = some (.arr n false cs) := rfl
@[simp] theorem sl_ref (b off n sz g : Nat) (f : Bool) : seal1 (.ref b off n sz g f) = none := id rfl
@[simp] theorem sl_nilp : seal1 .nilp = some .nilp := rfl
@[simp] theorem sl_fn (f : Fn) : seal1 (.fn f [] []) = some (.fn f [] []) := rfl
@[simp] theorem sl_nilf : seal1 .nilf = some .nilf := rfl
@[simp] theorem sl_nili : seal1 .nili = some .nili := rfl
@[simp] theorem sv_int (k : IntKind) (n : Int) : sealV (.int k n) = some (.int k n) := rfl
@[simp] theorem sv_bool (b : Bool) : sealV (.bool b) = some (.bool b) := rfl
@[simp] theorem sv_str (s : ByteArray) : sealV (.str s) = some (.str s) := rfl
@[simp] theorem sv_arr (n : Nat) (f : Bool) (cs : List D) : sealV (.arr n f cs) = some (.arr n false cs) := rfl
@[simp] theorem sv_nilp : sealV .nilp = some .nilp := rfl
@[simp] theorem sv_fn (f : Fn) : sealV (.fn f [] []) = some (.fn f [] []) := rfl
@[simp] theorem sv_nilf : sealV .nilf = some .nilf := rfl
@[simp] theorem sv_nili : sealV .nili = some .nili := rfl
@[simp] theorem sv_agg (cs : List D) : sealV (.agg cs) = match sealL cs with | some cs => some (.agg cs) | none => none := rfl

/-! What is read and written in a region whose order is open. -/
def footA : D → Foot
  | .ptr b _ _ => .rd b
  | _ => .none
def footS (h : List Blk) (a v : D) : Option Foot := match a with
  | .ptr b _ _ => bif storeLight h b v then some (.wr [b] h.length) else some (.wr (List.range h.length) h.length)
  | _ => none
def footAp (h : List Blk) (s x : D) : Option Foot := match s, x with
  | .arr .., .arr .. => some (.wr [] h.length)
  | .ref b .., .arr .. => some (.wr [b] h.length)
  | _, _ => none
def footCp (h : List Blk) (d s : D) : Option Foot := match d, s with
  | .ref b .., .arr .. => some (.wr [b] h.length)
  | .ref b .., .ref .. => some (.wr [b] h.length)
  | .arr .., .arr .. => some (.wr [] h.length)
  | _, _ => none
section
variable {α β : Type} {E : Cell α} {E' : Cell β} {C : Calls} (h : List Blk) (ρ : XO → D)
@[simp] theorem footR_load (sz : Option Nat) (a : XO) : footR ρ (.load sz a) = footA (ρ a) := rfl
@[simp] theorem footA_ptr (b o g : Nat) : footA (.ptr b o g) = .rd b := rfl
@[simp] theorem footA_cptr (cs : List D) : footA (.cptr cs) = .none := rfl
@[simp] theorem footA_cpr (l : List α) (k o : Nat) : footA (cpr E l k o) = .none := rfl
@[simp] theorem footW_box (x : XO) : footW C h ρ (.box x) = some (.wr [] h.length) := rfl
@[simp] theorem footW_alloc (x : List D) : footW C h ρ (.alloc x) = some (.wr [] h.length) := rfl
@[simp] theorem footW_make (a b : Nat) (z : List D) (l c : XO) : footW C h ρ (.makeSlice a b z l c) = some (.wr [] h.length) := rfl
@[simp] theorem footW_store (sz : Nat) (a v : XO) : footW C h ρ (.store sz a v) = footS h (ρ a) (ρ v) := rfl
@[simp] theorem footS_ptr (b o g : Nat) (v : D) : footS h (.ptr b o g) v = if storeLight h b v = true then some (.wr [b] h.length) else some (.wr (List.range h.length) h.length) := by
  cases hs : storeLight h b v <;> simp [footS, hs]
@[simp] theorem footW_call (f : FuncId) (xs : List XO) : footW C h ρ (.call f xs) = if C.mode f = 1 ∧ (xs.map ρ).any D.tied = false ∧ (sealVs (xs.map ρ)).isSome = true then some (.wr [] h.length) else some (.wr (List.range h.length) h.length) := rfl
@[simp] theorem footW_callv (f : XO) (xs : List XO) : footW C h ρ (.callv f xs) = some (.wr (List.range h.length) h.length) := rfl
@[simp] theorem footW_append (a b : Nat) (s x : XO) : footW C h ρ (.append a b s x) = footAp h (ρ s) (ρ x) := rfl
@[simp] theorem footAp_rr (b b' : Bool) (l : List α) (r : List β) : footAp h (row E b l) (row E' b' r) = some (.wr [] h.length) := rfl
@[simp] theorem footAp_ar (n : Nat) (b b' : Bool) (cs : List D) (r : List β) : footAp h (.arr n b cs) (row E' b' r) = some (.wr [] h.length) := rfl
@[simp] theorem footAp_ra (n : Nat) (b b' : Bool) (cs : List D) (l : List α) : footAp h (row E b l) (.arr n b' cs) = some (.wr [] h.length) := rfl
@[simp] theorem footAp_aa (n n' : Nat) (b b' : Bool) (cs cs' : List D) : footAp h (.arr n b cs) (.arr n' b' cs') = some (.wr [] h.length) := rfl
@[simp] theorem footAp_fr (b off n sz g : Nat) (f b' : Bool) (r : List β) : footAp h (.ref b off n sz g f) (row E' b' r) = some (.wr [b] h.length) := rfl
@[simp] theorem footAp_fa (b off n sz g n' : Nat) (f b' : Bool) (cs : List D) : footAp h (.ref b off n sz g f) (.arr n' b' cs) = some (.wr [b] h.length) := rfl
@[simp] theorem footW_copy (a : Nat) (s x : XO) : footW C h ρ (.copy a s x) = footCp h (ρ s) (ρ x) := rfl
@[simp] theorem footCp_fr (b off n sz g : Nat) (f b' : Bool) (r : List β) : footCp h (.ref b off n sz g f) (row E' b' r) = some (.wr [b] h.length) := rfl
@[simp] theorem footCp_fa (b off n sz g n' : Nat) (f b' : Bool) (cs : List D) : footCp h (.ref b off n sz g f) (.arr n' b' cs) = some (.wr [b] h.length) := rfl
@[simp] theorem footCp_ff (b off n sz g b' off' n' sz' g' : Nat) (f f' : Bool) : footCp h (.ref b off n sz g f) (.ref b' off' n' sz' g' f') = some (.wr [b] h.length) := rfl
@[simp] theorem footCp_rr (b b' : Bool) (l : List α) (r : List β) : footCp h (row E b l) (row E' b' r) = some (.wr [] h.length) := rfl
@[simp] theorem fits_nl (f : Foot) : Foot.none.fits f = true := by cases f <;> rfl
@[simp] theorem fits_nr (f : Foot) : f.fits Foot.none = true := by cases f <;> rfl
@[simp] theorem fits_rr (a b : Nat) : (Foot.rd a).fits (.rd b) = true := rfl
@[simp] theorem fits_rw (a : Nat) (bs : List Nat) (n : Nat) : (Foot.rd a).fits (.wr bs n) = (!bs.contains a && decide (a < n)) := rfl
@[simp] theorem fits_wr (a : Nat) (bs : List Nat) (n : Nat) : (Foot.wr bs n).fits (.rd a) = (!bs.contains a && decide (a < n)) := rfl
@[simp] theorem fits_ww (bs cs : List Nat) (n m : Nat) : (Foot.wr bs n).fits (.wr cs m) = false := rfl
end

@[simp] theorem toNat_add (a b : Nat) : ((a : Int) + (b : Int)).toNat = a + b := by omega
@[simp] theorem min_self_add (a b : Nat) : min a (a + b) = a := by omega
section
variable {α : Type}
theorem over_length {l r : List α} {k : Nat} (h : k + r.length ≤ l.length) : (over l k r).length = l.length := by simp [over]; omega
@[simp] theorem over_zero (x : α) (l : List α) (b : Nat) : over (List.replicate (l.length + b) x) 0 l = l ++ List.replicate b x := by simp [over]
@[simp] theorem over_rest (x : α) (l r : List α) : over (l ++ List.replicate r.length x) l.length r = l ++ r := by simp [over]
end

@[simp] theorem putAt_nil (cs : List D) : putAt cs 0 [] = cs := by simp [putAt]
@[simp] theorem putAt_head (a v : D) (cs new : List D) : putAt (a :: cs) 0 (v :: new) = v :: putAt cs 0 new := by simp [putAt]
@[simp] theorem putAt_tail (a : D) (cs new : List D) (n : Nat) : putAt (a :: cs) (n + 1) new = a :: putAt cs n new := by simp [putAt, Nat.add_right_comm]
section
variable {α : Type} {E : Cell α} (h : List Blk) (sz bytes b off n k g m : Nat) (full f : Bool) (r : List α) (cs2 : List D)
@[simp] theorem appD_ref_row (hs : sz = E.sz) : appD h sz bytes (.ref b off n k g full) (row E f r) = if r = [] then some (.ref b off n k g full, h) else match h[b]? with
      | some blk => if off + n * sz < g then
          (if blk.cs.length = g ∧ k = sz ∧ blk.box = false ∧ full = false ∧ off + (n + r.length) * sz ≤ g ∧ blk.fz ≤ off + n * sz then
            some (.ref b off (n + r.length) sz g false, h.set b ⟨putAt blk.cs (off + n * sz) (cells E r), blk.fz, false⟩) else none)
          else if blk.cs.length = g ∧ off + n * sz = g ∧ k = sz ∧ blk.box = false ∧ (n + r.length) * bytes ≤ 140737488355328 ∧ n + r.length ≤ 1099511627776 then
          (bif full then some (.ref h.length 0 (n + r.length) sz ((n + r.length) * sz) false, h ++ [⟨blk.cs.drop off ++ cells E r, 0, false⟩])
           else if off = 0 then some (.ref b 0 (n + r.length) sz ((n + r.length) * sz) false, h.set b ⟨blk.cs ++ cells E r, blk.fz, false⟩) else none) else none
      | none => none := by
  subst hs
  simp only [appD, contents_row]
  by_cases hr : r = []
  · subst hr; simp
  · have h0 : r.length ≠ 0 := by simpa using hr
    simp only [h0, if_false, cells_length, if_true, hr]
@[simp] theorem appD_ref_arr : appD h sz bytes (.ref b off n k g full) (.arr m f cs2) = if m = 0 then some (.ref b off n k g full, h) else if cs2.length = m * sz then match h[b]? with
      | some blk => if off + n * sz < g then
          (if blk.cs.length = g ∧ k = sz ∧ blk.box = false ∧ full = false ∧ off + (n + m) * sz ≤ g ∧ blk.fz ≤ off + n * sz then
            some (.ref b off (n + m) sz g false, h.set b ⟨putAt blk.cs (off + n * sz) cs2, blk.fz, false⟩) else none)
          else if blk.cs.length = g ∧ off + n * sz = g ∧ k = sz ∧ blk.box = false ∧ (n + m) * bytes ≤ 140737488355328 ∧ n + m ≤ 1099511627776 then
          (bif full then some (.ref h.length 0 (n + m) sz ((n + m) * sz) false, h ++ [⟨blk.cs.drop off ++ cs2, 0, false⟩])
           else if off = 0 then some (.ref b 0 (n + m) sz ((n + m) * sz) false, h.set b ⟨blk.cs ++ cs2, blk.fz, false⟩) else none) else none
      | none => none else none := rfl
@[simp] theorem appD_row_arr : appD h sz bytes (row E full r) (.arr m f cs2) = if m = 0 then some (row E full r, h) else if cs2.length = m * sz then
      (if full = true ∧ r.length * E.sz = r.length * sz ∧ (r.length + m) * bytes ≤ 140737488355328 ∧ r.length + m ≤ 1099511627776 then
          some (.ref h.length 0 (r.length + m) sz ((r.length + m) * sz) false, h ++ [⟨cells E r ++ cs2, 0, false⟩]) else none) else none := by
  rw [← cells_length]; rfl
end

@[simp] theorem minD_int (k : IntKind) (x y : Int) : minD (.int k x) (.int k y) = some (.int k (min x y)) := by
  simp only [minD, if_true]; congr 2; rw [Int.min_def]; split <;> split <;> omega
@[simp] theorem maxD_int (k : IntKind) (x y : Int) : maxD (.int k x) (.int k y) = some (.int k (max x y)) := by
  simp only [maxD, if_true]; congr 2; rw [Int.max_def]; split <;> split <;> omega
theorem split_ite {α : Type} {p : Prop} [Decidable p] {x y : Option α} {Q : α → Prop} (h1 : p → oSat x Q) (h0 : ¬ p → oSat y Q) : oSat (if p then x else y) Q := by
  by_cases hp : p
  · rw [if_pos hp]; exact h1 hp
  · rw [if_neg hp]; exact h0 hp
theorem split_ite1 {p : Prop} [Decidable p] {x y : Option D} {h : List Blk} {Q : D × List Blk → Prop} (h1 : p → oSat1 x h Q) (h0 : ¬ p → oSat1 y h Q) : oSat1 (if p then x else y) h Q := by
  by_cases hp : p
  · rw [if_pos hp]; exact h1 hp
  · rw [if_neg hp]; exact h0 hp

@[simp] theorem natMin (a b : Nat) : Nat.min a b = min a b := rfl

@[simp] theorem roomB_self (full : Bool) (n e g : Nat) : roomB full n n none e g = true := by simp [roomB]
@[simp] theorem roomB_free (n h e g : Nat) : roomB false n h none e g = true := by simp [roomB]
@[simp] theorem roomB_full (n h e g : Nat) : (roomB true n h none e g = true) = (h = n ∨ g ≤ e) := by simp [roomB]
section
variable (b off n k g sz : Nat) (full : Bool)
@[simp] theorem sliceD_ref (x y : Int) (kx ky : IntKind) : sliceD sz (.ref b off n k g full) (some (.int kx x)) (some (.int ky y)) none =
    if 0 ≤ x ∧ x ≤ y ∧ y ≤ n ∧ k = sz ∧ roomB full n y.toNat none (off + n * sz) g = true then some (.ref b (off + x.toNat * sz) (y.toNat - x.toNat) sz g (full && y.toNat == n)) else none := by
  simp only [sliceD, bnds, bnd1]
  by_cases hx : 0 ≤ x <;> by_cases hy : 0 ≤ y <;> simp only [hx, hy, if_true, if_false, true_and, false_and]
  · by_cases h : x.toNat ≤ y.toNat ∧ y.toNat ≤ n
    · rw [if_pos h]
      by_cases hk : k = sz ∧ roomB full n y.toNat none (off + n * sz) g = true
      · rw [if_pos ⟨by omega, by omega, hk⟩]; simp only [hk, and_self, if_true, hk.1]
      · rw [if_neg (fun h => hk h.2.2)]; simp only [hk, if_false]
    · rw [if_neg h, if_neg (by omega)]
  · rw [if_neg (by omega)]
  all_goals rfl
@[simp] theorem sliceD_ref_lo (x : Int) (kx : IntKind) : sliceD sz (.ref b off n k g full) (some (.int kx x)) none none =
    if 0 ≤ x ∧ x ≤ n ∧ k = sz then some (.ref b (off + x.toNat * sz) (n - x.toNat) sz g full) else none := by
  simp only [sliceD, bnds, bnd1, roomB_self]
  by_cases hx : 0 ≤ x <;> simp only [hx, if_true, if_false, true_and, false_and]
  · by_cases h : x.toNat ≤ n
    · rw [if_pos ⟨h, Nat.le_refl _⟩]
      by_cases hk : k = sz
      · rw [if_pos (by omega)]; simp [hk]
      · rw [if_neg (by omega)]; simp [hk]
    · rw [if_neg (by omega), if_neg (by omega)]
@[simp] theorem sliceD_ref_hi (y : Int) (ky : IntKind) : sliceD sz (.ref b off n k g full) none (some (.int ky y)) none =
    if 0 ≤ y ∧ y ≤ n ∧ k = sz ∧ roomB full n y.toNat none (off + n * sz) g = true then some (.ref b off y.toNat sz g (full && y.toNat == n)) else none := by
  simp only [sliceD, bnds, bnd1]
  by_cases hx : 0 ≤ y <;> simp only [hx, if_true, if_false, true_and, false_and]
  · by_cases h : y.toNat ≤ n
    · rw [if_pos ⟨Nat.zero_le _, h⟩]
      by_cases hk : k = sz ∧ roomB full n y.toNat none (off + n * sz) g = true
      · rw [if_pos ⟨by omega, hk⟩]; simp only [hk, and_self, if_true, hk.1]; simp
      · rw [if_neg (fun h => hk h.2)]; simp only [hk, if_false]
    · rw [if_neg (by omega), if_neg (by omega)]
@[simp] theorem sliceD_ref_max (y z : Int) (ky kz : IntKind) : sliceD sz (.ref b off n k g full) none (some (.int ky y)) (some (.int kz z)) =
    if 0 ≤ y ∧ y = z ∧ z ≤ n ∧ k = sz then some (.ref b off y.toNat sz g true) else none := by
  simp only [sliceD, bnds, bnd1]
  by_cases hx : 0 ≤ y
  · simp only [hx, if_true]
    by_cases hz : 0 ≤ z ∧ z.toNat ≤ n ∧ y.toNat ≤ z.toNat ∧ 0 ≤ y.toNat
    · rw [if_pos hz]
      simp only [roomB, beq_iff_eq]
      by_cases hk : k = sz ∧ y.toNat = z.toNat
      · have h2 : y = z ∧ z ≤ n ∧ k = sz := by omega
        simp [hk, h2]
        try omega
      · have h2 : ¬ (True ∧ y = z ∧ z ≤ n ∧ k = sz) := by omega
        rw [if_neg hk, if_neg h2]
    · have h2 : ¬ (True ∧ y = z ∧ z ≤ n ∧ k = sz) := by omega
      rw [if_neg hz, if_neg h2]
  · simp only [hx, if_false, false_and]
end

/-! Rows in the one form that the rules know. -/
theorem nil_row {α : Type} (E : Cell α) (b : Bool) : D.arr 0 b [] = row E b [] := rfl

@[simp] theorem own_0 {C : Calls} {f : FuncId} (hm : C.mode f = 0) : C.own f = false := by simp [Calls.own, hm]
@[simp] theorem own_3 {C : Calls} {f : FuncId} (hm : C.mode f = 3) : C.own f = true := by simp [Calls.own, hm]
@[simp] theorem own_4 {C : Calls} {f : FuncId} (hm : C.mode f = 4) : C.own f = true := by simp [Calls.own, hm]
@[simp] theorem own_1 {C : Calls} {f : FuncId} (hm : C.mode f = 1) : C.own f = true := by simp [Calls.own, hm]

attribute [simp] evS updO XO.ev evBinB evUn args0 evRess oneOrTup take1 freezeL freezeVs sealL sealVs evFoot storeLight D.isB known wants X.cls feetOK foldD gives fillD callW_pure callW_own callW_full callW_tied
  nilD.eq_1 nilD.eq_2 capD.eq_1 capD.eq_2 clearD lenD.eq_1 lenD.eq_2 idxD.eq_1 idxD.eq_2 faD.eq_1 faD.eq_2 elD.eq_1 elD.eq_2 loadD.eq_1 loadD.eq_2 copyD

end Go.Proofs.YtccinlhenkkpeaaDoor.E
