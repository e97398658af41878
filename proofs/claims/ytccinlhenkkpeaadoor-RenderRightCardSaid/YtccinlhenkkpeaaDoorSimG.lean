/- Calls; what reads and writes the store. -/
import Derived.Test.YtccinlhenkkpeaaDoorSimE
import Derived.RangeFuncLeaves
import Derived.RangeFuncMany
namespace Go.Proofs.YtccinlhenkkpeaaDoor.E
open Go
set_option linter.unusedSimpArgs false
set_option linter.unusedVariables false

def Callable (P : Program) (f : FuncId) : Prop := ∃ fn, P.funcs[f]? = some fn ∧ (fn.name == "runtime.NumGoroutine") = false ∧ fn.body.isNone = false

/-- The function, called with these data, returns that datum; nothing that was there is written. -/
def PureSound (P : Program) (f : FuncId) (ds : List D) (r : D) : Prop :=
  Callable P f ∧ ∀ (w : World) (Pr : Nat → Nat → Prop) (vs : Array Value), (∀ b o, Pr b o → b < w.heap.size) → Glob w Pr → RepL w Pr [] [] ds vs.toList →
    Go.Calls P f vs w fun e w' => ∃ v Pr', e = .returned v ∧ Le w Pr [] [] w' Pr' [] [] ∧ Fr w Pr [] w' Pr' [] ∧ (∀ b o, Pr' b o → b < w'.heap.size) ∧ Rep w' Pr' [] [] r v

/-- The same, with a store. -/
def FullSound (P : Program) (f : FuncId) (ds : List D) (h : List Blk) (r : D) (h' : List Blk) : Prop :=
  Callable P f ∧ ∀ (w : World) (Pr : Nat → Nat → Prop) (φ : List Nat) (vs : Array Value), Sim w Pr φ h → RepL w Pr φ h ds vs.toList →
    Go.Calls P f vs w fun e w' => ∃ v Pr' φ', e = .returned v ∧ Le w Pr φ h w' Pr' φ' h' ∧ Fr w Pr φ w' Pr' φ' ∧ Sim w' Pr' φ' h' ∧ Rep w' Pr' φ' h' r v

/-- The fence that lets all in; of frames of a round ('some l'), or of plain ones. -/
def FR (r : Option Nat) : Fence := { Fence.wide with round := r }

/-- What an iterator keeps: I between two rounds (n: how many there may be yet; s: its state), X behind one that has said 'no more'. -/
def SeqOK (P : Program) (g : FuncId) (caps : List D) (nx : D → List Blk → Option (Option (List D × D))) (h0 : List Blk) : Prop :=
  Callable P g ∧ ∀ (w : World) (Pr : Nat → Nat → Prop) (φ : List Nat) (vcs : Array Value), Sim w Pr φ h0 → RepL w Pr φ h0 caps vcs.toList →
    ∀ (l : Nat) (I : Nat → D → World → (Nat → Nat → Prop) → List Nat → List Blk → Prop) (X : World → (Nat → Nat → Prop) → List Nat → List Blk → Prop),
      (∀ n s W Pr φ h W' Pr' φ', I n s W Pr φ h → Le W Pr φ h W' Pr' φ' h → Fr W Pr φ W' Pr' φ' → Sim W' Pr' φ' h → I n s W' Pr' φ' h) →
      (∀ W Pr φ h W' Pr' φ', X W Pr φ h → Le W Pr φ h W' Pr' φ' h → Fr W Pr φ W' Pr' φ' → Sim W' Pr' φ' h → X W' Pr' φ' h) →
      (∀ n s W Pr φ h, I n s W Pr φ h → Sim W Pr φ h ∧ RepL W Pr φ h caps vcs.toList ∧ ∃ r, nx s h = some r ∧
        ∀ x s', r = some (x, s') → ∃ m, n = m + 1 ∧ ∀ us : List Value, RepL W Pr φ h x us →
          YieldAt (FR none) 0 P l us.toArray W fun e W' => ∃ Pr' φ' h', (e = .returned (.bool true) ∧ I m s' W' Pr' φ' h' ∧ Le W Pr φ h W' Pr' φ' h') ∨ (e = .returned (.bool false) ∧ X W' Pr' φ' h')) →
      (∀ W Pr φ h, X W Pr φ h → Sim W Pr φ h) →
      ∀ n, I n .nilp w Pr φ h0 →
      CallsIn (FR none) 0 P g (#[.func (.yield l) #[] #[]] ++ vcs) w fun e W' => (∃ v, e = .returned v) ∧ ∃ Pr' φ' h', X W' Pr' φ' h' ∨ ∃ n s, I n s W' Pr' φ' h' ∧ nx s h' = some none

structure Sound (P : Program) (C : Calls) : Prop where
  pc : ∀ f ds r, C.pc f ds = some r → PureSound P f ds r
  oc : ∀ f ds r h', C.oc f ds = some (r, h') → FullSound P f ds [] r h'
  fc : ∀ f ds h r h', C.fc f ds h = some (r, h') → FullSound P f ds h r h'
  nx : ∀ g caps h r, C.nx g caps .nilp h = some r → SeqOK P g caps (C.nx g caps) h

section
variable {P : Program} {o : Oper} {w : World} {Pr : Nat → Nat → Prop} {φ : List Nat} {h : List Blk} {t : Nat → D} {a : Act}

theorem callFunc_run {f : FuncId} {args : Array Value} (hc : Callable P f) : (callFunc f args).run P w = .ok (.enter f args) w := by
  obtain ⟨fn, h1, h2, h3⟩ := hc
  have h2' : fn.name ≠ "runtime.NumGoroutine" := by simpa using h2
  have h3' : fn.body ≠ none := by intro hn; simp [hn] at h3
  simp [callFunc, h1, h2', h3']

theorem call_run {f : FuncId} {c : Call} (ho : o.op = .call c) (hc : c.callee = .value (.func f)) (hcl : Callable P f) : (execOp a.eval o).run P w = .ok (.enter f (c.args.map a.eval)) w := by
  simp [execOp, ho, resolve, hc, Act.eval, Deferred.ofValue, invoke, callFunc_run hcl]

theorem callv_run {f : FuncId} {x : Operand} {va vc : Array Value} {c : Call} (ho : o.op = .call c) (hc : c.callee = .value x) (hx : a.eval x = .func (.func f) va vc) (hcl : Callable P f) :
    (execOp a.eval o).run P w = .ok (.enter f (va ++ c.args.map a.eval ++ vc)) w := by
  simp [execOp, ho, resolve, hc, hx, Deferred.ofValue, invoke, callFunc_run hcl]

theorem OKop.enter {f : FuncId} {args : Array Value} {d : D} {h' : List Blk} {w1 : World} {Pr1 : Nat → Nat → Prop} {φ1 : List Nat} {h1 : List Blk} (hrun : (execOp a.eval o).run P w = .ok (.enter f args) w)
    (l1 : Le w Pr φ h w Pr1 φ1 h1) (f1 : Fr w Pr φ w Pr1 φ1)
    (hc : Go.Calls P f args w fun e w' => ∃ v Pr' φ', e = .returned v ∧ Le w Pr1 φ1 h1 w' Pr' φ' h' ∧ Fr w Pr1 φ1 w' Pr' φ' ∧ Sim w' Pr' φ' h' ∧ Rep w' Pr' φ' h' d v) : OKop P o a w Pr φ h d h' := by
  intro K Q hK
  unfold Oper.wp
  rw [hrun, Oper.upon_enter]
  refine hc.mono fun e w' he => ?_
  obtain ⟨v, Pr', φ', rfl, l, f, S, r⟩ := he
  exact hK _ _ _ _ (l1.trans l) (f1.trans f) S r

/-- A pure call, seen from a frame with a store. -/
theorem PureSound.full {f : FuncId} {ds : List D} {r : D} (hp : PureSound P f ds r) (S : Sim w Pr φ h) {vs : Array Value} (hr : RepL w Pr [] [] ds vs.toList) :
    Go.Calls P f vs w fun e w' => ∃ v Pr' φ', e = .returned v ∧ Le w Pr φ h w' Pr' φ' h ∧ Fr w Pr φ w' Pr' φ' ∧ Sim w' Pr' φ' h ∧ Rep w' Pr' φ' h r v := by
  refine (hp.2 w Pr vs S.prlt S.gl hr).mono fun e w' he => ?_
  obtain ⟨v, Pr', rfl, l, f, hlt, r⟩ := he
  have hb : ∀ c, c < w.heap.size → w'.heap[c]? = w.heap[c]? := fun c hc => f.keep c hc (by simp)
  have hn : ∀ b o, Pr' b o → Pr b o ∨ (w.heap.size ≤ b ∧ b < w'.heap.size) := by
    intro b o p
    rcases f.prn b o p with q | q | q
    · exact .inl q
    · simp at q
    · exact .inr ⟨q, hlt b o p⟩
  exact ⟨v, Pr', φ, rfl, Le.of_below hb (fun b o p => (l.pr b o p).1) S.prlt, Fr.of_below hb hn f.size f.os f.tape f.output, S.of_below hb (fun b o p => (l.pr b o p).1) hn f.size, lift_closed r⟩

theorem sealV_rep {d d' : D} {v : Value} (he : sealV d = some d') (r : Rep w Pr φ h d v) : Rep w Pr [] [] d' v := by
  unfold sealV at he
  split at he
  · split at he
    · rename_i cs cs' hs
      simp at he; subst he
      simp only [Rep] at r ⊢
      obtain ⟨vs, rfl, h1, h2⟩ := r
      obtain ⟨q1, q2⟩ := sealL_rep _ _ _ hs h2
      exact ⟨vs, rfl, q2 h1, q1⟩
    · simp at he
  · exact (seal1_rep he r).1

theorem sealVs_rep : (ds ds' : List D) → (vs : List Value) → sealVs ds = some ds' → RepL w Pr φ h ds vs → RepL w Pr [] [] ds' vs
  | [], ds', vs, he, r => by simp [sealVs] at he; subst he; simp [RepL] at r; subst r; simp [RepL]
  | d :: ds, ds', vs, he, r => by
    simp only [sealVs] at he
    split at he
    · rename_i d' es h1 h2
      simp at he; subst he
      simp only [RepL] at r
      obtain ⟨v, us, rfl, r1, r2⟩ := r
      simp only [RepL]
      exact ⟨v, us, rfl, sealV_rep h1 r1, sealVs_rep ds es us h2 r2⟩
    · simp at he

theorem ok_call (S : Sim w Pr φ h) (s : Slots w Pr φ h t a) {C : Calls} (snd : Sound P C) {f : FuncId} {c : Call} {xs : List XO} {ds : List D} {r : D} (ho : o.op = .call c) (hc : c.callee = .value (.func f)) (ha : cOs c.args.toList = some xs)
    (hs : sealVs (xs.map (XO.ev t)) = some ds) (hr : C.pc f ds = some r) : OKop P o a w Pr φ h r h := by
  have hp := snd.pc _ _ _ hr
  have q := sealVs_rep _ _ _ hs (cOs_rep S.gl s _ _ ha)
  exact OKop.enter (w1 := w) (call_run ho hc hp.1) (Le.refl _ _ _ _) (Fr.refl _ _ _) (hp.full S (by simpa using q))

/-! ### References become data -/

theorem freeze1_rep {d d' : D} {h' : List Blk} {v : Value} (he : freeze1 d h = some (d', h')) (S : Sim w Pr φ h) (r : Rep w Pr φ h d v) :
    ∃ Pr', Le w Pr φ h w Pr' φ h' ∧ Fr w Pr φ w Pr' φ ∧ Sim w Pr' φ h' ∧ Rep w Pr' [] [] d' v ∧ (d.one = true → d'.one = true) := by
  unfold freeze1 at he
  split at he
  · rename_i b off n sz gen full
    split at he
    · rename_i blk hblk
      split at he
      · rename_i hc
        obtain ⟨hg, hle, hbx⟩ := hc
        simp at he
        obtain ⟨rfl, rfl⟩ := he
        simp only [Rep] at r
        obtain ⟨ad, cap, blk', h1, h2, h3, h4, h5, h6, h7, h8, h9⟩ := r
        rw [hblk] at h6
        simp at h6
        subst h6
        obtain ⟨c, g1, g2, g3, g4⟩ := h9 hg
        obtain ⟨l, f, S'⟩ := own_freeze S hblk g1 (f := off + n * sz) (by omega) rfl
        rw [hbx] at l S'
        refine ⟨_, l, f, S', ?_, fun _ => rfl⟩
        obtain ⟨vs, e, q1, q2, q3, q4, q5, q6⟩ := S.blk _ _ _ hblk g1
        simp only [hbx, cond_false] at q3
        have q3' := RepL.mono l.closed _ _ q3
        simp only [Rep]
        refine ⟨ad, cap, ((vs.toList.take blk.cs.length).drop off).take (n * sz), h1, h2, h3, by simp, h5, ?_, all_take _ (all_drop _ q4), (q3'.drop _).take _⟩
        by_cases hcap : 0 < cap
        · rw [g2 hcap]
          refine .inr ⟨c, off, rfl, fun j v hj => ?_⟩
          rw [List.getElem?_take] at hj
          split at hj
          · rename_i hjn
            rw [List.getElem?_drop, List.getElem?_take] at hj
            split at hj
            · refine ⟨?_, .inr ⟨rfl, by omega⟩⟩
              rw [cell_of_row w c (off + j) vs e (0, 0) q1]
              simpa using hj
            · simp at hj
          · simp at hj
        · have hn : n = 0 := by omega
          subst hn
          simp [At]
      · simp at he
    · simp at he
  · simp at he
    obtain ⟨rfl, rfl⟩ := he
    refine ⟨Pr, Le.refl _ _ _ _, Fr.refl _ _ _, S, ?_, fun _ => rfl⟩
    simp only [Rep] at r ⊢
    obtain ⟨ad, cap, vs, h1, h2, h3, h4, h5, h6, h7, h8⟩ := r
    exact ⟨ad, cap, vs, h1, h2, h3, by simp, h5, h6, h7, h8⟩
  · split at he
    · rename_i hp
      simp at he
      obtain ⟨rfl, rfl⟩ := he
      exact ⟨Pr, Le.refl _ _ _ _, Fr.refl _ _ _, S, plain_closed hp r, id⟩
    · simp at he

theorem freezeL_rep : (ds ds' : List D) → (h h' : List Blk) → (Pr : Nat → Nat → Prop) → (vs : List Value) → freezeL ds h = some (ds', h') → Sim w Pr φ h → RepL w Pr φ h ds vs →
    ∃ Pr', Le w Pr φ h w Pr' φ h' ∧ Fr w Pr φ w Pr' φ ∧ Sim w Pr' φ h' ∧ RepL w Pr' [] [] ds' vs ∧ (ds.all D.one = true → ds'.all D.one = true)
  | [], ds', h, h', Pr, vs, he, S, r => by
    simp [freezeL] at he
    obtain ⟨rfl, rfl⟩ := he
    simp [RepL] at r; subst r
    exact ⟨Pr, Le.refl _ _ _ _, Fr.refl _ _ _, S, by simp [RepL], by simp⟩
  | d :: ds, ds', h, h', Pr, vs, he, S, r => by
    simp only [freezeL] at he
    split at he
    · rename_i d' h1 e1
      split at he
      · rename_i es h2 e2
        simp at he
        obtain ⟨rfl, rfl⟩ := he
        simp only [RepL] at r
        obtain ⟨v, us, rfl, r1, r2⟩ := r
        obtain ⟨Pr1, l1, f1, S1, q1, o1⟩ := freeze1_rep e1 S r1
        obtain ⟨Pr2, l2, f2, S2, q2, o2⟩ := freezeL_rep ds es h1 h2 Pr1 us e2 S1 (RepL.mono l1 _ _ r2)
        refine ⟨Pr2, l1.trans l2, f1.trans f2, S2, by simp only [RepL]; exact ⟨v, us, rfl, Rep.mono l2.closed _ _ q1, q2⟩, fun hh => ?_⟩
        simp only [List.all_cons, Bool.and_eq_true] at hh ⊢
        exact ⟨o1 hh.1, o2 hh.2⟩
      · simp at he
    · simp at he

theorem freezeV_rep {d d' : D} {h' : List Blk} {v : Value} (he : freezeV d h = some (d', h')) (S : Sim w Pr φ h) (r : Rep w Pr φ h d v) :
    ∃ Pr', Le w Pr φ h w Pr' φ h' ∧ Fr w Pr φ w Pr' φ ∧ Sim w Pr' φ h' ∧ Rep w Pr' [] [] d' v := by
  unfold freezeV at he
  split at he
  · split at he
    · rename_i cs cs' h1 e1
      simp at he
      obtain ⟨rfl, rfl⟩ := he
      simp only [Rep] at r
      obtain ⟨vs, rfl, g1, g2⟩ := r
      obtain ⟨Pr1, l1, f1, S1, q1, o1⟩ := freezeL_rep _ _ _ _ _ _ e1 S g2
      exact ⟨Pr1, l1, f1, S1, by simp only [Rep]; exact ⟨vs, rfl, o1 g1, q1⟩⟩
    · simp at he
  · obtain ⟨Pr1, l1, f1, S1, q1, _⟩ := freeze1_rep he S r
    exact ⟨Pr1, l1, f1, S1, q1⟩

theorem freezeVs_rep : (ds ds' : List D) → (h h' : List Blk) → (Pr : Nat → Nat → Prop) → (vs : List Value) → freezeVs ds h = some (ds', h') → Sim w Pr φ h → RepL w Pr φ h ds vs →
    ∃ Pr', Le w Pr φ h w Pr' φ h' ∧ Fr w Pr φ w Pr' φ ∧ Sim w Pr' φ h' ∧ RepL w Pr' [] [] ds' vs
  | [], ds', h, h', Pr, vs, he, S, r => by
    simp [freezeVs] at he
    obtain ⟨rfl, rfl⟩ := he
    simp [RepL] at r; subst r
    exact ⟨Pr, Le.refl _ _ _ _, Fr.refl _ _ _, S, by simp [RepL]⟩
  | d :: ds, ds', h, h', Pr, vs, he, S, r => by
    simp only [freezeVs] at he
    split at he
    · rename_i d' h1 e1
      split at he
      · rename_i es h2 e2
        simp at he
        obtain ⟨rfl, rfl⟩ := he
        simp only [RepL] at r
        obtain ⟨v, us, rfl, r1, r2⟩ := r
        obtain ⟨Pr1, l1, f1, S1, q1⟩ := freezeV_rep e1 S r1
        obtain ⟨Pr2, l2, f2, S2, q2⟩ := freezeVs_rep ds es h1 h2 Pr1 us e2 S1 (RepL.mono l1 _ _ r2)
        exact ⟨Pr2, l1.trans l2, f1.trans f2, S2, by simp only [RepL]; exact ⟨v, us, rfl, Rep.mono l2.closed _ _ q1, q2⟩⟩
      · simp at he
    · simp at he

theorem freezeR_rep {d d' : D} {h' : List Blk} {v : Value} (he : freezeR d h = some (d', h')) (S : Sim w Pr φ h) (r : Rep w Pr φ h d v) :
    ∃ Pr', Le w Pr φ h w Pr' φ h' ∧ Fr w Pr φ w Pr' φ ∧ Sim w Pr' φ h' ∧ Rep w Pr' [] [] d' v := by
  unfold freezeR at he
  split at he
  · split at he
    · rename_i cs cs' h1 e1
      simp at he
      obtain ⟨rfl, rfl⟩ := he
      simp only [Rep] at r
      obtain ⟨vs, rfl, g2⟩ := r
      obtain ⟨Pr1, l1, f1, S1, q1⟩ := freezeVs_rep _ _ _ _ _ _ e1 S g2
      exact ⟨Pr1, l1, f1, S1, by simp only [Rep]; exact ⟨vs, rfl, q1⟩⟩
    · simp at he
  · exact freezeV_rep he S r

theorem ok_buildSliceW (S : Sim w Pr φ h) (s : Slots w Pr φ h t a) {ty e : TypeId} {len : Nat} {parts : Array (Nat × Operand)} {sz by_ : Nat} {zs ds ds' : List D} {h' : List Blk} {ps : List (Nat × Nat × XO)} (ho : o.op = .buildSlice ty len parts)
    (hu : P.underlying ty = some (.slice e)) (hi : tInfo P e = some (sz, by_, zs))
    (hps : cParts (fun i => if i < len then some (i * sz, sz) else none) parts.toList = some ps) (hsz : len * sz ≤ 16777216 ∧ 0 < sz)
    (hd : fillD (zeros zs len) (ps.map fun (o, s, x) => (o, s, x.ev t)) = some ds) (hs : freezeL ds h = some (ds', h')) : OKop P o a w Pr φ h (.arr len true ds') h' := by
  obtain ⟨vs, g1, g2, g3, g4⟩ := buildSlice_run S.gl s hu hi hps hsz hd
  obtain ⟨Pr1, l1, f1, S1, q1, o1⟩ := freezeL_rep _ _ _ _ _ _ hs S g2
  obtain ⟨Pr', l, f, S', r⟩ := imm_arr S1 (e := e) g4 q1 (o1 g3)
  refine OKop.go ?_ (l1.trans l) (f1.trans f) S' r
  simp only [execOp, ho, Sem.run_bind, g1, Result.andThen_ok, Sem.run_pure]

theorem ok_newSlice (S : Sim w Pr φ h) (s : Slots w Pr φ h t a) {ty e : TypeId} {parts : Array (Nat × Operand)} {sz by_ : Nat} {zs ds ds' : List D} {h' : List Blk} {ps : List (Nat × Nat × XO)} (ho : o.op = .buildSlice ty 1 parts)
    (hu : P.underlying ty = some (.slice e)) (hi : tInfo P e = some (sz, by_, zs))
    (hps : cParts (fun i => if i < 1 then some (i * sz, sz) else none) parts.toList = some ps) (hsz : 1 * sz ≤ 16777216 ∧ 0 < sz)
    (hd : fillD (zeros zs 1) (ps.map fun (o, s, x) => (o, s, x.ev t)) = some ds) (hs : freezeL ds h = some (ds', h')) (hcl : ds'.length = sz) : OKop P o a w Pr φ h (.ref h'.length 0 1 sz sz true) (h' ++ [⟨ds', 0, false⟩]) := by
  obtain ⟨vs, g1, g2, g3, g4⟩ := buildSlice_run S.gl s hu hi hps hsz hd
  obtain ⟨Pr1, l1, f1, S1, q1, o1⟩ := freezeL_rep _ _ _ _ _ _ hs S g2
  have hvl := q1.length
  simp at hvl
  have ht : vs.toList.take ds'.length = vs.toList := by rw [List.take_of_length_le]; simp; omega
  obtain ⟨l, f, S'⟩ := own_alloc S1 vs e ⟨ds', 0, false⟩ (by simp only; omega) (by rw [ht]; exact liftL_closed q1) (fun _ => by rw [ht]; exact q1) (o1 g3) rfl
  refine OKop.go (v := .slice (some ⟨w.heap.size, 0, none⟩) 1 1) ?_ (l1.trans l) (f1.trans f) S' ?_
  · simp only [execOp, ho, Sem.run_bind, g1, Result.andThen_ok, Sem.run_pure]
  · simp only [Rep]
    refine ⟨_, _, ⟨ds', 0, false⟩, rfl, Nat.le_refl _, g4, ⟨fun _ => rfl, fun h => by cases h⟩, by simp, by simp, rfl, by simp only [hcl]; exact Nat.le_refl _, fun _ => ⟨w.heap.size, by rw [← S1.len]; simp, fun _ => rfl, by omega, ?_⟩⟩
    exact ⟨vs, e, heap_alloc_new w _, by omega⟩

/-! ### Slices of a store that goes on become data -/

theorem frz1_rep {m : Nat} {d d' : D} {h' : List Blk} {v : Value} (he : frz1 m d h = some (d', h')) (S : Sim w Pr φ h) (r : Rep w Pr φ h d v) :
    ∃ Pr', Le w Pr φ h w Pr' φ h' ∧ Fr w Pr φ w Pr' φ ∧ Sim w Pr' φ h' ∧ Rep w Pr' φ h' d' v ∧ (d.one = true → d'.one = true) := by
  unfold frz1 at he
  split at he
  · split at he
    · obtain ⟨Pr', l, f, S', r', o⟩ := freeze1_rep he S r
      exact ⟨Pr', l, f, S', lift_closed r', o⟩
    · simp at he
      obtain ⟨rfl, rfl⟩ := he
      exact ⟨Pr, Le.refl _ _ _ _, Fr.refl _ _ _, S, r, id⟩
  · simp at he
    obtain ⟨rfl, rfl⟩ := he
    exact ⟨Pr, Le.refl _ _ _ _, Fr.refl _ _ _, S, r, id⟩

theorem frzL_rep {m : Nat} : (ds ds' : List D) → (h h' : List Blk) → (Pr : Nat → Nat → Prop) → (vs : List Value) → frzL m ds h = some (ds', h') → Sim w Pr φ h → RepL w Pr φ h ds vs →
    ∃ Pr', Le w Pr φ h w Pr' φ h' ∧ Fr w Pr φ w Pr' φ ∧ Sim w Pr' φ h' ∧ RepL w Pr' φ h' ds' vs ∧ (ds.all D.one = true → ds'.all D.one = true)
  | [], ds', h, h', Pr, vs, he, S, r => by
    simp [frzL] at he
    obtain ⟨rfl, rfl⟩ := he
    simp [RepL] at r; subst r
    exact ⟨Pr, Le.refl _ _ _ _, Fr.refl _ _ _, S, by simp [RepL], by simp⟩
  | d :: ds, ds', h, h', Pr, vs, he, S, r => by
    simp only [frzL] at he
    split at he
    · rename_i d' h1 e1
      split at he
      · rename_i es h2 e2
        simp at he
        obtain ⟨rfl, rfl⟩ := he
        simp only [RepL] at r
        obtain ⟨v, us, rfl, r1, r2⟩ := r
        obtain ⟨Pr1, l1, f1, S1, q1, o1⟩ := frz1_rep e1 S r1
        obtain ⟨Pr2, l2, f2, S2, q2, o2⟩ := frzL_rep ds es h1 h2 Pr1 us e2 S1 (RepL.mono l1 _ _ r2)
        refine ⟨Pr2, l1.trans l2, f1.trans f2, S2, by simp only [RepL]; exact ⟨v, us, rfl, Rep.mono l2 _ _ q1, q2⟩, fun hh => ?_⟩
        simp only [List.all_cons, Bool.and_eq_true] at hh ⊢
        exact ⟨o1 hh.1, o2 hh.2⟩
      · simp at he
    · simp at he

theorem frzV_rep {m : Nat} {d d' : D} {h' : List Blk} {v : Value} (he : frzV m d h = some (d', h')) (S : Sim w Pr φ h) (r : Rep w Pr φ h d v) :
    ∃ Pr', Le w Pr φ h w Pr' φ h' ∧ Fr w Pr φ w Pr' φ ∧ Sim w Pr' φ h' ∧ Rep w Pr' φ h' d' v := by
  unfold frzV at he
  split at he
  · split at he
    · rename_i cs cs' h1 e1
      simp at he
      obtain ⟨rfl, rfl⟩ := he
      simp only [Rep] at r
      obtain ⟨vs, rfl, g1, g2⟩ := r
      obtain ⟨Pr1, l1, f1, S1, q1, o1⟩ := frzL_rep _ _ _ _ _ _ e1 S g2
      exact ⟨Pr1, l1, f1, S1, by simp only [Rep]; exact ⟨vs, rfl, o1 g1, q1⟩⟩
    · simp at he
  · obtain ⟨Pr1, l1, f1, S1, q1, _⟩ := frz1_rep he S r
    exact ⟨Pr1, l1, f1, S1, q1⟩

theorem frzVs_rep {m : Nat} : (ds ds' : List D) → (h h' : List Blk) → (Pr : Nat → Nat → Prop) → (vs : List Value) → frzVs m ds h = some (ds', h') → Sim w Pr φ h → RepL w Pr φ h ds vs →
    ∃ Pr', Le w Pr φ h w Pr' φ h' ∧ Fr w Pr φ w Pr' φ ∧ Sim w Pr' φ h' ∧ RepL w Pr' φ h' ds' vs
  | [], ds', h, h', Pr, vs, he, S, r => by
    simp [frzVs] at he
    obtain ⟨rfl, rfl⟩ := he
    simp [RepL] at r; subst r
    exact ⟨Pr, Le.refl _ _ _ _, Fr.refl _ _ _, S, by simp [RepL]⟩
  | d :: ds, ds', h, h', Pr, vs, he, S, r => by
    simp only [frzVs] at he
    split at he
    · rename_i d' h1 e1
      split at he
      · rename_i es h2 e2
        simp at he
        obtain ⟨rfl, rfl⟩ := he
        simp only [RepL] at r
        obtain ⟨v, us, rfl, r1, r2⟩ := r
        obtain ⟨Pr1, l1, f1, S1, q1⟩ := frzV_rep e1 S r1
        obtain ⟨Pr2, l2, f2, S2, q2⟩ := frzVs_rep ds es h1 h2 Pr1 us e2 S1 (RepL.mono l1 _ _ r2)
        exact ⟨Pr2, l1.trans l2, f1.trans f2, S2, by simp only [RepL]; exact ⟨v, us, rfl, Rep.mono l2 _ _ q1, q2⟩⟩
      · simp at he
    · simp at he

theorem frzR_rep {m : Nat} {d d' : D} {h' : List Blk} {v : Value} (he : frzR m d h = some (d', h')) (S : Sim w Pr φ h) (r : Rep w Pr φ h d v) :
    ∃ Pr', Le w Pr φ h w Pr' φ h' ∧ Fr w Pr φ w Pr' φ ∧ Sim w Pr' φ h' ∧ Rep w Pr' φ h' d' v := by
  unfold frzR at he
  split at he
  · split at he
    · rename_i cs cs' h1 e1
      simp at he
      obtain ⟨rfl, rfl⟩ := he
      simp only [Rep] at r
      obtain ⟨vs, rfl, g2⟩ := r
      obtain ⟨Pr1, l1, f1, S1, q1⟩ := frzVs_rep _ _ _ _ _ _ e1 S g2
      exact ⟨Pr1, l1, f1, S1, by simp only [Rep]; exact ⟨vs, rfl, q1⟩⟩
    · simp at he
  · exact frzV_rep he S r

theorem frzL_box {m : Nat} {b : Nat} {k : Blk} : {ds ds' : List D} → {h h' : List Blk} → frzL m ds h = some (ds', h') → h[b]? = some k → k.box = true → h'[b]? = some k
  | [], ds', h, h', e, hb, hx => by simp [frzL] at e; rw [← e.2]; exact hb
  | d :: ds, ds', h, h', e, hb, hx => by
    simp only [frzL] at e
    split at e <;> try (simp at e; done)
    rename_i d1 h1 e1
    split at e <;> try (simp at e; done)
    rename_i es h2 e2
    simp at e
    obtain ⟨_, rfl⟩ := e
    refine frzL_box e2 ?_ hx
    unfold frz1 at e1
    split at e1
    · split at e1
      · simp only [freeze1] at e1
        split at e1 <;> try (simp at e1; done)
        rename_i blk hblk
        split at e1 <;> simp at e1
        rename_i hcc
        obtain ⟨_, rfl⟩ := e1
        rw [List.getElem?_set_ne]
        · exact hb
        · rintro rfl
          rw [hblk] at hb; simp at hb; subst hb
          rw [hcc.2.2] at hx; simp at hx
      · simp at e1; rw [← e1.2]; exact hb
    · simp at e1; rw [← e1.2]; exact hb

/-- Other data for what lies in a box. -/
theorem box_set (S : Sim w Pr φ h) {b c : Nat} {k : Blk} {cs : List D} (hb : h[b]? = some k) (hbox : k.box = true) (hc : φ[b]? = some c) {vs : Array Value} {e : TypeId} (hv : w.heap[c]? = some (.cells vs e (0, 0)))
    (r : RepL w Pr φ h cs (vs.toList.take k.cs.length)) (h1 : cs.all D.one = true) (hl : cs.length = k.cs.length) :
    Le w Pr φ h w Pr φ (h.set b ⟨cs, k.fz, true⟩) ∧ Sim w Pr φ (h.set b ⟨cs, k.fz, true⟩) := by
  have hbl := (List.getElem?_eq_some_iff.1 hb).1
  have l : Le w Pr φ h w Pr φ (h.set b ⟨cs, k.fz, true⟩) := by
    refine ⟨fun b o p => ⟨p, rfl⟩, fun i k0 hk => ?_, fun _ _ _ _ m => m⟩
    by_cases hi : b = i
    · subst hi
      rw [hb] at hk; simp at hk; subst hk
      exact ⟨_, List.getElem?_set_self hbl, hbox.symm, by simp [hl], fun _ c hc => ⟨hc, fun _ r => r⟩⟩
    · exact ⟨k0, by rw [List.getElem?_set_ne hi]; exact hk, rfl, Nat.le_refl _, fun _ c hc => ⟨hc, fun _ r => r⟩⟩
  refine ⟨l, ⟨by simp [S.len], S.prlt, fun i k0 c0 hk hc0 => ?_, S.inj, S.gl⟩⟩
  by_cases hi : b = i
  · subst hi
    rw [List.getElem?_set_self hbl] at hk
    simp at hk; subst hk
    rw [hc] at hc0; simp at hc0; subst hc0
    obtain ⟨vs', ee, p1, p2, p3, p4, p5, p6⟩ := S.blk _ _ _ hb hc
    rw [hv] at p1
    simp at p1
    obtain ⟨rfl, rfl⟩ := p1
    exact ⟨vs, _, hv, by simp only [hl]; exact p2, by simp only [cond_true, hl]; exact RepL.mono l _ _ r, h1, by simp only [hl]; exact p5, p6⟩
  · rw [List.getElem?_set_ne hi] at hk
    obtain ⟨vs', ee, p1, p2, p3, p4, p5, p6⟩ := S.blk _ _ _ hk hc0
    refine ⟨vs', ee, p1, p2, ?_, p4, p5, p6⟩
    cases hbx : k0.box <;> simp only [hbx, cond_true, cond_false] at p3 ⊢
    · exact p3
    · exact RepL.mono l _ _ p3

theorem frzB_rep {m : Nat} : (bs : List Nat) → (h h' : List Blk) → (Pr : Nat → Nat → Prop) → frzB m bs h = some h' → Sim w Pr φ h →
    ∃ Pr', Le w Pr φ h w Pr' φ h' ∧ Fr w Pr φ w Pr' φ ∧ Sim w Pr' φ h'
  | [], h, h', Pr, he, S => by simp [frzB] at he; subst he; exact ⟨Pr, Le.refl _ _ _ _, Fr.refl _ _ _, S⟩
  | b :: bs, h, h', Pr, he, S => by
    simp only [frzB] at he
    split at he
    · rename_i k hk
      cases hbox : k.box <;> simp only [hbox, cond_true, cond_false] at he
      · exact frzB_rep bs h h' Pr he S
      · split at he <;> try (simp at he; done)
        rename_i cs h1 e1
        have hk' := frzL_box e1 hk hbox
        have hbl := (List.getElem?_eq_some_iff.1 hk).1
        obtain ⟨c, hc⟩ : ∃ c, φ[b]? = some c := ⟨φ[b]'(by rw [S.len]; exact hbl), List.getElem?_eq_getElem _⟩
        obtain ⟨vs, ee, p1, p2, p3, p4, p5, p6⟩ := S.blk _ _ _ hk hc
        simp only [hbox, cond_true] at p3
        obtain ⟨Pr1, l1, f1, S1, q1, o1⟩ := frzL_rep _ _ _ _ _ _ e1 S p3
        have hlen : cs.length = k.cs.length := by have := q1.length; have := p3.length; omega
        obtain ⟨l2, S2⟩ := box_set S1 hk' hbox hc p1 q1 (o1 p4) hlen
        obtain ⟨Pr3, l3, f3, S3⟩ := frzB_rep bs _ h' Pr1 he S2
        exact ⟨Pr3, (l1.trans l2).trans l3, f1.trans f3, S3⟩
    · exact frzB_rep bs h h' Pr he S

/-- What nothing leads to is forgotten. -/
theorem settle_ok {m : Nat} {r r' : D} {h' h0 : List Blk} {φ0 : List Nat} {w0 : World} {Pr0 : Nat → Nat → Prop} {v : Value} (S : Sim w Pr φ h) (rv : Rep w Pr φ h r v) (hs : settle m r h = some (r', h')) (hm : h0.length = m)
    (l : Le w0 Pr0 φ0 h0 w Pr φ h) (f : Fr w0 Pr0 φ0 w Pr φ) : ∃ φ', Le w0 Pr0 φ0 h0 w Pr φ' h' ∧ Fr w0 Pr0 φ0 w Pr φ' ∧ Sim w Pr φ' h' ∧ Rep w Pr φ' h' r' v := by
  simp only [settle] at hs
  split at hs <;> try (simp at hs; done)
  rename_i hn
  split at hs <;> simp at hs
  rename_i r1 h1 e1 e2
  obtain ⟨rfl, rfl⟩ := hs
  refine ⟨_, part_le S e2 (m := m) (fun i hi => ?_) hm l, part_fr S e2 f, part_sim S hn e2, ren_rep (part_moves S e2) _ _ _ e1 rv⟩
  rw [List.getElem?_append_left (by simpa using hi)]
  simp [hi]

theorem FullSound.settle {f : FuncId} {ds : List D} {h : List Blk} {r r' : D} {h1 h' : List Blk} (hf : FullSound P f ds h r h1) (hs : settle h.length r h1 = some (r', h')) : FullSound P f ds h r' h' := by
  refine ⟨hf.1, fun w Pr φ vs S q => (hf.2 w Pr φ vs S q).mono fun e w' he => ?_⟩
  obtain ⟨v, Pr', φ', rfl, l, fr, S', rv⟩ := he
  obtain ⟨φ2, l2, f2, S2, r2⟩ := settle_ok S' rv hs rfl l fr
  exact ⟨v, Pr', φ2, rfl, l2, f2, S2, r2⟩

theorem FullSound.settleF {f : FuncId} {ds : List D} {h : List Blk} {r r' : D} {h1 h' : List Blk} (hf : FullSound P f ds h r h1) (hs : settleF h.length r h1 = some (r', h')) : FullSound P f ds h r' h' := by
  unfold E.settleF at hs
  split at hs <;> try (simp at hs; done)
  rename_i r1 h2 e1
  split at hs <;> try (simp at hs; done)
  rename_i h3 e2
  refine ⟨hf.1, fun w Pr φ vs S q => (hf.2 w Pr φ vs S q).mono fun e w' he => ?_⟩
  obtain ⟨v, Pr', φ', rfl, l, fr, S', rv⟩ := he
  obtain ⟨Pr2, l2, f2, S2, r2⟩ := frzR_rep e1 S' rv
  obtain ⟨Pr3, l3, f3, S3⟩ := frzB_rep _ _ _ _ e2 S2
  obtain ⟨φ2, l4, f4, S4, r4⟩ := settle_ok S3 (Rep.mono l3 _ _ r2) hs rfl ((l.trans l2).trans l3) ((fr.trans f2).trans f3)
  exact ⟨v, Pr3, φ2, rfl, l4, f4, S4, r4⟩

theorem lendW_ok (S : Sim w Pr φ h) {f : FuncId} {L : List D → List Blk → Option (D × List Blk)} (hL : ∀ ds h r h', L ds h = some (r, h') → FullSound P f ds h r h') {ds : List D} {r : D} {h' : List Blk} {vs : Array Value}
    (hr : lendW L h ds = some (r, h')) (q : RepL w Pr φ h ds vs.toList) :
    Callable P f ∧ Go.Calls P f vs w fun e w' => ∃ v Pr' φ', e = .returned v ∧ Le w Pr φ h w' Pr' φ' h' ∧ Fr w Pr φ w' Pr' φ' ∧ Sim w' Pr' φ' h' ∧ Rep w' Pr' φ' h' r v := by
  simp only [lendW] at hr
  split at hr <;> try (simp at hr; done)
  rename_i hn
  split at hr <;> try (simp at hr; done)
  rename_i ds1 h1 e1 e2
  split at hr <;> try (simp at hr; done)
  rename_i r2 h2 e3
  have hf := hL _ _ _ _ e3
  have q1 := (renL_rep (part_moves S e2) _ _ _ e1 q).1
  refine ⟨hf.1, (hf.2 w Pr _ vs (part_sim S hn e2) q1).mono fun e w' he => ?_⟩
  obtain ⟨v, Pr', φ', rfl, l, fr, S', rv⟩ := he
  obtain ⟨φ2, l2, f2, S2, r2⟩ := back_ok S hn e2 l fr S' rv hr
  exact ⟨v, Pr', φ2, rfl, l2, f2, S2, r2⟩

/-! ### Calls with a store -/

theorem callW_ok (S : Sim w Pr φ h) {C : Calls} (snd : Sound P C) {f : FuncId} {ds : List D} {r : D} {h' : List Blk} {vs : Array Value} (hr : callW C h f ds = some (r, h')) (q : RepL w Pr φ h ds vs.toList)
    (hrun : Callable P f → (execOp a.eval o).run P w = .ok (.enter f vs) w) : OKop P o a w Pr φ h r h' := by
  unfold callW at hr
  split at hr
  · unfold lendF at hr
    split at hr <;> try (simp at hr; done)
    rename_i ds1 h1 e1
    split at hr <;> try (simp at hr; done)
    rename_i h2 e2
    obtain ⟨Pr1, l1, f1, S1, q1⟩ := frzVs_rep _ _ _ _ _ _ e1 S q
    obtain ⟨Pr2, l2, f2, S2⟩ := frzB_rep _ _ _ _ e2 S1
    obtain ⟨hcl, hc⟩ := lendW_ok S2 (f := f) (fun ds h r h' hh => by
      unfold lendS at hh
      split at hh <;> try (simp at hh; done)
      rename_i r0 h0 e0
      exact (snd.fc _ _ _ _ _ e0).settleF hh) hr (RepL.mono l2 _ _ q1)
    exact OKop.enter (w1 := w) (hrun hcl) (l1.trans l2) (f1.trans f2) hc
  split at hr
  · obtain ⟨hcl, hc⟩ := lendW_ok S (f := f) (fun ds h r h' hh => by
      unfold lendK at hh
      split at hh <;> try (simp at hh; done)
      rename_i r0 h0 e0
      exact (snd.fc _ _ _ _ _ e0).settle hh) hr q
    exact OKop.enter (w1 := w) (hrun hcl) (Le.refl _ _ _ _) (Fr.refl _ _ _) hc
  split at hr
  · have hf := snd.fc _ _ _ _ _ hr
    exact OKop.enter (w1 := w) (hrun hf.1) (Le.refl _ _ _ _) (Fr.refl _ _ _) (hf.2 w Pr φ vs S q)
  · split at hr
    · rename_i ds' h1 e1
      obtain ⟨Pr1, l1, f1, S1, q1⟩ := freezeVs_rep _ _ _ _ _ _ e1 S q
      split at hr
      · split at hr
        · rename_i b off n sz gen full h2 e2
          split at hr
          · rename_i blk hblk
            split at hr
            · rename_i hc
              obtain ⟨hg, hbx, hfz⟩ := hc
              simp at hr
              obtain ⟨rfl, rfl⟩ := hr
              have hf := snd.oc _ _ _ _ e2
              have S0 : Sim w Pr1 [] [] := ⟨rfl, S1.prlt, fun i k c hk => by simp at hk, fun i j c hi => by simp at hi, S1.gl⟩
              refine OKop.enter (w1 := w) (hrun hf.1) l1 f1 ?_
              refine (hf.2 w Pr1 [] vs S0 q1).mono fun e w' he => ?_
              obtain ⟨v, Pr', φ', rfl, l, fr, S', r'⟩ := he
              have hb : ∀ c, c < w.heap.size → w'.heap[c]? = w.heap[c]? := fun c hc => fr.keep c hc (by simp)
              have hn : ∀ b o, Pr' b o → Pr1 b o ∨ (w.heap.size ≤ b ∧ b < w'.heap.size) := by
                intro b o p
                rcases fr.prn b o p with q | q | q
                · exact .inl q
                · simp at q
                · exact .inr ⟨q, S'.prlt b o p⟩
              have hmono : ∀ b o, Pr1 b o → Pr' b o := fun b o p => (l.pr b o p).1
              have l2 : Le w Pr1 φ h1 w' Pr' φ h1 := Le.of_below hb hmono S1.prlt
              have S2 : Sim w' Pr' φ h1 := S1.of_below hb hmono hn fr.size
              have f2 : Fr w Pr1 φ w' Pr' φ := Fr.of_below hb hn fr.size fr.os fr.tape fr.output
              simp only [Rep] at r'
              obtain ⟨ad, cap, blk', p1, p2, p3, p4, p5, p6, p7, p8, p9⟩ := r'
              rw [hblk] at p6
              simp at p6
              subst p6
              obtain ⟨c, g1, g2, g3, g4⟩ := p9 hg
              obtain ⟨us, ee, u1, u2, u3, u4, u5, u6⟩ := S'.blk _ _ _ hblk g1
              simp only [hbx, cond_false] at u3
              have hcn : w.heap.size ≤ c := by
                rcases fr.own c (List.mem_of_getElem? g1) with hh | hh
                · simp at hh
                · exact hh
              have hcφ : ∀ x ∈ φ, x ≠ c := fun x hx => by have := S1.mem_lt hx; omega
              obtain ⟨l3, S3⟩ := adopt S2 c blk hcφ u1 u2 (liftL_closed u3) (fun _ => u3) u4 u5 u6
              have f3 : Fr w Pr1 φ w' Pr' (φ ++ [c]) := by
                refine ⟨f2.os, f2.tape, f2.output, f2.size, f2.keep, fun x hx => ?_, f2.prn⟩
                rcases List.mem_append.1 hx with hx | hx
                · exact .inl hx
                · simp at hx; subst hx; exact .inr hcn
              refine ⟨v, Pr', φ ++ [c], rfl, l2.trans l3, f3, S3, ?_⟩
              simp only [Rep]
              refine ⟨ad, cap, blk, p1, p2, p3, p4, p5, by simp, hbx, p8, fun _ => ⟨c, ?_, g2, g3, g4⟩⟩
              rw [← S1.len]; simp
            · simp at hr
          · simp at hr
        · rename_i n full cs h2 e2
          simp at hr
          obtain ⟨rfl, rfl⟩ := hr
          have hf := snd.oc _ _ _ _ e2
          have S0 : Sim w Pr1 [] [] := ⟨rfl, S1.prlt, fun i k c hk => by simp at hk, fun i j c hi => by simp at hi, S1.gl⟩
          refine OKop.enter (w1 := w) (hrun hf.1) l1 f1 ?_
          refine (hf.2 w Pr1 [] vs S0 q1).mono fun e w' he => ?_
          obtain ⟨v, Pr', φ', rfl, l, fr, S', r'⟩ := he
          have hb : ∀ c, c < w.heap.size → w'.heap[c]? = w.heap[c]? := fun c hc => fr.keep c hc (by simp)
          have hn : ∀ b o, Pr' b o → Pr1 b o ∨ (w.heap.size ≤ b ∧ b < w'.heap.size) := by
            intro b o p
            rcases fr.prn b o p with q | q | q
            · exact .inl q
            · simp at q
            · exact .inr ⟨q, S'.prlt b o p⟩
          have hmono : ∀ b o, Pr1 b o → Pr' b o := fun b o p => (l.pr b o p).1
          refine ⟨v, Pr', φ, rfl, Le.of_below hb hmono S1.prlt, Fr.of_below hb hn fr.size fr.os fr.tape fr.output, S1.of_below hb hmono hn fr.size, ?_⟩
          simpa only [Rep] using r'
        · simp at hr
      · split at hr
        · rename_i r' e2
          simp at hr
          obtain ⟨rfl, rfl⟩ := hr
          have hp := snd.pc _ _ _ e2
          exact OKop.enter (w1 := w) (hrun hp.1) l1 f1 (hp.full S1 q1)
        · simp at hr
    · simp at hr

/-! ### The store read and written -/

theorem loadVar_run {e : TypeId} {sz : Option Nat} {ad : Addr} {cs : List D} {vs : List Value} {d : D} {off : Nat} (ht : tAgg P e = some sz) (h1 : cs.all D.one = true) (r : RepL w Pr φ h cs vs)
    (hc : ∀ j v, (vs.drop off)[j]? = some v → w.cell? (ad.add j) = some v) (hd : take1 cs off sz = some d) : ∃ v, (loadVar e ad).run P w = .ok v w ∧ Rep w Pr φ h d v := by
  obtain ⟨i, dd, hi, hu, ⟨rfl, ha⟩ | ⟨rfl, ha⟩⟩ := tAgg_spec (w := w) ht
  · simp only [take1] at hd
    split at hd
    · rename_i hle
      simp at hd; subst hd
      have hl := r.length
      have hlen : ((vs.drop off).take i.size).length = i.size := by simp; omega
      have hload := run_loadCells_list (P := P) w ad ((vs.drop off).take i.size) (fun j v hj => hc j v (by
        rw [List.getElem?_take] at hj
        split at hj
        · exact hj
        · simp at hj))
      rw [hlen] at hload
      refine ⟨.agg ((vs.drop off).take i.size).toArray, by simp [loadVar, ha, size_run hi, hload], ?_⟩
      simp only [Rep]
      exact ⟨_, rfl, all_take _ (all_drop _ h1), (r.drop off).take _⟩
    · simp at hd
  · simp only [take1] at hd
    obtain ⟨v, hv, hr⟩ := r.get off d hd
    refine ⟨v, ?_, hr⟩
    have h0 := hc 0 v (by rw [List.getElem?_drop]; simpa using hv)
    rw [Addr.add_zero'] at h0
    simp [loadVar, ha, h0]

theorem evL_run (S : Sim w Pr φ h) (s : Slots w Pr φ h t a) {e : TypeId} {sz : Option Nat} {x : XO} {v : Value} {d : D} (ht : tAgg P e = some sz) (hv : Rep w Pr φ h (x.ev t) v) (hd : evL h (XO.ev t) sz x = some d) :
    ∃ ad, v = .pointer (some ad) ∧ ∃ u, (loadVar e ad).run P w = .ok u w ∧ Rep w Pr φ h d u := by
  unfold evL at hd
  split at hd
  · rename_i cs he
    rw [he] at hv
    simp only [Rep] at hv
    obtain ⟨ad, vs, rfl, h1, h2, h3⟩ := hv
    refine ⟨ad, rfl, ?_⟩
    refine loadVar_run ht h2 (liftL_closed h3) (fun j v hj => ?_) hd
    rw [List.drop_zero] at hj
    rcases h1 with h1 | ⟨b, of, hb, hc⟩
    · subst h1; simp at hj
    · simp at hb; subst hb
      rw [Addr.add_lit]
      exact (hc j v hj).1
  · rename_i b off g he
    split at hd
    · rename_i blk hblk
      split at hd
      · rename_i hg
        rw [he] at hv
        simp only [Rep] at hv
        obtain ⟨ad, blk', rfl, h1, h2, h3⟩ := hv
        rw [hblk] at h1
        simp at h1; subst h1
        obtain ⟨c, g1, rfl⟩ := h3 hg
        obtain ⟨vs, e', q1, q2, q3, q4, q5, q6⟩ := S.blk _ _ _ hblk g1
        have q3' : RepL w Pr φ h blk.cs (vs.toList.take blk.cs.length) := by
          cases hb : blk.box <;> simp only [hb, cond_true, cond_false] at q3
          · exact liftL_closed q3
          · exact q3
        refine ⟨_, rfl, loadVar_run ht q4 q3' (fun j v hj => ?_) hd⟩
        rw [Addr.add_lit, cell_of_row w c (off + j) vs e' (0, 0) q1]
        rw [List.getElem?_drop, List.getElem?_take] at hj
        split at hj
        · simpa using hj
        · simp at hj
      · simp at hd
    · simp at hd
  · simp at hd

theorem ok_load (S : Sim w Pr φ h) (s : Slots w Pr φ h t a) {e : TypeId} {sz : Option Nat} {x : Operand} {x' : XO} {d : D} (ho : o.op = .load e x) (hx : cO x = some x') (ht : tAgg P e = some sz) (hd : evL h (XO.ev t) sz x' = some d) : OKop P o a w Pr φ h d h := by
  obtain ⟨ad, hv, u, g1, g2⟩ := evL_run S s ht (cO_rep S.gl s hx) hd
  exact OKop.val S (v := u) (by simp [execOp, ho, Instr.loadAt, hv, Instr.sureAddr, g1]) g2

theorem ok_box (S : Sim w Pr φ h) (s : Slots w Pr φ h t a) {e : TypeId} {x : Operand} {x' : XO} {cs : List D} (ho : o.op = .box e x) (hx : cO x = some x') (hc : (x'.ev t).cells = some cs) :
    OKop P o a w Pr φ h (.ptr h.length 0 cs.length) (h ++ [⟨cs, 0, true⟩]) := by
  obtain ⟨q1, q2⟩ := cells_rep hc (cO_rep S.gl s hx)
  have hl := q1.length
  simp at hl
  obtain ⟨l, f, S'⟩ := own_alloc S (a.eval x).cells e ⟨cs, 0, true⟩ (by simp; omega) (by rw [List.take_of_length_le (by simp; omega)]; exact q1) (by simp) q2 rfl
  refine OKop.go (v := .pointer (some ⟨w.heap.size, 0, none⟩)) ?_ l f S' ?_
  · simp [execOp, ho, Instr.box, newVar, newRow]
  · simp only [Rep]
    exact ⟨_, ⟨cs, 0, true⟩, rfl, by simp, Nat.le_refl _, fun _ => ⟨w.heap.size, by rw [← S.len]; simp, rfl⟩⟩

theorem ok_alloc (S : Sim w Pr φ h) {e : TypeId} {sz by_ : Nat} {zs : List D} (ho : o.op = .alloc e) (hi : tInfo P e = some (sz, by_, zs)) :
    OKop P o a w Pr φ h (.ptr h.length 0 zs.length) (h ++ [⟨zs, 0, true⟩]) := by
  obtain ⟨i, z, hi1, hz, rfl, rfl, hof, hl⟩ := tInfo_spec hi
  obtain ⟨z1, z2⟩ := ofCells_rep (w := w) (Pr := Pr) (φ := φ) (h := h) _ _ hof
  have hl := z1.length
  simp at hl
  obtain ⟨l, f, S'⟩ := own_alloc S z.cells e ⟨zs, 0, true⟩ (by simp; omega) (by rw [List.take_of_length_le (by simp; omega)]; exact z1) (by simp) z2 rfl
  refine OKop.go (v := .pointer (some ⟨w.heap.size, 0, none⟩)) ?_ l f S' ?_
  · simp [execOp, ho, Instr.alloc, zero_run hi1 hz, newVar, newRow]
  · simp only [Rep]
    exact ⟨_, ⟨zs, 0, true⟩, rfl, by simp, Nat.le_refl _, fun _ => ⟨w.heap.size, by rw [← S.len]; simp, rfl⟩⟩

theorem all_one_values {ds : List D} {vs : List Value} (r : RepL w Pr φ h ds vs) (h1 : ds.all D.one = true) : ∀ v ∈ vs, v.oneCell' = true := by
  intro v hv
  obtain ⟨j, hj⟩ := List.getElem?_of_mem hv
  have hlt : j < ds.length := by rw [← r.length]; exact (List.getElem?_eq_some_iff.1 hj).1
  obtain ⟨v', hv', hr⟩ := r.get j ds[j] (List.getElem?_eq_getElem hlt)
  rw [hj] at hv'
  simp at hv'; subst hv'
  exact (one_value (List.all_eq_true.1 h1 _ (List.getElem_mem hlt)) hr).1

theorem take_put {l us : List Value} {off n : Nat} (hn : n ≤ l.length) (hle : off + us.length ≤ n) :
    (l.take off ++ us ++ l.drop (off + us.length)).take n = (l.take n).take off ++ us ++ (l.take n).drop (off + us.length) := by
  have e1 : l.take off = (l.take n).take off := by rw [List.take_take, Nat.min_eq_left (by omega)]
  have e2 : l.drop (off + us.length) = (l.take n).drop (off + us.length) ++ l.drop n := by
    conv => lhs; rw [← List.take_append_drop n l]
    rw [List.drop_append_of_le_length (by simp; omega)]
  rw [e1, e2, ← List.append_assoc]
  apply List.take_left'
  simp
  omega

/-- The memory behind a write of some cells into a block of the store. -/
theorem write_cells (S : Sim w Pr φ h) {b c off : Nat} {blk : Blk} {new : List D} {us : List Value} {vs : Array Value} {e : TypeId} (hblk : h[b]? = some blk) (hc : φ[b]? = some c) (he : w.heap[c]? = some (.cells vs e (0, 0)))
    (hfz : blk.fz ≤ off) (hle : off + new.length ≤ blk.cs.length) (r : RepL w Pr φ h new us) (hrc : blk.box = false → RepL w Pr [] [] new us) (h1 : new.all D.one = true) :
    let w' := w.setRow c (vs.toList.take off ++ us ++ vs.toList.drop (off + us.length)).toArray
    let h' := h.set b ⟨putAt blk.cs off new, blk.fz, blk.box⟩
    Le w Pr φ h w' Pr φ h' ∧ Fr w Pr φ w' Pr φ ∧ Sim w' Pr φ h' := by
  intro w' h'
  obtain ⟨vs0, e0, q1, q2, q3, q4, q5, q6⟩ := S.blk _ _ _ hblk hc
  rw [he] at q1
  simp at q1
  obtain ⟨rfl, rfl⟩ := q1
  have hlu := r.length
  have hsz : (vs.toList.take off ++ us ++ vs.toList.drop (off + us.length)).length = vs.size := by simp; omega
  have hlen : (putAt blk.cs off new).length = blk.cs.length := by simp [putAt]; omega
  refine own_write S (w' := w') hblk hc he (vs' := (vs.toList.take off ++ us ++ vs.toList.drop (off + us.length)).toArray) (e := e) (setRow_heap w c vs _ e _ he) (fun b' hb' => setRow_other w c b' _ hb') (by simp [w']) rfl rfl rfl
    (by simp only [List.size_toArray, hsz]; exact Nat.le_refl _) (fun o ho => ?_) rfl (by simp only [hlen]; exact Nat.le_refl _) (by simp only [hlen, List.size_toArray, hsz]; exact q2) rfl (all_putAt q4 h1) (fun l => ?_)
  · have : o < off := by omega
    have hoff : off ≤ vs.size := by omega
    simp only [List.getElem?_toArray, List.append_assoc]
    rw [List.getElem?_append_left (by simp; omega), List.getElem?_take_of_lt this]
    simp
  · have htake : (vs.toList.take off ++ us ++ vs.toList.drop (off + us.length)).take blk.cs.length = (vs.toList.take blk.cs.length).take off ++ us ++ (vs.toList.take blk.cs.length).drop (off + us.length) := by
      exact take_put (by simp; omega) (by omega)
    have hl2 : (List.length { cs := putAt blk.cs off new, fz := blk.fz, box := blk.box : Blk }.cs) = blk.cs.length := hlen
    rw [hl2, htake]
    cases hb : blk.box <;> simp only [hb, cond_true, cond_false] at q3 ⊢
    · exact RepL.mono l.closed _ _ (putAt_rep (off := off) q3 (hrc hb))
    · have := RepL.mono l _ _ (putAt_rep (off := off) q3 r)
      rw [hb] at this
      exact this

end

end Go.Proofs.YtccinlhenkkpeaaDoor.E

namespace Go.Proofs.YtccinlhenkkpeaaDoor.E
open Go

section
variable {P : Program} {o : Oper} {w : World} {Pr : Nat → Nat → Prop} {φ : List Nat} {h : List Blk} {t : Nat → D} {a : Act}

theorem OKop.skip {h' : List Blk} {w' : World} {Pr' : Nat → Nat → Prop} {φ' : List Nat} (hv : (execOp a.eval o).run P w = .ok .skip w')
    (l : Le w Pr φ h w' Pr' φ' h') (f : Fr w Pr φ w' Pr' φ') (S : Sim w' Pr' φ' h') : OKop P o a w Pr φ h (.tup []) h' := by
  intro K Q hK
  unfold Oper.wp
  rw [hv, Oper.upon_skip]
  exact hK _ _ _ _ l f S (by simp only [Rep]; exact ⟨#[], rfl, rfl⟩)

theorem ok_store (S : Sim w Pr φ h) (s : Slots w Pr φ h t a) {e : TypeId} {inf : TypeInfo} {x y : Operand} {x' y' : XO} {b off g : Nat} {blk : Blk} {new new' : List D} (ho : o.op = .store e x y) (hx : cO x = some x') (hy : cO y = some y') (hi : P.info? e = some inf)
    (he : x'.ev t = .ptr b off g) (hn : (y'.ev t).cells = some new) (hblk : h[b]? = some blk) (hg : blk.cs.length = g) (hfz : blk.fz ≤ off) (hle : off + inf.size ≤ g) (hl : new.length = inf.size)
    (hs : if blk.box then new' = new else RepL w Pr [] [] new' (a.eval y).cells.toList ∧ new'.all D.one = true) : OKop P o a w Pr φ h (.tup []) (h.set b ⟨putAt blk.cs off new', blk.fz, blk.box⟩) := by
  have r1 := cO_rep S.gl s hx
  rw [he] at r1
  simp only [Rep] at r1
  obtain ⟨ad, blk', hv, q1, q2, q3⟩ := r1
  rw [hblk] at q1
  simp at q1; subst q1
  obtain ⟨c, g1, rfl⟩ := q3 hg
  obtain ⟨r2, o2⟩ := cells_rep hn (cO_rep S.gl s hy)
  obtain ⟨vs, e', p1, p2, p3, p4, p5, p6⟩ := S.blk _ _ _ hblk g1
  have hlen := r2.length
  simp only [Array.length_toList] at hlen
  have hr' : RepL w Pr φ h new' (a.eval y).cells.toList ∧ (blk.box = false → RepL w Pr [] [] new' (a.eval y).cells.toList) ∧ new'.all D.one = true ∧ new'.length = new.length := by
    cases hb : blk.box
    · simp only [hb, Bool.false_eq_true, if_false] at hs
      obtain ⟨u1, u2⟩ := hs
      have := u1.length
      have := r2.length
      exact ⟨liftL_closed u1, fun _ => u1, u2, by omega⟩
    · simp only [hb, if_true] at hs
      subst hs
      exact ⟨r2, by simp, o2, rfl⟩
  obtain ⟨l, f, S'⟩ := write_cells S hblk g1 p1 hfz (by omega) hr'.1 hr'.2.1 hr'.2.2.1
  have hst := run_storeCells_at P c off e' (a.eval y).cells.toList 0 vs w p1 (by simp; omega) (all_one_values r2 o2)
  simp only [Nat.add_zero] at hst
  refine OKop.skip (w' := w.setRow c (vs.toList.take off ++ (a.eval y).cells.toList ++ vs.toList.drop (off + (a.eval y).cells.toList.length)).toArray) ?_ l f S'
  have hne : ¬ ((a.eval y).cells.size ≠ inf.size) := by omega
  simp only [execOp, ho, Instr.storeAt, hv, Instr.sureAddr, Sem.run_bind, Sem.run_pure, Result.andThen_ok, storeVar, size_run hi, Sem.run_ite, hne, if_false, hst]

/-- The cells of a slice, in the model. -/
theorem contents_rep (S : Sim w Pr φ h) {d : D} {m : Nat} {cs : List D} {v : Value} (hc : contents h d = some (m, cs)) (r : Rep w Pr φ h d v) :
    ∃ ad cap us, v = .slice ad m cap ∧ RepL w Pr [] [] cs us ∧ cs.all D.one = true ∧ (us = [] ∨ ∃ ad', ad = some ad' ∧ ∀ j u, us[j]? = some u → w.cell? (ad'.add j) = some u) := by
  unfold contents at hc
  split at hc
  · simp at hc
    obtain ⟨rfl, rfl⟩ := hc
    simp only [Rep] at r
    obtain ⟨ad, cap, vs, h1, h2, h3, h4, h5, h6, h7, h8⟩ := r
    refine ⟨ad, cap, vs, h1, h8, h7, ?_⟩
    rcases h6 with h6 | ⟨b, of, hb, hcc⟩
    · exact .inl h6
    · exact .inr ⟨_, hb, fun j u hj => by rw [Addr.add_lit]; exact (hcc j u hj).1⟩
  · rename_i b off n sz gen full
    split at hc
    · rename_i blk hblk
      split at hc
      · rename_i hcc
        obtain ⟨hg, hle, hbx⟩ := hcc
        simp at hc
        obtain ⟨rfl, rfl⟩ := hc
        simp only [Rep] at r
        obtain ⟨ad, cap, blk', h1, h2, h3, h4, h5, h6, h7, h8, h9⟩ := r
        rw [hblk] at h6
        simp at h6; subst h6
        obtain ⟨c, g1, g2, g3, g4⟩ := h9 hg
        obtain ⟨vs, e, q1, q2, q3, q4, q5, q6⟩ := S.blk _ _ _ hblk g1
        simp only [hbx, cond_false] at q3
        refine ⟨ad, cap, ((vs.toList.take blk.cs.length).drop off).take (n * sz), h1, (q3.drop _).take _, all_take _ (all_drop _ q4), ?_⟩
        by_cases hcap : 0 < cap
        · refine .inr ⟨_, g2 hcap, fun j u hj => ?_⟩
          rw [Addr.add_lit, cell_of_row w c (off + j) vs e (0, 0) q1]
          rw [List.getElem?_take] at hj
          split at hj
          · rw [List.getElem?_drop, List.getElem?_take] at hj
            split at hj
            · simpa using hj
            · simp at hj
          · simp at hj
        · have hn : n = 0 := by omega
          subst hn
          simp
      · simp at hc
    · simp at hc
  · simp at hc

theorem firstCells_run {ad : Option Addr} {m cap n sz : Nat} {us : List Value} (hl : us.length = n * sz) (hu : us = [] ∨ ∃ ad', ad = some ad' ∧ ∀ j u, us[j]? = some u → w.cell? (ad'.add j) = some u) (hz : ad = none → n * sz = 0) :
    (Builtin.firstCells sz n (.slice ad m cap)).run P w = .ok us.toArray w := by
  cases ad with
  | none =>
    have : us = [] := List.eq_nil_of_length_eq_zero (by rw [hl]; exact hz rfl)
    subst this
    exact run_firstCells_none w sz n m cap
  | some ad =>
    refine run_firstCells_some w sz n ad m cap us hl fun j v hj => ?_
    rcases hu with hu | ⟨ad', ha, hc⟩
    · subst hu; simp at hj
    · simp at ha; subst ha
      exact hc j v hj

theorem append_zero {t1 t2 ty e : TypeId} {inf : TypeInfo} (ht : P.underlying t1 = some (.slice e)) (ht2 : ∃ e', P.underlying t2 = some (.slice e')) (hi : P.info? e = some inf) {ad ad2 : Option Addr} {n cap cap2 : Nat} (hn : n ≤ cap) :
    (Builtin.append_ #[t1, t2] ty #[.slice ad n cap, .slice ad2 0 cap2]).run P w = .ok (.slice ad n cap) w := by
  obtain ⟨e', ht2⟩ := ht2
  have hf : (Builtin.firstCells inf.size 0 (.slice ad2 0 cap2)).run P w = .ok #[] w := by
    cases ad2 with
    | none => simp [Builtin.firstCells]
    | some x => simp [Builtin.firstCells, loadCells, loadCellsFrom]
  cases ad <;> simp [Builtin.append_, run_underlying ht, run_underlying ht2, size_run hi, Builtin.lenOf, hn, hf, storeCells]

theorem append_room {t1 t2 ty e e' ee : TypeId} {inf : TypeInfo} (ht : P.underlying t1 = some (.slice e)) (ht2 : P.underlying t2 = some (.slice e')) (hi : P.info? e = some inf) {c off n cap m cap2 : Nat} {ad2 : Option Addr} {cur : Array Value} {us : List Value}
    (hg : w.heap[c]? = some (.cells cur ee (0, 0))) (hl : us.length = m * inf.size) (hu : us = [] ∨ ∃ ad', ad2 = some ad' ∧ ∀ j u, us[j]? = some u → w.cell? (ad'.add j) = some u) (hz : ad2 = none → m * inf.size = 0)
    (h1 : ∀ u ∈ us, u.oneCell' = true) (hroom : n + m ≤ cap) (hfit : off + n * inf.size + us.length ≤ cur.size) :
    (Builtin.append_ #[t1, t2] ty #[.slice (some ⟨c, off, none⟩) n cap, .slice ad2 m cap2]).run P w =
      .ok (.slice (some ⟨c, off, none⟩) (n + m) cap) (w.setRow c (cur.toList.take (off + n * inf.size) ++ us ++ cur.toList.drop (off + n * inf.size + us.length)).toArray) := by
  have hf := firstCells_run (P := P) (w := w) (m := m) (cap := cap2) hl hu hz
  have hst := run_storeCells_at P c (off + n * inf.size) ee us 0 cur w hg (by simpa using hfit) h1
  simp only [Nat.add_zero] at hst
  simp [Builtin.append_, run_underlying ht, run_underlying ht2, size_run hi, Builtin.lenOf, hroom, hf, Addr.add_lit, hst]

theorem append_grow {t1 t2 ty e e' : TypeId} {inf : TypeInfo} {z : Value} (ht : P.underlying t1 = some (.slice e)) (ht2 : P.underlying t2 = some (.slice e')) (hi : P.info? e = some inf) (hz0 : inf.zero = some z) {ad ad2 : Option Addr} {n cap m cap2 : Nat} {olds us : List Value}
    (hlo : olds.length = n * inf.size) (hou : olds = [] ∨ ∃ ad', ad = some ad' ∧ ∀ j u, olds[j]? = some u → w.cell? (ad'.add j) = some u) (hoz : ad = none → n * inf.size = 0)
    (hl : us.length = m * inf.size) (hu : us = [] ∨ ∃ ad', ad2 = some ad' ∧ ∀ j u, us[j]? = some u → w.cell? (ad'.add j) = some u) (hz : ad2 = none → m * inf.size = 0)
    (hg : cap < n + m) (h63 : n + m ≤ 1099511627776) (hb : (n + m) * inf.bytes ≤ 140737488355328) :
    (Builtin.append_ #[t1, t2] ty #[.slice ad n cap, .slice ad2 m cap2]).run P w =
      .ok (.slice (some ⟨w.heap.size, 0, none⟩) (n + m) (grownCap w (n + m) cap e))
        (w.drew.alloc (.cells (olds.toArray ++ us.toArray ++ Builtin.zeroCells z.cells (grownCap w (n + m) cap e - (n + m))) e)) := by
  have hn : ¬ (n + m ≤ cap) := by omega
  have h63' : ¬ (9223372036854775807 < ((n : Int) + (m : Int))) := by omega
  have hfit := growslice_fits hg hb
  have h48' : ¬ (281474976710656 < Builtin.nextslicecap (n + m) cap * inf.bytes) := by omega
  have hf := firstCells_run (P := P) (w := w.drew) (m := m) (cap := cap2) hl (by simpa using hu) hz
  have hfo := firstCells_run (P := P) (w := w.drew) (m := n) (cap := cap) hlo (by simpa using hou) hoz
  simp [Builtin.append_, run_underlying ht, run_underlying ht2, sizeOf, typeInfo, zeroValue, hi, hz0, Builtin.lenOf, hn, h63', h48', Question.forced, hf, hfo, newRow, grownCap]
  congr 2
  apply Array.ext'
  simp [List.append_assoc]

theorem append_run {c : Call} {x y : Operand} {t1 t2 : TypeId} {v w' : _} (ho : o.op = .call c) (hc : c.callee = .builtin .append) (ha : c.args.toList = [x, y]) (ht : c.argTypes.toList = [t1, t2])
    (hr : (Builtin.append_ #[t1, t2] o.type #[a.eval x, a.eval y]).run P w = .ok v w') : (execOp a.eval o).run P w = .ok (.value v) w' := by
  have ha' : c.args = #[x, y] := by cases hh : c.args; simp_all
  have ht' : c.argTypes = #[t1, t2] := by cases hh : c.argTypes; simp_all
  simp [execOp, ho, resolve, hc, ha', ht', invoke, builtin, hr]

theorem zeroCells_size {z : Value} (n : Nat) : (Builtin.zeroCells z.cells n).size = n * z.cells.size := by simp [Builtin.zeroCells]

/-- The new block behind an append that grows. -/
theorem grow_alloc (S : Sim w Pr φ h) {e : TypeId} {olds us : List Value} {co cn : List D} {zc : Array Value} (r1 : RepL w Pr [] [] co olds) (r2 : RepL w Pr [] [] cn us) (o1 : co.all D.one = true) (o2 : cn.all D.one = true) :
    let w' := w.drew.alloc (.cells (olds.toArray ++ us.toArray ++ zc) e)
    Le w Pr φ h w' Pr (φ ++ [w.heap.size]) (h ++ [⟨co ++ cn, 0, false⟩]) ∧ Fr w Pr φ w' Pr (φ ++ [w.heap.size]) ∧ Sim w' Pr (φ ++ [w.heap.size]) (h ++ [⟨co ++ cn, 0, false⟩]) := by
  intro w'
  obtain ⟨l1, f1, S1⟩ := drew_all S
  have hl1 := r1.length
  have hl2 := r2.length
  have hlen : (co ++ cn).length = (olds ++ us).length := by simp; omega
  have ht : ((olds.toArray ++ us.toArray ++ zc).toList.take (co ++ cn).length) = olds ++ us := by
    rw [hlen]
    simp only [Array.toList_append]
    exact List.take_left
  have hr := RepL.mono l1.closed _ _ (r1.append r2)
  obtain ⟨l2, f2, S2⟩ := own_alloc S1 (olds.toArray ++ us.toArray ++ zc) e ⟨co ++ cn, 0, false⟩ (by simp only [hlen]; simp) (by rw [ht]; exact liftL_closed hr) (fun _ => by rw [ht]; exact hr) (by simp only [List.all_append, o1, o2, Bool.and_self]) rfl
  exact ⟨l1.trans l2, f1.trans f2, S2⟩

theorem grow_room {e : TypeId} {olds us : List Value} {z : Value} {n m cap sz : Nat} (hz : z.cells.size = sz) (hlo : olds.length = n * sz) (hl : us.length = m * sz) (hcap : n + m ≤ cap) :
    Room (w.drew.alloc (.cells (olds.toArray ++ us.toArray ++ Builtin.zeroCells z.cells (cap - (n + m))) e)) w.heap.size (0 + cap * sz) := by
  refine ⟨_, e, heap_alloc_new w.drew _, ?_⟩
  simp only [Array.size_append, List.size_toArray, zeroCells_size, hz, hlo, hl]
  have : cap = n + m + (cap - (n + m)) := by omega
  rw [← Nat.add_mul, ← Nat.add_mul, ← this]
  omega

theorem append_short (S : Sim w Pr φ h) {c : Call} {x y : Operand} {t1 t2 e e' : TypeId} {inf : TypeInfo} (ho : o.op = .call c) (hc : c.callee = .builtin .append) (ha : c.args.toList = [x, y]) (hat : c.argTypes.toList = [t1, t2])
    (ht1 : P.underlying t1 = some (.slice e)) (ht2 : P.underlying t2 = some (.slice e')) (hi1 : P.info? e = some inf) {b off n m : Nat} {full : Bool} {blk : Blk} {cs2 : List D} {us : List Value} {ad2 : Option Addr} {cap2 : Nat} {gen : Nat} (hblk : h[b]? = some blk) (hg : blk.cs.length = gen)
    (hbx : blk.box = false) (hfl : full = false) (hfit : off + (n + m) * inf.size ≤ gen) (hfz : blk.fz ≤ off + n * inf.size) (hlu : us.length = m * inf.size) (hl2 : cs2.length = m * inf.size) (hmp : 0 < m * inf.size) (hz2 : ad2 = none → m * inf.size = 0)
    (r2 : RepL w Pr [] [] cs2 us) (o2 : cs2.all D.one = true) (u2 : us = [] ∨ ∃ ad', ad2 = some ad' ∧ ∀ j u, us[j]? = some u → w.cell? (ad'.add j) = some u) (hv2 : a.eval y = .slice ad2 m cap2) (rx : Rep w Pr φ h (.ref b off n inf.size gen full) (a.eval x)) :
    OKop P o a w Pr φ h (.ref b off (n + m) inf.size gen false) (h.set b ⟨putAt blk.cs (off + n * inf.size) cs2, blk.fz, false⟩) := by
  simp only [Rep] at rx
  obtain ⟨ad, cap, blk', hv1, g1, g2, g3, g4, g5, g6, g7, g8⟩ := rx
  rw [hblk] at g5
  simp at g5; subst g5
  obtain ⟨cc, k1, k2, k3, k4⟩ := g8 hg
  obtain ⟨vs, ee, p1, p2, p3, p4, p5, p6⟩ := S.blk _ _ _ hblk k1
  have hcg := g3.2 hfl
  have hmul := Nat.add_mul n m inf.size
  have hroom : n + m ≤ cap := by
    rcases Nat.lt_or_ge cap (n + m) with hlt | hge
    · have h1 := Nat.mul_le_mul_right inf.size (show cap + 1 ≤ n + m from hlt)
      rw [Nat.add_mul] at h1
      have h2 : 0 < inf.size := Nat.pos_of_ne_zero fun h0 => by rw [h0] at hmp; simp at hmp
      omega
    · exact hge
  have hmpos : 0 < m := Nat.pos_of_ne_zero fun h0 => by rw [h0] at hmp; simp at hmp
  have had := k2 (by omega)
  subst had
  have hrun := append_room (P := P) (w := w) (ty := o.type) (cap2 := cap2) (off := off) ht1 ht2 hi1 p1 hlu u2 hz2 (all_one_values r2 o2) hroom (by omega)
  obtain ⟨l, f, S'⟩ := write_cells S hblk k1 p1 hfz (by omega) (liftL_closed r2) (fun _ => r2) o2
  rw [hbx] at l S'
  refine OKop.go (append_run ho hc ha hat (by rw [hv1, hv2]; exact hrun)) l f S' ?_
  have hbl : b < h.length := (List.getElem?_eq_some_iff.1 hblk).1
  simp only [Rep]
  have hpl : (putAt blk.cs (off + n * inf.size) cs2).length = blk.cs.length := by simp [putAt]; omega
  obtain ⟨vs', ee', p1', p2'⟩ := k4
  rw [p1] at p1'
  simp at p1'
  obtain ⟨rfl, rfl⟩ := p1'
  refine ⟨_, _, ⟨putAt blk.cs (off + n * inf.size) cs2, blk.fz, false⟩, rfl, hroom, g2, ⟨by simp, fun _ => hcg⟩, by simp, by simp [hbl], rfl, Nat.le_of_eq (hpl.trans hg).symm, fun _ => ⟨cc, k1, fun _ => rfl, by omega, ?_⟩⟩
  refine ⟨_, ee, setRow_heap w cc vs _ ee _ p1, ?_⟩
  simp only [List.size_toArray, List.length_append, List.length_take, List.length_drop, Array.length_toList]
  omega

theorem ok_append (S : Sim w Pr φ h) (s : Slots w Pr φ h t a) {e e' : TypeId} {c : Call} {x y : Operand} {t1 t2 : TypeId} {x' y' : XO} {sz by_ : Nat} {zs : List D} {d : D} {h' : List Blk} {C : Calls}
    (ho : o.op = .call c) (hc : c.callee = .builtin .append) (ha : c.args.toList = [x, y]) (hat : c.argTypes.toList = [t1, t2]) (hx : cO x = some x') (hy : cO y = some y')
    (ht1 : P.underlying t1 = some (.slice e)) (ht2 : P.underlying t2 = some (.slice e')) (hi : tInfo P e = some (sz, by_, zs)) (hsz : 0 < sz) (hd : evW C h (XO.ev t) (.append sz by_ x' y') = some (d, h')) : OKop P o a w Pr φ h d h' := by
  obtain ⟨inf, z, hi1, hz, rfl, rfl, hof, hzl⟩ := tInfo_spec hi
  have hzsz : z.cells.size = inf.size := by
    have := (ofCells_rep (w := w) (Pr := Pr) (φ := φ) (h := h) _ _ hof).1.length
    simp at this; omega
  simp only [evW] at hd
  split at hd
  · rename_i m cs2 hcon
    obtain ⟨ad2, cap2, us, hv2, r2, o2, u2⟩ := contents_rep S hcon (cO_rep S.gl s hy)
    have rx := cO_rep S.gl s hx
    split at hd
    · rename_i hm
      subst hm
      split at hd
      · rename_i n full cs he
        simp at hd
        obtain ⟨rfl, rfl⟩ := hd
        have rx' := rx
        rw [he] at rx
        simp only [Rep] at rx
        obtain ⟨ad, cap, vs, hv1, g1, _⟩ := rx
        refine OKop.val S (v := a.eval x) (append_run ho hc ha hat ?_) rx'
        rw [hv1, hv2]
        exact append_zero ht1 ⟨e', ht2⟩ hi1 g1
      · rename_i b off n sz' gen full he
        simp at hd
        obtain ⟨rfl, rfl⟩ := hd
        have rx' := rx
        rw [he] at rx
        simp only [Rep] at rx
        obtain ⟨ad, cap, vs, hv1, g1, _⟩ := rx
        refine OKop.val S (v := a.eval x) (append_run ho hc ha hat ?_) rx'
        rw [hv1, hv2]
        exact append_zero ht1 ⟨e', ht2⟩ hi1 g1
      · simp at hd
    · rename_i hm
      split at hd
      · rename_i hl2
        have hlu : us.length = m * inf.size := by rw [r2.length, hl2]
        have hmp : 0 < m * inf.size := Nat.mul_pos (by omega) hsz
        have hz2 : ad2 = none → m * inf.size = 0 := by
          intro hn
          rcases u2 with u2 | ⟨ad', ha', _⟩
          · subst u2; simp at hlu; omega
          · rw [hn] at ha'; simp at ha'
        split at hd
        · -- a slice that nobody writes
          rename_i n full cs he
          split at hd
          · rename_i hcc
            obtain ⟨hfull, hlc, hbytes, h63⟩ := hcc
            simp at hd
            obtain ⟨rfl, rfl⟩ := hd
            rw [he] at rx
            simp only [Rep] at rx
            obtain ⟨ad, cap, vs, hv1, g1, g2, g3, g4, g5, g6, g7⟩ := rx
            have hcap := g3 hfull
            have hlo : vs.length = n * inf.size := by rw [g7.length, hlc]
            have hou : vs = [] ∨ ∃ ad', ad = some ad' ∧ ∀ j u, vs[j]? = some u → w.cell? (ad'.add j) = some u := by
              rcases g5 with g5 | ⟨bb, of, hb, hcc⟩
              · exact .inl g5
              · exact .inr ⟨_, hb, fun j u hj => by rw [Addr.add_lit]; exact (hcc j u hj).1⟩
            have hoz : ad = none → n * inf.size = 0 := fun hn => by
                have h0 := g4 hn
                have hn0 : n = 0 := by omega
                rw [hn0, Nat.zero_mul]
            have hrun := append_grow (P := P) (w := w) (ty := o.type) (cap2 := cap2) ht1 ht2 hi1 hz hlo hou hoz hlu u2 hz2 (by omega : cap < n + m) h63 hbytes
            obtain ⟨l, f, S'⟩ := grow_alloc S (e := e) (zc := Builtin.zeroCells z.cells (grownCap w (n + m) cap e - (n + m))) g7 r2 g6 o2
            have hge := grownCap_ge w (n + m) cap e
            have hle := grownCap_le_maxLen w (n + m) cap e (by simp only [maxLen]; omega)
            refine OKop.go (append_run ho hc ha hat (by rw [hv1, hv2]; exact hrun)) l f S' ?_
            simp only [Rep]
            refine ⟨_, _, ⟨cs ++ cs2, 0, false⟩, rfl, hge, hle, ⟨by simp, fun _ => by have := Nat.mul_le_mul_right inf.size hge; omega⟩, by simp, by simp, rfl, ?_, fun _ => ⟨w.heap.size, by rw [← S.len]; simp, fun _ => rfl, by simp, grow_room hzsz hlo hlu hge⟩⟩
            simp only [List.length_append, hlc, hl2, Nat.add_mul]
            exact Nat.le_refl _
          · simp at hd
        · -- one of the store
          rename_i b off n sz' gen full he
          split at hd
          · rename_i blk hblk
            split at hd
            · -- there is room, and what lies there is shown
              rename_i hshort
              split at hd
              · rename_i hcc
                obtain ⟨hg, rfl, hbx, hfl, hfit, hfz⟩ := hcc
                simp at hd
                obtain ⟨rfl, rfl⟩ := hd
                rw [he] at rx
                exact append_short S ho hc ha hat ht1 ht2 hi1 hblk hg hbx hfl hfit hfz hlu hl2 hmp hz2 r2 o2 u2 hv2 rx
              · simp at hd
            split at hd
            · rename_i hcc
              obtain ⟨hg, hend, rfl, hbx, hbytes, h63⟩ := hcc
              rw [he] at rx
              simp only [Rep] at rx
              obtain ⟨ad, cap, blk', hv1, g1, g2, g3, g4, g5, g6, g7, g8⟩ := rx
              rw [hblk] at g5
              simp at g5; subst g5
              obtain ⟨cc, k1, k2, k3, k4⟩ := g8 hg
              obtain ⟨vs, ee, p1, p2, p3, p4, p5, p6⟩ := S.blk _ _ _ hblk k1
              simp only [hbx, cond_false] at p3
              have hge := grownCap_ge w (n + m) cap e
              have hle := grownCap_le_maxLen w (n + m) cap e (by simp only [maxLen]; omega)
              have hlo : ((vs.toList.take blk.cs.length).drop off).length = n * inf.size := by simp; omega
              have hou : ((vs.toList.take blk.cs.length).drop off) = [] ∨ ∃ ad', ad = some ad' ∧ ∀ j u, ((vs.toList.take blk.cs.length).drop off)[j]? = some u → w.cell? (ad'.add j) = some u := by
                by_cases hcap : 0 < cap
                · refine .inr ⟨_, k2 hcap, fun j u hj => ?_⟩
                  rw [Addr.add_lit, cell_of_row w cc (off + j) vs ee (0, 0) p1]
                  rw [List.getElem?_drop, List.getElem?_take] at hj
                  split at hj
                  · simpa using hj
                  · simp at hj
                · have hn : n = 0 := by omega
                  subst hn
                  exact .inl (List.eq_nil_of_length_eq_zero (by rw [hlo]; simp))
              have hoz : ad = none → n * inf.size = 0 := fun hn => by
                have h0 := g4 hn
                have hn0 : n = 0 := by omega
                rw [hn0, Nat.zero_mul]
              cases hfl : full
              · -- it may have room
                simp only [hfl, cond_false] at hd
                split at hd
                · rename_i hoff
                  subst hoff
                  simp at hd
                  obtain ⟨rfl, rfl⟩ := hd
                  simp only [List.drop_zero, Nat.zero_add] at hlo hou hend
                  by_cases hroom : n + m ≤ cap
                  · have hcap : 0 < cap := by omega
                    have had := k2 hcap
                    subst had
                    obtain ⟨vs', ee', p1', p2'⟩ := k4
                    rw [p1] at p1'
                    simp at p1'
                    obtain ⟨rfl, rfl⟩ := p1'
                    have hmul : (n + m) * inf.size ≤ cap * inf.size := Nat.mul_le_mul_right _ hroom
                    rw [Nat.add_mul] at hmul
                    have hfit : 0 + n * inf.size + us.length ≤ vs.size := by omega
                    have hrun := append_room (P := P) (w := w) (ty := o.type) (cap2 := cap2) ht1 ht2 hi1 p1 hlu u2 hz2 (all_one_values r2 o2) hroom hfit
                    simp only [Nat.zero_add] at hrun hfit
                    have hnlen : blk.cs.length = n * inf.size := by omega
                    have hsz' : (vs.toList.take (n * inf.size) ++ us ++ vs.toList.drop (n * inf.size + us.length)).length = vs.size := by simp; omega
                    obtain ⟨l, f, S'⟩ := own_write S (w' := w.setRow cc (vs.toList.take (n * inf.size) ++ us ++ vs.toList.drop (n * inf.size + us.length)).toArray) hblk k1 p1 (k' := ⟨blk.cs ++ cs2, blk.fz, false⟩)
                      (vs' := (vs.toList.take (n * inf.size) ++ us ++ vs.toList.drop (n * inf.size + us.length)).toArray) (e := ee) (setRow_heap w cc vs _ ee _ p1) (fun b' hb' => setRow_other w cc b' _ hb') (by simp) rfl rfl rfl
                      (by simp only [List.size_toArray, hsz']; exact Nat.le_refl _) (fun i hi => by
                        have : i < n * inf.size := by omega
                        simp only [List.getElem?_toArray, List.append_assoc]
                        rw [List.getElem?_append_left (by simp; omega), List.getElem?_take_of_lt this]
                        simp) hbx.symm (by simp) (by simp only [List.length_append, List.size_toArray, hsz']; omega) rfl (by simp only [List.all_append, p4, o2, Bool.and_self]) (fun l => by
                        simp only [hbx, cond_false]
                        have e1 : (blk.cs ++ cs2).length = (vs.toList.take (n * inf.size) ++ us).length := by simp; omega
                        rw [e1]
                        simp only [List.append_assoc]
                        rw [← List.append_assoc, List.take_left]
                        rw [hnlen] at p3
                        exact RepL.mono l.closed _ _ (p3.append r2))
                    refine OKop.go (append_run ho hc ha hat (by rw [hv1, hv2]; exact hrun)) l f S' ?_
                    have hbl : b < h.length := (List.getElem?_eq_some_iff.1 hblk).1
                    simp only [Rep]
                    refine ⟨_, _, ⟨blk.cs ++ cs2, blk.fz, false⟩, rfl, hroom, g2, ⟨by simp, fun _ => by have := Nat.mul_le_mul_right inf.size hroom; omega⟩, by simp, by simp [hbl], rfl, ?_, fun _ => ⟨cc, k1, fun _ => rfl, by simp, ?_⟩⟩
                    · simp only [List.length_append, hnlen, hl2, Nat.add_mul]; exact Nat.le_refl _
                    · exact ⟨_, ee, setRow_heap w cc vs _ ee _ p1, by simp only [List.size_toArray, hsz']; simpa using p2'⟩
                  · have hrun := append_grow (P := P) (w := w) (ty := o.type) (cap2 := cap2) ht1 ht2 hi1 hz hlo hou hoz hlu u2 hz2 (by omega : cap < n + m) h63 hbytes
                    obtain ⟨l1, f1, S1⟩ := drew_all S
                    let vs' := (vs.toList.take blk.cs.length).toArray ++ us.toArray ++ Builtin.zeroCells z.cells (grownCap w (n + m) cap e - (n + m))
                    have hb : ∀ x, x < w.drew.heap.size → (w.drew.alloc (.cells vs' e)).heap[x]? = w.drew.heap[x]? := below_alloc _ _
                    have l2 : Le w.drew Pr φ h (w.drew.alloc (.cells vs' e)) Pr φ h := Le.of_below hb (fun _ _ p => p) S1.prlt
                    have S2 : Sim (w.drew.alloc (.cells vs' e)) Pr φ h := S1.of_below hb (fun _ _ p => p) (fun _ _ p => .inl p) (by simp)
                    have f2 : Fr w.drew Pr φ (w.drew.alloc (.cells vs' e)) Pr φ := Fr.of_below hb (fun _ _ p => .inl p) (by simp) rfl rfl rfl
                    have hlen : (blk.cs ++ cs2).length = (vs.toList.take blk.cs.length ++ us).length := by simp; omega
                    have htk : vs'.toList.take (blk.cs ++ cs2).length = vs.toList.take blk.cs.length ++ us := by
                      rw [hlen]
                      simp only [vs', Array.toList_append]
                      exact List.take_left
                    obtain ⟨l3, S3⟩ := own_move S2 (i := b) (c := cc) (c' := w.heap.size) (k := blk) (k' := ⟨blk.cs ++ cs2, blk.fz, false⟩) hblk k1 (fun hh => by have := S.mem_lt hh; omega) (fun o p => by have := S.prlt _ _ p; omega)
                      (vs' := vs') (e := e) (heap_alloc_new w.drew _) rfl hbx (by simp only [List.length_append, hl2]; omega) (by simp only [hlen]; simp [vs']) (by simp only [List.length_append]; omega) (by simp only [List.all_append, p4, o2, Bool.and_self])
                      (by rw [htk]; exact RepL.mono (l1.trans l2).closed _ _ (p3.append r2))
                    have f3 : Fr w Pr φ (w.drew.alloc (.cells vs' e)) Pr (φ.set b w.heap.size) := by
                      have ff := f1.trans f2
                      refine ⟨ff.os, ff.tape, ff.output, ff.size, ff.keep, fun x hx => ?_, ff.prn⟩
                      rcases List.mem_or_eq_of_mem_set hx with hx | hx
                      · exact .inl hx
                      · exact .inr (by omega)
                    refine OKop.go (append_run ho hc ha hat (by rw [hv1, hv2]; exact hrun)) ((l1.trans l2).trans l3) f3 S3 ?_
                    have hbl : b < h.length := (List.getElem?_eq_some_iff.1 hblk).1
                    have hbl' : b < φ.length := by rw [S.len]; exact hbl
                    simp only [Rep]
                    refine ⟨_, _, ⟨blk.cs ++ cs2, blk.fz, false⟩, rfl, hge, hle, ⟨by simp, fun _ => by have := Nat.mul_le_mul_right inf.size hge; omega⟩, by simp, by simp [hbl], rfl, ?_, fun _ => ⟨w.heap.size, by simp [hbl'], fun _ => rfl, by simp, grow_room hzsz hlo hlu hge⟩⟩
                    simp only [List.length_append, hl2, Nat.add_mul]; omega
                · simp at hd
              · -- it has none
                simp only [hfl, cond_true, Option.some.injEq, Prod.mk.injEq] at hd
                obtain ⟨rfl, rfl⟩ := hd
                have hcap := g3.1 hfl
                have hrun := append_grow (P := P) (w := w) (ty := o.type) (cap2 := cap2) ht1 ht2 hi1 hz hlo hou hoz hlu u2 hz2 (by omega : cap < n + m) h63 hbytes
                obtain ⟨l, f, S'⟩ := grow_alloc S (e := e) (zc := Builtin.zeroCells z.cells (grownCap w (n + m) cap e - (n + m))) (p3.drop off) r2 (all_drop _ p4) o2
                refine OKop.go (append_run ho hc ha hat (by rw [hv1, hv2]; exact hrun)) l f S' ?_
                simp only [Rep]
                refine ⟨_, _, ⟨blk.cs.drop off ++ cs2, 0, false⟩, rfl, hge, hle, ⟨by simp, fun _ => by have := Nat.mul_le_mul_right inf.size hge; omega⟩, by simp, by simp, rfl, ?_, fun _ => ⟨w.heap.size, by rw [← S.len]; simp, fun _ => rfl, by simp, grow_room hzsz hlo hlu hge⟩⟩
                simp only [List.length_append, List.length_drop, hl2, Nat.add_mul]; omega
            · simp at hd
          · simp at hd
        · simp at hd
      · simp at hd
  · simp at hd

theorem copy_run {c : Call} {x y : Operand} {t1 t2 : TypeId} {v w' : _} (ho : o.op = .call c) (hc : c.callee = .builtin .copy) (ha : c.args.toList = [x, y]) (ht : c.argTypes.toList = [t1, t2])
    (hr : (Builtin.copy_ #[t1, t2] o.type #[a.eval x, a.eval y]).run P w = .ok v w') : (execOp a.eval o).run P w = .ok (.value v) w' := by
  have ha' : c.args = #[x, y] := by cases hh : c.args; simp_all
  have ht' : c.argTypes = #[t1, t2] := by cases hh : c.argTypes; simp_all
  simp [execOp, ho, resolve, hc, ha', ht', invoke, builtin, hr]

theorem ok_copy (S : Sim w Pr φ h) (s : Slots w Pr φ h t a) {e : TypeId} {c : Call} {x y : Operand} {t1 t2 : TypeId} {x' y' : XO} {inf : TypeInfo} {d : D} {h' : List Blk} {C : Calls}
    (ho : o.op = .call c) (hc : c.callee = .builtin .copy) (ha : c.args.toList = [x, y]) (hat : c.argTypes.toList = [t1, t2]) (hx : cO x = some x') (hy : cO y = some y')
    (ht1 : P.underlying t1 = some (.slice e)) (hi1 : P.info? e = some inf) (hd : evW C h (XO.ev t) (.copy inf.size x' y') = some (d, h')) : OKop P o a w Pr φ h d h' := by
  simp only [evW] at hd
  have rx := cO_rep S.gl s hx
  split at hd
  · rename_i m cs2 b off n sz' gen full hcon he
    obtain ⟨ad2, cap2, us, hv2, r2, o2, u2⟩ := contents_rep S hcon (cO_rep S.gl s hy)
    split at hd
    · rename_i blk hblk
      split at hd
      · rename_i hcc
        obtain ⟨hg, hle, rfl, hbx, hfz, hl2⟩ := hcc
        simp at hd
        obtain ⟨rfl, rfl⟩ := hd
        rw [he] at rx
        simp only [Rep] at rx
        obtain ⟨ad, cap, blk', hv1, g1, g2, g3, g4, g5, g6, g7, g8⟩ := rx
        rw [hblk] at g5
        simp at g5; subst g5
        obtain ⟨cc, k1, k2, k3, k4⟩ := g8 hg
        obtain ⟨vs, ee, p1, p2, p3, p4, p5, p6⟩ := S.blk _ _ _ hblk k1
        have hlu : us.length = m * inf.size := by rw [r2.length, hl2]
        have hk1 : min m n * inf.size ≤ m * inf.size := Nat.mul_le_mul_right _ (Nat.min_le_left _ _)
        have hk2 : min m n * inf.size ≤ n * inf.size := Nat.mul_le_mul_right _ (Nat.min_le_right _ _)
        have hlt : (us.take (min m n * inf.size)).length = min m n * inf.size := by simp; omega
        have r2' := r2.take (min m n * inf.size)
        have o2' := all_take (min m n * inf.size) o2
        have hf : (Builtin.firstCells inf.size (min m n) (.slice ad2 m cap2)).run P w = .ok (us.take (min m n * inf.size)).toArray w := by
          refine firstCells_run hlt ?_ ?_
          · rcases u2 with u2 | ⟨ad', ha', hc'⟩
            · subst u2; exact .inl (by simp)
            · refine .inr ⟨ad', ha', fun j u hj => hc' j u ?_⟩
              rw [List.getElem?_take] at hj
              split at hj
              · exact hj
              · simp at hj
          · intro hn
            rcases u2 with u2 | ⟨ad', ha', _⟩
            · subst u2; simp at hlu; omega
            · rw [hn] at ha'; simp at ha'
        by_cases hcap : 0 < cap
        · have had := k2 hcap
          subst had
          obtain ⟨l, f, S'⟩ := write_cells S hblk k1 p1 hfz (by rw [List.length_take, hl2]; omega) (liftL_closed r2') (fun _ => r2') o2'
          have hst := run_storeCells_at P cc off ee (us.take (min m n * inf.size)) 0 vs w p1 (by rw [hlt]; omega) (all_one_values (w := w) (Pr := Pr) r2' o2')
          simp only [Nat.add_zero] at hst
          rw [hbx] at l S'
          refine OKop.go (v := .int .i64 (min m n : Nat)) (copy_run ho hc ha hat ?_) l f S' (by simp only [Rep])
          rw [hv1, hv2]
          simp [Builtin.copy_, run_underlying ht1, Builtin.lenOf, size_run hi1, hf, hst, goInt]
        · have hn : n = 0 := by omega
          subst hn
          have hz : min m 0 = 0 := by omega
          have e0 : putAt blk.cs off ((cs2.take (min m 0 * inf.size))) = blk.cs := by simp [putAt]
          have e1 : h.set b ⟨blk.cs, blk.fz, false⟩ = h := by
            apply List.ext_getElem?
            intro j
            rw [List.getElem?_set]
            split
            · rename_i hj
              subst hj
              rw [hblk]
              simp [(List.getElem?_eq_some_iff.1 hblk).1, ← hbx]
            · rfl
          rw [e0, e1]
          refine OKop.val S (v := .int .i64 (min m 0 : Nat)) (copy_run ho hc ha hat ?_) (by simp only [Rep])
          rw [hv1, hv2]
          rw [hz] at hf ⊢
          simp only [Nat.zero_mul, List.take_zero] at hf
          cases ad <;> simp [Builtin.copy_, run_underlying ht1, Builtin.lenOf, size_run hi1, hf, goInt, storeCells]
      · simp at hd
    · simp at hd
  · rename_i m cs2 n full cs hcon he
    split at hd
    · rename_i hnm
      simp at hd
      obtain ⟨rfl, rfl⟩ := hd
      obtain ⟨ad2, cap2, us, hv2, r2, o2, u2⟩ := contents_rep S hcon (cO_rep S.gl s hy)
      rw [he] at rx
      simp only [Rep] at rx
      obtain ⟨ad, cap, vs, hv1, _⟩ := rx
      have hz : min m n = 0 := by omega
      have hf : (Builtin.firstCells inf.size 0 (.slice ad2 m cap2)).run P w = .ok #[] w := by
        cases ad2 with
        | none => simp [Builtin.firstCells]
        | some x => simp [Builtin.firstCells, loadCells, loadCellsFrom]
      refine OKop.val S (v := .int .i64 0) (copy_run ho hc ha hat ?_) (by simp only [Rep])
      rw [hv1, hv2]
      cases ad <;> simp [Builtin.copy_, run_underlying ht1, Builtin.lenOf, size_run hi1, hz, hf, goInt, storeCells]
    · simp at hd
  · simp at hd

theorem ok_makeSlice (S : Sim w Pr φ h) (s : Slots w Pr φ h t a) {ty e : TypeId} {x y : Operand} {x' y' : XO} {sz by_ : Nat} {zs : List D} {l c : Int} (ho : o.op = .makeSlice ty x y) (hx : cO x = some x') (hy : cO y = some y')
    (hu : P.underlying ty = some (.slice e)) (hi : tInfo P e = some (sz, by_, zs)) (hsz : 0 < sz) (hex : x'.ev t = .int .i64 l) (hey : y'.ev t = .int .i64 c) (hcc : 0 ≤ l ∧ l ≤ c ∧ c ≤ 1099511627776 ∧ c * by_ ≤ 140737488355328) :
    OKop P o a w Pr φ h (.ref h.length 0 l.toNat sz (l.toNat * sz) (l == c)) (h ++ [⟨zeros zs l.toNat, 0, false⟩]) := by
  obtain ⟨i, z, hi1, hz, rfl, rfl, hof, hl⟩ := tInfo_spec hi
  obtain ⟨z1, z2⟩ := ofCells_rep (w := w) (Pr := Pr) (φ := []) (h := []) _ _ hof
  have hzl : z.cells.size = i.size := by have := z1.length; simp at this; omega
  have rx := cO_rep S.gl s hx
  have ry := cO_rep S.gl s hy
  rw [hex] at rx; rw [hey] at ry
  simp only [Rep] at rx ry
  have hrun := run_make (P := P) w ty e i z hu hi1 hz .i64 .i64 l c hcc.1 hcc.2.1 (by rw [Int.mul_comm]; omega) (by omega)
  have hle : l.toNat * i.size ≤ c.toNat * i.size := Nat.mul_le_mul_right _ (by omega)
  have hzlen := zeros_len zs l.toNat
  rw [hl] at hzlen
  have hmade : ((madeCells z.cells (c.toNat * i.size)).toList.take (zeros zs l.toNat).length) = (List.range (l.toNat * z.cells.size)).map (z.cells[· % z.cells.size]!) := by
    simp only [hzlen, hzl, madeCells, Array.toList_map, Array.toList_range, ← List.map_take]
    rw [List.take_range, Nat.min_eq_left hle]
  have hr := zeros_rep z1 l.toNat
  obtain ⟨l1, f1, S1⟩ := own_alloc S (madeCells z.cells (c.toNat * i.size)) e ⟨zeros zs l.toNat, 0, false⟩ (by simp only [hzlen, size_madeCells]; exact hle) (by rw [hmade]; exact liftL_closed hr) (fun _ => by rw [hmade]; exact hr) (zeros_all z2 _) rfl
  refine OKop.go (v := .slice (some ⟨w.heap.size, 0, none⟩) l.toNat c.toNat) ?_ l1 f1 S1 ?_
  · simp [execOp, ho, rx, ry, hrun]
  · simp only [Rep]
    refine ⟨_, _, ⟨zeros zs l.toNat, 0, false⟩, rfl, by omega, by simp only [maxLen]; omega, ⟨fun hf => ?_, fun _ => by omega⟩, by simp, by simp, rfl, by simp only [hzlen]; exact Nat.le_refl _, fun _ => ⟨w.heap.size, by rw [← S.len]; simp, fun _ => rfl, by simp, ?_⟩⟩
    · simp at hf; rw [hf]
    · exact ⟨_, e, heap_alloc_new w _, by rw [size_madeCells]; omega⟩

end

end Go.Proofs.YtccinlhenkkpeaaDoor.E
