/- Each operation that looks at its operands alone: what the evaluator says of it is what the model does. -/
import Derived.Test.YtcaglmjfphjpfaaSimB
import Derived.Laws.StructEq
namespace Go.Proofs.Ytcaglmjfphjpfaa.E
open Go

theorem ofCells_rep {w : World} {Pr : Nat → Nat → Prop} {φ : List Nat} {h : List Blk} : (vs : List Value) → (ds : List D) → ofCells vs = some ds → RepL w Pr φ h ds vs ∧ ds.all D.one = true
  | [], ds, he => by simp [ofCells] at he; subst he; simp [RepL]
  | v :: r, ds, he => by
    simp only [ofCells] at he
    split at he
    · rename_i d es hd hr
      simp at he
      subst he
      obtain ⟨h1, h2⟩ := ofCells_rep r es hr
      have : Rep w Pr φ h d v ∧ d.one = true := by
        split at hd <;> simp only [Option.some.injEq, reduceCtorEq] at hd <;> subst hd <;> refine ⟨?_, rfl⟩ <;> simp only [Rep]
        exact ⟨none, 0, [], rfl, Nat.le_refl _, Nat.zero_le _, fun _ => rfl, fun _ => rfl, .inl rfl, rfl, rfl⟩
      exact ⟨by simp only [RepL]; exact ⟨v, r, rfl, this.1, h1⟩, by simp [this.2, h2]⟩
    · simp at he

theorem ofConst_rep {w : World} {Pr : Nat → Nat → Prop} {φ : List Nat} {h : List Blk} {v : Value} {d : D} (he : ofConst v = some d) : Rep w Pr φ h d v := by
  unfold ofConst at he
  split at he
  · rename_i cs
    split at he
    · rename_i ds hd
      simp at he
      subst he
      obtain ⟨h1, h2⟩ := ofCells_rep (w := w) (Pr := Pr) (φ := φ) (h := h) _ _ hd
      simp only [Rep]
      exact ⟨cs, rfl, h2, h1⟩
    · simp at he
  · split at he
    · rename_i d' hd
      simp at he
      subst he
      obtain ⟨h1, _⟩ := ofCells_rep (w := w) (Pr := Pr) (φ := φ) (h := h) _ _ hd
      simp only [RepL] at h1
      obtain ⟨v', r, e, h2, _⟩ := h1
      simp at e
      rw [e.1]
      exact h2
    · simp at he

/-- The frame's slots are the evaluator's. -/
def Slots (w : World) (Pr : Nat → Nat → Prop) (φ : List Nat) (h : List Blk) (t : Nat → D) (a : Act) : Prop := ∀ i, Rep w Pr φ h (t i) (a.tmps.getD i undef)

section
variable {w : World} {Pr : Nat → Nat → Prop} {φ : List Nat} {h : List Blk} {t : Nat → D} {a : Act}

theorem cO_rep (s : Slots w Pr φ h t a) {x : Operand} {y : XO} (hx : cO x = some y) : Rep w Pr φ h (y.ev t) (a.eval x) := by
  cases x with
  | tmp i => simp [cO] at hx; subst hx; exact s i
  | const v =>
    simp only [cO] at hx
    split at hx
    · rename_i d hd
      simp at hx; subst hx
      exact ofConst_rep hd
    · simp at hx
  | global g => simp [cO] at hx
  | func f =>
    simp [cO] at hx; subst hx
    simp only [XO.ev, Act.eval, Rep]
    exact ⟨#[], #[], rfl, rfl, rfl⟩

theorem cOs_rep (s : Slots w Pr φ h t a) : (xs : List Operand) → (ys : List XO) → cOs xs = some ys → RepL w Pr φ h (ys.map (XO.ev t)) (xs.map a.eval)
  | [], ys, hx => by simp [cOs] at hx; subst hx; simp [RepL]
  | x :: r, ys, hx => by
    simp only [cOs] at hx
    split at hx
    · rename_i y q hy hq
      simp at hx; subst hx
      simp only [List.map_cons, RepL]
      exact ⟨_, _, rfl, cO_rep s hy, cOs_rep s r q hq⟩
    · simp at hx

theorem cOO_none (s : Slots w Pr φ h t a) {x : Option Operand} {y : Option XO} (hx : cOO x = some y) : (x = none ∧ y = none) ∨ ∃ x' y', x = some x' ∧ y = some y' ∧ Rep w Pr φ h (y'.ev t) (a.eval x') := by
  cases x with
  | none => simp [cOO] at hx; exact .inl ⟨rfl, hx.symm⟩
  | some x =>
    simp only [cOO] at hx
    split at hx
    · rename_i y' hy
      simp at hx
      exact .inr ⟨x, y', rfl, hx.symm, cO_rep s hy⟩
    · simp at hx
end

/-- The operation does what the evaluator says. -/
def OKop (P : Program) (o : Oper) (a : Act) (w : World) (Pr : Nat → Nat → Prop) (φ : List Nat) (h : List Blk) (d : D) (h' : List Blk) : Prop :=
  ∀ (K : Act → World → Prop) (Q : Exit → Act → World → Prop),
    (∀ w' Pr' φ' v, Le w Pr φ h w' Pr' φ' h' → Fr w Pr φ w' Pr' φ' → Sim w' Pr' φ' h' → Rep w' Pr' φ' h' d v → K (a.put o.dst v) w') → o.wp P a w K Q

section
variable {P : Program} {o : Oper} {w : World} {Pr : Nat → Nat → Prop} {φ : List Nat} {h : List Blk} {t : Nat → D} {a : Act}

theorem OKop.go {d : D} {h' : List Blk} {w' : World} {v : Value} {Pr' : Nat → Nat → Prop} {φ' : List Nat} (hv : (execOp a.eval o).run P w = .ok (.value v) w')
    (l : Le w Pr φ h w' Pr' φ' h') (f : Fr w Pr φ w' Pr' φ') (S : Sim w' Pr' φ' h') (r : Rep w' Pr' φ' h' d v) : OKop P o a w Pr φ h d h' := by
  intro K Q hK
  unfold Oper.wp
  rw [hv, Oper.upon_value]
  exact hK _ _ _ _ l f S r

theorem OKop.after {d : D} {h1 h' : List Blk} {Pr1 : Nat → Nat → Prop} (k : OKop P o a w Pr1 φ h1 d h') (l : Le w Pr φ h w Pr1 φ h1) (f : Fr w Pr φ w Pr1 φ) : OKop P o a w Pr φ h d h' := by
  intro K Q hK
  exact k K Q fun w' Pr' φ' v l' f' S' r' => hK w' Pr' φ' v (l.trans l') (f.trans f') S' r'

theorem OKop.val (S : Sim w Pr φ h) {d : D} {v : Value} (hv : (execOp a.eval o).run P w = .ok (.value v) w) (r : Rep w Pr φ h d v) : OKop P o a w Pr φ h d h :=
  OKop.go hv (Le.refl _ _ _ _) (Fr.refl _ _ _) S r

theorem run_v {ρ : Operand → Value} {s : Sem Value} {v : Value} {w' : World} (he : execOp ρ o = (do pure (.value (← s)))) (hs : s.run P w = .ok v w') : (execOp ρ o).run P w = .ok (.value v) w' := by
  rw [he]
  simp [hs]

theorem ok_move (S : Sim w Pr φ h) (s : Slots w Pr φ h t a) {x : Operand} {y : XO} (ho : o.op = .move x ∨ o.op = .assign x) (hx : cO x = some y) : OKop P o a w Pr φ h (y.ev t) h := by
  refine OKop.val S (v := a.eval x) ?_ (cO_rep s hx)
  rcases ho with ho | ho <;> simp [execOp, ho]

theorem ok_pick (S : Sim w Pr φ h) (s : Slots w Pr φ h t a) {x y z : Operand} {x' y' z' : XO} {b : Bool} (ho : o.op = .pick x y z) (hx : cO x = some x') (hy : cO y = some y') (hz : cO z = some z')
    (hb : x'.ev t = .bool b) : OKop P o a w Pr φ h (bif b then y'.ev t else z'.ev t) h := by
  have r1 := cO_rep s hx
  rw [hb] at r1
  simp only [Rep] at r1
  refine OKop.val S (v := if b then a.eval y else a.eval z) ?_ ?_
  · simp [execOp, ho, r1, asBool]
  · cases b
    · exact cO_rep s hz
    · exact cO_rep s hy

theorem info_run {e : TypeId} {i : TypeInfo} (hi : P.info? e = some i) : (typeInfo e).run P w = .ok i w := by simp [typeInfo, hi]
theorem size_run {e : TypeId} {i : TypeInfo} (hi : P.info? e = some i) : (sizeOf e).run P w = .ok i.size w := by simp [sizeOf, typeInfo, hi]

theorem tInfo_spec {e : TypeId} {sz by_ : Nat} {zs : List D} (hi : tInfo P e = some (sz, by_, zs)) :
    ∃ i z, P.info? e = some i ∧ i.zero = some z ∧ i.size = sz ∧ i.bytes = by_ ∧ ofCells z.cells.toList = some zs ∧ zs.length = sz := by
  unfold tInfo at hi
  split at hi
  · rename_i i hi'
    split at hi
    · rename_i z hz
      split at hi
      · rename_i ds hd
        split at hi
        · rename_i hl
          simp at hi
          obtain ⟨rfl, rfl, rfl⟩ := hi
          exact ⟨i, z, hi', hz, rfl, rfl, hd, hl⟩
        · simp at hi
      · simp at hi
    · simp at hi
  · simp at hi

theorem zero_run {e : TypeId} {i : TypeInfo} {z : Value} (hi : P.info? e = some i) (hz : i.zero = some z) : (zeroValue e).run P w = .ok z w := by simp [zeroValue, typeInfo, hi, hz]

theorem tAgg_spec {e : TypeId} {sz : Option Nat} (hi : tAgg P e = some sz) : ∃ i d, P.info? e = some i ∧ P.underlying e = some d ∧
    ((sz = some i.size ∧ (isAgg e).run P w = .ok true w) ∨ (sz = none ∧ (isAgg e).run P w = .ok false w)) := by
  unfold tAgg at hi
  split at hi
  · rename_i fs i hu hi'
    simp at hi
    exact ⟨i, _, hi', hu, .inl ⟨hi.symm, by simp [isAgg, run_underlying hu]⟩⟩
  · rename_i n e' i hu hi'
    simp at hi
    exact ⟨i, _, hi', hu, .inl ⟨hi.symm, by simp [isAgg, run_underlying hu]⟩⟩
  · rename_i d i hn1 hn2 hu hi'
    simp at hi
    refine ⟨i, d, hi', hu, .inr ⟨hi.symm, ?_⟩⟩
    cases d <;> first | (simp [isAgg, run_underlying hu]; done) | exact absurd rfl (hn1 _) | exact absurd rfl (hn2 _ _)
  · simp at hi
end

end Go.Proofs.Ytcaglmjfphjpfaa.E
