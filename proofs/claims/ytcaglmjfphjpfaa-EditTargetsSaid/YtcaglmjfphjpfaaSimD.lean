/- The same, on: structs put together and taken apart, slices, numbers. -/
import Derived.Test.YtcaglmjfphjpfaaSimC
namespace Go.Proofs.Ytcaglmjfphjpfaa.E
open Go

section
variable {P : Program} {o : Oper} {w : World} {Pr : Nat → Nat → Prop} {φ : List Nat} {h : List Blk} {t : Nat → D} {a : Act}

theorem all_drop {p : D → Bool} {cs : List D} (n : Nat) (h : cs.all p = true) : (cs.drop n).all p = true := by
  rw [List.all_eq_true] at h ⊢
  exact fun x hx => h x (List.mem_of_mem_drop hx)
theorem all_take {p : D → Bool} {cs : List D} (n : Nat) (h : cs.all p = true) : (cs.take n).all p = true := by
  rw [List.all_eq_true] at h ⊢
  exact fun x hx => h x (List.mem_of_mem_take hx)

/-- A part of a struct or an array. -/
theorem part_run {e : TypeId} {sz : Option Nat} {cs : Array Value} {ds : List D} {off : Nat} {d : D} (ht : tAgg P e = some sz) (h1 : ds.all D.one = true) (r : RepL w Pr φ h ds cs.toList) (hd : take1 ds off sz = some d) :
    ∃ v, (part e cs off).run P w = .ok v w ∧ Rep w Pr φ h d v := by
  obtain ⟨i, dd, hi, hu, ⟨rfl, ha⟩ | ⟨rfl, ha⟩⟩ := tAgg_spec (w := w) ht
  · simp only [take1] at hd
    split at hd
    · rename_i hle
      simp at hd; subst hd
      refine ⟨.agg (cs.extract off (off + i.size)), by simp [part, ha, size_run hi], ?_⟩
      simp only [Rep]
      refine ⟨_, rfl, all_take _ (all_drop _ h1), ?_⟩
      have := (r.drop off).take i.size
      simpa [Array.toList_extract, List.extract_eq_take_drop] using this
    · simp at hd
  · simp only [take1] at hd
    obtain ⟨v, hv, hr⟩ := r.get off d hd
    refine ⟨v, ?_, hr⟩
    have : cs[off]? = some v := by simpa using hv
    simp [part, ha, this]

theorem ok_field (S : Sim w Pr φ h) (s : Slots w Pr φ h t a) {ty : TypeId} {x : Operand} {f : Nat} {y : XO} {fs : Array Field} {fd : Field} {sz : Option Nat} {cs : List D} {d : D} (ho : o.op = .field ty x f) (hx : cO x = some y)
    (hu : P.underlying ty = some (.struct fs)) (hf : fs[f]? = some fd) (ht : tAgg P fd.type = some sz) (he : y.ev t = .agg cs) (hd : take1 cs fd.offset sz = some d) : OKop P o a w Pr φ h d h := by
  have r1 := cO_rep s hx
  rw [he] at r1
  simp only [Rep] at r1
  obtain ⟨vs, hv, h1, r2⟩ := r1
  obtain ⟨v, hr, hv'⟩ := part_run ht h1 r2 hd
  refine OKop.val S (v := v) ?_ hv'
  simp [execOp, ho, Instr.field, run_underlying hu, hf, hv, asAgg, hr]

theorem ok_extract (S : Sim w Pr φ h) (s : Slots w Pr φ h t a) {x : Operand} {i : Nat} {y : XO} {ds : List D} {d : D} (ho : o.op = .extract x i) (hx : cO x = some y) (he : y.ev t = .tup ds) (hd : ds[i]? = some d) : OKop P o a w Pr φ h d h := by
  have r1 := cO_rep s hx
  rw [he] at r1
  simp only [Rep] at r1
  obtain ⟨vs, hv, r2⟩ := r1
  obtain ⟨v, hr, hv'⟩ := r2.get i d hd
  have : vs[i]? = some v := by simpa using hr
  refine OKop.val S (v := v) ?_ hv'
  simp [execOp, ho, Instr.extract, hv, this]

theorem ok_fieldAddr (S : Sim w Pr φ h) (s : Slots w Pr φ h t a) {ty : TypeId} {x : Operand} {f : Nat} {y : XO} {fs : Array Field} {fd : Field} {i : TypeInfo} {d : D} (ho : o.op = .fieldAddr ty x f) (hx : cO x = some y)
    (hu : P.underlying ty = some (.struct fs)) (hf : fs[f]? = some fd) (hi : P.info? fd.type = some i) (hs : 0 < i.size)
    (hd : (match y.ev t with
      | .ptr b o g => some (D.ptr b (o + fd.offset) g)
      | .cptr cs => if fd.offset ≤ cs.length then some (.cptr (cs.drop fd.offset)) else none
      | _ => none) = some d) : OKop P o a w Pr φ h d h := by
  have r1 := cO_rep s hx
  have hrun : ∀ ad : Addr, a.eval x = .pointer (some ad) → (execOp a.eval o).run P w = .ok (.value (.pointer (some (ad.add fd.offset)))) w := by
    intro ad had
    simp [execOp, ho, Instr.fieldAt, run_underlying hu, hf, had, Instr.sureAddr, fieldPlace, size_run hi, Nat.ne_of_gt hs]
  split at hd
  · rename_i b off g he
    simp at hd; subst hd
    rw [he] at r1
    simp only [Rep] at r1
    obtain ⟨ad, blk, hv, h1, h2, h3⟩ := r1
    refine OKop.val S (hrun _ hv) ?_
    simp only [Rep]
    refine ⟨_, blk, rfl, h1, h2, fun e => ?_⟩
    obtain ⟨c, g1, rfl⟩ := h3 e
    exact ⟨c, g1, by rw [Addr.add_lit]⟩
  · rename_i cs he
    split at hd
    · rename_i hle
      simp at hd; subst hd
      rw [he] at r1
      simp only [Rep] at r1
      obtain ⟨ad, vs, hv, h1, h2, h3⟩ := r1
      refine OKop.val S (hrun _ hv) ?_
      simp only [Rep]
      refine ⟨_, vs.drop fd.offset, rfl, ?_, all_drop _ h2, h3.drop _⟩
      rcases h1 with h1 | ⟨b, of, hb, hc⟩
      · exact .inl (by simp [h1])
      · simp at hb
        subst hb
        refine .inr ⟨b, of + fd.offset, by rw [Addr.add_lit], fun j v hj => ?_⟩
        rw [List.getElem?_drop] at hj
        have := hc _ v hj
        rw [Nat.add_assoc]
        exact this
    · simp at hd
  · simp at hd

theorem At.drop {x : Option Addr} {vs : List Value} (n : Nat) (hp : At w Pr x vs) : At w Pr (x.map (·.add n)) (vs.drop n) := by
  rcases hp with h1 | ⟨b, of, hb, hc⟩
  · exact .inl (by simp [h1])
  · subst hb
    refine .inr ⟨b, of + n, by simp [Addr.add_lit], fun j v hj => ?_⟩
    rw [List.getElem?_drop] at hj
    have := hc _ v hj
    rw [Nat.add_assoc]
    exact this

theorem At.take {x : Option Addr} {vs : List Value} (n : Nat) (hp : At w Pr x vs) : At w Pr x (vs.take n) := by
  rcases hp with h1 | ⟨b, of, hb, hc⟩
  · exact .inl (by simp [h1])
  · refine .inr ⟨b, of, hb, fun j v hj => ?_⟩
    rw [List.getElem?_take] at hj
    split at hj
    · exact hc j v hj
    · simp at hj

theorem ok_indexAddr (S : Sim w Pr φ h) (s : Slots w Pr φ h t a) {ty e : TypeId} {x i : Operand} {x' i' : XO} {inf : TypeInfo} {d : D} (ho : o.op = .indexAddr ty x i) (hx : cO x = some x') (hi : cO i = some i')
    (hu : P.underlying ty = some (.slice e)) (hinf : P.info? e = some inf)
    (hd : (match x'.ev t, i'.ev t with
      | .arr n _ cs, .int _ i => if 0 ≤ i ∧ i < n then some (D.cptr (cs.drop (i.toNat * inf.size))) else none
      | .ref b off n _ g _, .int _ i => if 0 ≤ i ∧ i < n then some (.ptr b (off + i.toNat * inf.size) g) else none
      | _, _ => none) = some d) : OKop P o a w Pr φ h d h := by
  have r1 := cO_rep s hx
  have r2 := cO_rep s hi
  split at hd
  · rename_i n fl cs k ix hex hei
    split at hd
    · rename_i hle
      simp at hd; subst hd
      rw [hex] at r1; rw [hei] at r2
      simp only [Rep] at r1 r2
      obtain ⟨ad, cap, vs, hv, h1, h2, h3, h4, h5, h6, h7⟩ := r1
      cases ad with
      | none => have := h4 rfl; omega
      | some ad =>
        refine OKop.val S (v := .pointer (some (ad.add (ix.toNat * inf.size)))) ?_ ?_
        · simp [execOp, ho, Instr.indexAt, run_underlying hu, hv, r2, asIntOf, hle, size_run hinf]
        · simp only [Rep]
          exact ⟨_, vs.drop (ix.toNat * inf.size), rfl, by simpa using h5.drop (ix.toNat * inf.size), all_drop _ h6, h7.drop _⟩
    · simp at hd
  · rename_i b off n sz g fl k ix hex hei
    split at hd
    · rename_i hle
      simp at hd; subst hd
      rw [hex] at r1; rw [hei] at r2
      simp only [Rep] at r1 r2
      obtain ⟨ad, cap, blk, hv, h1, h2, h3, h4, h5, h6, h7, h8⟩ := r1
      cases ad with
      | none => have := h4 rfl; omega
      | some ad =>
        refine OKop.val S (v := .pointer (some (ad.add (ix.toNat * inf.size)))) ?_ ?_
        · simp [execOp, ho, Instr.indexAt, run_underlying hu, hv, r2, asIntOf, hle, size_run hinf]
        · simp only [Rep]
          refine ⟨_, blk, rfl, h5, h7, fun hg => ?_⟩
          obtain ⟨c, g1, g2, g3, g4⟩ := h8 hg
          have had : ad = ⟨c, off, none⟩ := by
            have := g2 (by omega)
            simpa using this
          subst had
          exact ⟨c, g1, by rw [Addr.add_lit]⟩
    · simp at hd
  · simp at hd


/-- The bounds of a slice expression, in the model. -/
theorem bounds_run {isS : Bool} {n cap : Nat} {lo hi mx : Option Operand} {lo' hi' mx' : Option XO} {l hh : Nat} {m : Option Nat} (s : Slots w Pr φ h t a) (hlo : cOO lo = some lo') (hhi : cOO hi = some hi') (hmx : cOO mx = some mx')
    (hmh : (mx.isSome && hi.isNone) = false) (hnc : n ≤ cap) (hb : bnds n (lo'.map (XO.ev t)) (hi'.map (XO.ev t)) (mx'.map (XO.ev t)) = some (l, hh, m)) :
    (Instr.sliceBounds isS n cap (lo.map a.eval) (hi.map a.eval) (mx.map a.eval)).run P w = .ok (l, hh, m.getD cap) w ∧
      l ≤ hh ∧ hh ≤ n ∧ (∀ x, m = some x → hh ≤ x ∧ x ≤ n) ∧ (m = none → hh ≤ n) := by
  have hbnd : ∀ (x : Operand) (y : XO) (k : IntKind) (i : Int), cO x = some y → y.ev t = .int k i → a.eval x = .int k i := by
    intro x y k i hx hy
    have := cO_rep s hx
    rw [hy] at this
    simpa [Rep] using this
  have cOOs : ∀ (x : Option Operand) (y : Option XO), cOO x = some y → (x = none ∧ y = none) ∨ ∃ x' y', x = some x' ∧ y = some y' ∧ cO x' = some y' := by
    intro x y hx
    cases x with
    | none => simp [cOO] at hx; exact .inl ⟨rfl, hx.symm⟩
    | some x =>
      simp only [cOO] at hx
      split at hx
      · rename_i y' hy
        simp at hx
        exact .inr ⟨x, y', rfl, hx.symm, hy⟩
      · simp at hx
  have b1s : ∀ (x : Option Operand) (y : Option XO) (dflt v : Nat), cOO x = some y → bnd1 (y.map (XO.ev t)) dflt = some v →
      (x = none ∧ v = dflt) ∨ ∃ x' k i, x = some x' ∧ a.eval x' = .int k i ∧ 0 ≤ i ∧ v = i.toNat := by
    intro x y dflt v hx hv
    rcases cOOs _ _ hx with ⟨rfl, rfl⟩ | ⟨x', y', rfl, rfl, hx'⟩
    · simp [bnd1] at hv; exact .inl ⟨rfl, hv.symm⟩
    · simp only [Option.map_some, bnd1] at hv
      split at hv
      · rename_i e; simp at e
      · rename_i k i e
        simp at e
        split at hv
        · rename_i h0
          simp at hv
          exact .inr ⟨x', k, i, rfl, hbnd _ _ _ _ hx' e, h0, hv.symm⟩
        · simp at hv
      · simp at hv
  unfold bnds at hb
  split at hb
  · rename_i l0 h0 e1 e2
    have c1 := b1s _ _ _ _ hlo e1
    have c2 := b1s _ _ _ _ hhi e2
    rcases cOOs _ _ hmx with ⟨rfl, rfl⟩ | ⟨xm, ym, rfl, rfl, hxm⟩
    · simp only [Option.map_none] at hb ⊢
      split at hb
      · rename_i hc
        simp at hb
        obtain ⟨rfl, rfl, rfl⟩ := hb
        refine ⟨?_, hc.1, hc.2, by simp, fun _ => hc.2⟩
        rcases c1 with ⟨rfl, rfl⟩ | ⟨xl, kl, il, rfl, el, l1, l2⟩ <;> rcases c2 with ⟨rfl, rfl⟩ | ⟨xh, kh, ih, rfl, eh, h1, h2⟩
        · simp [Instr.sliceBounds]
        · have b1 : 0 ≤ ih ∧ ih ≤ (cap : Int) := by omega
          simp [Instr.sliceBounds, Instr.sliceBound, eh, asIntOf, b1, h2]
        · have b1 : 0 ≤ il ∧ il ≤ (h0 : Int) := by omega
          simp [Instr.sliceBounds, Instr.sliceBound, el, asIntOf, b1, l2]
        · have b1 : 0 ≤ ih ∧ ih ≤ (cap : Int) := by omega
          have b2 : 0 ≤ il ∧ il ≤ max ih 0 := by omega
          simp [Instr.sliceBounds, Instr.sliceBound, el, eh, asIntOf, b1, b2, l2, h2]
      · simp at hb
    · simp only [Option.map_some] at hb ⊢
      split at hb
      · rename_i e; simp at e
      · rename_i km im e
        simp at e
        split at hb
        · rename_i hc
          simp at hb
          obtain ⟨rfl, rfl, rfl⟩ := hb
          have em := hbnd _ _ _ _ hxm e
          refine ⟨?_, hc.2.2.2, by omega, by simp; omega, by simp⟩
          rcases c2 with ⟨rfl, rfl⟩ | ⟨xh, kh, ih, rfl, eh, h1, h2⟩
          · simp at hmh
          · have b1 : 0 ≤ im ∧ im ≤ (cap : Int) := by omega
            have b2 : 0 ≤ ih ∧ ih ≤ max im 0 := by omega
            rcases c1 with ⟨rfl, rfl⟩ | ⟨xl, kl, il, rfl, el, l1, l2⟩
            · simp [Instr.sliceBounds, Instr.sliceBound, em, eh, asIntOf, b1, b2, h2]
            · have b3 : 0 ≤ il ∧ il ≤ max ih 0 := by omega
              simp [Instr.sliceBounds, Instr.sliceBound, em, eh, el, asIntOf, b1, b2, b3, h2, l2]
        · simp at hb
      · simp at hb
  · simp at hb

end

end Go.Proofs.Ytcaglmjfphjpfaa.E
