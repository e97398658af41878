/- The same, on: slice expressions, numbers, comparisons. -/
import Derived.Test.YtccinlhenkkpeaaDoorSimA
namespace Go.Proofs.YtccinlhenkkpeaaDoor.E
open Go

section
variable {P : Program} {o : Oper} {w : World} {Pr : Nat → Nat → Prop} {φ : List Nat} {h : List Blk} {t : Nat → D} {a : Act}

theorem ok_slice (S : Sim w Pr φ h) (s : Slots w Pr φ h t a) {ty e : TypeId} {x : Operand} {lo hi mx : Option Operand} {x' : XO} {lo' hi' mx' : Option XO} {inf : TypeInfo} {d : D}
    (ho : o.op = .slice ty x lo hi mx) (hx : cO x = some x') (hlo : cOO lo = some lo') (hhi : cOO hi = some hi') (hmx : cOO mx = some mx') (hmh : (mx.isSome && hi.isNone) = false)
    (hu : P.underlying ty = some (.slice e)) (hinf : P.info? e = some inf)
    (hd : (match x'.ev t with
      | .arr n full cs => match bnds n (lo'.map (XO.ev t)) (hi'.map (XO.ev t)) (mx'.map (XO.ev t)) with
        | some (l, h, m) => some (D.arr (h - l) (match m with | none => full && h == n | some m => h == m) ((cs.drop (l * inf.size)).take ((h - l) * inf.size)))
        | none => none
      | .ref b off n k g full => match bnds n (lo'.map (XO.ev t)) (hi'.map (XO.ev t)) (mx'.map (XO.ev t)) with
        | some (l, h, m) => if k = inf.size ∧ roomB full n h m (off + n * inf.size) g = true then some (.ref b (off + l * inf.size) (h - l) inf.size g (match m with | none => full && h == n | some m => h == m)) else none
        | none => none
      | _ => none) = some d) : OKop P o a w Pr φ h d h := by
  have r1 := cO_rep S.gl s hx
  have hrun : ∀ (ad : Option Addr) (n cap l hh : Nat) (m : Option Nat), a.eval x = .slice ad n cap →
      (Instr.sliceBounds true n cap (lo.map a.eval) (hi.map a.eval) (mx.map a.eval)).run P w = .ok (l, hh, m.getD cap) w →
      (execOp a.eval o).run P w = .ok (.value (.slice (if m.getD cap = l then ad else ad.map (·.add (l * inf.size))) (hh - l) (m.getD cap - l))) w := by
    intro ad n cap l hh m had hb
    simp [execOp, ho, Instr.sliceAt, run_underlying hu, Instr.slice, had, hb, size_run hinf]
  split at hd
  · rename_i n full cs he
    split at hd
    · rename_i l hh m hb
      simp at hd; subst hd
      rw [he] at r1
      simp only [Rep] at r1
      obtain ⟨ad, cap, vs, hv, h1, h2, h3, h4, h5, h6, h7⟩ := r1
      obtain ⟨q1, q2, q3, q4, q5⟩ := bounds_run (isS := true) S.gl s hlo hhi hmx hmh h1 hb
      refine OKop.val S (hrun _ _ _ _ _ _ hv q1) ?_
      have hcap : hh ≤ m.getD cap ∧ m.getD cap ≤ cap := by
        cases m with
        | none => simp; omega
        | some m => have := q4 m rfl; simp; omega
      simp only [Rep]
      refine ⟨_, _, (vs.drop (l * inf.size)).take ((hh - l) * inf.size), rfl, by omega, by omega, fun hf => ?_, fun hn => ?_, ?_, all_take _ (all_drop _ h6), (h7.drop _).take _⟩
      · cases m with
        | none =>
          simp at hf
          have := h3 hf.1
          simp; omega
        | some m => simp at hf; simp; omega
      · split at hn
        · have := h4 hn; omega
        · cases ad with
          | none => have := h4 rfl; omega
          | some ad => simp at hn
      · split
        · rename_i hm
          have : hh - l = 0 := by omega
          simp [this, At]
        · exact (h5.drop _).take _
    · simp at hd
  · rename_i b off n k g full he
    split at hd
    · rename_i l hh m hb
      split at hd
      · rename_i hk
        obtain ⟨hk, hro⟩ := hk
        simp only [Option.some.injEq] at hd
        subst hd
        rw [he] at r1
        simp only [Rep] at r1
        obtain ⟨ad, cap, blk, hv, h1, h2, ⟨h3, h3b⟩, h4, h5, h6, h7, h8⟩ := r1
        obtain ⟨q1, q2, q3, q4, q5⟩ := bounds_run (isS := true) S.gl s hlo hhi hmx hmh h1 hb
        refine OKop.val S (hrun _ _ _ _ _ _ hv q1) ?_
        have hcap : hh ≤ m.getD cap ∧ m.getD cap ≤ cap := by
          cases m with
          | none => simp; omega
          | some m => have := q4 m rfl; simp; omega
        simp only [Rep]
        refine ⟨_, _, blk, rfl, by omega, by omega, ⟨fun hf => ?_, fun hf => ?_⟩, fun hn => ?_, h5, h6, h7, fun hg => ?_⟩
        · cases m with
          | none =>
            simp at hf
            have := h3 hf.1
            simp; omega
          | some m => simp at hf; simp; omega
        · subst hk
          have hn2 : l * inf.size ≤ m.getD cap * inf.size := Nat.mul_le_mul_right _ (by omega)
          cases m with
          | some m => simp only [roomB] at hro; simp only [hro] at hf; simp at hf
          | none =>
            simp only [Option.getD_none, Nat.sub_mul] at hn2 ⊢
            cases full with
            | false => have := h3b rfl; omega
            | true =>
              have hc := h3 rfl
              subst hc
              simp only [Bool.true_and] at hf
              simp only [roomB, hf, Bool.not_true, Bool.false_or, decide_eq_true_eq] at hro
              omega
        · split at hn
          · have := h4 hn; omega
          · cases ad with
            | none => have := h4 rfl; omega
            | some ad => simp at hn
        · obtain ⟨c, g1, g2, g3, vs, ee, g4, g5⟩ := h8 hg
          subst hk
          have hn1 : hh * inf.size ≤ n * inf.size := Nat.mul_le_mul_right _ q3
          have hn2 : m.getD cap * inf.size ≤ cap * inf.size := Nat.mul_le_mul_right _ hcap.2
          have hn3 : l * inf.size ≤ hh * inf.size := Nat.mul_le_mul_right _ q2
          have hn4 : hh * inf.size ≤ m.getD cap * inf.size := Nat.mul_le_mul_right _ hcap.1
          refine ⟨c, g1, fun hc => ?_, by rw [Nat.sub_mul]; omega, vs, ee, g4, by rw [Nat.sub_mul]; omega⟩
          have hne : ¬ (m.getD cap = l) := by omega
          rw [if_neg hne, g2 (by omega)]
          simp [Addr.add_lit]
      · simp at hd
    · simp at hd
  · simp at hd

theorem ok_sliceStr (S : Sim w Pr φ h) (s : Slots w Pr φ h t a) {ty : TypeId} {x : Operand} {lo hi : Option Operand} {x' : XO} {lo' hi' : Option XO} {d : D} {str : ByteArray} {l hh : Nat} {m : Option Nat}
    (ho : o.op = .slice ty x lo hi none) (hx : cO x = some x') (hlo : cOO lo = some lo') (hhi : cOO hi = some hi') (hu : P.underlying ty = some .string) (he : x'.ev t = .str str)
    (hb : bnds str.size (lo'.map (XO.ev t)) (hi'.map (XO.ev t)) none = some (l, hh, m)) (hd : d = .str (str.extract l hh)) : OKop P o a w Pr φ h d h := by
  have r1 := cO_rep S.gl s hx
  rw [he] at r1
  simp only [Rep] at r1
  obtain ⟨q1, q2, q3, q4, q5⟩ := bounds_run (P := P) (isS := false) S.gl s hlo hhi (mx := none) (mx' := none) rfl rfl (Nat.le_refl _) hb
  simp only [Option.map_none] at q1
  refine OKop.val S (v := .string (str.extract l hh)) ?_ (by subst hd; simp [Rep])
  simp [execOp, ho, Instr.sliceAt, run_underlying hu, Instr.slice, r1, q1]

theorem ok_len (S : Sim w Pr φ h) (s : Slots w Pr φ h t a) {ty e : TypeId} {x : Operand} {x' : XO} {c : Call} {d : D} (ho : o.op = .call c) (hc : c.callee = .builtin .len) (ha : c.args.toList = [x]) (ht : c.argTypes.toList = [ty]) (hx : cO x = some x')
    (hk : P.underlying ty = some (.slice e))
    (hd : (match x'.ev t with
      | .arr n _ _ => some (D.int .i64 n)
      | .ref _ _ n _ _ _ => some (.int .i64 n)
      | _ => none) = some d) : OKop P o a w Pr φ h d h := by
  have ha' : c.args = #[x] := by cases hh : c.args; simp_all
  have ht' : c.argTypes = #[ty] := by cases hh : c.argTypes; simp_all
  have r1 := cO_rep S.gl s hx
  have hrun : ∀ ad n cap, a.eval x = .slice ad n cap → (execOp a.eval o).run P w = .ok (.value (.int .i64 n)) w := by
    intro ad n cap hv
    simp [execOp, ho, resolve, hc, ha', ht', invoke, builtin, Builtin.len_, run_underlying hk, hv, goInt]
  split at hd <;> rename_i he <;> first | (simp at hd; done) | skip
  · simp at hd; subst hd
    rw [he] at r1
    simp only [Rep] at r1
    obtain ⟨ad, cap, vs, hv, _⟩ := r1
    exact OKop.val S (hrun _ _ _ hv) (by simp only [Rep])
  · simp at hd; subst hd
    rw [he] at r1
    simp only [Rep] at r1
    obtain ⟨ad, cap, vs, hv, _⟩ := r1
    exact OKop.val S (hrun _ _ _ hv) (by simp only [Rep])

theorem ok_lenStr (S : Sim w Pr φ h) (s : Slots w Pr φ h t a) {ty : TypeId} {x : Operand} {x' : XO} {c : Call} {str : ByteArray} (ho : o.op = .call c) (hc : c.callee = .builtin .len) (ha : c.args.toList = [x]) (ht : c.argTypes.toList = [ty]) (hx : cO x = some x')
    (hk : P.underlying ty = some .string) (he : x'.ev t = .str str) : OKop P o a w Pr φ h (.int .i64 str.size) h := by
  have ha' : c.args = #[x] := by cases hh : c.args; simp_all
  have ht' : c.argTypes = #[ty] := by cases hh : c.argTypes; simp_all
  have r1 := cO_rep S.gl s hx
  rw [he] at r1
  simp only [Rep] at r1
  refine OKop.val S (v := .int .i64 str.size) ?_ (by simp only [Rep])
  simp [execOp, ho, resolve, hc, ha', ht', invoke, builtin, Builtin.len_, run_underlying hk, r1, goInt]

theorem ok_un (S : Sim w Pr φ h) (s : Slots w Pr φ h t a) {op : UnOp} {ty : TypeId} {x : Operand} {x' : XO} {d : D} (ho : o.op = .unOp op ty x) (hx : cO x = some x') (hd : evUn op (x'.ev t) = some d) : OKop P o a w Pr φ h d h := by
  have r1 := cO_rep S.gl s hx
  cases he : x'.ev t <;> simp only [he, evUn] at hd <;> first | (simp at hd; done) | skip
  · rename_i k n
    rw [he] at r1
    simp only [Rep] at r1
    cases op <;> simp only [reduceCtorEq, Option.some.injEq] at hd
    subst hd
    exact OKop.val S (v := .int k (k.wrap (0 - n))) (by simp [execOp, ho, r1, Op.unary, Op.intArith]) (by simp only [Rep])
  · rename_i b
    rw [he] at r1
    simp only [Rep] at r1
    cases op <;> simp only [reduceCtorEq, Option.some.injEq] at hd
    subst hd
    exact OKop.val S (v := .bool (!b)) (by simp [execOp, ho, r1, Op.unary]) (by simp only [Rep])

theorem ok_conv (S : Sim w Pr φ h) (s : Slots w Pr φ h t a) {src dst : TypeId} {x : Operand} {x' : XO} {k k' : IntKind} {n : Int} (hs : ∃ ds, P.underlying src = some ds) (ho : o.op = .convert src dst x) (hx : cO x = some x') (hu : P.underlying dst = some (.int k))
    (he : x'.ev t = .int k' n) : OKop P o a w Pr φ h (.int k (k.wrap n)) h := by
  have r1 := cO_rep S.gl s hx
  rw [he] at r1
  simp only [Rep] at r1
  obtain ⟨ds, hs⟩ := hs
  refine OKop.val S (v := .int k (k.wrap n)) ?_ (by simp only [Rep])
  simp [execOp, ho, r1, convert, run_underlying hs, run_underlying hu, Conv.intToInt]

theorem ok_bin (S : Sim w Pr φ h) (s : Slots w Pr φ h t a) {op : BinOp} {ty ty2 : TypeId} {x y : Operand} {x' y' : XO} {d : D} (ho : o.op = .binOp op ty x y ty2) (hx : cO x = some x') (hy : cO y = some y')
    (hd : evBin op (x'.ev t) (y'.ev t) = some d) : OKop P o a w Pr φ h d h := by
  have r1 := cO_rep S.gl s hx
  have r2 := cO_rep S.gl s hy
  cases hex : x'.ev t <;> simp only [hex, evBin] at hd <;> first | (simp at hd; done) | skip
  all_goals (cases hey : y'.ev t <;> simp only [hey] at hd <;> first | (simp at hd; done) | skip)
  · rename_i k m k' m'
    rw [hex] at r1; rw [hey] at r2
    simp only [Rep] at r1 r2
    split at hd
    · simp at hd
    · rename_i hk
      simp only [ne_eq, Decidable.not_not] at hk
      subst hk
      have hg : eqGuard op ty x y (.int k m) (.int k m') = pure () := by cases op <;> rfl
      cases op <;> simp only [reduceCtorEq, Option.some.injEq] at hd
      case quo =>
        split at hd
        · simp at hd
        · rename_i h0
          simp at hd; subst hd
          exact OKop.val S (v := .int k (k.wrap (m.tdiv m'))) (by simp [execOp, ho, r1, r2, hg, binOp, Op.intDiv, h0]) (by simp only [Rep])
      case rem =>
        split at hd
        · simp at hd
        · rename_i h0
          simp at hd; subst hd
          exact OKop.val S (v := .int k (m.tmod m')) (by simp [execOp, ho, r1, r2, hg, binOp, Op.intDiv, h0]) (by simp only [Rep])
      case and => subst hd; exact OKop.val S (v := .int k (k.wrap (BitVec.ofInt k.bits m &&& BitVec.ofInt k.bits m').toNat)) (by simp [execOp, ho, r1, r2, hg, binOp, Op.intBits]) (by simp only [Rep])
      case or => subst hd; exact OKop.val S (v := .int k (k.wrap (BitVec.ofInt k.bits m ||| BitVec.ofInt k.bits m').toNat)) (by simp [execOp, ho, r1, r2, hg, binOp, Op.intBits]) (by simp only [Rep])
      case xor => subst hd; exact OKop.val S (v := .int k (k.wrap (BitVec.ofInt k.bits m ^^^ BitVec.ofInt k.bits m').toNat)) (by simp [execOp, ho, r1, r2, hg, binOp, Op.intBits]) (by simp only [Rep])
      case shl =>
        split at hd
        · simp at hd
        · rename_i h0
          simp at hd; subst hd
          exact OKop.val S (v := .int k (k.wrap (m * 2 ^ (min m'.toNat k.bits)))) (by simp [execOp, ho, r1, r2, hg, binOp, Op.shift, h0]) (by simp only [Rep])
      case shr =>
        split at hd
        · simp at hd
        · rename_i h0
          simp at hd; subst hd
          exact OKop.val S (v := .int k (m.fdiv (2 ^ (min m'.toNat k.bits)))) (by simp [execOp, ho, r1, r2, hg, binOp, Op.shift, h0]) (by simp only [Rep])
      case add => subst hd; exact OKop.val S (v := .int k (k.wrap (m + m'))) (by simp [execOp, ho, r1, r2, hg, binOp, Op.intArith]) (by simp only [Rep])
      case sub => subst hd; exact OKop.val S (v := .int k (k.wrap (m - m'))) (by simp [execOp, ho, r1, r2, hg, binOp, Op.intArith]) (by simp only [Rep])
      case mul => subst hd; exact OKop.val S (v := .int k (k.wrap (m * m'))) (by simp [execOp, ho, r1, r2, hg, binOp, Op.intArith]) (by simp only [Rep])
      case eql => subst hd; exact OKop.val S (v := .bool (m == m')) (by simp [execOp, ho, r1, r2, hg, binOp, Op.intCmp]) (by simp only [Rep])
      case neq => subst hd; exact OKop.val S (v := .bool (m != m')) (by simp [execOp, ho, r1, r2, hg, binOp, Op.intCmp]) (by simp only [Rep])
      case lss => subst hd; exact OKop.val S (v := .bool (decide (m < m'))) (by simp [execOp, ho, r1, r2, hg, binOp, Op.intCmp]) (by simp only [Rep])
      case leq => subst hd; exact OKop.val S (v := .bool (decide (m ≤ m'))) (by simp [execOp, ho, r1, r2, hg, binOp, Op.intCmp]) (by simp only [Rep])
      case gtr => subst hd; exact OKop.val S (v := .bool (decide (m > m'))) (by simp [execOp, ho, r1, r2, hg, binOp, Op.intCmp]) (by simp only [Rep])
      case geq => subst hd; exact OKop.val S (v := .bool (decide (m ≥ m'))) (by simp [execOp, ho, r1, r2, hg, binOp, Op.intCmp]) (by simp only [Rep])
  · rename_i s1 s2
    rw [hex] at r1; rw [hey] at r2
    simp only [Rep] at r1 r2
    have hg : eqGuard op ty x y (.string s1) (.string s2) = pure () := by cases op <;> rfl
    cases op <;> simp only [reduceCtorEq, Option.some.injEq] at hd
    case add =>
      split at hd
      · rename_i hle
        simp at hd; subst hd
        refine OKop.val S (v := .string (s1 ++ s2)) ?_ (by simp only [Rep])
        have : ¬ (9223372036854775807 < (s1.size : Int) + (s2.size : Int)) := by omega
        simp [execOp, ho, r1, r2, hg, binOp, Op.stringOp, this]
      · simp at hd
    case eql => subst hd; exact OKop.val S (v := .bool (s1.toList == s2.toList)) (by simp [execOp, ho, r1, r2, hg, binOp, Op.stringOp]) (by simp only [Rep])
    case neq => subst hd; exact OKop.val S (v := .bool (!(s1.toList == s2.toList))) (by simp [execOp, ho, r1, r2, hg, binOp, Op.stringOp]) (by simp only [Rep])

theorem ok_binB (S : Sim w Pr φ h) (s : Slots w Pr φ h t a) {op : BinOp} {ty ty2 : TypeId} {x y : Operand} {x' y' : XO} {d : D} (ho : o.op = .binOp op ty x y ty2) (hx : cO x = some x') (hy : cO y = some y')
    (hu : P.underlying ty = some .bool) (hd : evBinB op (x'.ev t) (y'.ev t) = some d) : OKop P o a w Pr φ h d h := by
  have r1 := cO_rep S.gl s hx
  have r2 := cO_rep S.gl s hy
  cases hex : x'.ev t <;> simp only [hex, evBinB] at hd <;> first | (simp at hd; done) | skip
  all_goals (cases hey : y'.ev t <;> simp only [hey] at hd <;> first | (simp at hd; done) | skip)
  · rename_i b1 b2
    rw [hex] at r1; rw [hey] at r2
    simp only [Rep] at r1 r2
    have hg : eqGuard op ty x y (.bool b1) (.bool b2) = pure () := by cases op <;> rfl
    cases op <;> simp only [reduceCtorEq, Option.some.injEq] at hd <;> subst hd
    · refine OKop.val S (v := .bool (b1 == b2)) ?_ (by simp only [Rep])
      simp only [execOp, ho, r1, r2, hg, Sem.run_bind, Sem.run_pure, Result.andThen_ok, run_eql_bool w ty b1 b2 hu]
    · refine OKop.val S (v := .bool (!(b1 == b2))) ?_ (by simp only [Rep])
      simp only [execOp, ho, r1, r2, hg, Sem.run_bind, Sem.run_pure, Result.andThen_ok, run_neq_bool w ty b1 b2 hu]

theorem foldD_min {w : World} {Pr : Nat → Nat → Prop} {φ : List Nat} {h : List Blk} : (xs : List D) → (vs : List Value) → RepL w Pr φ h xs vs → ∀ (d r : D) (v : Value), Rep w Pr φ h d v → foldD minD d xs = some r →
    ∃ u, (vs.foldlM Builtin.min2 v).run P w = .ok u w ∧ Rep w Pr φ h r u
  | [], vs, hr, d, r, v, hv, he => by
    simp [RepL] at hr; subst hr
    simp [foldD] at he; subst he
    exact ⟨v, by simp, hv⟩
  | x :: xs, vs, hr, d, r, v, hv, he => by
    simp only [RepL] at hr
    obtain ⟨u, us, rfl, h1, h2⟩ := hr
    simp only [foldD] at he
    split at he
    · rename_i z hz
      cases d <;> simp only [minD] at hz <;> first | (simp at hz; done) | skip
      cases x <;> simp only at hz <;> first | (simp at hz; done) | skip
      split at hz <;> simp at hz
      rename_i k m k' m' hk
      subst hk hz
      simp only [Rep] at hv h1
      subst hv h1
      obtain ⟨u', g1, g2⟩ := foldD_min xs us h2 _ r (.int k (if m' < m then m' else m)) (by simp only [Rep]) he
      refine ⟨u', ?_, g2⟩
      simp [List.foldlM_cons, Builtin.min2, g1]
    · simp at he

theorem foldD_max {w : World} {Pr : Nat → Nat → Prop} {φ : List Nat} {h : List Blk} : (xs : List D) → (vs : List Value) → RepL w Pr φ h xs vs → ∀ (d r : D) (v : Value), Rep w Pr φ h d v → foldD maxD d xs = some r →
    ∃ u, (vs.foldlM Builtin.max2 v).run P w = .ok u w ∧ Rep w Pr φ h r u
  | [], vs, hr, d, r, v, hv, he => by
    simp [RepL] at hr; subst hr
    simp [foldD] at he; subst he
    exact ⟨v, by simp, hv⟩
  | x :: xs, vs, hr, d, r, v, hv, he => by
    simp only [RepL] at hr
    obtain ⟨u, us, rfl, h1, h2⟩ := hr
    simp only [foldD] at he
    split at he
    · rename_i z hz
      cases d <;> simp only [maxD] at hz <;> first | (simp at hz; done) | skip
      cases x <;> simp only at hz <;> first | (simp at hz; done) | skip
      split at hz <;> simp at hz
      rename_i k m k' m' hk
      subst hk hz
      simp only [Rep] at hv h1
      subst hv h1
      obtain ⟨u', g1, g2⟩ := foldD_max xs us h2 _ r (.int k (if m < m' then m' else m)) (by simp only [Rep]) he
      refine ⟨u', ?_, g2⟩
      simp [List.foldlM_cons, Builtin.max2, g1]
    · simp at he

theorem ok_min (S : Sim w Pr φ h) (s : Slots w Pr φ h t a) {c : Call} {xs : List XO} {d x : D} {r : List D} (ho : o.op = .call c) (hc : c.callee = .builtin .min) (ha : cOs c.args.toList = some xs) (hx : xs.map (XO.ev t) = x :: r)
    (hd : foldD minD x r = some d) : OKop P o a w Pr φ h d h := by
  have r1 := cOs_rep S.gl s _ _ ha
  rw [hx] at r1
  simp only [RepL] at r1
  obtain ⟨v, vs, hv, h1, h2⟩ := r1
  obtain ⟨u, g1, g2⟩ := foldD_min (P := P) r vs h2 x d v h1 hd
  refine OKop.val S (v := u) ?_ g2
  have : (c.args.map a.eval).toList = v :: vs := by simpa using hv
  simp [execOp, ho, resolve, hc, invoke, builtin, Builtin.min_, hv, g1]

theorem ok_max (S : Sim w Pr φ h) (s : Slots w Pr φ h t a) {c : Call} {xs : List XO} {d x : D} {r : List D} (ho : o.op = .call c) (hc : c.callee = .builtin .max) (ha : cOs c.args.toList = some xs) (hx : xs.map (XO.ev t) = x :: r)
    (hd : foldD maxD x r = some d) : OKop P o a w Pr φ h d h := by
  have r1 := cOs_rep S.gl s _ _ ha
  rw [hx] at r1
  simp only [RepL] at r1
  obtain ⟨v, vs, hv, h1, h2⟩ := r1
  obtain ⟨u, g1, g2⟩ := foldD_max (P := P) r vs h2 x d v h1 hd
  refine OKop.val S (v := u) ?_ g2
  simp [execOp, ho, resolve, hc, invoke, builtin, Builtin.max_, hv, g1]

theorem ok_mkfn (S : Sim w Pr φ h) (s : Slots w Pr φ h t a) {fn : Fn} {x y : Array Operand} {x' y' : List XO} (ho : o.op = .makeFunc fn x y) (hx : cOs x.toList = some x') (hy : cOs y.toList = some y') :
    OKop P o a w Pr φ h (.fn fn (x'.map (XO.ev t)) (y'.map (XO.ev t))) h := by
  refine OKop.val S (v := .func fn (x.map a.eval) (y.map a.eval)) (by simp [execOp, ho, Instr.makeFunc]) ?_
  simp only [Rep]
  exact ⟨_, _, rfl, by simpa using cOs_rep S.gl s _ _ hx, by simpa using cOs_rep S.gl s _ _ hy⟩

theorem ok_nilCheck (S : Sim w Pr φ h) (s : Slots w Pr φ h t a) {x : Operand} {x' : XO} {d : D} (ho : o.op = .nilCheck x) (hx : cO x = some x')
    (hd : (match x'.ev t with
      | .ptr b o g => some (D.ptr b o g)
      | .cptr cs => some (.cptr cs)
      | .fn (.func f) a b => some (.fn (.func f) a b)
      | _ => none) = some d) : OKop P o a w Pr φ h d h := by
  have r1 := cO_rep S.gl s hx
  split at hd <;> rename_i he <;> first | (simp at hd; done) | skip
  · simp at hd; subst hd
    rw [he] at r1
    have r2 := r1
    simp only [Rep] at r1
    obtain ⟨ad, blk, hv, _⟩ := r1
    rw [hv] at r2
    exact OKop.val S (v := .pointer (some ad)) (by simp [execOp, ho, hv]) r2
  · simp at hd; subst hd
    rw [he] at r1
    have r2 := r1
    simp only [Rep] at r1
    obtain ⟨ad, blk, hv, _⟩ := r1
    rw [hv] at r2
    exact OKop.val S (v := .pointer (some ad)) (by simp [execOp, ho, hv]) r2
  · simp at hd; subst hd
    rw [he] at r1
    have r2 := r1
    simp only [Rep] at r1
    obtain ⟨va, vc, hv, _⟩ := r1
    rw [hv] at r2
    exact OKop.val S (v := .func _ va vc) (by simp [execOp, ho, hv]) r2

theorem ok_mkifc (S : Sim w Pr φ h) (s : Slots w Pr φ h t a) {ty : TypeId} {x : Operand} {x' : XO} {de : TypeDesc} (ho : o.op = .makeInterface ty x) (hx : cO x = some x') (hu : P.underlying ty = some de) (hn : ∀ ms, de ≠ .interface ms) :
    OKop P o a w Pr φ h (.ifc ty (x'.ev t)) h := by
  refine OKop.val S (v := .iface ty (a.eval x)) ?_ ?_
  · cases de <;> first | exact absurd rfl (hn _) | simp [execOp, ho, Instr.makeInterface, run_underlying hu]
  · simp only [Rep]
    exact ⟨_, rfl, cO_rep S.gl s hx⟩

theorem ok_indexStr (S : Sim w Pr φ h) (s : Slots w Pr φ h t a) {ty : TypeId} {x i : Operand} {x' i' : XO} {str : ByteArray} {k : IntKind} {ix : Int} {b : UInt8} (ho : o.op = .index ty x i) (hx : cO x = some x') (hi : cO i = some i')
    (hu : P.underlying ty = some .string) (he : x'.ev t = .str str) (hei : i'.ev t = .int k ix) (h0 : 0 ≤ ix) (hb : str[ix.toNat]? = some b) : OKop P o a w Pr φ h (.int .u8 b.toNat) h := by
  have r1 := cO_rep S.gl s hx
  have r2 := cO_rep S.gl s hi
  rw [he] at r1; rw [hei] at r2
  simp only [Rep] at r1 r2
  refine OKop.val S (v := .int .u8 b.toNat) ?_ (by simp only [Rep])
  simp [execOp, ho, Instr.index, r1, r2, asIntOf, run_underlying hu, h0, hb]

theorem ok_index (S : Sim w Pr φ h) (s : Slots w Pr φ h t a) {ty e : TypeId} {len : Nat} {x i : Operand} {x' i' : XO} {cs : List D} {k : IntKind} {ix : Int} {d : D} {ag : Option Nat} {inf : TypeInfo} (ho : o.op = .index ty x i) (hx : cO x = some x') (hi : cO i = some i')
    (hu : P.underlying ty = some (.array len e)) (hag : tAgg P e = some ag) (hinf : P.info? e = some inf) (he : x'.ev t = .agg cs) (hei : i'.ev t = .int k ix) (h0 : 0 ≤ ix ∧ ix < len)
    (hd : take1 cs (ix.toNat * inf.size) (bif ag.isSome then some inf.size else none) = some d) : OKop P o a w Pr φ h d h := by
  have r1 := cO_rep S.gl s hx
  have r2 := cO_rep S.gl s hi
  rw [he] at r1; rw [hei] at r2
  simp only [Rep] at r1 r2
  obtain ⟨vs, hv, h1, h2⟩ := r1
  have hag' : (bif ag.isSome then some inf.size else none) = ag := by
    obtain ⟨i, dd, hi, hu', ⟨rfl, _⟩ | ⟨rfl, _⟩⟩ := tAgg_spec (w := w) hag
    · rw [hinf] at hi; simp at hi; subst hi; simp
    · simp
  rw [hag'] at hd
  obtain ⟨v, hr, hv'⟩ := part_run hag h1 h2 hd
  refine OKop.val S (v := v) ?_ hv'
  simp [execOp, ho, Instr.index, hv, r2, asIntOf, run_underlying hu, h0, size_run hinf, hr]

end

end Go.Proofs.YtccinlhenkkpeaaDoor.E

namespace Go.Proofs.YtccinlhenkkpeaaDoor.E
open Go

theorem put_list : (l : List Value) → (k off : Nat) → (cells : Array Value) → off + k + l.length ≤ cells.size →
    ((l.zipIdx k).foldl (fun (cs : Array Value) (p : Value × Nat) => cs.setIfInBounds (off + p.2) p.1) cells).toList = cells.toList.take (off + k) ++ l ++ cells.toList.drop (off + k + l.length)
  | [], k, off, cells, _ => by simp
  | v :: r, k, off, cells, hl => by
    simp only [List.zipIdx_cons, List.foldl_cons]
    rw [put_list r (k + 1) off _ (by simp at hl ⊢; omega)]
    have e := list_seg_step cells.toList (off + k) v r (by simp at hl ⊢; omega)
    simpa [Array.toList_setIfInBounds, Nat.add_assoc] using e

section
variable {P : Program} {o : Oper} {w : World} {Pr : Nat → Nat → Prop} {φ : List Nat} {h : List Blk} {t : Nat → D} {a : Act}

theorem putAt_rep {cs new : List D} {vs us : List Value} {off : Nat} (r : RepL w Pr φ h cs vs) (q : RepL w Pr φ h new us) : RepL w Pr φ h (putAt cs off new) (vs.take off ++ us ++ vs.drop (off + us.length)) := by
  unfold putAt
  rw [q.length]
  exact ((r.take off).append q).append (r.drop _)

theorem all_putAt {p : D → Bool} {cs new : List D} {off : Nat} (h1 : cs.all p = true) (h2 : new.all p = true) : (putAt cs off new).all p = true := by
  unfold putAt
  simp only [List.all_append, Bool.and_eq_true]
  exact ⟨⟨all_take _ h1, h2⟩, all_drop _ h1⟩

theorem fill_rep (gg : Glob w Pr) (s : Slots w Pr φ h t a) {place place' : Nat → Option (Nat × Nat)} (hp : ∀ i p, place i = some p → place' i = some p) : (parts : List (Nat × Operand)) → (ps : List (Nat × Nat × XO)) → cParts place parts = some ps →
    ∀ (cs : Array Value) (ds r : List D), RepL w Pr φ h ds cs.toList → ds.all D.one = true → fillD ds (ps.map fun (o, s, x) => (o, s, x.ev t)) = some r →
    ∃ cs' : Array Value, Instr.fill place' cs (parts.map fun (i, x) => (i, a.eval x)) = some cs' ∧ RepL w Pr φ h r cs'.toList ∧ r.all D.one = true
  | [], ps, hc, cs, ds, r, hr, h1, hf => by
    simp [cParts] at hc; subst hc
    simp [fillD] at hf; subst hf
    exact ⟨cs, by simp [Instr.fill], hr, h1⟩
  | (i, x) :: parts, ps, hc, cs, ds, r, hr, h1, hf => by
    simp only [cParts] at hc
    split at hc
    · rename_i off sz x' ps' hpl hx hps
      simp at hc; subst hc
      simp only [List.map_cons, fillD] at hf
      split at hf
      · rename_i new hnew
        split at hf
        · rename_i hle
          obtain ⟨q1, q2⟩ := cells_rep hnew (cO_rep gg s hx)
          have hlen := q1.length
          have hlc := hr.length
          simp at hlen hlc
          have hv := put_list (a.eval x).cells.toList 0 off cs (by simp; omega)
          have hr' : RepL w Pr φ h (putAt ds off new) ((a.eval x).cells.zipIdx.foldl (fun cs p => cs.setIfInBounds (off + p.2) p.1) cs).toList := by
            rw [← Array.foldl_toList, Array.toList_zipIdx, hv]
            exact putAt_rep hr q1
          obtain ⟨cs', g1, g2, g3⟩ := fill_rep gg s hp parts ps' hps _ _ r hr' (all_putAt h1 q2) hf
          refine ⟨cs', ?_, g2, g3⟩
          have c1 : ((a.eval x).cells.size ≠ sz || off + (a.eval x).cells.size > cs.size) = false := by
            simp; omega
          simp only [List.map_cons, Instr.fill, hp _ _ hpl, c1]
          exact g1
        · simp at hf
      · simp at hf
    · simp at hc

theorem run_listMapM {α β : Type} (f : α → Sem β) (g : α → β) : (xs : List α) → (∀ x ∈ xs, (f x).run P w = .ok (g x) w) → (xs.mapM f).run P w = .ok (xs.map g) w
  | [], _ => by simp
  | x :: xs, hx => by
    simp only [List.mapM_cons, Sem.run_bind, hx x (by simp), Result.andThen_ok, run_listMapM f g xs (fun y hy => hx y (by simp [hy])), Sem.run_pure, List.map_cons]

theorem run_mapM {α β : Type} (f : α → Sem β) (g : α → β) (xs : Array α) (hx : ∀ x ∈ xs, (f x).run P w = .ok (g x) w) : (xs.mapM f).run P w = .ok (xs.map g) w := by
  rw [Array.mapM_eq_mapM_toList, Sem.run_map, run_listMapM f g xs.toList (fun x hm => hx x (by simpa using hm))]
  simp only [Result.andThen_ok]
  congr 1
  exact Array.ext' (by simp)

theorem ok_build (S : Sim w Pr φ h) (s : Slots w Pr φ h t a) {ty : TypeId} {parts : Array (Nat × Operand)} {sz by_ : Nat} {zs ds : List D} {ps : List (Nat × Nat × XO)} (ho : o.op = .build ty parts) (hi : tInfo P ty = some (sz, by_, zs))
    (hps : cParts (placeOf P ty) parts.toList = some ps)
    (hu : (∃ fs, P.underlying ty = some (.struct fs) ∧ (fs.toList.all fun f => (P.info? f.type).isSome) = true) ∨ ∃ n e, P.underlying ty = some (.array n e) ∧ (P.info? e).isSome = true)
    (hd : fillD zs (ps.map fun (o, s, x) => (o, s, x.ev t)) = some ds) : OKop P o a w Pr φ h (.agg ds) h := by
  obtain ⟨i, z, hi1, hz, rfl, rfl, hof, hl⟩ := tInfo_spec hi
  obtain ⟨z1, z2⟩ := ofCells_rep (w := w) (Pr := Pr) (φ := φ) (h := h) _ _ hof
  rcases hu with ⟨fs, hu, hall⟩ | ⟨n, e, hu, he⟩
  · have hplaces : (fs.mapM fun f => do pure (f.offset, ← sizeOf f.type) : Sem _).run P w = .ok (fs.map fun f => (f.offset, ((P.info? f.type).map (·.size)).getD 0)) w := by
      refine run_mapM _ _ fs fun f hf => ?_
      have := List.all_eq_true.1 hall f (by simpa using hf)
      cases hh : P.info? f.type with
      | none => simp [hh] at this
      | some j => simp [size_run hh]
    obtain ⟨cs', g1, g2, g3⟩ := fill_rep S.gl s (place := placeOf P ty) (place' := ((fs.map fun f => (f.offset, ((P.info? f.type).map (·.size)).getD 0))[·]?)) (fun i p hp => by
      unfold placeOf at hp
      rw [hu] at hp
      simp only at hp
      split at hp
      · rename_i f hf
        split at hp
        · rename_i j hj
          simp at hp; subst hp
          simp [hf, hj]
        · simp at hp
      · simp at hp) _ _ hps z.cells zs ds z1 z2 hd
    refine OKop.val S (v := .agg cs') ?_ (by simp only [Rep]; exact ⟨cs', rfl, g3, g2⟩)
    have g1' : Instr.fill (fun x => (Array.map (fun f => (f.offset, (Option.map (fun x => x.size) (P.info? f.type)).getD 0)) fs)[x]?) z.cells (Array.map (fun p => (p.1, a.eval p.2)) parts).toList = some cs' := by
      simpa using g1
    simp only [execOp, ho, Instr.build, Sem.run_bind, zero_run hi1 hz, Result.andThen_ok, run_underlying hu, hplaces, g1', Sem.run_pure]
  · obtain ⟨cs', g1, g2, g3⟩ := fill_rep S.gl s (place := placeOf P ty) (place' := fun i => some (i * ((P.info? e).map (·.size)).getD 0, ((P.info? e).map (·.size)).getD 0)) (fun i p hp => by
      unfold placeOf at hp
      rw [hu] at hp
      simp only at hp
      split at hp
      · rename_i j hj
        split at hp
        · simp at hp; subst hp
          simp [hj]
        · simp at hp
      · simp at hp) _ _ hps z.cells zs ds z1 z2 hd
    refine OKop.val S (v := .agg cs') ?_ (by simp only [Rep]; exact ⟨cs', rfl, g3, g2⟩)
    cases hh : P.info? e with
    | none => simp [hh] at he
    | some j =>
      have g1' : Instr.fill (fun i => some (i * j.size, j.size)) z.cells (Array.map (fun p => (p.1, a.eval p.2)) parts).toList = some cs' := by
        simpa [hh] using g1
      simp only [execOp, ho, Instr.build, Sem.run_bind, zero_run hi1 hz, Result.andThen_ok, run_underlying hu, size_run hh, g1', Sem.run_pure]

theorem zeros_len (zs : List D) : (n : Nat) → (zeros zs n).length = n * zs.length
  | 0 => by simp [zeros]
  | n + 1 => by simp [zeros, zeros_len zs n, Nat.add_mul]; omega

theorem zeros_all {p : D → Bool} {zs : List D} (hz : zs.all p = true) : (n : Nat) → (zeros zs n).all p = true
  | 0 => rfl
  | n + 1 => by simp only [zeros, List.all_append, hz, zeros_all hz n, Bool.and_self]

theorem range_get (z : List Value) : (List.range z.length).map (fun i => z.toArray[i]!) = z := by
  apply List.ext_getElem?
  intro j
  by_cases hj : j < z.length
  · simp [hj]
  · simp [hj]

theorem made_list (z : Array Value) : (n : Nat) → ((List.range ((n + 1) * z.size)).map (z[· % z.size]!)) = z.toList ++ ((List.range (n * z.size)).map (z[· % z.size]!)) := by
  intro n
  rw [Nat.add_mul, Nat.one_mul, Nat.add_comm, List.range_add, List.map_append, List.map_map]
  congr 1
  · have := range_get z.toList
    simp only [Array.length_toList, Array.toArray_toList] at this
    rw [← this]
    apply List.map_congr_left
    intro i hi
    rw [Nat.mod_eq_of_lt (by simpa using hi)]
  · apply List.map_congr_left
    intro i hi
    simp [Nat.add_mod_left]

theorem zeros_rep {z : Array Value} {zs : List D} (hz : RepL w Pr φ h zs z.toList) : (n : Nat) → RepL w Pr φ h (zeros zs n) ((List.range (n * z.size)).map (z[· % z.size]!))
  | 0 => by simp [zeros, RepL]
  | n + 1 => by
    rw [made_list]
    exact hz.append (zeros_rep hz n)

/-- A new block in whose cells nobody writes, and the slice over it. -/
theorem imm_arr (S : Sim w Pr φ h) {cs : List D} {vs : Array Value} {e : TypeId} {n : Nat} (hn : n ≤ maxLen) (r : RepL w Pr [] [] cs vs.toList) (h1 : cs.all D.one = true) :
    ∃ Pr', Le w Pr φ h (w.alloc (.cells vs e)) Pr' φ h ∧ Fr w Pr φ (w.alloc (.cells vs e)) Pr' φ ∧ Sim (w.alloc (.cells vs e)) Pr' φ h ∧
      Rep (w.alloc (.cells vs e)) Pr' φ h (.arr n true cs) (.slice (some ⟨w.heap.size, 0, none⟩) n n) := by
  obtain ⟨l, f, S'⟩ := imm_alloc S (.cells vs e)
  refine ⟨_, l, f, S', ?_⟩
  simp only [Rep]
  refine ⟨some ⟨w.heap.size, 0, none⟩, n, vs.toList, rfl, Nat.le_refl _, hn, fun _ => rfl, by simp, ?_, h1, RepL.mono l.closed _ _ r⟩
  refine .inr ⟨w.heap.size, 0, rfl, fun j v hj => ⟨?_, .inr rfl⟩⟩
  rw [Nat.zero_add, World.cell?_alloc_new]
  simpa using hj

theorem seal1_rep {d d' : D} {v : Value} (he : seal1 d = some d') (r : Rep w Pr φ h d v) : Rep w Pr [] [] d' v ∧ (d.one = true → d'.one = true) := by
  unfold seal1 at he
  split at he
  · simp at he; subst he
    refine ⟨?_, fun _ => rfl⟩
    simp only [Rep] at r ⊢
    obtain ⟨ad, cap, vs, h1, h2, h3, h4, h5, h6, h7, h8⟩ := r
    exact ⟨ad, cap, vs, h1, h2, h3, by simp, h5, h6, h7, h8⟩
  · split at he
    · rename_i hp
      simp at he; subst he
      exact ⟨plain_closed hp r, id⟩
    · simp at he

theorem sealL_rep : (ds ds' : List D) → (vs : List Value) → sealL ds = some ds' → RepL w Pr φ h ds vs → RepL w Pr [] [] ds' vs ∧ (ds.all D.one = true → ds'.all D.one = true)
  | [], ds', vs, he, r => by simp [sealL] at he; subst he; simp [RepL] at r; subst r; simp [RepL]
  | d :: ds, ds', vs, he, r => by
    simp only [sealL] at he
    split at he
    · rename_i d' es h1 h2
      simp at he; subst he
      simp only [RepL] at r
      obtain ⟨v, us, rfl, r1, r2⟩ := r
      obtain ⟨q1, q2⟩ := seal1_rep h1 r1
      obtain ⟨q3, q4⟩ := sealL_rep ds es us h2 r2
      exact ⟨by simp only [RepL]; exact ⟨v, us, rfl, q1, q3⟩, fun hh => by simp at hh ⊢; exact ⟨q2 hh.1, by simpa using q4 (by simpa using hh.2)⟩⟩
    · simp at he

theorem buildSlice_run {ty e : TypeId} {len : Nat} {parts : Array (Nat × Operand)} {sz by_ : Nat} {zs ds : List D} {ps : List (Nat × Nat × XO)} (gg : Glob w Pr) (s : Slots w Pr φ h t a) (hu : P.underlying ty = some (.slice e)) (hi : tInfo P e = some (sz, by_, zs))
    (hps : cParts (fun i => if i < len then some (i * sz, sz) else none) parts.toList = some ps) (hsz : len * sz ≤ 16777216 ∧ 0 < sz)
    (hd : fillD (zeros zs len) (ps.map fun (o, s, x) => (o, s, x.ev t)) = some ds) :
    ∃ vs : Array Value, (Instr.buildSlice ty len (parts.map fun (i, x) => (i, a.eval x))).run P w = .ok (.slice (some ⟨w.heap.size, 0, none⟩) len len) (w.alloc (.cells vs e)) ∧ RepL w Pr φ h ds vs.toList ∧ ds.all D.one = true ∧ len ≤ maxLen := by
  obtain ⟨i, z, hi1, hz, rfl, rfl, hof, hl⟩ := tInfo_spec hi
  obtain ⟨z1, z2⟩ := ofCells_rep (w := w) (Pr := Pr) (φ := φ) (h := h) _ _ hof
  have hzl : z.cells.size = i.size := by have := z1.length; simp at this; omega
  have hr := zeros_rep z1 len
  obtain ⟨cs', g1, g2, g3⟩ := fill_rep gg s (place' := fun k => some (k * i.size, i.size)) (fun k p hp => by split at hp <;> simp_all) _ _ hps ((Array.range (len * i.size)).map (z.cells[· % z.cells.size]!)) (zeros zs len) ds (by
    have : ((Array.range (len * i.size)).map (z.cells[· % z.cells.size]!)).toList = (List.range (len * z.cells.size)).map (z.cells[· % z.cells.size]!) := by
      rw [hzl]; simp
    rw [this]; exact hr) (zeros_all z2 len) hd
  have hlen : len ≤ len * i.size := Nat.le_mul_of_pos_right _ hsz.2
  refine ⟨cs', ?_, g2, g3, by simp only [maxLen]; omega⟩
  have g1' : Instr.fill (fun k => some (k * i.size, i.size)) ((Array.range (len * i.size)).map (z.cells[· % z.cells.size]!)) (Array.map (fun p => (p.1, a.eval p.2)) parts).toList = some cs' := by
    simpa using g1
  have hbig : ¬ (16777216 < len * i.size) := by omega
  by_cases h0 : len * i.size = 0
  · have hl0 : len = 0 := by
      rcases Nat.mul_eq_zero.1 h0 with h | h
      · exact h
      · omega
    subst hl0
    have g1'' : Instr.fill (fun k => some (k * i.size, i.size)) #[] (Array.map (fun p => (p.1, a.eval p.2)) parts).toList = some cs' := by
      simpa [Array.range_zero'] using g1'
    have g1q : Instr.fill (fun k => some (k * i.size, i.size)) #[] (parts.toList.map (fun p => (p.1, a.eval p.2))) = some cs' := by simpa using g1''
    simp [Instr.buildSlice, run_underlying hu, size_run hi1, newRow, Array.range_zero', g1q]
  · simp only [Instr.buildSlice, Sem.run_bind, run_underlying hu, Result.andThen_ok, size_run hi1, Sem.run_ite]
    simp only [show ¬ (len * i.size > 2 ^ 24) by omega, if_false, h0, Sem.run_pure, Result.andThen_ok, Sem.run_bind, zero_run hi1 hz, g1', newRow, run_newObj, World.alloc_eq]

theorem ok_buildSlice (S : Sim w Pr φ h) (s : Slots w Pr φ h t a) {ty e : TypeId} {len : Nat} {parts : Array (Nat × Operand)} {sz by_ : Nat} {zs ds ds' : List D} {ps : List (Nat × Nat × XO)} (ho : o.op = .buildSlice ty len parts)
    (hu : P.underlying ty = some (.slice e)) (hi : tInfo P e = some (sz, by_, zs))
    (hps : cParts (fun i => if i < len then some (i * sz, sz) else none) parts.toList = some ps) (hsz : len * sz ≤ 16777216 ∧ 0 < sz)
    (hd : fillD (zeros zs len) (ps.map fun (o, s, x) => (o, s, x.ev t)) = some ds) (hs : sealL ds = some ds') : OKop P o a w Pr φ h (.arr len true ds') h := by
  obtain ⟨vs, g1, g2, g3, g4⟩ := buildSlice_run S.gl s hu hi hps hsz hd
  obtain ⟨q1, q2⟩ := sealL_rep _ _ _ hs g2
  obtain ⟨Pr', l, f, S', r⟩ := imm_arr S (e := e) g4 q1 (q2 g3)
  refine OKop.go ?_ l f S' r
  simp only [execOp, ho, Sem.run_bind, g1, Result.andThen_ok, Sem.run_pure]

/-! ### Structs compared -/

def eqOffs (ds es : List D) : List (Nat × Nat) → Option Bool
  | [] => some true
  | (o, k) :: r => match ds[o]?, es[o]? with
    | some a, some b => match eqCell k a b with
      | some true => eqOffs ds es r
      | x => x
    | _, _ => none

theorem eqOffs_append {ds es : List D} : (xs ys : List (Nat × Nat)) → eqOffs ds es (xs ++ ys) = match eqOffs ds es xs with
    | some true => eqOffs ds es ys
    | x => x
  | [], ys => by simp [eqOffs]
  | (o, k) :: r, ys => by
    simp only [List.cons_append, eqOffs]
    split
    · split
      · exact eqOffs_append r ys
      · rename_i x hx
        split
        · rename_i he; simp_all
        · rfl
    · rfl

theorem eqOffs_cells : (offs : List (Nat × Nat)) → (ds es p q : List D) → p.length = q.length → ds.length = offs.length → offs.map (·.1) = List.range' p.length offs.length → ∀ b, eqCells (offs.map (·.2)) ds es = some b → eqOffs (p ++ ds) (q ++ es) offs = some b
  | [], ds, es, p, q, hp, hl, ho, b, he => by
    cases ds <;> cases es <;> simp [eqCells] at he
    subst he
    simp [eqOffs]
  | (o, k) :: offs, [], es, p, q, hp, hl, ho, b, he => by simp at hl
  | (o, k) :: offs, d :: ds, [], p, q, hp, hl, ho, b, he => by simp [eqCells] at he
  | (o, k) :: offs, d :: ds, e :: es, p, q, hp, hl, ho, b, he => by
    simp only [List.map_cons, eqCells] at he
    simp only [List.map_cons, List.length_cons, List.range'_succ, List.cons.injEq] at ho
    obtain ⟨rfl, ho⟩ := ho
    simp only [eqOffs]
    have e1 : (p ++ d :: ds)[p.length]? = some d := by simp
    have e2 : (q ++ e :: es)[p.length]? = some e := by rw [hp]; simp
    rw [e1, e2]
    simp only
    cases hc : eqCell k d e with
    | none => simp [hc] at he
    | some x =>
      cases x
      · simp [hc] at he ⊢; exact he
      · simp [hc] at he ⊢
        have := eqOffs_cells offs ds es (p ++ [d]) (q ++ [e]) (by simp [hp]) (by simpa using hl) (by simpa using ho) b he
        simpa using this

theorem part_extract {cs : Array Value} {off sz o : Nat} {e : TypeId} {j : TypeInfo} {de : TypeDesc} (hu : P.underlying e = some de) (hj : P.info? e = some j) (h0 : 0 < j.size) (hle : o + j.size ≤ sz) :
    (part e (cs.extract off (off + sz)) o).run P w = (part e cs (off + o)).run P w := by
  by_cases hag : (isAgg e).run P w = .ok true w
  · simp only [part, Sem.run_bind, hag, Result.andThen_ok, if_true, size_run hj, Sem.run_pure]
    congr 2
    rw [Array.extract_extract]
    congr 1
    omega
  · by_cases hag2 : (isAgg e).run P w = .ok false w
    · simp only [part, Sem.run_bind, hag2, Result.andThen_ok, Bool.false_eq_true, if_false]
      have : (cs.extract off (off + sz))[o]? = cs[off + o]? := by
        rw [Array.getElem?_extract]
        have h1 : o < min (off + sz) cs.size - off ∨ ¬ (o < min (off + sz) cs.size - off) := Decidable.em _
        rcases h1 with h1 | h1
        · simp [h1]
        · simp only [h1, if_false]
          symm
          rw [Array.getElem?_eq_none]
          omega
      rw [this]
    · exfalso
      unfold isAgg at hag hag2
      simp only [Sem.run_bind, run_underlying hu] at hag hag2
      cases de <;> simp_all

theorem part_cell {cs : Array Value} {o : Nat} {e : TypeId} {de : TypeDesc} {v : Value} (hu : P.underlying e = some de) (hk : (∃ k, de = .int k) ∨ de = .bool ∨ de = .string) (hv : cs[o]? = some v) : (part e cs o).run P w = .ok v w := by
  rcases hk with ⟨k, rfl⟩ | rfl | rfl <;> simp [part, isAgg, run_underlying hu, hv]

theorem part_struct {cs : Array Value} {o : Nat} {e : TypeId} {fs : Array Field} {i : TypeInfo} (hu : P.underlying e = some (.struct fs)) (hi : P.info? e = some i) : (part e cs o).run P w = .ok (.agg (cs.extract o (o + i.size))) w := by
  simp [part, isAgg, run_underlying hu, size_run hi]

theorem eqIn_run {xs ys : Array Value} {ds es : List D} (rx : RepL w Pr φ h ds xs.toList) (ry : RepL w Pr φ h es ys.toList) : (n : Nat) → (ty : TypeId) → (off : Nat) → (offs : List (Nat × Nat)) → flatEq P n ty off = some offs →
    ∀ b, eqOffs ds es offs = some b → ∀ v u, (part ty xs off).run P w = .ok v w → (part ty ys off).run P w = .ok u w → ∀ m, n ≤ m → (Op.equalIn m ty v u).run P w = .ok b w
  | 0, ty, off, offs, hf, b, he, v, u, hv, hu, m, hm => by simp [flatEq] at hf
  | n + 1, ty, off, offs, hf, b, he, v, u, hv, hu, m, hm => by
    obtain ⟨m, rfl⟩ : ∃ m', m = m' + 1 := ⟨m - 1, by omega⟩
    have cell : ∀ (k : Nat), offs = [(off, k)] → ∃ d e, ds[off]? = some d ∧ es[off]? = some e ∧ eqCell k d e = some b ∧ ∃ x y, xs[off]? = some x ∧ ys[off]? = some y ∧ Rep w Pr φ h d x ∧ Rep w Pr φ h e y := by
      intro k hk
      subst hk
      simp only [eqOffs] at he
      split at he
      · rename_i d e hd hes
        obtain ⟨x, hx, r1⟩ := rx.get _ _ hd
        obtain ⟨y, hy, r2⟩ := ry.get _ _ hes
        refine ⟨d, e, hd, hes, ?_, x, y, by simpa using hx, by simpa using hy, r1, r2⟩
        split at he
        · rename_i hc; rw [hc]; exact he
        · exact he
      · simp at he
    simp only [flatEq] at hf
    split at hf
    · rename_i k hty
      simp at hf
      obtain ⟨d, e, _, _, hc, x, y, hx, hy, r1, r2⟩ := cell 0 hf.symm
      rw [part_cell hty (.inl ⟨k, rfl⟩) hx] at hv
      rw [part_cell hty (.inl ⟨k, rfl⟩) hy] at hu
      simp at hv hu
      subst hv hu
      cases d <;> simp only [eqCell, reduceCtorEq] at hc
      cases e <;> simp only [reduceCtorEq] at hc
      split at hc <;> simp at hc
      rename_i hk
      subst hk hc
      simp only [Rep] at r1 r2
      subst r1 r2
      exact run_equalIn_int w m ty _ k _ _ hty
    · rename_i hty
      simp at hf
      obtain ⟨d, e, _, _, hc, x, y, hx, hy, r1, r2⟩ := cell 1 hf.symm
      rw [part_cell hty (.inr (.inl rfl)) hx] at hv
      rw [part_cell hty (.inr (.inl rfl)) hy] at hu
      simp at hv hu
      subst hv hu
      cases d <;> simp only [eqCell, reduceCtorEq] at hc
      cases e <;> simp only [reduceCtorEq, Option.some.injEq] at hc
      subst hc
      simp only [Rep] at r1 r2
      subst r1 r2
      exact run_equalIn_bool w m ty _ _ hty
    · rename_i hty
      simp at hf
      obtain ⟨d, e, _, _, hc, x, y, hx, hy, r1, r2⟩ := cell 2 hf.symm
      rw [part_cell hty (.inr (.inr rfl)) hx] at hv
      rw [part_cell hty (.inr (.inr rfl)) hy] at hu
      simp at hv hu
      subst hv hu
      cases d <;> simp only [eqCell, reduceCtorEq] at hc
      cases e <;> simp only [reduceCtorEq, Option.some.injEq] at hc
      subst hc
      simp only [Rep] at r1 r2
      subst r1 r2
      exact run_equalIn_string w m ty _ _ hty
    · rename_i fs hty
      split at hf
      · simp at hf
      · rename_i hst
        split at hf
        · rename_i i hi
          rw [part_struct hty hi] at hv hu
          simp at hv hu
          subst hv hu
          have hfo : P.fieldsOf ty = fs := by simp [Program.fieldsOf, hty]
          rw [run_equalIn_struct w m ty _ _ (by rw [hfo]; exact hty) (by simpa using hst), hfo]
          have key : ∀ (l : List Field) (offs : List (Nat × Nat)) (b : Bool), flatL P (flatEq P n) off i.size l = some offs → eqOffs ds es offs = some b →
              (Op.eqFields m (xs.extract off (off + i.size)) (ys.extract off (off + i.size)) l).run P w = .ok b w := by
            intro l
            induction l with
            | nil =>
              intro offs b hl hb
              simp [flatL] at hl; subst hl
              simp [eqOffs] at hb; subst hb
              simp [Op.eqFields]
            | cons f l ih =>
              intro offs b hl hb
              simp only [flatL] at hl
              split at hl
              · simp at hl
              · rename_i hname
                split at hl
                · rename_i j hj
                  split at hl
                  · rename_i hle
                    split at hl
                    · rename_i o1 o2 h1 h2
                      simp at hl; subst hl
                      rw [eqOffs_append] at hb
                      have hne : eqOffs ds es o1 ≠ none := by intro hn; rw [hn] at hb; simp at hb
                      obtain ⟨b1, hb1⟩ := Option.ne_none_iff_exists'.1 hne
                      obtain ⟨df, hdf⟩ : ∃ df, P.underlying f.type = some df := by
                        cases n with
                        | zero => simp [flatEq] at h1
                        | succ n => cases hh : P.underlying f.type with
                          | none => simp [flatEq, hh] at h1
                          | some df => exact ⟨df, rfl⟩
                      have hpx : ∃ v, (part f.type xs (off + f.offset)).run P w = .ok v w ∧ ∃ u, (part f.type ys (off + f.offset)).run P w = .ok u w := by
                        cases n with
                        | zero => simp [flatEq] at h1
                        | succ n =>
                          have cells1 : ∀ k, o1 = [(off + f.offset, k)] → ∃ x y, xs[off + f.offset]? = some x ∧ ys[off + f.offset]? = some y := by
                            intro k hk
                            subst hk
                            simp only [eqOffs] at hb1
                            split at hb1
                            · rename_i d e hd hes
                              obtain ⟨x, hx, _⟩ := rx.get _ _ hd
                              obtain ⟨y, hy, _⟩ := ry.get _ _ hes
                              exact ⟨x, y, by simpa using hx, by simpa using hy⟩
                            · simp at hb1
                          simp only [flatEq] at h1
                          split at h1
                          · rename_i k hk
                            simp at h1
                            obtain ⟨x, y, hx, hy⟩ := cells1 _ h1.symm
                            exact ⟨x, part_cell hk (.inl ⟨_, rfl⟩) hx, y, part_cell hk (.inl ⟨_, rfl⟩) hy⟩
                          · rename_i hk
                            simp at h1
                            obtain ⟨x, y, hx, hy⟩ := cells1 _ h1.symm
                            exact ⟨x, part_cell hk (.inr (.inl rfl)) hx, y, part_cell hk (.inr (.inl rfl)) hy⟩
                          · rename_i hk
                            simp at h1
                            obtain ⟨x, y, hx, hy⟩ := cells1 _ h1.symm
                            exact ⟨x, part_cell hk (.inr (.inr rfl)) hx, y, part_cell hk (.inr (.inr rfl)) hy⟩
                          · rename_i hk
                            exact ⟨_, part_struct hk hj, _, part_struct hk hj⟩
                          · simp at h1
                      obtain ⟨v, hv, u, hu⟩ := hpx
                      have hrec := eqIn_run rx ry n f.type (off + f.offset) o1 h1 b1 hb1 v u hv hu m (by omega)
                      rw [Op.eqFields, if_pos hname]
                      simp only [Sem.run_bind, part_extract hdf hj hle.1 hle.2, hv, hu, Result.andThen_ok, hrec]
                      cases b1
                      · simp [hb1] at hb; subst hb
                        simp
                      · simp [hb1] at hb
                        simp [ih o2 b h2 hb]
                    · simp at hl
                  · simp at hl
                · simp at hl
          exact key fs.toList offs b hf he
        · simp at hf
    · simp at hf

theorem ok_eqAgg (S : Sim w Pr φ h) (s : Slots w Pr φ h t a) {neg : Bool} {ty ty2 : TypeId} {x y : Operand} {x' y' : XO} {xs ys : List D} {b : Bool} {fs : Array Field} {offs : List (Nat × Nat)} {i : TypeInfo}
    (ho : o.op = .binOp (if neg then .neq else .eql) ty x y ty2) (hx : cO x = some x') (hy : cO y = some y') (hu : P.underlying ty = some (.struct fs)) (hf : flatEq P 100 ty 0 = some offs) (hi : P.info? ty = some i)
    (hr : offs.map (·.1) = List.range i.size) (hg : P.eqGuardType P.depth ty = false) (hex : x'.ev t = .agg xs) (hey : y'.ev t = .agg ys) (hl : xs.length = offs.length) (hl2 : ys.length = offs.length) (he : eqCells (offs.map (·.2)) xs ys = some b) :
    OKop P o a w Pr φ h (.bool (bif neg then !b else b)) h := by
  have r1 := cO_rep S.gl s hx
  have r2 := cO_rep S.gl s hy
  rw [hex] at r1; rw [hey] at r2
  simp only [Rep] at r1 r2
  obtain ⟨vx, ex, _, rx⟩ := r1
  obtain ⟨vy, ey, _, ry⟩ := r2
  have hlen : offs.length = i.size := by have := congrArg List.length hr; simpa using this
  have hlx := rx.length
  have hly := ry.length
  have hys : ys.length = xs.length := hl2.trans hl.symm
  simp at hlx hly
  have hoffs := eqOffs_cells offs xs ys [] [] rfl hl (by rw [hr]; simp [hlen, List.range_eq_range']) b he
  simp only [List.nil_append] at hoffs
  have p1 : (part ty vx 0).run P w = .ok (.agg vx) w := by
    rw [part_struct hu hi]; congr 2; rw [Nat.zero_add, ← hlen, ← hl, ← hlx, Array.extract_size]
  have p2 : (part ty vy 0).run P w = .ok (.agg vy) w := by
    rw [part_struct hu hi]; congr 2; rw [Nat.zero_add, ← hlen, ← hl, ← hys, ← hly, Array.extract_size]
  have hrun := eqIn_run rx ry 100 ty 0 offs hf b hoffs _ _ p1 p2 10000 (by omega)
  refine OKop.val S (v := .bool (bif neg then !b else b)) ?_ (by simp only [Rep])
  cases neg
  · simp only [Bool.false_eq_true, if_false] at ho
    simp only [execOp, ho, ex, ey, Sem.run_bind, run_eqGuard_agg w _ ty x y vx vy hg, Result.andThen_ok, run_eql_struct, hrun, Sem.run_pure, cond_false]
  · simp only [if_true] at ho
    simp only [execOp, ho, ex, ey, Sem.run_bind, run_eqGuard_agg w _ ty x y vx vy hg, Result.andThen_ok, run_neq_struct, hrun, Sem.run_pure, cond_true]

end

end Go.Proofs.YtccinlhenkkpeaaDoor.E

namespace Go.Proofs.YtccinlhenkkpeaaDoor.E
open Go
set_option linter.unusedSimpArgs false
set_option linter.unusedVariables false

/-- Where the blocks of one store lie in another one. -/
def Moves (ρ : Nat → Option Nat) (φ : List Nat) (h : List Blk) (φ2 : List Nat) (h2 : List Blk) : Prop :=
  ∀ b b' k, ρ b = some b' → h[b]? = some k → ∃ k2, h2[b']? = some k2 ∧ k2.box = k.box ∧ k2.cs.length = k.cs.length ∧ φ2[b']? = φ[b]?

section
variable {w : World} {Pr : Nat → Nat → Prop} {φ φ2 : List Nat} {h h2 : List Blk} {ρ : Nat → Option Nat}

mutual
theorem ren_rep (mv : Moves ρ φ h φ2 h2) : (d d' : D) → (v : Value) → d.ren ρ = some d' → Rep w Pr φ h d v → Rep w Pr φ2 h2 d' v
  | .int k n, d', v, e, r => by simp only [D.ren, Option.some.injEq] at e; subst e; exact r
  | .bool b, d', v, e, r => by simp only [D.ren, Option.some.injEq] at e; subst e; exact r
  | .str s, d', v, e, r => by simp only [D.ren, Option.some.injEq] at e; subst e; exact r
  | .arr n full cs, d', v, e, r => by simp only [D.ren, Option.some.injEq] at e; subst e; simpa only [Rep] using r
  | .cptr cs, d', v, e, r => by simp only [D.ren, Option.some.injEq] at e; subst e; simpa only [Rep] using r
  | .nilp, d', v, e, r => by simp only [D.ren, Option.some.injEq] at e; subst e; exact r
  | .nilf, d', v, e, r => by simp only [D.ren, Option.some.injEq] at e; subst e; exact r
  | .nili, d', v, e, r => by simp only [D.ren, Option.some.injEq] at e; subst e; exact r
  | .any, d', v, e, r => by simp only [D.ren, Option.some.injEq] at e; subst e; exact r
  | .anyb, d', v, e, r => by simp only [D.ren, Option.some.injEq] at e; subst e; exact r
  | .mapd ks vs, d', v, e, r => by simp only [D.ren, Option.some.injEq] at e; subst e; simpa only [Rep] using r
  | .ref b off n sz gen full, d', v, e, r => by
    simp only [D.ren] at e
    split at e <;> simp at e
    rename_i b' hb
    subst e
    simp only [Rep] at r ⊢
    obtain ⟨a, cap, blk, h1, h2', h3, h4, h5, h6, h7, h8, h9⟩ := r
    obtain ⟨k2, g1, g2, g3, g4⟩ := mv b b' blk hb h6
    refine ⟨a, cap, k2, h1, h2', h3, h4, h5, g1, g2.trans h7, by omega, fun hg => ?_⟩
    obtain ⟨c, q1, q2⟩ := h9 (by omega)
    exact ⟨c, g4.trans q1, q2⟩
  | .ptr b off gen, d', v, e, r => by
    simp only [D.ren] at e
    split at e <;> simp at e
    rename_i b' hb
    subst e
    simp only [Rep] at r ⊢
    obtain ⟨ad, blk, h1, h6, h8, h9⟩ := r
    obtain ⟨k2, g1, g2, g3, g4⟩ := mv b b' blk hb h6
    refine ⟨ad, k2, h1, g1, by omega, fun hg => ?_⟩
    obtain ⟨c, q1, q2⟩ := h9 (by omega)
    exact ⟨c, g4.trans q1, q2⟩
  | .agg cs, d', v, e, r => by
    simp only [D.ren] at e
    split at e <;> simp at e
    rename_i cs' hc
    subst e
    simp only [Rep] at r ⊢
    obtain ⟨vs, h1, h2', h3⟩ := r
    obtain ⟨q1, q2⟩ := renL_rep mv cs cs' _ hc h3
    exact ⟨vs, h1, by rw [q2]; exact h2', q1⟩
  | .tup cs, d', v, e, r => by
    simp only [D.ren] at e
    split at e <;> simp at e
    rename_i cs' hc
    subst e
    simp only [Rep] at r ⊢
    obtain ⟨vs, h1, h3⟩ := r
    exact ⟨vs, h1, (renL_rep mv cs cs' _ hc h3).1⟩
  | .fn f a c, d', v, e, r => by
    simp only [D.ren] at e
    split at e <;> simp at e
    rename_i a' c' ha hc
    subst e
    simp only [Rep] at r ⊢
    obtain ⟨va, vc, h1, h2', h3⟩ := r
    exact ⟨va, vc, h1, (renL_rep mv a a' _ ha h2').1, (renL_rep mv c c' _ hc h3).1⟩
  | .ifc t d, d', v, e, r => by
    simp only [D.ren] at e
    split at e <;> simp at e
    rename_i d2 hd
    subst e
    simp only [Rep] at r ⊢
    obtain ⟨v', h1, h2'⟩ := r
    exact ⟨v', h1, ren_rep mv d d2 _ hd h2'⟩
theorem renL_rep (mv : Moves ρ φ h φ2 h2) : (ds ds' : List D) → (vs : List Value) → renL ρ ds = some ds' → RepL w Pr φ h ds vs → RepL w Pr φ2 h2 ds' vs ∧ ds'.all D.one = ds.all D.one
  | [], ds', vs, e, r => by simp [renL] at e; subst e; exact ⟨by simpa only [RepL] using r, rfl⟩
  | d :: ds, ds', vs, e, r => by
    simp only [renL] at e
    split at e <;> simp at e
    rename_i d1 ds1 h1 h2'
    subst e
    simp only [RepL] at r ⊢
    obtain ⟨v, q, rfl, r1, r2⟩ := r
    obtain ⟨q1, q2⟩ := renL_rep mv ds ds1 q h2' r2
    refine ⟨⟨v, q, rfl, ren_rep mv d d1 v h1 r1, q1⟩, ?_⟩
    have : d1.one = d.one := by
      cases d <;> simp only [D.ren] at h1 <;> (try (split at h1)) <;> simp at h1 <;> subst h1 <;> rfl
    simp only [List.all_cons, q2, this]
end

theorem renL_len {ds ds' : List D} (e : renL ρ ds = some ds') : ds'.length = ds.length := by
  induction ds generalizing ds' with
  | nil => simp [renL] at e; subst e; rfl
  | cons d ds ih =>
    simp only [renL] at e
    split at e <;> simp at e
    rename_i d1 ds1 h1 h2'
    subst e
    simp [ih h2']

theorem blkren_spec {k k' : Blk} (e : k.ren ρ = some k') : k'.box = k.box ∧ k'.cs.length = k.cs.length ∧ k'.fz = k.fz ∧ (k.box = true → renL ρ k.cs = some k'.cs) ∧ (k.box = false → k' = k) := by
  unfold Blk.ren at e
  cases hb : k.box <;> simp only [hb, cond_true, cond_false] at e
  · simp at e; subst e; simp [hb]
  · split at e <;> simp at e
    rename_i cs hc
    subst e
    simp [hc, renL_len hc]

theorem idx_spec : {bs : List Nat} → {b i : Nat} → idx bs b = some i → bs[i]? = some b
  | [], b, i, e => by simp [idx] at e
  | x :: r, b, i, e => by
    simp only [idx] at e
    split at e
    · rename_i hx; simp at e; subst e; simp [hx]
    · split at e <;> simp at e
      rename_i j hj
      subst e
      simpa using idx_spec hj

theorem partH_spec : {bs : List Nat} → {hs : List Blk} → partH ρ h bs = some hs → hs.length = bs.length ∧ ∀ (i b : Nat), bs[i]? = some b → ∃ (k k' : Blk), h[b]? = some k ∧ k.ren ρ = some k' ∧ hs[i]? = some k'
  | [], hs, e => by simp [partH] at e; subst e; simp
  | b :: r, hs, e => by
    simp only [partH] at e
    split at e <;> try (simp at e; done)
    rename_i k hk
    split at e <;> simp at e
    rename_i k' r' h1 h2'
    subst e
    obtain ⟨q1, q2⟩ := partH_spec h2'
    refine ⟨by simp [q1], fun i b' hb => ?_⟩
    cases i with
    | zero => simp at hb; subst hb; exact ⟨k, k', hk, h1, by simp⟩
    | succ i => simpa using q2 i b' (by simpa using hb)

theorem renBs_spec : {ks ks' : List Blk} → renBs ρ ks = some ks' → ks'.length = ks.length ∧ ∀ (i : Nat) (k : Blk), ks[i]? = some k → ∃ (k' : Blk), k.ren ρ = some k' ∧ ks'[i]? = some k'
  | [], ks', e => by simp [renBs] at e; subst e; simp
  | k :: r, ks', e => by
    simp only [renBs] at e
    split at e <;> simp at e
    rename_i k' r' h1 h2'
    subst e
    obtain ⟨q1, q2⟩ := renBs_spec h2'
    refine ⟨by simp [q1], fun i b' hb => ?_⟩
    cases i with
    | zero => simp at hb; subst hb; exact ⟨k', h1, by simp⟩
    | succ i => simpa using q2 i b' (by simpa using hb)

/-- The feet of some blocks. -/
def feetOf (φ : List Nat) (bs : List Nat) : List Nat := bs.map fun b => φ.getD b 0

theorem part_moves (S : Sim w Pr φ h) {bs : List Nat} {hs : List Blk} (e : partH (idx bs) h bs = some hs) : Moves (idx bs) φ h (feetOf φ bs) hs := by
  intro b i k hb hk
  have hi := idx_spec hb
  obtain ⟨_, q⟩ := partH_spec e
  obtain ⟨k1, k', h1, h2', h3⟩ := q i b hi
  rw [hk] at h1; simp at h1; subst h1
  obtain ⟨g1, g2, _⟩ := blkren_spec h2'
  refine ⟨k', h3, g1, g2, ?_⟩
  have hlt : b < φ.length := by rw [S.len]; exact (List.getElem?_eq_some_iff.1 hk).1
  simp [feetOf, hi, List.getElem?_eq_getElem hlt]

theorem part_sim (S : Sim w Pr φ h) {bs : List Nat} {hs : List Blk} (hn : bs.Nodup) (e : partH (idx bs) h bs = some hs) : Sim w Pr (feetOf φ bs) hs := by
  have mv := part_moves S e
  obtain ⟨q1, q2⟩ := partH_spec e
  have hfoot : ∀ (i c : Nat), (feetOf φ bs)[i]? = some c → ∃ b : Nat, bs[i]? = some b ∧ φ[b]? = some c := by
    intro i c hc
    simp only [feetOf, List.getElem?_map, Option.map_eq_some_iff] at hc
    obtain ⟨b, hb, hc⟩ := hc
    obtain ⟨k, k', hk, _, _⟩ := q2 i b hb
    have hlt : b < φ.length := by rw [S.len]; exact (List.getElem?_eq_some_iff.1 hk).1
    refine ⟨b, hb, ?_⟩
    simp only [List.getD_eq_getElem?_getD, List.getElem?_eq_getElem hlt, Option.getD_some] at hc
    rw [List.getElem?_eq_getElem hlt, hc]
  refine ⟨by simp [feetOf, q1], S.prlt, fun i k c hk hc => ?_, fun i j c hi hj => ?_, S.gl⟩
  · obtain ⟨b, hb, hbc⟩ := hfoot i c hc
    obtain ⟨k0, k', h1, h2', h3⟩ := q2 i b hb
    rw [hk] at h3; simp at h3; subst h3
    obtain ⟨g1, g2, g3, g4, g5⟩ := blkren_spec h2'
    obtain ⟨vs, ee, p1, p2, p3, p4, p5, p6⟩ := S.blk b k0 c h1 hbc
    cases hbox : k0.box
    · rw [g5 hbox]; 
      simp only [hbox, cond_false] at p3
      exact ⟨vs, ee, p1, p2, by simp only [hbox, cond_false]; exact p3, p4, p5, p6⟩
    · simp only [hbox, cond_true] at p3
      obtain ⟨r1, r2⟩ := renL_rep mv _ _ _ (g4 hbox) p3
      exact ⟨vs, ee, p1, by omega, by simp only [g1, hbox, cond_true, g2]; exact r1, by rw [r2]; exact p4, by omega, by rw [g3]; exact p6⟩
  · obtain ⟨b, hb, hbc⟩ := hfoot i c hi
    obtain ⟨b', hb', hbc'⟩ := hfoot j c hj
    have := S.inj b b' c hbc hbc'
    subst this
    obtain ⟨hi1, hi2⟩ := List.getElem?_eq_some_iff.1 hb
    obtain ⟨hj1, hj2⟩ := List.getElem?_eq_some_iff.1 hb'
    have hp := List.pairwise_iff_getElem.1 hn
    rcases Nat.lt_trichotomy i j with hlt | heq | hlt
    · exact absurd (hi2.trans hj2.symm) (hp i j hi1 hj1 hlt)
    · exact heq
    · exact absurd (hj2.trans hi2.symm) (hp j i hj1 hi1 hlt)

theorem feetOf_mem (S : Sim w Pr φ h) {bs : List Nat} {hs : List Blk} (e : partH (idx bs) h bs = some hs) {c : Nat} (hc : c ∈ feetOf φ bs) : c ∈ φ := by
  obtain ⟨_, q2⟩ := partH_spec e
  simp only [feetOf, List.mem_map] at hc
  obtain ⟨b, hb, rfl⟩ := hc
  obtain ⟨i, hi⟩ := List.getElem?_of_mem hb
  obtain ⟨k, k', hk, _, _⟩ := q2 i b hi
  have hlt : b < φ.length := by rw [S.len]; exact (List.getElem?_eq_some_iff.1 hk).1
  simp [List.getD_eq_getElem?_getD, List.getElem?_eq_getElem hlt]

/-! ### Laid back -/

theorem putBs_len : (h : List Blk) → (bs : List Nat) → (ks : List Blk) → (putBs h bs ks).length = h.length
  | h, [], ks => by simp [putBs]
  | h, b :: bs, [] => by simp [putBs]
  | h, b :: bs, k :: ks => by simp [putBs, putBs_len]

theorem putBs_other : (h : List Blk) → (bs : List Nat) → (ks : List Blk) → (i : Nat) → i ∉ bs → (putBs h bs ks)[i]? = h[i]?
  | h, [], ks, i, hi => by simp [putBs]
  | h, b :: bs, [], i, hi => by simp [putBs]
  | h, b :: bs, k :: ks, i, hi => by
    simp at hi
    rw [putBs, putBs_other _ bs ks i hi.2, List.getElem?_set_ne (fun hh => hi.1 hh.symm)]

theorem putBs_at : (h : List Blk) → (bs : List Nat) → (ks : List Blk) → bs.Nodup → (∀ b ∈ bs, b < h.length) → bs.length ≤ ks.length → (j : Nat) → (b : Nat) → bs[j]? = some b → (putBs h bs ks)[b]? = ks[j]?
  | h, [], ks, _, _, _, j, b, hj => by simp at hj
  | h, x :: bs, [], _, _, hl, j, b, hj => by simp at hl
  | h, x :: bs, k :: ks, hn, hlt, hl, j, b, hj => by
    rw [List.nodup_cons] at hn
    cases j with
    | zero =>
      simp at hj; subst hj
      rw [putBs, putBs_other _ bs ks _ hn.1, List.getElem?_set_self (hlt x (by simp))]
      simp
    | succ j =>
      rw [putBs, putBs_at _ bs ks hn.2 (fun b hb => by simp; exact hlt b (by simp [hb])) (by simpa using hl) j b (by simpa using hj)]
      simp

def putF : List Nat → List Nat → List Nat → List Nat
  | f, b :: bs, k :: ks => putF (f.set b k) bs ks
  | f, _, _ => f

theorem putF_len : (f : List Nat) → (bs : List Nat) → (ks : List Nat) → (putF f bs ks).length = f.length
  | f, [], ks => by simp [putF]
  | f, b :: bs, [] => by simp [putF]
  | f, b :: bs, k :: ks => by simp [putF, putF_len]

theorem putF_other : (h : List Nat) → (bs : List Nat) → (ks : List Nat) → (i : Nat) → i ∉ bs → (putF h bs ks)[i]? = h[i]?
  | h, [], ks, i, hi => by simp [putF]
  | h, b :: bs, [], i, hi => by simp [putF]
  | h, b :: bs, k :: ks, i, hi => by
    simp at hi
    rw [putF, putF_other _ bs ks i hi.2, List.getElem?_set_ne (fun hh => hi.1 hh.symm)]

theorem putF_at : (h : List Nat) → (bs : List Nat) → (ks : List Nat) → bs.Nodup → (∀ b ∈ bs, b < h.length) → bs.length ≤ ks.length → (j : Nat) → (b : Nat) → bs[j]? = some b → (putF h bs ks)[b]? = ks[j]?
  | h, [], ks, _, _, _, j, b, hj => by simp at hj
  | h, x :: bs, [], _, _, hl, j, b, hj => by simp at hl
  | h, x :: bs, k :: ks, hn, hlt, hl, j, b, hj => by
    rw [List.nodup_cons] at hn
    cases j with
    | zero =>
      simp at hj; subst hj
      rw [putF, putF_other _ bs ks _ hn.1, List.getElem?_set_self (hlt x (by simp))]
      simp
    | succ j =>
      rw [putF, putF_at _ bs ks hn.2 (fun b hb => by simp; exact hlt b (by simp [hb])) (by simpa using hl) j b (by simpa using hj)]
      simp

/-- A part of the store was lent, and is laid back. -/
theorem back_ok {w' : World} {Pr' : Nat → Nat → Prop} (S : Sim w Pr φ h) {bs : List Nat} {hs h2 h' : List Blk} {φ2 : List Nat} {r r' : D} {v : Value} (hn : bs.Nodup) (e : partH (idx bs) h bs = some hs)
    (l : Le w Pr (feetOf φ bs) hs w' Pr' φ2 h2) (f : Fr w Pr (feetOf φ bs) w' Pr' φ2) (S2 : Sim w' Pr' φ2 h2) (rv : Rep w' Pr' φ2 h2 r v) (hb : back h bs r h2 = some (r', h')) :
    ∃ φ', Le w Pr φ h w' Pr' φ' h' ∧ Fr w Pr φ w' Pr' φ' ∧ Sim w' Pr' φ' h' ∧ Rep w' Pr' φ' h' r' v := by
  have S1 := part_sim S hn e
  obtain ⟨pl, pq⟩ := partH_spec e
  unfold back at hb
  split at hb <;> simp at hb
  rename_i r1 ks hr hks
  obtain ⟨rfl, rfl⟩ := hb
  obtain ⟨kl, kq⟩ := renBs_spec hks
  have hbl : ∀ b ∈ bs, b < h.length := by
    intro b hb
    obtain ⟨i, hi⟩ := List.getElem?_of_mem hb
    obtain ⟨k, k', hk, _, _⟩ := pq i b hi
    exact (List.getElem?_eq_some_iff.1 hk).1
  have hm : bs.length ≤ h2.length := by
    rcases Nat.lt_or_ge h2.length bs.length with hlt | hge
    · exfalso
      have hx : h2.length < hs.length := by omega
      obtain ⟨k', hk', _⟩ := l.blk h2.length hs[h2.length] (List.getElem?_eq_getElem hx)
      have := (List.getElem?_eq_some_iff.1 hk').1
      omega
    · exact hge
  have hlen2 := S2.len
  -- where a block of the store lies behind it
  have hin : ∀ (j b : Nat), bs[j]? = some b → (putBs h bs (ks.take bs.length) ++ ks.drop bs.length)[b]? = ks[j]? := by
    intro j b hj
    have hjl := (List.getElem?_eq_some_iff.1 hj).1
    have hbm := hbl b (List.mem_of_getElem? hj)
    rw [List.getElem?_append_left (by rw [putBs_len]; exact hbm), putBs_at h bs _ hn hbl (by simp; omega) j b hj, List.getElem?_take, if_pos hjl]
  have hout : ∀ (i : Nat), i < h.length → i ∉ bs → (putBs h bs (ks.take bs.length) ++ ks.drop bs.length)[i]? = h[i]? := by
    intro i hi hnm
    rw [List.getElem?_append_left (by rw [putBs_len]; exact hi), putBs_other _ _ _ _ hnm]
  have hnew : ∀ (i : Nat), h.length ≤ i → (putBs h bs (ks.take bs.length) ++ ks.drop bs.length)[i]? = ks[bs.length + (i - h.length)]? := by
    intro i hi
    rw [List.getElem?_append_right (by rw [putBs_len]; exact hi), putBs_len, List.getElem?_drop]
  have hφl : φ.length = h.length := S.len
  have fin : ∀ (j b : Nat), bs[j]? = some b → (putF φ bs (φ2.take bs.length) ++ φ2.drop bs.length)[b]? = φ2[j]? := by
    intro j b hj
    have hjl := (List.getElem?_eq_some_iff.1 hj).1
    have hbm := hbl b (List.mem_of_getElem? hj)
    rw [List.getElem?_append_left (by rw [putF_len]; omega), putF_at φ bs _ hn (fun b hb => by have := hbl b hb; omega) (by simp; omega) j b hj, List.getElem?_take, if_pos hjl]
  have fout : ∀ (i : Nat), i < h.length → i ∉ bs → (putF φ bs (φ2.take bs.length) ++ φ2.drop bs.length)[i]? = φ[i]? := by
    intro i hi hnm
    rw [List.getElem?_append_left (by rw [putF_len]; omega), putF_other _ _ _ _ hnm]
  have fnew : ∀ (i : Nat), h.length ≤ i → (putF φ bs (φ2.take bs.length) ++ φ2.drop bs.length)[i]? = φ2[bs.length + (i - h.length)]? := by
    intro i hi
    rw [List.getElem?_append_right (by rw [putF_len]; omega), putF_len, List.getElem?_drop, hφl]
  -- the other way round
  have mv : Moves (backN h.length bs) φ2 h2 (putF φ bs (φ2.take bs.length) ++ φ2.drop bs.length) (putBs h bs (ks.take bs.length) ++ ks.drop bs.length) := by
    intro i b k hi hk
    obtain ⟨k', g1, g2⟩ := kq i k hk
    obtain ⟨q1, q2, _⟩ := blkren_spec g1
    simp only [backN] at hi
    split at hi
    · exact ⟨k', by rw [hin i b hi]; exact g2, q1, q2, fin i b hi⟩
    · simp at hi
      subst hi
      refine ⟨k', ?_, q1, q2, ?_⟩
      · rw [hnew _ (by omega), show bs.length + (h.length + (i - bs.length) - h.length) = i by omega]; exact g2
      · rw [fnew _ (by omega), show bs.length + (h.length + (i - bs.length) - h.length) = i by omega]
  have hfoot : ∀ (i c : Nat), φ[i]? = some c → i ∉ bs → c ∉ feetOf φ bs := by
    intro i c hc hi hm
    simp only [feetOf, List.mem_map] at hm
    obtain ⟨b, hb, hbc⟩ := hm
    have hbm := hbl b hb
    have : φ[b]? = some c := by
      rw [List.getElem?_eq_getElem (by omega)]
      simp only [List.getD_eq_getElem?_getD, List.getElem?_eq_getElem (show b < φ.length by omega), Option.getD_some] at hbc
      rw [hbc]
    exact hi (S.inj i b c hc this ▸ hb)
  have hfc : ∀ (j b : Nat), bs[j]? = some b → (feetOf φ bs)[j]? = φ[b]? := by
    intro j b hj
    have hbm := hbl b (List.mem_of_getElem? hj)
    simp [feetOf, hj, List.getElem?_eq_getElem (show b < φ.length by omega)]
  have room : ∀ c n, c ∉ feetOf φ bs → Room w c n → Room w' c n := by
    rintro c n hc ⟨vs, ee, q1, q2⟩
    have hlt : c < w.heap.size := by
      rcases Nat.lt_or_ge c w.heap.size with hh | hh
      · exact hh
      · rw [Array.getElem?_eq_none hh] at q1; simp at q1
    exact ⟨vs, ee, by rw [f.keep c hlt hc]; exact q1, q2⟩
  have hle : Le w Pr φ h w' Pr' (putF φ bs (φ2.take bs.length) ++ φ2.drop bs.length) (putBs h bs (ks.take bs.length) ++ ks.drop bs.length) := by
    refine ⟨l.pr, fun i k hk => ?_, l.mp⟩
    have hil := (List.getElem?_eq_some_iff.1 hk).1
    by_cases hm : i ∈ bs
    · obtain ⟨j, hj⟩ := List.getElem?_of_mem hm
      obtain ⟨k0, k1, h1, h2', h3⟩ := pq j i hj
      rw [hk] at h1; simp at h1; subst h1
      obtain ⟨g1, g2, _⟩ := blkren_spec h2'
      obtain ⟨k2, p1, p2, p3, p4⟩ := l.blk j k1 h3
      obtain ⟨k3, r1, r2⟩ := kq j k2 p1
      obtain ⟨s1, s2, _⟩ := blkren_spec r1
      refine ⟨k3, by rw [hin j i hj]; exact r2, s1.trans (p2.trans g1), by omega, fun hl c hc => ?_⟩
      obtain ⟨u1, u2⟩ := p4 (by omega) c (by rw [hfc j i hj]; exact hc)
      exact ⟨by rw [fin j i hj]; exact u1, u2⟩
    · refine ⟨k, by rw [hout i hil hm]; exact hk, rfl, Nat.le_refl _, fun _ c hc => ⟨by rw [fout i hil hm]; exact hc, fun n => room c n (hfoot i c hc hm)⟩⟩
  have hmem : ∀ c, c ∈ putF φ bs (φ2.take bs.length) ++ φ2.drop bs.length → c ∈ φ ∨ c ∈ φ2 := by
    intro c hc
    obtain ⟨i, hi⟩ := List.getElem?_of_mem hc
    have hil := (List.getElem?_eq_some_iff.1 hi).1
    by_cases hlt : i < h.length
    · by_cases hm : i ∈ bs
      · obtain ⟨j, hj⟩ := List.getElem?_of_mem hm
        rw [fin j i hj] at hi
        exact .inr (List.mem_of_getElem? hi)
      · rw [fout i hlt hm] at hi
        exact .inl (List.mem_of_getElem? hi)
    · rw [fnew i (by omega)] at hi
      exact .inr (List.mem_of_getElem? hi)
  have hfr : Fr w Pr φ w' Pr' (putF φ bs (φ2.take bs.length) ++ φ2.drop bs.length) := by
    refine ⟨f.os, f.tape, f.output, f.size, fun b hb hnm => f.keep b hb fun hm => hnm (feetOf_mem S e hm), fun c hc => ?_, fun b o hp => ?_⟩
    · rcases hmem c hc with hc | hc
      · exact .inl hc
      · rcases f.own c hc with hc | hc
        · exact .inl (feetOf_mem S e hc)
        · exact .inr hc
    · rcases f.prn b o hp with q | q | q
      · exact .inl q
      · exact .inr (.inl (feetOf_mem S e q))
      · exact .inr (.inr q)
  have hsim : Sim w' Pr' (putF φ bs (φ2.take bs.length) ++ φ2.drop bs.length) (putBs h bs (ks.take bs.length) ++ ks.drop bs.length) := by
    have lent : ∀ (j : Nat) (k3 : Blk) (c : Nat), ks[j]? = some k3 → φ2[j]? = some c → ∃ vs e, w'.heap[c]? = some (.cells vs e (0, 0)) ∧ k3.cs.length ≤ vs.size ∧
        (bif k3.box then RepL w' Pr' (putF φ bs (φ2.take bs.length) ++ φ2.drop bs.length) (putBs h bs (ks.take bs.length) ++ ks.drop bs.length) k3.cs (vs.toList.take k3.cs.length) else RepL w' Pr' [] [] k3.cs (vs.toList.take k3.cs.length)) ∧
        k3.cs.all D.one = true ∧ k3.fz ≤ k3.cs.length ∧ ∀ o, Pr' c o → o < k3.fz := by
      intro j k3 c hk3 hc
      have hjl : j < h2.length := by have := (List.getElem?_eq_some_iff.1 hk3).1; omega
      obtain ⟨k4, g1, g2⟩ := kq j h2[j] (List.getElem?_eq_getElem hjl)
      rw [hk3] at g2; simp at g2; subst g2
      obtain ⟨s1, s2, s3, s4, s5⟩ := blkren_spec g1
      obtain ⟨vs, ee, p1, p2, p3, p4, p5, p6⟩ := S2.blk j h2[j] c (List.getElem?_eq_getElem hjl) hc
      cases hbox : h2[j].box
      · rw [s5 hbox]
        simp only [hbox, cond_false] at p3
        exact ⟨vs, ee, p1, p2, by simp only [hbox, cond_false]; exact p3, p4, p5, p6⟩
      · simp only [hbox, cond_true] at p3
        obtain ⟨r1, r2⟩ := renL_rep mv _ _ _ (s4 hbox) p3
        exact ⟨vs, ee, p1, by omega, by simp only [s1, hbox, cond_true, s2]; exact r1, by rw [r2]; exact p4, by omega, by rw [s3]; exact p6⟩
    refine ⟨?_, S2.prlt, fun i k c hk hc => ?_, fun i j c hi hj => ?_, S2.gl⟩
    · simp only [List.length_append, putF_len, putBs_len, List.length_drop]; omega
    · by_cases hlt : i < h.length
      · by_cases hm : i ∈ bs
        · obtain ⟨j, hj⟩ := List.getElem?_of_mem hm
          rw [hin j i hj] at hk
          rw [fin j i hj] at hc
          exact lent j k c hk hc
        · rw [hout i hlt hm] at hk
          rw [fout i hlt hm] at hc
          obtain ⟨vs, ee, p1, p2, p3, p4, p5, p6⟩ := S.blk i k c hk hc
          have hcn := hfoot i c hc hm
          have hcl : c < w.heap.size := by
            rcases Nat.lt_or_ge c w.heap.size with hh | hh
            · exact hh
            · rw [Array.getElem?_eq_none hh] at p1; simp at p1
          refine ⟨vs, ee, by rw [f.keep c hcl hcn]; exact p1, p2, ?_, p4, p5, fun o ho => ?_⟩
          · cases hbox : k.box <;> simp only [hbox, cond_true, cond_false] at p3 ⊢
            · exact RepL.mono hle.closed _ _ p3
            · exact RepL.mono hle _ _ p3
          · rcases f.prn c o ho with q | q | q
            · exact p6 o q
            · exact absurd q hcn
            · omega
      · rw [hnew i (by omega)] at hk
        rw [fnew i (by omega)] at hc
        exact lent _ k c hk hc
    · -- different blocks, different feet
      have ori : ∀ (i c : Nat), (putF φ bs (φ2.take bs.length) ++ φ2.drop bs.length)[i]? = some c → (∃ j : Nat, φ2[j]? = some c ∧ ((bs[j]? = some i) ∨ (h.length ≤ i ∧ j = bs.length + (i - h.length)))) ∨ (i < h.length ∧ i ∉ bs ∧ φ[i]? = some c) := by
        intro i c hi
        by_cases hlt : i < h.length
        · by_cases hm : i ∈ bs
          · obtain ⟨j, hj⟩ := List.getElem?_of_mem hm
            rw [fin j i hj] at hi
            exact .inl ⟨j, hi, .inl hj⟩
          · rw [fout i hlt hm] at hi
            exact .inr ⟨hlt, hm, hi⟩
        · rw [fnew i (by omega)] at hi
          exact .inl ⟨_, hi, .inr ⟨by omega, rfl⟩⟩
      have cross : ∀ (i c j : Nat), i < h.length → i ∉ bs → φ[i]? = some c → φ2[j]? = some c → False := by
        intro i c j hlt hm hi hj
        rcases f.own c (List.mem_of_getElem? hj) with q | q
        · exact hfoot i c hi hm q
        · have := S.mem_lt (List.mem_of_getElem? hi)
          omega
      rcases ori i c hi with ⟨a, ha, ha'⟩ | ⟨h1, h2', h3⟩
      · rcases ori j c hj with ⟨b, hb, hb'⟩ | ⟨h1, h2', h3⟩
        · have hab := S2.inj a b c ha hb
          subst hab
          rcases ha' with ha' | ⟨ha', ha''⟩
          · rcases hb' with hb' | ⟨hb', hb''⟩
            · rw [ha'] at hb'; simpa using hb'
            · have := (List.getElem?_eq_some_iff.1 ha').1; omega
          · rcases hb' with hb' | ⟨hb', hb''⟩
            · have := (List.getElem?_eq_some_iff.1 hb').1; omega
            · omega
        · exact (cross j c a h1 h2' h3 ha).elim
      · rcases ori j c hj with ⟨b, hb, hb'⟩ | ⟨h1', h2'', h3'⟩
        · exact (cross i c b h1 h2' h3 hb).elim
        · exact S.inj i j c h3 h3'
  exact ⟨_, hle, hfr, hsim, ren_rep mv _ _ _ hr rv⟩

/-- Some blocks of the store go on, the first m ones among them. -/
theorem part_le (S : Sim w Pr φ h) {m : Nat} {bs : List Nat} {hs : List Blk} (e : partH (idx bs) h bs = some hs) (hm : ∀ i, i < m → bs[i]? = some i) {φ0 : List Nat} {h0 : List Blk} {w0 : World} {Pr0 : Nat → Nat → Prop} (h0l : h0.length = m)
    (l : Le w0 Pr0 φ0 h0 w Pr φ h) : Le w0 Pr0 φ0 h0 w Pr (feetOf φ bs) hs := by
  obtain ⟨_, q2⟩ := partH_spec e
  refine ⟨l.pr, fun i k hk => ?_, l.mp⟩
  have hi : i < m := by have := (List.getElem?_eq_some_iff.1 hk).1; omega
  obtain ⟨k', p1, p2, p3, p4⟩ := l.blk i k hk
  obtain ⟨k1, k2, r1, r2, r3⟩ := q2 i i (hm i hi)
  rw [p1] at r1; simp at r1; subst r1
  obtain ⟨g1, g2, _⟩ := blkren_spec r2
  refine ⟨k2, r3, g1.trans p2, by omega, fun hl c hc => ?_⟩
  obtain ⟨u1, u2⟩ := p4 (by omega) c hc
  refine ⟨?_, u2⟩
  have hlt : i < φ.length := by rw [S.len]; exact (List.getElem?_eq_some_iff.1 p1).1
  simp [feetOf, hm i hi, List.getElem?_eq_getElem hlt]
  rw [List.getElem?_eq_getElem hlt] at u1
  simpa using u1

theorem part_fr (S : Sim w Pr φ h) {bs : List Nat} {hs : List Blk} (e : partH (idx bs) h bs = some hs) {φ0 : List Nat} {w0 : World} {Pr0 : Nat → Nat → Prop} (f : Fr w0 Pr0 φ0 w Pr φ) : Fr w0 Pr0 φ0 w Pr (feetOf φ bs) :=
  ⟨f.os, f.tape, f.output, f.size, f.keep, fun c hc => f.own c (feetOf_mem S e hc), f.prn⟩

end

end Go.Proofs.YtccinlhenkkpeaaDoor.E
