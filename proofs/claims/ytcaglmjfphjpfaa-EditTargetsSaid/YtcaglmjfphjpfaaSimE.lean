/- The same, on: slice expressions, numbers, comparisons. -/
import Derived.Test.YtcaglmjfphjpfaaSimD
namespace Go.Proofs.Ytcaglmjfphjpfaa.E
open Go

section
variable {P : Program} {o : Oper} {w : World} {Pr : Nat → Nat → Prop} {φ : List Nat} {h : List Blk} {t : Nat → D} {a : Act}

theorem ok_slice (S : Sim w Pr φ h) (s : Slots w Pr φ h t a) {ty e : TypeId} {x : Operand} {lo hi mx : Option Operand} {x' : XO} {lo' hi' mx' : Option XO} {inf : TypeInfo} {d : D}
    (ho : o.op = .slice ty x lo hi mx) (hx : cO x = some x') (hlo : cOO lo = some lo') (hhi : cOO hi = some hi') (hmx : cOO mx = some mx') (hmh : (mx.isSome && hi.isNone) = false)
    (hu : P.underlying ty = some (.slice e)) (hinf : P.info? e = some inf)
    (hd : (match x'.ev t with
      | .arr n full cs => match bnds n (lo'.map (XO.ev t)) (hi'.map (XO.ev t)) (mx'.map (XO.ev t)) with
        | some (l, h, m) => some (D.arr (h - l) (match m with | none => full && h == n | some m => h == m) ((cs.drop (l * inf.size)).take ((h - l) * inf.size)))
        | none => none
      | .ref b off n k g full => match bnds n (lo'.map (XO.ev t)) (hi'.map (XO.ev t)) (mx'.map (XO.ev t)) with
        | some (l, h, m) => if k = inf.size ∧ roomB full n h m (off + n * inf.size) g = true then some (.ref b (off + l * inf.size) (h - l) inf.size g (match m with | none => full && h == n | some m => h == m)) else none
        | none => none
      | _ => none) = some d) : OKop P o a w Pr φ h d h := by
  have r1 := cO_rep s hx
  have hrun : ∀ (ad : Option Addr) (n cap l hh : Nat) (m : Option Nat), a.eval x = .slice ad n cap →
      (Instr.sliceBounds true n cap (lo.map a.eval) (hi.map a.eval) (mx.map a.eval)).run P w = .ok (l, hh, m.getD cap) w →
      (execOp a.eval o).run P w = .ok (.value (.slice (if m.getD cap = l then ad else ad.map (·.add (l * inf.size))) (hh - l) (m.getD cap - l))) w := by
    intro ad n cap l hh m had hb
    simp [execOp, ho, Instr.sliceAt, run_underlying hu, Instr.slice, had, hb, size_run hinf]
  split at hd
  · rename_i n full cs he
    split at hd
    · rename_i l hh m hb
      simp at hd; subst hd
      rw [he] at r1
      simp only [Rep] at r1
      obtain ⟨ad, cap, vs, hv, h1, h2, h3, h4, h5, h6, h7⟩ := r1
      obtain ⟨q1, q2, q3, q4, q5⟩ := bounds_run (isS := true) s hlo hhi hmx hmh h1 hb
      refine OKop.val S (hrun _ _ _ _ _ _ hv q1) ?_
      have hcap : hh ≤ m.getD cap ∧ m.getD cap ≤ cap := by
        cases m with
        | none => simp; omega
        | some m => have := q4 m rfl; simp; omega
      simp only [Rep]
      refine ⟨_, _, (vs.drop (l * inf.size)).take ((hh - l) * inf.size), rfl, by omega, by omega, fun hf => ?_, fun hn => ?_, ?_, all_take _ (all_drop _ h6), (h7.drop _).take _⟩
      · cases m with
        | none =>
          simp at hf
          have := h3 hf.1
          simp; omega
        | some m => simp at hf; simp; omega
      · split at hn
        · have := h4 hn; omega
        · cases ad with
          | none => have := h4 rfl; omega
          | some ad => simp at hn
      · split
        · rename_i hm
          have : hh - l = 0 := by omega
          simp [this, At]
        · exact (h5.drop _).take _
    · simp at hd
  · rename_i b off n k g full he
    split at hd
    · rename_i l hh m hb
      split at hd
      · rename_i hk
        obtain ⟨hk, hro⟩ := hk
        simp only [Option.some.injEq] at hd
        subst hd
        rw [he] at r1
        simp only [Rep] at r1
        obtain ⟨ad, cap, blk, hv, h1, h2, ⟨h3, h3b⟩, h4, h5, h6, h7, h8⟩ := r1
        obtain ⟨q1, q2, q3, q4, q5⟩ := bounds_run (isS := true) s hlo hhi hmx hmh h1 hb
        refine OKop.val S (hrun _ _ _ _ _ _ hv q1) ?_
        have hcap : hh ≤ m.getD cap ∧ m.getD cap ≤ cap := by
          cases m with
          | none => simp; omega
          | some m => have := q4 m rfl; simp; omega
        simp only [Rep]
        refine ⟨_, _, blk, rfl, by omega, by omega, ⟨fun hf => ?_, fun hf => ?_⟩, fun hn => ?_, h5, h6, h7, fun hg => ?_⟩
        · cases m with
          | none =>
            simp at hf
            have := h3 hf.1
            simp; omega
          | some m => simp at hf; simp; omega
        · subst hk
          have hn2 : l * inf.size ≤ m.getD cap * inf.size := Nat.mul_le_mul_right _ (by omega)
          cases m with
          | some m => simp only [roomB] at hro; simp only [hro] at hf; simp at hf
          | none =>
            simp only [Option.getD_none, Nat.sub_mul] at hn2 ⊢
            cases full with
            | false => have := h3b rfl; omega
            | true =>
              have hc := h3 rfl
              subst hc
              simp only [Bool.true_and] at hf
              simp only [roomB, hf, Bool.not_true, Bool.false_or, decide_eq_true_eq] at hro
              omega
        · split at hn
          · have := h4 hn; omega
          · cases ad with
            | none => have := h4 rfl; omega
            | some ad => simp at hn
        · obtain ⟨c, g1, g2, g3, vs, ee, g4, g5⟩ := h8 hg
          subst hk
          have hn1 : hh * inf.size ≤ n * inf.size := Nat.mul_le_mul_right _ q3
          have hn2 : m.getD cap * inf.size ≤ cap * inf.size := Nat.mul_le_mul_right _ hcap.2
          have hn3 : l * inf.size ≤ hh * inf.size := Nat.mul_le_mul_right _ q2
          have hn4 : hh * inf.size ≤ m.getD cap * inf.size := Nat.mul_le_mul_right _ hcap.1
          refine ⟨c, g1, fun hc => ?_, by rw [Nat.sub_mul]; omega, vs, ee, g4, by rw [Nat.sub_mul]; omega⟩
          have hne : ¬ (m.getD cap = l) := by omega
          rw [if_neg hne, g2 (by omega)]
          simp [Addr.add_lit]
      · simp at hd
    · simp at hd
  · simp at hd

theorem ok_sliceStr (S : Sim w Pr φ h) (s : Slots w Pr φ h t a) {ty : TypeId} {x : Operand} {lo hi : Option Operand} {x' : XO} {lo' hi' : Option XO} {d : D} {str : ByteArray} {l hh : Nat} {m : Option Nat}
    (ho : o.op = .slice ty x lo hi none) (hx : cO x = some x') (hlo : cOO lo = some lo') (hhi : cOO hi = some hi') (hu : P.underlying ty = some .string) (he : x'.ev t = .str str)
    (hb : bnds str.size (lo'.map (XO.ev t)) (hi'.map (XO.ev t)) none = some (l, hh, m)) (hd : d = .str (str.extract l hh)) : OKop P o a w Pr φ h d h := by
  have r1 := cO_rep s hx
  rw [he] at r1
  simp only [Rep] at r1
  obtain ⟨q1, q2, q3, q4, q5⟩ := bounds_run (P := P) (isS := false) s hlo hhi (mx := none) (mx' := none) rfl rfl (Nat.le_refl _) hb
  simp only [Option.map_none] at q1
  refine OKop.val S (v := .string (str.extract l hh)) ?_ (by subst hd; simp [Rep])
  simp [execOp, ho, Instr.sliceAt, run_underlying hu, Instr.slice, r1, q1]

theorem ok_len (S : Sim w Pr φ h) (s : Slots w Pr φ h t a) {ty e : TypeId} {x : Operand} {x' : XO} {c : Call} {d : D} (ho : o.op = .call c) (hc : c.callee = .builtin .len) (ha : c.args.toList = [x]) (ht : c.argTypes.toList = [ty]) (hx : cO x = some x')
    (hk : P.underlying ty = some (.slice e))
    (hd : (match x'.ev t with
      | .arr n _ _ => some (D.int .i64 n)
      | .ref _ _ n _ _ _ => some (.int .i64 n)
      | _ => none) = some d) : OKop P o a w Pr φ h d h := by
  have ha' : c.args = #[x] := by cases hh : c.args; simp_all
  have ht' : c.argTypes = #[ty] := by cases hh : c.argTypes; simp_all
  have r1 := cO_rep s hx
  have hrun : ∀ ad n cap, a.eval x = .slice ad n cap → (execOp a.eval o).run P w = .ok (.value (.int .i64 n)) w := by
    intro ad n cap hv
    simp [execOp, ho, resolve, hc, ha', ht', invoke, builtin, Builtin.len_, run_underlying hk, hv, goInt]
  split at hd <;> rename_i he <;> first | (simp at hd; done) | skip
  · simp at hd; subst hd
    rw [he] at r1
    simp only [Rep] at r1
    obtain ⟨ad, cap, vs, hv, _⟩ := r1
    exact OKop.val S (hrun _ _ _ hv) (by simp only [Rep])
  · simp at hd; subst hd
    rw [he] at r1
    simp only [Rep] at r1
    obtain ⟨ad, cap, vs, hv, _⟩ := r1
    exact OKop.val S (hrun _ _ _ hv) (by simp only [Rep])

theorem ok_lenStr (S : Sim w Pr φ h) (s : Slots w Pr φ h t a) {ty : TypeId} {x : Operand} {x' : XO} {c : Call} {str : ByteArray} (ho : o.op = .call c) (hc : c.callee = .builtin .len) (ha : c.args.toList = [x]) (ht : c.argTypes.toList = [ty]) (hx : cO x = some x')
    (hk : P.underlying ty = some .string) (he : x'.ev t = .str str) : OKop P o a w Pr φ h (.int .i64 str.size) h := by
  have ha' : c.args = #[x] := by cases hh : c.args; simp_all
  have ht' : c.argTypes = #[ty] := by cases hh : c.argTypes; simp_all
  have r1 := cO_rep s hx
  rw [he] at r1
  simp only [Rep] at r1
  refine OKop.val S (v := .int .i64 str.size) ?_ (by simp only [Rep])
  simp [execOp, ho, resolve, hc, ha', ht', invoke, builtin, Builtin.len_, run_underlying hk, r1, goInt]

theorem ok_un (S : Sim w Pr φ h) (s : Slots w Pr φ h t a) {op : UnOp} {ty : TypeId} {x : Operand} {x' : XO} {d : D} (ho : o.op = .unOp op ty x) (hx : cO x = some x') (hd : evUn op (x'.ev t) = some d) : OKop P o a w Pr φ h d h := by
  have r1 := cO_rep s hx
  cases he : x'.ev t <;> simp only [he, evUn] at hd <;> first | (simp at hd; done) | skip
  · rename_i k n
    rw [he] at r1
    simp only [Rep] at r1
    cases op <;> simp only [reduceCtorEq, Option.some.injEq] at hd
    subst hd
    exact OKop.val S (v := .int k (k.wrap (0 - n))) (by simp [execOp, ho, r1, Op.unary, Op.intArith]) (by simp only [Rep])
  · rename_i b
    rw [he] at r1
    simp only [Rep] at r1
    cases op <;> simp only [reduceCtorEq, Option.some.injEq] at hd
    subst hd
    exact OKop.val S (v := .bool (!b)) (by simp [execOp, ho, r1, Op.unary]) (by simp only [Rep])

theorem ok_conv (S : Sim w Pr φ h) (s : Slots w Pr φ h t a) {src dst : TypeId} {x : Operand} {x' : XO} {k k' : IntKind} {n : Int} (hs : ∃ ds, P.underlying src = some ds) (ho : o.op = .convert src dst x) (hx : cO x = some x') (hu : P.underlying dst = some (.int k))
    (he : x'.ev t = .int k' n) : OKop P o a w Pr φ h (.int k (k.wrap n)) h := by
  have r1 := cO_rep s hx
  rw [he] at r1
  simp only [Rep] at r1
  obtain ⟨ds, hs⟩ := hs
  refine OKop.val S (v := .int k (k.wrap n)) ?_ (by simp only [Rep])
  simp [execOp, ho, r1, convert, run_underlying hs, run_underlying hu, Conv.intToInt]

theorem ok_bin (S : Sim w Pr φ h) (s : Slots w Pr φ h t a) {op : BinOp} {ty ty2 : TypeId} {x y : Operand} {x' y' : XO} {d : D} (ho : o.op = .binOp op ty x y ty2) (hx : cO x = some x') (hy : cO y = some y')
    (hd : evBin op (x'.ev t) (y'.ev t) = some d) : OKop P o a w Pr φ h d h := by
  have r1 := cO_rep s hx
  have r2 := cO_rep s hy
  cases hex : x'.ev t <;> simp only [hex, evBin] at hd <;> first | (simp at hd; done) | skip
  all_goals (cases hey : y'.ev t <;> simp only [hey] at hd <;> first | (simp at hd; done) | skip)
  · rename_i k m k' m'
    rw [hex] at r1; rw [hey] at r2
    simp only [Rep] at r1 r2
    split at hd
    · simp at hd
    · rename_i hk
      simp only [ne_eq, Decidable.not_not] at hk
      subst hk
      have hg : eqGuard op ty x y (.int k m) (.int k m') = pure () := by cases op <;> rfl
      cases op <;> simp only [reduceCtorEq, Option.some.injEq] at hd
      case quo =>
        split at hd
        · simp at hd
        · rename_i h0
          simp at hd; subst hd
          exact OKop.val S (v := .int k (k.wrap (m.tdiv m'))) (by simp [execOp, ho, r1, r2, hg, binOp, Op.intDiv, h0]) (by simp only [Rep])
      case rem =>
        split at hd
        · simp at hd
        · rename_i h0
          simp at hd; subst hd
          exact OKop.val S (v := .int k (m.tmod m')) (by simp [execOp, ho, r1, r2, hg, binOp, Op.intDiv, h0]) (by simp only [Rep])
      case and => subst hd; exact OKop.val S (v := .int k (k.wrap (BitVec.ofInt k.bits m &&& BitVec.ofInt k.bits m').toNat)) (by simp [execOp, ho, r1, r2, hg, binOp, Op.intBits]) (by simp only [Rep])
      case or => subst hd; exact OKop.val S (v := .int k (k.wrap (BitVec.ofInt k.bits m ||| BitVec.ofInt k.bits m').toNat)) (by simp [execOp, ho, r1, r2, hg, binOp, Op.intBits]) (by simp only [Rep])
      case xor => subst hd; exact OKop.val S (v := .int k (k.wrap (BitVec.ofInt k.bits m ^^^ BitVec.ofInt k.bits m').toNat)) (by simp [execOp, ho, r1, r2, hg, binOp, Op.intBits]) (by simp only [Rep])
      case shl =>
        split at hd
        · simp at hd
        · rename_i h0
          simp at hd; subst hd
          exact OKop.val S (v := .int k (k.wrap (m * 2 ^ (min m'.toNat k.bits)))) (by simp [execOp, ho, r1, r2, hg, binOp, Op.shift, h0]) (by simp only [Rep])
      case shr =>
        split at hd
        · simp at hd
        · rename_i h0
          simp at hd; subst hd
          exact OKop.val S (v := .int k (m.fdiv (2 ^ (min m'.toNat k.bits)))) (by simp [execOp, ho, r1, r2, hg, binOp, Op.shift, h0]) (by simp only [Rep])
      case add => subst hd; exact OKop.val S (v := .int k (k.wrap (m + m'))) (by simp [execOp, ho, r1, r2, hg, binOp, Op.intArith]) (by simp only [Rep])
      case sub => subst hd; exact OKop.val S (v := .int k (k.wrap (m - m'))) (by simp [execOp, ho, r1, r2, hg, binOp, Op.intArith]) (by simp only [Rep])
      case mul => subst hd; exact OKop.val S (v := .int k (k.wrap (m * m'))) (by simp [execOp, ho, r1, r2, hg, binOp, Op.intArith]) (by simp only [Rep])
      case eql => subst hd; exact OKop.val S (v := .bool (m == m')) (by simp [execOp, ho, r1, r2, hg, binOp, Op.intCmp]) (by simp only [Rep])
      case neq => subst hd; exact OKop.val S (v := .bool (m != m')) (by simp [execOp, ho, r1, r2, hg, binOp, Op.intCmp]) (by simp only [Rep])
      case lss => subst hd; exact OKop.val S (v := .bool (decide (m < m'))) (by simp [execOp, ho, r1, r2, hg, binOp, Op.intCmp]) (by simp only [Rep])
      case leq => subst hd; exact OKop.val S (v := .bool (decide (m ≤ m'))) (by simp [execOp, ho, r1, r2, hg, binOp, Op.intCmp]) (by simp only [Rep])
      case gtr => subst hd; exact OKop.val S (v := .bool (decide (m > m'))) (by simp [execOp, ho, r1, r2, hg, binOp, Op.intCmp]) (by simp only [Rep])
      case geq => subst hd; exact OKop.val S (v := .bool (decide (m ≥ m'))) (by simp [execOp, ho, r1, r2, hg, binOp, Op.intCmp]) (by simp only [Rep])
  · rename_i s1 s2
    rw [hex] at r1; rw [hey] at r2
    simp only [Rep] at r1 r2
    have hg : eqGuard op ty x y (.string s1) (.string s2) = pure () := by cases op <;> rfl
    cases op <;> simp only [reduceCtorEq, Option.some.injEq] at hd
    case add =>
      split at hd
      · rename_i hle
        simp at hd; subst hd
        refine OKop.val S (v := .string (s1 ++ s2)) ?_ (by simp only [Rep])
        have : ¬ (9223372036854775807 < (s1.size : Int) + (s2.size : Int)) := by omega
        simp [execOp, ho, r1, r2, hg, binOp, Op.stringOp, this]
      · simp at hd
    case eql => subst hd; exact OKop.val S (v := .bool (s1.toList == s2.toList)) (by simp [execOp, ho, r1, r2, hg, binOp, Op.stringOp]) (by simp only [Rep])
    case neq => subst hd; exact OKop.val S (v := .bool (!(s1.toList == s2.toList))) (by simp [execOp, ho, r1, r2, hg, binOp, Op.stringOp]) (by simp only [Rep])

theorem ok_binB (S : Sim w Pr φ h) (s : Slots w Pr φ h t a) {op : BinOp} {ty ty2 : TypeId} {x y : Operand} {x' y' : XO} {d : D} (ho : o.op = .binOp op ty x y ty2) (hx : cO x = some x') (hy : cO y = some y')
    (hu : P.underlying ty = some .bool) (hd : evBinB op (x'.ev t) (y'.ev t) = some d) : OKop P o a w Pr φ h d h := by
  have r1 := cO_rep s hx
  have r2 := cO_rep s hy
  cases hex : x'.ev t <;> simp only [hex, evBinB] at hd <;> first | (simp at hd; done) | skip
  all_goals (cases hey : y'.ev t <;> simp only [hey] at hd <;> first | (simp at hd; done) | skip)
  · rename_i b1 b2
    rw [hex] at r1; rw [hey] at r2
    simp only [Rep] at r1 r2
    have hg : eqGuard op ty x y (.bool b1) (.bool b2) = pure () := by cases op <;> rfl
    cases op <;> simp only [reduceCtorEq, Option.some.injEq] at hd <;> subst hd
    · refine OKop.val S (v := .bool (b1 == b2)) ?_ (by simp only [Rep])
      simp only [execOp, ho, r1, r2, hg, Sem.run_bind, Sem.run_pure, Result.andThen_ok, run_eql_bool w ty b1 b2 hu]
    · refine OKop.val S (v := .bool (!(b1 == b2))) ?_ (by simp only [Rep])
      simp only [execOp, ho, r1, r2, hg, Sem.run_bind, Sem.run_pure, Result.andThen_ok, run_neq_bool w ty b1 b2 hu]

theorem foldD_min {w : World} {Pr : Nat → Nat → Prop} {φ : List Nat} {h : List Blk} : (xs : List D) → (vs : List Value) → RepL w Pr φ h xs vs → ∀ (d r : D) (v : Value), Rep w Pr φ h d v → foldD minD d xs = some r →
    ∃ u, (vs.foldlM Builtin.min2 v).run P w = .ok u w ∧ Rep w Pr φ h r u
  | [], vs, hr, d, r, v, hv, he => by
    simp [RepL] at hr; subst hr
    simp [foldD] at he; subst he
    exact ⟨v, by simp, hv⟩
  | x :: xs, vs, hr, d, r, v, hv, he => by
    simp only [RepL] at hr
    obtain ⟨u, us, rfl, h1, h2⟩ := hr
    simp only [foldD] at he
    split at he
    · rename_i z hz
      cases d <;> simp only [minD] at hz <;> first | (simp at hz; done) | skip
      cases x <;> simp only at hz <;> first | (simp at hz; done) | skip
      split at hz <;> simp at hz
      rename_i k m k' m' hk
      subst hk hz
      simp only [Rep] at hv h1
      subst hv h1
      obtain ⟨u', g1, g2⟩ := foldD_min xs us h2 _ r (.int k (if m' < m then m' else m)) (by simp only [Rep]) he
      refine ⟨u', ?_, g2⟩
      simp [List.foldlM_cons, Builtin.min2, g1]
    · simp at he

theorem foldD_max {w : World} {Pr : Nat → Nat → Prop} {φ : List Nat} {h : List Blk} : (xs : List D) → (vs : List Value) → RepL w Pr φ h xs vs → ∀ (d r : D) (v : Value), Rep w Pr φ h d v → foldD maxD d xs = some r →
    ∃ u, (vs.foldlM Builtin.max2 v).run P w = .ok u w ∧ Rep w Pr φ h r u
  | [], vs, hr, d, r, v, hv, he => by
    simp [RepL] at hr; subst hr
    simp [foldD] at he; subst he
    exact ⟨v, by simp, hv⟩
  | x :: xs, vs, hr, d, r, v, hv, he => by
    simp only [RepL] at hr
    obtain ⟨u, us, rfl, h1, h2⟩ := hr
    simp only [foldD] at he
    split at he
    · rename_i z hz
      cases d <;> simp only [maxD] at hz <;> first | (simp at hz; done) | skip
      cases x <;> simp only at hz <;> first | (simp at hz; done) | skip
      split at hz <;> simp at hz
      rename_i k m k' m' hk
      subst hk hz
      simp only [Rep] at hv h1
      subst hv h1
      obtain ⟨u', g1, g2⟩ := foldD_max xs us h2 _ r (.int k (if m < m' then m' else m)) (by simp only [Rep]) he
      refine ⟨u', ?_, g2⟩
      simp [List.foldlM_cons, Builtin.max2, g1]
    · simp at he

theorem ok_min (S : Sim w Pr φ h) (s : Slots w Pr φ h t a) {c : Call} {xs : List XO} {d x : D} {r : List D} (ho : o.op = .call c) (hc : c.callee = .builtin .min) (ha : cOs c.args.toList = some xs) (hx : xs.map (XO.ev t) = x :: r)
    (hd : foldD minD x r = some d) : OKop P o a w Pr φ h d h := by
  have r1 := cOs_rep s _ _ ha
  rw [hx] at r1
  simp only [RepL] at r1
  obtain ⟨v, vs, hv, h1, h2⟩ := r1
  obtain ⟨u, g1, g2⟩ := foldD_min (P := P) r vs h2 x d v h1 hd
  refine OKop.val S (v := u) ?_ g2
  have : (c.args.map a.eval).toList = v :: vs := by simpa using hv
  simp [execOp, ho, resolve, hc, invoke, builtin, Builtin.min_, hv, g1]

theorem ok_max (S : Sim w Pr φ h) (s : Slots w Pr φ h t a) {c : Call} {xs : List XO} {d x : D} {r : List D} (ho : o.op = .call c) (hc : c.callee = .builtin .max) (ha : cOs c.args.toList = some xs) (hx : xs.map (XO.ev t) = x :: r)
    (hd : foldD maxD x r = some d) : OKop P o a w Pr φ h d h := by
  have r1 := cOs_rep s _ _ ha
  rw [hx] at r1
  simp only [RepL] at r1
  obtain ⟨v, vs, hv, h1, h2⟩ := r1
  obtain ⟨u, g1, g2⟩ := foldD_max (P := P) r vs h2 x d v h1 hd
  refine OKop.val S (v := u) ?_ g2
  simp [execOp, ho, resolve, hc, invoke, builtin, Builtin.max_, hv, g1]

theorem ok_mkfn (S : Sim w Pr φ h) (s : Slots w Pr φ h t a) {fn : Fn} {x y : Array Operand} {x' y' : List XO} (ho : o.op = .makeFunc fn x y) (hx : cOs x.toList = some x') (hy : cOs y.toList = some y') :
    OKop P o a w Pr φ h (.fn fn (x'.map (XO.ev t)) (y'.map (XO.ev t))) h := by
  refine OKop.val S (v := .func fn (x.map a.eval) (y.map a.eval)) (by simp [execOp, ho, Instr.makeFunc]) ?_
  simp only [Rep]
  exact ⟨_, _, rfl, by simpa using cOs_rep s _ _ hx, by simpa using cOs_rep s _ _ hy⟩

theorem ok_nilCheck (S : Sim w Pr φ h) (s : Slots w Pr φ h t a) {x : Operand} {x' : XO} {d : D} (ho : o.op = .nilCheck x) (hx : cO x = some x')
    (hd : (match x'.ev t with
      | .ptr b o g => some (D.ptr b o g)
      | .cptr cs => some (.cptr cs)
      | .fn (.func f) a b => some (.fn (.func f) a b)
      | _ => none) = some d) : OKop P o a w Pr φ h d h := by
  have r1 := cO_rep s hx
  split at hd <;> rename_i he <;> first | (simp at hd; done) | skip
  · simp at hd; subst hd
    rw [he] at r1
    have r2 := r1
    simp only [Rep] at r1
    obtain ⟨ad, blk, hv, _⟩ := r1
    rw [hv] at r2
    exact OKop.val S (v := .pointer (some ad)) (by simp [execOp, ho, hv]) r2
  · simp at hd; subst hd
    rw [he] at r1
    have r2 := r1
    simp only [Rep] at r1
    obtain ⟨ad, blk, hv, _⟩ := r1
    rw [hv] at r2
    exact OKop.val S (v := .pointer (some ad)) (by simp [execOp, ho, hv]) r2
  · simp at hd; subst hd
    rw [he] at r1
    have r2 := r1
    simp only [Rep] at r1
    obtain ⟨va, vc, hv, _⟩ := r1
    rw [hv] at r2
    exact OKop.val S (v := .func _ va vc) (by simp [execOp, ho, hv]) r2

theorem ok_mkifc (S : Sim w Pr φ h) (s : Slots w Pr φ h t a) {ty : TypeId} {x : Operand} {x' : XO} {de : TypeDesc} (ho : o.op = .makeInterface ty x) (hx : cO x = some x') (hu : P.underlying ty = some de) (hn : ∀ ms, de ≠ .interface ms) :
    OKop P o a w Pr φ h (.ifc ty (x'.ev t)) h := by
  refine OKop.val S (v := .iface ty (a.eval x)) ?_ ?_
  · cases de <;> first | exact absurd rfl (hn _) | simp [execOp, ho, Instr.makeInterface, run_underlying hu]
  · simp only [Rep]
    exact ⟨_, rfl, cO_rep s hx⟩

theorem ok_indexStr (S : Sim w Pr φ h) (s : Slots w Pr φ h t a) {ty : TypeId} {x i : Operand} {x' i' : XO} {str : ByteArray} {k : IntKind} {ix : Int} {b : UInt8} (ho : o.op = .index ty x i) (hx : cO x = some x') (hi : cO i = some i')
    (hu : P.underlying ty = some .string) (he : x'.ev t = .str str) (hei : i'.ev t = .int k ix) (h0 : 0 ≤ ix) (hb : str[ix.toNat]? = some b) : OKop P o a w Pr φ h (.int .u8 b.toNat) h := by
  have r1 := cO_rep s hx
  have r2 := cO_rep s hi
  rw [he] at r1; rw [hei] at r2
  simp only [Rep] at r1 r2
  refine OKop.val S (v := .int .u8 b.toNat) ?_ (by simp only [Rep])
  simp [execOp, ho, Instr.index, r1, r2, asIntOf, run_underlying hu, h0, hb]

theorem ok_index (S : Sim w Pr φ h) (s : Slots w Pr φ h t a) {ty e : TypeId} {len : Nat} {x i : Operand} {x' i' : XO} {cs : List D} {k : IntKind} {ix : Int} {d : D} {ag : Option Nat} {inf : TypeInfo} (ho : o.op = .index ty x i) (hx : cO x = some x') (hi : cO i = some i')
    (hu : P.underlying ty = some (.array len e)) (hag : tAgg P e = some ag) (hinf : P.info? e = some inf) (he : x'.ev t = .agg cs) (hei : i'.ev t = .int k ix) (h0 : 0 ≤ ix ∧ ix < len)
    (hd : take1 cs (ix.toNat * inf.size) (bif ag.isSome then some inf.size else none) = some d) : OKop P o a w Pr φ h d h := by
  have r1 := cO_rep s hx
  have r2 := cO_rep s hi
  rw [he] at r1; rw [hei] at r2
  simp only [Rep] at r1 r2
  obtain ⟨vs, hv, h1, h2⟩ := r1
  have hag' : (bif ag.isSome then some inf.size else none) = ag := by
    obtain ⟨i, dd, hi, hu', ⟨rfl, _⟩ | ⟨rfl, _⟩⟩ := tAgg_spec (w := w) hag
    · rw [hinf] at hi; simp at hi; subst hi; simp
    · simp
  rw [hag'] at hd
  obtain ⟨v, hr, hv'⟩ := part_run hag h1 h2 hd
  refine OKop.val S (v := v) ?_ hv'
  simp [execOp, ho, Instr.index, hv, r2, asIntOf, run_underlying hu, h0, size_run hinf, hr]

end

end Go.Proofs.Ytcaglmjfphjpfaa.E
