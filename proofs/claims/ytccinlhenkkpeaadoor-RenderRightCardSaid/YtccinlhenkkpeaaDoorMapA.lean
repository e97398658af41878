/- Maps: what a look-up does. -/
import Derived.Test.YtccinlhenkkpeaaDoorSimE
import Derived.MapKept
namespace Go.Proofs.YtccinlhenkkpeaaDoor.E
open Go
set_option linter.unusedSimpArgs false
set_option linter.unusedVariables false

section
variable {P : Program} {w : World} {Pr : Nat → Nat → Prop} {φ : List Nat} {h : List Blk}

theorem cKey_spec {kt : TypeId} {ks : List Nat} {ag : Bool} (hk : cKey P kt = some (ks, ag)) :
    ((∃ k, P.underlying kt = some (.int k)) ∧ ks = [0] ∧ ag = false) ∨
    ∃ fs offs i, P.underlying kt = some (.struct fs) ∧ flatEq P 100 kt 0 = some offs ∧ P.info? kt = some i ∧ offs.map (·.1) = List.range i.size ∧ (fs.toList.all fun f => match P.underlying f.type with | some (.int _) => true | _ => false) = true ∧ ks = offs.map (·.2) ∧ ag = true := by
  unfold cKey at hk
  split at hk
  · rename_i k hu
    simp at hk
    obtain ⟨rfl, rfl⟩ := hk
    exact .inl ⟨⟨k, hu⟩, rfl, rfl⟩
  · rename_i fs hu
    split at hk
    · rename_i offs i hf hi
      split at hk <;> simp at hk
      rename_i hc
      obtain ⟨rfl, rfl⟩ := hk
      exact .inr ⟨fs, offs, i, hu, hf, hi, hc.1, hc.2, rfl, rfl⟩
    · simp at hk
  · simp at hk

theorem run_eqKey {kt : TypeId} {ks : List Nat} {ag : Bool} (hk : cKey P kt = some (ks, ag)) {K A : D} {k a : Value} (rk : Rep w Pr φ h K k) (ra : Rep w Pr φ h A a) {r : Bool} (he : eqKey ks ag K A = some r) :
    (Op.equal kt k a).run P w = .ok r w := by
  rcases cKey_spec hk with ⟨⟨k1, hu⟩, rfl, rfl⟩ | ⟨fs, offs, i, hu, hf, hi, hr, _, rfl, rfl⟩
  · simp only [eqKey] at he
    cases K <;> cases A <;> simp [eqCells, eqCell] at he
    rename_i j x j' y
    simp only [Rep] at rk ra
    subst rk ra
    by_cases hj : j = j'
    · subst hj
      have hb : (x == y) = r := by
        revert he
        cases x == y <;> cases r <;> simp
      show (Op.equalIn (9999 + 1) kt (.int j x) (.int j y)).run P w = _
      rw [Op.equalIn]
      simp only [Sem.run_bind, run_underlying hu, Result.andThen_ok]
      simp [hb]
    · simp [hj] at he
  · cases K <;> cases A <;> simp [eqKey] at he
    rename_i xs ys
    obtain ⟨⟨hl, hl2⟩, he⟩ := he
    simp only [Rep] at rk ra
    obtain ⟨vx, rfl, _, rx⟩ := rk
    obtain ⟨vy, rfl, _, ry⟩ := ra
    have hlen : offs.length = i.size := by have := congrArg List.length hr; simpa using this
    have hlx := rx.length
    have hly := ry.length
    simp at hlx hly
    have hys : ys.length = xs.length := hl2.trans hl.symm
    have hoffs := eqOffs_cells offs xs ys [] [] rfl hl (by rw [hr]; simp [hlen, List.range_eq_range']) r he
    simp only [List.nil_append] at hoffs
    have p1 : (part kt vx 0).run P w = .ok (.agg vx) w := by
      rw [part_struct hu hi]; congr 2; rw [Nat.zero_add, ← hlen, ← hl, ← hlx, Array.extract_size]
    have p2 : (part kt vy 0).run P w = .ok (.agg vy) w := by
      rw [part_struct hu hi]; congr 2; rw [Nat.zero_add, ← hlen, ← hl, ← hys, ← hly, Array.extract_size]
    exact eqIn_run rx ry 100 kt 0 offs hf r hoffs _ _ p1 p2 10000 (by omega)

theorem checkKey_int {t : TypeId} {k : IntKind} (hu : P.underlying t = some (.int k)) (e : Bool) (n : Nat) (v : Value) : (Instr.checkKey e (n + 1) t v).run P w = .ok () w := by
  rw [Instr.checkKey]
  simp only [Sem.run_bind, run_underlying hu, Result.andThen_ok]
  simp

theorem flatL_mem {sub : TypeId → Nat → Option (List (Nat × Nat))} {off sz : Nat} : (fs : List Field) → (o : List (Nat × Nat)) → flatL P sub off sz fs = some o → ∀ f ∈ fs, ∃ j, P.info? f.type = some j ∧ 0 < j.size ∧ f.offset + j.size ≤ sz
  | [], o, h, f, hf => by simp at hf
  | g :: fs, o, h, f, hf => by
    simp only [flatL] at h
    split at h
    · simp at h
    · split at h <;> try (simp at h; done)
      rename_i j hj
      split at h <;> try (simp at h; done)
      rename_i hle
      split at h <;> simp at h
      rename_i a b h1 h2
      rcases List.mem_cons.1 hf with rfl | hf
      · exact ⟨j, hj, hle.1, hle.2⟩
      · exact flatL_mem fs b h2 f hf

theorem run_checkKey {kt : TypeId} {ks : List Nat} {ag : Bool} (hk : cKey P kt = some (ks, ag)) {K : D} {k : Value} (rk : Rep w Pr φ h K k) (e : Bool) (hK : ag = true → ∃ xs, K = .agg xs ∧ xs.length = ks.length) :
    (Instr.checkKey e 10000 kt k).run P w = .ok () w := by
  rcases cKey_spec hk with ⟨⟨k1, hu⟩, rfl, rfl⟩ | ⟨fs, offs, i, hu, hf, hi, hr, hall, rfl, rfl⟩
  · exact checkKey_int hu e 9999 k
  · obtain ⟨xs, rfl, hl⟩ := hK rfl
    simp only [Rep] at rk
    obtain ⟨vx, rfl, _, rx⟩ := rk
    have hlx := rx.length
    simp at hlx hl
    have hlen : offs.length = i.size := by have := congrArg List.length hr; simpa using this
    have hfs : ∃ o, flatL P (flatEq P 99) 0 i.size fs.toList = some o := by
      have hf' : flatEq P (99 + 1) kt 0 = some offs := hf
      rw [flatEq] at hf'
      simp only [hu] at hf'
      split at hf'
      · simp at hf'
      · simp only [hi] at hf'
        exact ⟨_, hf'⟩
    obtain ⟨o, ho⟩ := hfs
    have hmem := flatL_mem _ _ ho
    simp only [List.all_eq_true] at hall
    have loop : ∀ l : List Field, (∀ f ∈ l, f ∈ fs.toList) → (forIn (m := Sem) l PUnit.unit fun f __s =>
        if f.name ≠ "_" then do
          let x ← part f.type vx f.offset
          Instr.checkKey e 9999 f.type x
          pure (ForInStep.yield PUnit.unit)
        else pure (ForInStep.yield PUnit.unit)).run P w = .ok PUnit.unit w := by
      intro l
      induction l with
      | nil => intro _; simp
      | cons f l ih =>
        intro hl'
        have hf := hl' f (by simp)
        obtain ⟨j, hj, hj0, hjl⟩ := hmem f hf
        have hint := hall f hf
        split at hint <;> try (simp at hint; done)
        rename_i kk hkk
        have hlt : f.offset < vx.size := by omega
        have hp : (part f.type vx f.offset).run P w = .ok vx[f.offset] w := part_cell hkk (.inl ⟨_, rfl⟩) (Array.getElem?_eq_getElem hlt)
        have hc := checkKey_int (w := w) hkk e 9998 vx[f.offset]
        rw [List.forIn_cons]
        by_cases hn : f.name ≠ "_"
        · rw [if_pos hn]
          simp only [Sem.run_bind, hp, Result.andThen_ok, hc, Sem.run_pure]
          exact ih fun g hg => hl' g (by simp [hg])
        · rw [if_neg hn]
          simp only [Sem.run_bind, Result.andThen_ok, Sem.run_pure]
          exact ih fun g hg => hl' g (by simp [hg])
    show (Instr.checkKey e (9999 + 1) kt (.agg vx)).run P w = _
    rw [Instr.checkKey]
    simp only [Sem.run_bind, run_underlying hu, Result.andThen_ok]
    rw [← Array.forIn_toList, loop fs.toList fun _ h => h]
    simp

/-- Two rows, one beside the other: keys and elements. -/
def PL (w : World) (Pr : Nat → Nat → Prop) : List (D × D) → List (Value × Value) → Prop
  | [], l => l = []
  | p :: ps, l => ∃ q r, l = q :: r ∧ Rep w Pr [] [] p.1 q.1 ∧ Rep w Pr [] [] p.2 q.2 ∧ PL w Pr ps r

theorem PL.perm {l l' : List (Value × Value)} (hp : l.Perm l') : ∀ ps, PL w Pr ps l → ∃ ps', ps.Perm ps' ∧ PL w Pr ps' l' := by
  induction hp with
  | nil => intro ps h; exact ⟨ps, .refl _, h⟩
  | cons x _ ih =>
    intro ps h
    cases ps with
    | nil => simp [PL] at h
    | cons p ps =>
      simp only [PL] at h
      obtain ⟨q, r, e, h1, h2, h3⟩ := h
      simp at e
      obtain ⟨rfl, rfl⟩ := e
      obtain ⟨ps', g1, g2⟩ := ih ps h3
      exact ⟨p :: ps', g1.cons p, by simp only [PL]; exact ⟨_, _, rfl, h1, h2, g2⟩⟩
  | swap x y l =>
    intro ps h
    cases ps with
    | nil => simp [PL] at h
    | cons p ps =>
      simp only [PL] at h
      obtain ⟨q, r, e, h1, h2, h3⟩ := h
      simp at e
      obtain ⟨rfl, rfl⟩ := e
      cases ps with
      | nil => simp [PL] at h3
      | cons p2 ps =>
        simp only [PL] at h3
        obtain ⟨q2, r2, e2, h4, h5, h6⟩ := h3
        simp at e2
        obtain ⟨rfl, rfl⟩ := e2
        exact ⟨p2 :: p :: ps, .swap _ _ _, by simp only [PL]; exact ⟨_, _, rfl, h4, h5, _, _, rfl, h1, h2, h6⟩⟩
  | trans _ _ ih1 ih2 =>
    intro ps h
    obtain ⟨p1, g1, g2⟩ := ih1 ps h
    obtain ⟨p2, g3, g4⟩ := ih2 p1 g2
    exact ⟨p2, g1.trans g3, g4⟩

theorem PL.of_zip : {ks vs : List D} → {us ws : List Value} → RepL w Pr [] [] ks us → RepL w Pr [] [] vs ws → ks.length = vs.length → PL w Pr (ks.zip vs) (us.zip ws)
  | [], vs, us, ws, h1, h2, hl => by
    simp [RepL] at h1; subst h1; simp [PL]
  | k :: ks, [], us, ws, h1, h2, hl => by simp at hl
  | k :: ks, v :: vs, us, ws, h1, h2, hl => by
    simp only [RepL] at h1 h2
    obtain ⟨u, us', rfl, a1, a2⟩ := h1
    obtain ⟨x, ws', rfl, b1, b2⟩ := h2
    simp only [List.zip_cons_cons, PL]
    exact ⟨_, _, rfl, a1, b1, PL.of_zip a2 b2 (by simpa using hl)⟩

/-- findK, over pairs. -/
def findP (ks : List Nat) (ag : Bool) (k : D) : List (D × D) → Option (Option D)
  | [] => bif keyOK ks ag k then some none else none
  | p :: r => match eqKey ks ag k p.1, findP ks ag k r with
    | some false, o => o
    | some true, some none => some (some p.2)
    | _, _ => none

theorem findP_zip (ks : List Nat) (ag : Bool) (k : D) : (as vs : List D) → as.length = vs.length → findP ks ag k (as.zip vs) = findK ks ag k as vs
  | [], [], _ => rfl
  | [], v :: vs, h => by simp at h
  | a :: as, [], h => by simp at h
  | a :: as, v :: vs, h => by
    simp only [List.zip_cons_cons, findP, findK]
    rw [findP_zip ks ag k as vs (by simpa using h)]
    cases eqKey ks ag k a with
    | none => cases findK ks ag k as vs <;> rfl
    | some b => cases b <;> cases findK ks ag k as vs with | none => rfl | some o => cases o <;> rfl

theorem findP_perm (ks : List Nat) (ag : Bool) (k : D) {l l' : List (D × D)} (hp : l.Perm l') : findP ks ag k l = findP ks ag k l' := by
  induction hp with
  | nil => rfl
  | cons x _ ih => simp only [findP, ih]
  | swap x y l =>
    simp only [findP]
    cases eqKey ks ag k x.1 with
    | none => cases eqKey ks ag k y.1 with
      | none => cases findP ks ag k l <;> rfl
      | some b => cases b <;> cases findP ks ag k l with | none => rfl | some o => cases o <;> rfl
    | some a => cases eqKey ks ag k y.1 with
      | none => cases a <;> cases findP ks ag k l with | none => rfl | some o => cases o <;> rfl
      | some b => cases a <;> cases b <;> cases findP ks ag k l with | none => rfl | some o => cases o <;> rfl
  | trans _ _ ih1 ih2 => exact ih1.trans ih2

/-- What a key's place is, asked entry by entry. -/
theorem run_findAsking {kt : TypeId} {ks : List Nat} {ag : Bool} (hk : cKey P kt = some (ks, ag)) {K : D} {k : Value} (rk : Rep w Pr φ h K k) : (es : List MapEntry) → (ps : List (D × D)) → PL w Pr ps (es.map fun e => (e.key, e.val)) → ∀ (r : Option D), findP ks ag K ps = some r → ∀ n,
    ∃ o, (Instr.findAsking kt k es n).run P w = .ok o w ∧ ((r = none ∧ o = none) ∨ ∃ d i v, r = some d ∧ o = some (i, v) ∧ Rep w Pr [] [] d v)
  | [], ps, hp, r, hf, n => by
    cases ps with
    | cons p ps => simp [PL] at hp
    | nil =>
      simp only [findP] at hf
      cases hko : keyOK ks ag K
      · rw [hko] at hf; cases hf
      · rw [hko] at hf
        have hf := Option.some.inj hf
        subst hf
        exact ⟨none, by simp [Instr.findAsking], .inl ⟨rfl, rfl⟩⟩
  | e :: es, ps, hp, r, hf, n => by
    cases ps with
    | nil => simp [PL] at hp
    | cons p ps =>
      simp only [List.map_cons, PL] at hp
      obtain ⟨q, rr, eq, h1, h2, h3⟩ := hp
      simp at eq
      obtain ⟨rfl, rfl⟩ := eq
      simp only [findP] at hf
      rw [Instr.findAsking]
      cases hq : eqKey ks ag K p.1 with
      | none => rw [hq] at hf; cases hf
      | some b =>
        have hrun := run_eqKey hk rk (lift_closed h1) hq
        simp only [Sem.run_bind, hrun, Result.andThen_ok]
        cases b
        · simp only [hq] at hf
          obtain ⟨o, g1, g2⟩ := run_findAsking hk rk es ps h3 r hf (n + 1)
          exact ⟨o, by simpa using g1, g2⟩
        · rw [hq] at hf
          cases hrest : findP ks ag K ps with
          | none => rw [hrest] at hf; cases hf
          | some o =>
            cases o with
            | some d => rw [hrest] at hf; cases hf
            | none =>
              rw [hrest] at hf
              simp at hf
              subst hf
              exact ⟨some (n, e.val), by simp, .inr ⟨_, _, _, rfl, rfl, h2⟩⟩

theorem run_findKey {kt : TypeId} {ks : List Nat} {ag : Bool} (hk : cKey P kt = some (ks, ag)) {K : D} {k : Value} (rk : Rep w Pr φ h K k) (es : List MapEntry) (ps : List (D × D)) (hp : PL w Pr ps (es.map fun e => (e.key, e.val))) (r : Option D) (hf : findP ks ag K ps = some r) :
    ∃ o, (Instr.findKey kt k es).run P w = .ok o w ∧ ((r = none ∧ o = none) ∨ ∃ d i v, r = some d ∧ o = some (i, v) ∧ Rep w Pr [] [] d v) := by
  have ask := run_findAsking hk rk es ps hp r hf 0
  unfold Instr.findKey
  rcases cKey_spec hk with ⟨⟨k1, hu⟩, rfl, rfl⟩ | ⟨fs, offs, i, hu, _, _, _, _, rfl, rfl⟩
  · simp only [Sem.run_bind, run_underlying hu, Result.andThen_ok]
    have now : ∀ (es : List MapEntry) (n : Nat) (o : Option (Nat × Value)), (Instr.findAsking kt k es n).run P w = .ok o w → ∀ x, Instr.findNow (.int k1) k es n = some x → x = o := by
      intro es
      induction es with
      | nil => intro n o ho x hx; simp [Instr.findAsking] at ho; simp [Instr.findNow] at hx; rw [← hx, ← ho]
      | cons e es ih =>
        intro n o ho x hx
        simp only [Instr.findNow] at hx
        cases hs : Instr.sameNow (.int k1) k e.key with
        | none => rw [hs] at hx; cases hx
        | some b =>
          have heq : (Op.equal kt k e.key).run P w = .ok b w := by
            cases k <;> cases hek : e.key <;> simp [Instr.sameNow, hek] at hs
            show (Op.equalIn (9999 + 1) kt _ _).run P w = _
            rw [Op.equalIn]
            simp only [Sem.run_bind, run_underlying hu, Result.andThen_ok]
            obtain ⟨rfl, hs⟩ := hs
            simp [hs]
          rw [hs] at hx
          rw [Instr.findAsking] at ho
          simp only [Sem.run_bind, heq, Result.andThen_ok] at ho
          cases b
          · simp at ho hx
            exact ih (n + 1) o ho x hx
          · simp at ho hx
            rw [← hx, ← ho]
    obtain ⟨o, g1, g2⟩ := ask
    cases hn : Instr.findNow (.int k1) k es 0 with
    | none => exact ⟨o, by simpa using g1, g2⟩
    | some x =>
      have := now es 0 o g1 x hn
      subst this
      exact ⟨x, by simp, g2⟩
  · simp only [Sem.run_bind, run_underlying hu, Result.andThen_ok]
    cases es with
    | nil =>
      obtain ⟨o, g1, g2⟩ := ask
      simp [Instr.findAsking] at g1
      subst g1
      exact ⟨none, by simp [Instr.findNow], g2⟩
    | cons e es =>
      have : Instr.findNow (.struct fs) k (e :: es) 0 = none := by simp [Instr.findNow, Instr.sameNow]
      rw [this]
      exact ask

theorem findP_key {ks : List Nat} {ag : Bool} {K : D} : (l : List (D × D)) → (r : Option D) → findP ks ag K l = some r → ag = true → ∃ xs, K = .agg xs ∧ xs.length = ks.length
  | [], r, h, ha => by
    subst ha
    simp only [findP] at h
    cases hko : keyOK ks true K
    · rw [hko] at h; cases h
    · cases K <;> simp [keyOK] at hko
      exact ⟨_, rfl, hko⟩
  | p :: l, r, h, ha => by
    subst ha
    simp only [findP] at h
    cases hq : eqKey ks true K p.1 with
    | none => rw [hq] at h; cases h
    | some b =>
      cases K <;> simp [eqKey] at hq
      rename_i xs
      cases hp : p.1 <;> simp [hp] at hq
      exact ⟨xs, rfl, hq.1.1⟩

theorem ok_lookup {o : Oper} {a : Act} {t : Nat → D} (S : Sim w Pr φ h) (s : Slots w Pr φ h t a) {xt kt e : TypeId} {x i : Operand} {ok : Bool} {x' i' : XO} {ks : List Nat} {ag : Bool} {z : D} {as vs : List D} {r : Option D}
    (ho : o.op = .lookup xt x i ok) (hu : P.underlying xt = some (.map kt e)) (hk : cKey P kt = some (ks, ag)) (hz : cZero P e = some z) (hx : cO x = some x') (hi : cO i = some i') (hex : x'.ev t = .mapd as vs) (hf : findK ks ag (i'.ev t) as vs = some r) :
    OKop P o a w Pr φ h (match r with | some d => bif ok then .tup [d, .bool true] else d | none => bif ok then .tup [z, .bool false] else z) h := by
  have r1 := cO_rep S.gl s hx
  have r2 := cO_rep S.gl s hi
  rw [hex] at r1
  simp only [Rep] at r1
  obtain ⟨b, es, c, us, ws, ev, p, hm, h2, h3, h4, h5⟩ := r1
  obtain ⟨ps', g1, g2⟩ := (PL.of_zip h2 h3 h5).perm h4.symm
  have hf' : findP ks ag (i'.ev t) ps' = some r := by rw [← findP_perm ks ag _ g1, findP_zip _ _ _ _ _ h5]; exact hf
  obtain ⟨o', f1, f2⟩ := run_findKey hk r2 es.toList ps' g2 r hf'
  have hck := run_checkKey hk r2 es.isEmpty (findP_key _ _ hf')
  have hobj : (getObj b).run P w = .ok (.map es c) w := MapKept.run_getObj_map hm
  have hzero : ∃ zv, (zeroValue e).run P w = .ok zv w ∧ Rep w Pr φ h z zv := by
    unfold cZero at hz
    split at hz <;> try (simp at hz; done)
    rename_i ti hti
    split at hz <;> try (simp at hz; done)
    rename_i zv hzv
    exact ⟨zv, zero_run hti hzv, ofConst_rep hz⟩
  obtain ⟨zv, hz1, hz2⟩ := hzero
  rcases f2 with ⟨rfl, rfl⟩ | ⟨d, j, v, rfl, rfl, rv⟩
  · refine OKop.val S (v := if ok then .tuple #[zv, .bool false] else zv) ?_ ?_
    · simp only [execOp, ho, Instr.lookup, ev, Sem.run_bind, run_underlying hu, Result.andThen_ok, hobj, Sem.run_pure, hck, f1, hz1]
    · cases ok
      · exact hz2
      · simp only [cond_true, Rep, RepL, if_true]
        exact ⟨_, rfl, _, _, rfl, hz2, _, _, rfl, rfl, rfl⟩
  · refine OKop.val S (v := if ok then .tuple #[v, .bool true] else v) ?_ ?_
    · simp only [execOp, ho, Instr.lookup, ev, Sem.run_bind, run_underlying hu, Result.andThen_ok, hobj, Sem.run_pure, hck, f1]
    · cases ok
      · exact lift_closed rv
      · simp only [cond_true, Rep, RepL, if_true]
        exact ⟨_, rfl, _, _, rfl, lift_closed rv, _, _, rfl, rfl, rfl⟩

end

end Go.Proofs.YtccinlhenkkpeaaDoor.E
