/- Whole bodies: the evaluator's answer is the call's. -/
import Derived.Test.YtcaglmjfphjpfaaSimK
namespace Go.Proofs.Ytcaglmjfphjpfaa.E
open Go

def Ex.exit' : Ex → Exit
  | .normal => .normal
  | .exit id => .exit id
  | .ret => .ret

section
variable {P : Program} {C : Calls}

theorem zipIdx_fst_range (xs : List XOp) : ((xs.zipIdx 0).map fun (x, j) => (j, x)) = numbered xs := rfl

theorem region_ok (snd : Sound P C) {nt : Nat} {ops : Array Oper} {xs : List XOp} (hc : cOps P nt ops ops.toList = some xs) {id : Nat} {st st' : St} (he : evOps C xs st = some st') {a : Act} {w : World} {Pr : Nat → Nat → Prop} {φ : List Nat}
    (S : Sim w Pr φ st.h) (s : Slots w Pr φ st.h st.t a) (hn : nt ≤ a.tmps.size) {Q : Exit → Act → World → Prop}
    (hQ : ∀ w' Pr' φ' a', Le w Pr φ st.h w' Pr' φ' st'.h → Fr w Pr φ w' Pr' φ' → Sim w' Pr' φ' st'.h → Slots w' Pr' φ' st'.h st'.t a' → a'.tmps.size = a.tmps.size → a'.defers = a.defers → Q .normal a' w') :
    (Code.region id ops false).wp P Q a w := by
  refine wp_region ?_
  have hl : ops.size = xs.length := by have := (cOps_get _ _ hc).1; simpa using this
  rw [hl, ← numbered_fst]
  rw [evOps_seq] at he
  exact ops_ok snd (numbered xs) (numbered_ok hc) st st' (by rw [numbered_snd]; exact he) a w Pr φ S s hn hQ

theorem regionD_ok (snd : Sound P C) {nt : Nat} {ops : Array Oper} {xs : List XOp} (hc : cOps P nt ops ops.toList = some xs) (hd : drawOK P ops xs = true) {id : Nat} {st st' : St} (he : evOpsD C (Region.before ops).toList 0 [] xs st = some st') {a : Act} {w : World} {Pr : Nat → Nat → Prop} {φ : List Nat}
    (S : Sim w Pr φ st.h) (s : Slots w Pr φ st.h st.t a) (hn : nt ≤ a.tmps.size) {Q : Exit → Act → World → Prop}
    (hQ : ∀ w' Pr' φ' a', Le w Pr φ st.h w' Pr' φ' st'.h → Fr w Pr φ w' Pr' φ' → Sim w' Pr' φ' st'.h → Slots w' Pr' φ' st'.h st'.t a' → a'.tmps.size = a.tmps.size → a'.defers = a.defers → Q .normal a' w') :
    (Code.region id ops true).wp P Q a w := by
  refine wp_region_draw fun t => ?_
  simp only [drawOK, Bool.and_eq_true] at hd
  obtain ⟨⟨h1, h2⟩, h3⟩ := hd
  have hl : ops.size = xs.length := by have := (cOps_get _ _ hc).1; simpa using this
  have hsch : Region.schedule (P.follows .mixedOrders) ops t = Region.linearise .any ops t := by
    unfold Region.schedule
    rw [if_pos (by simpa using h1)]
  rw [hsch]
  obtain ⟨F, g1, _, g3⟩ := evOpsD_run xs 0 [] st st' he
  rw [zipIdx_fst_range] at g1
  have hfst := runF_fst _ _ _ _ g1
  have hidx : F.map (·.1.1) = List.range xs.length := by
    rw [← numbered_fst xs, ← hfst, List.map_map]; rfl
  have hedge : ∀ (i : Nat) (o : Oper), ops[i]? = some o → ∀ e ∈ o.after, Region.binds .any e = true → e.on < i := by
    intro i o ho e hm hb
    have := List.all_eq_true.1 h2 (o, i) (List.mem_zipIdx_iff_getElem?.2 (by simpa using ho))
    have := List.all_eq_true.1 this e (by simpa using hm)
    simp only [hb, Bool.not_true, Bool.false_or, decide_eq_true_eq] at this
    exact this
  have hbs : ∀ i, ((Region.before ops).toList).getD i 0 = (Region.before ops).getD i 0 := by
    intro i
    simp [Array.getD_eq_getD_getElem?, List.getD_eq_getElem?_getD]
  have hpair : F.Pairwise (fun e e' => ((Region.before ops).getD e'.1.1 0).testBit e.1.1 = true ∨ Free e e') := by
    have hsorted : (F.map (·.1.1)).Pairwise (· < ·) := by rw [hidx]; exact List.pairwise_lt_range
    rw [List.pairwise_map] at hsorted
    refine List.Pairwise.imp_of_mem ?_ (hsorted.and g3)
    intro e e' he1 he2 hh
    obtain ⟨hlt, hh⟩ := hh
    rw [hbs] at hh
    rcases hh with hh | hh
    · exact .inl hh
    · by_cases hb : ((Region.before ops).getD e'.1.1 0).testBit e.1.1 = true
      · exact .inl hb
      · refine .inr ⟨?_, hh⟩
        have m1 : xs[e.1.1]? = some e.1.2 := numbered_mem (by rw [← hfst]; exact List.mem_map.2 ⟨e, he1, rfl⟩)
        have m2 : xs[e'.1.1]? = some e'.1.2 := numbered_mem (by rw [← hfst]; exact List.mem_map.2 ⟨e', he2, rfl⟩)
        have := List.all_eq_true.1 h3 (e'.1.2, e'.1.1) (List.mem_zipIdx_iff_getElem?.2 (by simpa using m2))
        have := List.all_eq_true.1 this (e.1.2, e.1.1) (List.mem_zipIdx_iff_getElem?.2 (by simpa using m1))
        simp only [Bool.or_eq_true, decide_eq_true_eq] at this
        rcases this with (q | q) | q
        · omega
        · exact absurd q hb
        · exact q
  obtain ⟨L, l1, l2, l3⟩ := linear_run hedge ops.size t (Array.replicate ops.size false) F st (by rw [hfst]; exact g1) (by have := congrArg List.length hidx; simp at this; omega) (by simp) (by rw [hidx]; exact List.pairwise_lt_range)
    (fun i => by
      rw [hidx, List.mem_range, ← hl]
      constructor
      · intro hi; exact ⟨hi, by simp [Array.getD_eq_getD_getElem?, hi]⟩
      · exact fun hi => hi.1) hpair (fun k hk => by
        exfalso
        rw [Array.getD_eq_getD_getElem?, Array.getElem?_replicate] at hk
        split at hk <;> simp at hk)
  obtain ⟨ld, fd, Sd⟩ := drew_all S
  have := ops_ok snd (Q := Q) (ops := ops) (nt := nt) L (fun p hp => numbered_ok hc p (by rw [← hfst]; exact l2 p hp)) st st' l3 a w.drew Pr φ Sd (s.mono ld) hn (fun w' Pr' φ' a' l f S' s' hs hdf => hQ w' Pr' φ' a' (ld.trans l) (fd.trans f) S' s' hs hdf)
  rw [l1] at this
  exact this

theorem Slots.keep {w : World} {Pr : Nat → Nat → Prop} {φ : List Nat} {h : List Blk} {st : St} {a : Act} (K : Option (List Nat)) (s : Slots w Pr φ h st.t a) : Slots w Pr φ h (st.keep K).t a := by
  cases K with
  | none => exact s
  | some l =>
    intro i
    simp only [St.keep]
    induction l with
    | nil => simp only [List.map_nil, tab, Rep]
    | cons j l ih =>
      simp only [List.map_cons, tab]
      split
      · rename_i hi; subst hi; exact s i
      · exact ih

theorem keep_h (K : Option (List Nat)) (st : St) : (st.keep K).h = st.h := by cases K <;> rfl

theorem code_ok (snd : Sound P C) {lf nt : Nat} {kp : Nat → Option (List Nat)} : (c : Code) → (x : XC) → cCode P nt kp c = some x → ∀ (st : St) (e : Ex) (st' : St), evC C lf x st = some (e, st') → ∀ (a : Act) (w : World) (Pr : Nat → Nat → Prop) (φ : List Nat),
    Sim w Pr φ st.h → Slots w Pr φ st.h st.t a → nt ≤ a.tmps.size → a.defers = [] → ∀ (Q : Exit → Act → World → Prop),
    (∀ w' Pr' φ' a', Le w Pr φ st.h w' Pr' φ' st'.h → Fr w Pr φ w' Pr' φ' → Sim w' Pr' φ' st'.h → Slots w' Pr' φ' st'.h st'.t a' → a'.tmps.size = a.tmps.size → a'.defers = [] → Q e.exit' a' w') → c.wp P Q a w := by
  intro c
  induction c with
  | skip =>
    intro x hx st e st' he a w Pr φ S s hn hd Q hQ
    simp [cCode] at hx; subst hx
    simp [evC] at he; obtain ⟨rfl, rfl⟩ := he
    exact wp_skip (hQ _ _ _ _ (Le.refl _ _ _ _) (Fr.refl _ _ _) S s rfl hd)
  | label l =>
    intro x hx st e st' he a w Pr φ S s hn hd Q hQ
    simp [cCode] at hx; subst hx
    simp [evC] at he; obtain ⟨rfl, rfl⟩ := he
    exact wp_label (hQ _ _ _ _ (Le.refl _ _ _ _) (Fr.refl _ _ _) S s rfl hd)
  | exit id =>
    intro x hx st e st' he a w Pr φ S s hn hd Q hQ
    simp [cCode] at hx; subst hx
    simp [evC] at he; obtain ⟨rfl, rfl⟩ := he
    exact wp_exit (hQ _ _ _ _ (Le.refl _ _ _ _) (Fr.refl _ _ _) S s rfl hd)
  | ret =>
    intro x hx st e st' he a w Pr φ S s hn hd Q hQ
    simp [cCode] at hx; subst hx
    simp [evC] at he; obtain ⟨rfl, rfl⟩ := he
    exact wp_ret (hQ _ _ _ _ (Le.refl _ _ _ _) (Fr.refl _ _ _) S s rfl hd)
  | region id ops draw =>
    intro x hx st e st' he a w Pr φ S s hn hd Q hQ
    simp only [cCode] at hx
    split at hx <;> try (simp at hx; done)
    rename_i xs hxs
    cases draw
    · simp only [cond_false, Option.some.injEq] at hx
      subst hx
      simp only [evC] at he
      split at he <;> simp at he
      rename_i st1 h1
      obtain ⟨rfl, rfl⟩ := he
      exact region_ok snd hxs h1 S s hn fun w' Pr' φ' a' l f S' s' hs hdf => hQ w' Pr' φ' a' (by rw [keep_h]; exact l) f (by rw [keep_h]; exact S') (by rw [keep_h]; exact Slots.keep _ s') hs (hdf.trans hd)
    · simp only [cond_true] at hx
      cases hdr : drawOK P ops xs
      · simp [hdr] at hx
      · simp only [hdr, cond_true, Option.some.injEq] at hx
        subst hx
        simp only [evC] at he
        split at he <;> simp at he
        rename_i st1 h1
        obtain ⟨rfl, rfl⟩ := he
        exact regionD_ok snd hxs hdr h1 S s hn fun w' Pr' φ' a' l f S' s' hs hdf => hQ w' Pr' φ' a' (by rw [keep_h]; exact l) f (by rw [keep_h]; exact S') (by rw [keep_h]; exact Slots.keep _ s') hs (hdf.trans hd)
  | seq c1 c2 ih1 ih2 =>
    intro x hx st e st' he a w Pr φ S s hn hd Q hQ
    simp only [cCode] at hx
    split at hx
    · simp at hx
    rename_i x2 h2
    split at hx
    · rename_i xg hg
      simp at hx; subst hx
      unfold cGuard at hg
      split at hg <;> try (simp at hg; done)
      rename_i id1 ops1 c id2 ops2
      split at hg <;> try (simp at hg; done)
      rename_i d1 y1 d2 b z c' k hx1 hc hx3
      simp at hg; subst hg
      simp only [evC] at he
      split at he <;> try (simp at he; done)
      rename_i st1 h1
      refine wp_seq (wp_seq (region_ok snd hx1 h1 S s hn ?_))
      intro w1 Pr1 φ1 a1 l1 f1 S1 s1 hs1 hd1
      simp only [Exit.then]
      have rc := cO_rep s1 hc
      have fin : ∀ (st2 : St), evC C lf x2 st1 = some (e, st2) → (∀ w' Pr' φ' a', Le w Pr φ st.h w' Pr' φ' st2.h → Fr w Pr φ w' Pr' φ' → Sim w' Pr' φ' st2.h → Slots w' Pr' φ' st2.h st2.t a' → a'.tmps.size = a.tmps.size → a'.defers = [] → Q e.exit' a' w') → a1.eval c = .bool false →
          (Code.cond c (((Code.region id2 ops2 false)).seq .ret) .skip).wp P (Exit.then (c2.wp P Q) Q) a1 w1 := by
        intro st2 he2 hQ2 rf
        refine wp_cond_false rf (wp_skip ?_)
        simp only [Exit.then]
        exact ih2 x2 h2 st1 e st2 he2 a1 w1 Pr1 φ1 S1 s1 (by rw [hs1]; exact hn) (hd1.trans hd) Q fun w' Pr' φ' a' l f S' s' hs hdf => hQ2 w' Pr' φ' a' (l1.trans l) (f1.trans f) S' s' (hs.trans hs1) hdf
      have finA : ∀ (sA : St), evOps C [⟨some k, none, .mov (.c (.arr 0 true []))⟩] st1 = some sA → (∀ w' Pr' φ' a', Le w Pr φ st.h w' Pr' φ' sA.h → Fr w Pr φ w' Pr' φ' → Sim w' Pr' φ' sA.h → Slots w' Pr' φ' sA.h sA.t a' → a'.tmps.size = a.tmps.size → a'.defers = [] → Q .ret a' w') → a1.eval c = .bool true →
          (Code.cond c (((Code.region id2 ops2 false)).seq .ret) .skip).wp P (Exit.then (c2.wp P Q) Q) a1 w1 := by
        intro sA heA hQA rt
        refine wp_cond_true rt (wp_seq (region_ok snd hx3 heA S1 s1 (by rw [hs1]; exact hn) ?_))
        intro w2 Pr2 φ2 a2 l2 f2 S2 s2 hs2 hd2
        simp only [Exit.then]
        refine wp_ret ?_
        simp only [Exit.then]
        exact hQA w2 Pr2 φ2 a2 (l1.trans l2) (f1.trans f2) S2 s2 (hs2.trans hs1) (hd2.trans (hd1.trans hd))
      split at he <;> try (simp at he; done)
      · rename_i hcv
        rw [hcv] at rc
        simp only [Rep] at rc
        split at he <;> simp at he
        rename_i sA hA
        obtain ⟨rfl, rfl⟩ := he
        exact finA _ hA hQ rc
      · rename_i hcv
        rw [hcv] at rc
        simp only [Rep] at rc
        exact fin st' he hQ rc
      · rename_i hcv
        rw [hcv] at rc
        simp only [Rep] at rc
        obtain ⟨bv, rc⟩ := rc
        split at he <;> try (simp at he; done)
        rename_i sA sB hA hB
        split at he <;> simp at he
        rename_i ka kb ha hb
        obtain ⟨rfl, rfl⟩ := he
        have one : ∀ (sX : St), sX.t k = .arr 0 true [] → sX.h = [] → ∀ w' Pr' φ' a', Le w Pr φ st.h w' Pr' φ' sX.h → Fr w Pr φ w' Pr' φ' → Sim w' Pr' φ' sX.h → Slots w' Pr' φ' sX.h sX.t a' → a'.tmps.size = a.tmps.size → a'.defers = [] → Q .ret a' w' := by
          intro sX hk hh w' Pr' φ' a' l f S' s' hs hdf
          rw [hh] at l S' s'
          refine hQ w' Pr' φ' a' l f S' (fun i => ?_) hs hdf
          by_cases hi : i = k
          · subst hi
            have := s' i
            rw [hk] at this
            simpa using this
          · simp only [hi, if_false, Rep]
        cases bv
        · exact fin sB hB (one sB kb hb) rc
        · exact finA sA hA (one sA ka ha) rc
    · split at hx <;> simp at hx
      rename_i x1 h1
      subst hx
      simp only [evC] at he
      split at he
      · rename_i st1 he1
        refine wp_seq (ih1 x1 h1 st _ st1 he1 a w Pr φ S s hn hd _ ?_)
        intro w1 Pr1 φ1 a1 l1 f1 S1 s1 hs1 hd1
        simp only [Ex.exit', Exit.then]
        exact ih2 x2 h2 st1 e st' he a1 w1 Pr1 φ1 S1 s1 (by rw [hs1]; exact hn) hd1 Q fun w' Pr' φ' a' l f S' s' hs hdf => hQ w' Pr' φ' a' (l1.trans l) (f1.trans f) S' s' (hs.trans hs1) hdf
      · rename_i hne
        refine wp_seq (ih1 x1 h1 st _ st' he a w Pr φ S s hn hd _ ?_)
        intro w1 Pr1 φ1 a1 l1 f1 S1 s1 hs1 hd1
        have hq := hQ w1 Pr1 φ1 a1 l1 f1 S1 s1 hs1 hd1
        cases e with
        | normal => exact absurd he (hne st')
        | exit id => exact hq
        | ret => exact hq
  | cond c c1 c2 ih1 ih2 =>
    intro x hx st e st' he a w Pr φ S s hn hd Q hQ
    simp only [cCode] at hx
    split at hx <;> simp at hx
    rename_i c' x1 x2 hc h1 h2
    subst hx
    simp only [evC] at he
    split at he <;> try (simp at he; done)
    rename_i v hv
    have r := cO_rep s hc
    rw [hv] at r
    simp only [Rep] at r
    cases v
    · simp only [cond_false] at he
      exact wp_cond_false r (ih2 x2 h2 st e st' he a w Pr φ S s hn hd Q hQ)
    · simp only [cond_true] at he
      exact wp_cond_true r (ih1 x1 h1 st e st' he a w Pr φ S s hn hd Q hQ)
  | block id c1 ih =>
    intro x hx st e st' he a w Pr φ S s hn hd Q hQ
    simp only [cCode] at hx
    split at hx <;> simp at hx
    rename_i x1 h1
    subst hx
    simp only [evC] at he
    split at he
    · rename_i id' st1 he1
      refine wp_block (ih x1 h1 st _ st1 he1 a w Pr φ S s hn hd _ ?_)
      intro w1 Pr1 φ1 a1 l1 f1 S1 s1 hs1 hd1
      simp only [Ex.exit', Exit.inBlock]
      split at he
      · rename_i hid
        simp at he
        obtain ⟨rfl, rfl⟩ := he
        rw [if_pos hid]
        exact hQ w1 Pr1 φ1 a1 l1 f1 S1 s1 hs1 hd1
      · rename_i hid
        simp at he
        obtain ⟨rfl, rfl⟩ := he
        rw [if_neg hid]
        exact hQ w1 Pr1 φ1 a1 l1 f1 S1 s1 hs1 hd1
    · rename_i hne
      refine wp_block (ih x1 h1 st _ st' he a w Pr φ S s hn hd _ ?_)
      intro w1 Pr1 φ1 a1 l1 f1 S1 s1 hs1 hd1
      have hq := hQ w1 Pr1 φ1 a1 l1 f1 S1 s1 hs1 hd1
      cases e with
      | normal => exact hq
      | exit id' => exact absurd he (hne id' st')
      | ret => exact hq
  | loop c1 ih =>
    intro x hx st e st' he a w Pr φ S s hn hd Q hQ
    simp only [cCode] at hx
    split at hx <;> simp at hx
    rename_i x1 h1
    subst hx
    simp only [evC] at he
    refine wp_loop_rounds lf ?_
    have key : ∀ (n : Nat) (st : St), loopN (evC C lf x1) n st = some (e, st') → ∀ (a : Act) (w : World) (Pr : Nat → Nat → Prop) (φ : List Nat), Sim w Pr φ st.h → Slots w Pr φ st.h st.t a → nt ≤ a.tmps.size → a.defers = [] →
        (∀ w' Pr' φ' a', Le w Pr φ st.h w' Pr' φ' st'.h → Fr w Pr φ w' Pr' φ' → Sim w' Pr' φ' st'.h → Slots w' Pr' φ' st'.h st'.t a' → a'.tmps.size = a.tmps.size → a'.defers = [] → Q e.exit' a' w') →
        Code.rounds P c1 Q n a w := by
      intro n
      induction n with
      | zero => intro st he; simp [loopN] at he
      | succ n ihn =>
        intro st he a w Pr φ S s hn hd hQ
        simp only [loopN] at he
        rw [rounds_succ]
        split at he
        · rename_i st1 he1
          refine ih x1 h1 st _ st1 he1 a w Pr φ S s hn hd _ ?_
          intro w1 Pr1 φ1 a1 l1 f1 S1 s1 hs1 hd1
          simp only [Ex.exit', Exit.then]
          exact ihn st1 he a1 w1 Pr1 φ1 S1 s1 (by rw [hs1]; exact hn) hd1 fun w' Pr' φ' a' l f S' s' hs hdf => hQ w' Pr' φ' a' (l1.trans l) (f1.trans f) S' s' (hs.trans hs1) hdf
        · rename_i hne
          refine ih x1 h1 st _ st' he a w Pr φ S s hn hd _ ?_
          intro w1 Pr1 φ1 a1 l1 f1 S1 s1 hs1 hd1
          have hq := hQ w1 Pr1 φ1 a1 l1 f1 S1 s1 hs1 hd1
          cases e with
          | normal => exact absurd he (hne st')
          | exit id => exact hq
          | ret => exact hq
    exact key lf st he a w Pr φ S s hn hd hQ
  | scope c1 ih =>
    intro x hx st e st' he a w Pr φ S s hn hd Q hQ
    simp only [cCode] at hx
    refine wp_scope_straight (ih x hx st e st' he a w Pr φ S s hn hd _ ?_)
    intro w1 Pr1 φ1 a1 l1 f1 S1 s1 hs1 hd1
    have hq := hQ w1 Pr1 φ1 a1 l1 f1 S1 s1 hs1 hd1
    cases e <;> exact hq
  | rangeFunc f ps as b ih1 ih2 => intro x hx; simp [cCode] at hx
  | goto l => intro x hx; simp [cCode] at hx
  | refuse w => intro x hx; simp [cCode] at hx

/-! ### Functions -/

def resOf (tmps : Array Value) : ResultVar → Sem Value
  | .tmp t => pure (tmps.getD t undef)
  | .cell x t => do loadVar t (← asAddr (tmps.getD x undef))

theorem results_ok {w : World} {Pr : Nat → Nat → Prop} {φ : List Nat} {st : St} {a : Act} (S : Sim w Pr φ st.h) (s : Slots w Pr φ st.h st.t a) : (rs : List ResultVar) → (xs : List XR) → cRes P rs = some xs → ∀ ds, evRess st xs = some ds →
    ∃ vs, (rs.mapM (resOf a.tmps)).run P w = .ok vs w ∧ RepL w Pr φ st.h ds vs
  | [], xs, hx, ds, he => by
    simp [cRes] at hx; subst hx
    simp [evRess] at he; subst he
    exact ⟨[], by simp, by simp [RepL]⟩
  | r :: rs, xs, hx, ds, he => by
    simp only [cRes] at hx
    split at hx <;> simp at hx
    rename_i x xs' h1 h2
    subst hx
    simp only [evRess] at he
    split at he <;> try (simp at he; done)
    rename_i d hd
    split at he <;> simp at he
    rename_i ds' hds
    subst he
    obtain ⟨vs, g1, g2⟩ := results_ok S s rs xs' h2 ds' hds
    have one : ∃ v, (resOf a.tmps r).run P w = .ok v w ∧ Rep w Pr φ st.h d v := by
      cases r with
      | tmp t =>
        simp at h1; subst h1
        simp only [evRes, Option.some.injEq] at hd
        subst hd
        exact ⟨_, by simp [resOf], s t⟩
      | cell x t =>
        simp only at h1
        split at h1 <;> simp at h1
        rename_i sz hsz
        subst h1
        simp only [evRes] at hd
        obtain ⟨ad, hv, u, q1, q2⟩ := evL_run (x := .t x) S s hsz (v := a.tmps.getD x undef) (s x) hd
        refine ⟨u, ?_, q2⟩
        simp only [resOf, hv, asAddr, Sem.run_bind, Sem.run_pure, Result.andThen_ok, q1]
    obtain ⟨v, e1, e2⟩ := one
    refine ⟨v :: vs, ?_, by simp only [RepL]; exact ⟨v, vs, rfl, e2, g2⟩⟩
    simp only [List.mapM_cons, Sem.run_bind, e1, Result.andThen_ok, g1, Sem.run_pure]

theorem body_ok (snd : Sound P C) {lf : Nat} {f : FuncId} {x : XF} {args : List D} {h : List Blk} {r : D} {h' : List Blk} (hc : cFunc P f = some x) (he : evBody C lf x args h = some (r, h')) : FullSound P f args h r h' := by
  unfold cFunc at hc
  split at hc <;> try (simp at hc; done)
  rename_i fn hfn
  split at hc <;> try (simp at hc; done)
  rename_i hname
  split at hc <;> try (simp at hc; done)
  rename_i c hbody
  split at hc <;> simp at hc
  rename_i b rr hb hr
  subst hc
  refine ⟨⟨fn, hfn, by simpa using hname, by simp [hbody]⟩, fun w Pr φ vs S rargs => ?_⟩
  refine calls_of_wp hfn hbody ?_
  have s0 : Slots w Pr φ h (args0 args) { tmps := vs ++ Array.replicate (fn.ntmps - vs.size) undef, defers := [] } := by
    intro i
    have hlen := rargs.length
    simp at hlen
    simp only [args0]
    by_cases hi : i < args.length
    · obtain ⟨v, hv, hrv⟩ := rargs.get i args[i] (List.getElem?_eq_getElem hi)
      have e1 : args.getD i (.tup []) = args[i] := by simp [List.getD_eq_getElem?_getD, hi]
      have e2 : (vs ++ Array.replicate (fn.ntmps - vs.size) undef).getD i undef = v := by
        have : vs[i]? = some v := by simpa using hv
        rw [Array.getD_eq_getD_getElem?, Array.getElem?_append_left (by omega), this]
        rfl
      rw [e1, e2]; exact hrv
    · have e1 : args.getD i (.tup []) = .tup [] := by
        rw [List.getD_eq_getElem?_getD, List.getElem?_eq_none (by omega)]; rfl
      have e2 : (vs ++ Array.replicate (fn.ntmps - vs.size) undef).getD i undef = undef := by
        rw [Array.getD_eq_getD_getElem?, Array.getElem?_append_right (by omega), Array.getElem?_replicate]
        split <;> rfl
      rw [e1, e2]
      simp only [Rep]
      exact ⟨#[], rfl, rfl⟩
  have fin : ∀ (st : St) (ds : List D), evRess st rr = some ds → r = oneOrTup ds → h' = st.h → ∀ w' Pr' φ' a', Le w Pr φ h w' Pr' φ' st.h → Fr w Pr φ w' Pr' φ' → Sim w' Pr' φ' st.h → Slots w' Pr' φ' st.h st.t a' → a'.defers = [] →
      a'.defers = [] ∧ ∃ v, (results fn a'.tmps).run P w' = .ok v w' ∧ ∃ v' Pr' φ', Ending.returned v = .returned v' ∧ Le w Pr φ h w' Pr' φ' h' ∧ Fr w Pr φ w' Pr' φ' ∧ Sim w' Pr' φ' h' ∧ Rep w' Pr' φ' h' r v' := by
    intro st ds hds hre hh w' Pr' φ' a' l fr S' s' hd
    subst hh hre
    obtain ⟨us, g1, g2⟩ := results_ok S' s' _ _ hr ds hds
    have hres : (results fn a'.tmps).run P w' = .ok (if hsz : us.toArray.size = 1 then us.toArray[0] else .tuple us.toArray) w' := by
      have e : results fn a'.tmps = (do let vs ← fn.results.mapM (resOf a'.tmps); pure (if h : vs.size = 1 then vs[0] else .tuple vs)) := rfl
      rw [e, Array.mapM_eq_mapM_toList]
      simp only [Sem.run_bind, Sem.run_map, g1, Result.andThen_ok, Sem.run_pure]
    refine ⟨hd, _, hres, _, Pr', φ', rfl, l, fr, S', ?_⟩
    match us, ds, g2 with
    | [u], [d], g2 =>
      simp only [RepL] at g2
      obtain ⟨v, q, e1, e2, _⟩ := g2
      simp at e1
      simp [oneOrTup, e1.1, e2]
    | [], [], g2 => simp [oneOrTup, Rep, RepL]
    | u :: u' :: us, d :: d' :: ds, g2 =>
      simp only [oneOrTup]
      have : ¬ ((u :: u' :: us).toArray.size = 1) := by simp
      rw [dif_neg this]
      simp only [Rep]
      exact ⟨_, rfl, by simpa using g2⟩
    | [], d :: ds, g2 => have := g2.length; simp at this
    | [u], [], g2 => have := g2.length; simp at this
    | [u], d :: d' :: ds, g2 => have := g2.length; simp at this
    | u :: u' :: us, [], g2 => have := g2.length; simp at this
    | u :: u' :: us, [d], g2 => have := g2.length; simp at this
  simp only [evBody] at he
  split at he
  · rename_i st hst
    split at he <;> simp at he
    rename_i ds hds
    obtain ⟨rfl, rfl⟩ := he
    refine code_ok snd c b hb _ _ st hst _ w Pr φ S s0 (by simp; omega) rfl _ ?_
    intro w' Pr' φ' a' l fr S' s' _ hd
    exact fin st ds hds rfl rfl w' Pr' φ' a' l fr S' s' hd
  · rename_i st hst
    split at he <;> simp at he
    rename_i ds hds
    obtain ⟨rfl, rfl⟩ := he
    refine code_ok snd c b hb _ _ st hst _ w Pr φ S s0 (by simp; omega) rfl _ ?_
    intro w' Pr' φ' a' l fr S' s' _ hd
    exact fin st ds hds rfl rfl w' Pr' φ' a' l fr S' s' hd
  · simp at he

theorem FullSound.pure {f : FuncId} {ds : List D} {r r' : D} {h1 h2 : List Blk} (hf : FullSound P f ds [] r h1) (hr : freezeR r h1 = some (r', h2)) : PureSound P f ds r' := by
  refine ⟨hf.1, fun w Pr vs hlt rargs => ?_⟩
  have S0 : Sim w Pr [] [] := ⟨rfl, hlt, fun i k c hk => by simp at hk, fun i j c hi => by simp at hi⟩
  refine (hf.2 w Pr [] vs S0 rargs).mono fun e w' he => ?_
  obtain ⟨v, Pr', φ', rfl, l, fr, S', rv⟩ := he
  obtain ⟨Pr2, l2, f2, S2, r2⟩ := freezeR_rep hr S' rv
  have ll := l.trans l2
  have ff := fr.trans f2
  exact ⟨v, Pr2, rfl, ⟨ll.pr, fun i k hk => by simp at hk⟩, ⟨ff.os, ff.tape, ff.output, ff.size, ff.keep, fun c hc => by simp at hc, ff.prn⟩, S2.prlt, r2⟩

theorem Sound.at {P : Program} {C : Calls} (s : Sound P C) (m : FuncId → Nat) : Sound P (C.at m) := ⟨s.pc, s.oc, s.fc⟩

theorem evF_sound (P : Program) (mode : FuncId → FuncId → Nat) (orc : FuncId → List D → Option D) (lf : Nat) (ho : ∀ f ds r, orc f ds = some r → PureSound P f ds r) : ∀ n, Sound P (evF P mode orc lf n) := by
  intro n
  induction n with
  | zero => exact ⟨fun f ds r h => ho f ds r h, fun f ds r h' h => by simp [evF] at h, fun f ds h r h' hh => by simp [evF] at hh⟩
  | succ n ih =>
    refine ⟨fun f ds r h => ?_, fun f ds r h' h => ?_, fun f ds h r h' hh => ?_⟩
    · simp only [evF] at h
      split at h
      · rename_i r0 h0
        simp at h; subst h
        exact ho f ds _ h0
      · split at h <;> try (simp at h; done)
        rename_i x hx
        split at h <;> try (simp at h; done)
        rename_i r1 h1 hb
        split at h <;> simp at h
        rename_i r2 h2 hr
        subst h
        exact (body_ok (ih.at _) hx hb).pure hr
    · simp only [evF] at h
      split at h <;> try (simp at h; done)
      rename_i x hx
      exact body_ok (ih.at _) hx h
    · simp only [evF] at hh
      split at hh <;> try (simp at hh; done)
      rename_i x hx
      exact body_ok (ih.at _) hx hh
end

#print axioms evF_sound

end Go.Proofs.Ytcaglmjfphjpfaa.E
