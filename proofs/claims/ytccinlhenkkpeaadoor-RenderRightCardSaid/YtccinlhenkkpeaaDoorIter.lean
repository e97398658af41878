/- Iterators: what they hand to the rounds; small laws on regions that only read. -/
import Derived.Test.YtccinlhenkkpeaaDoorSimJ
namespace Go.Proofs.YtccinlhenkkpeaaDoor.E
open Go
set_option linter.unusedSimpArgs false
set_option linter.unusedVariables false

theorem evOp_slot {C : Calls} {draw : Bool} {o : XOp} {st st' : St} (he : evOp C draw o st = some st') {i : Nat} (hi : o.dst ≠ some i) : st'.t i = st.t i := by
  unfold evOp at he
  cases hk : known st.t o.guard
  · simp [hk] at he
  rw [hk, cond_true] at he
  have up : ∀ d, updO st.t o.dst d i = st.t i := by
    intro d
    cases hd : o.dst with
    | none => simp [updO]
    | some j =>
      have : ¬ i = j := fun e => hi (by rw [hd, e])
      simp [updO, upd, this]
  cases hw : wants st.t o.guard
  · simp only [hw, cond_false, Option.some.injEq] at he
    subst he
    exact up _
  · simp only [hw, cond_true] at he
    split at he <;> simp at he
    subst he
    exact up _

theorem evSeq_slot {C : Calls} {draw : Bool} {i : Nat} : (l : List XOp) → (st st' : St) → evSeq C draw l st = some st' → (∀ o ∈ l, o.dst ≠ some i) → st'.t i = st.t i
  | [], st, st', he, hi => by simp [evSeq] at he; subst he; rfl
  | o :: l, st, st', he, hi => by
    simp only [evSeq] at he
    split at he
    · rename_i st1 h1
      exact (evSeq_slot l st1 st' he fun q hq => hi q (by simp [hq])).trans (evOp_slot h1 (hi o (by simp)))
    · simp at he

theorem evOp_keep {C : Calls} {draw : Bool} {o : XOp} {st st' : St} (he : evOp C draw o st = some st') (hc : o.x.cls draw C.own ≠ .w) : st'.h = st.h := by
  unfold evOp at he
  cases hk : known st.t o.guard
  · simp [hk] at he
  rw [hk, cond_true] at he
  cases hw : wants st.t o.guard
  · simp only [hw, cond_false, Option.some.injEq] at he
    subst he
    rfl
  · simp only [hw, cond_true] at he
    split at he <;> simp at he
    rename_i d h1 hx
    subst he
    show h1 = st.h
    unfold evX at hx
    cases hcl : o.x.cls draw C.own with
    | w => exact absurd hcl hc
    | s =>
      rw [hcl] at hx
      simp only [] at hx
      split at hx <;> simp at hx
      exact hx.2.symm
    | r =>
      rw [hcl] at hx
      simp only [] at hx
      split at hx <;> try (simp at hx; done)
      split at hx <;> simp at hx
      exact hx.2.symm

theorem evSeq_keep {C : Calls} {draw : Bool} : (l : List XOp) → (st st' : St) → evSeq C draw l st = some st' → (∀ o ∈ l, o.x.cls draw C.own ≠ .w) → st'.h = st.h
  | [], st, st', he, hi => by simp [evSeq] at he; subst he; rfl
  | o :: l, st, st', he, hi => by
    simp only [evSeq] at he
    split at he
    · rename_i st1 h1
      exact (evSeq_keep l st1 st' he fun q hq => hi q (by simp [hq])).trans (evOp_keep h1 (hi o (by simp)))
    · simp at he


theorem evOp_calm {m : Nat} {l : List XOp} (hc : calm m l = true) : ∀ o ∈ l, o.x.cls false noC.own ≠ .w ∧ ∀ i, i ≤ m → o.dst ≠ some i := by
  intro o ho
  simp only [calm, List.all_eq_true, Bool.and_eq_true] at hc
  obtain ⟨h1, h2⟩ := hc o ho
  have e : noC.own = fun _ => false := by funext f; simp [Calls.own, noC]
  refine ⟨fun q => ?_, fun i hi q => ?_⟩
  · rw [e] at q; rw [q] at h1; simp at h1
  · rw [q] at h2; simp at h2; omega

theorem sound_noC (P : Program) : Sound P noC :=
  ⟨fun f ds r h => by simp [noC] at h, fun f ds r h' h => by simp [noC] at h, fun f ds h r h' q => by simp [noC] at q, fun g caps h r q => by simp [noC] at q⟩

theorem get_put {a : Act} {dst : Option Nat} {v : Value} {i : Nat} (h : dst ≠ some i) : (a.put dst v).tmps[i]? = a.tmps[i]? := by
  cases dst with
  | none => rfl
  | some j =>
    have : j ≠ i := fun e => h (by rw [e])
    simp [Act.put, Array.getElem?_setIfInBounds, this]

/-- The same as ops_okR; slots that no operation writes stay as they are. -/
theorem ops_okK {P : Program} {rd : Option Nat} {C : Calls} (snd : Sound P C) {draw : Bool} {nt : Nat} {ops : Array Oper} {Q : Exit → Act → World → Prop} {rest : List Nat} : (l : List (Nat × XOp)) → (∀ p ∈ l, ∃ o, ops[p.1]? = some o ∧ cOp P nt ops o = some p.2) →
    ∀ (st st' : St), evSeq C draw (l.map (·.2)) st = some st' → ∀ (a : Act) (w : World) (Pr : Nat → Nat → Prop) (φ : List Nat), Sim w Pr φ st.h → Slots w Pr φ st.h st.t a → nt ≤ a.tmps.size →
    (∀ w' Pr' φ' a', Le w Pr φ st.h w' Pr' φ' st'.h → Fr w Pr φ w' Pr' φ' → Sim w' Pr' φ' st'.h → Slots w' Pr' φ' st'.h st'.t a' → a'.tmps.size = a.tmps.size → a'.defers = a.defers → (∀ i, (∀ p ∈ l, p.2.dst ≠ some i) → a'.tmps[i]? = a.tmps[i]?) → wpOpsIn (FR rd) 0 P ops Q rest a' w') →
    wpOpsIn (FR rd) 0 P ops Q (l.map (·.1) ++ rest) a w
  | [], hl, st, st', he, a, w, Pr, φ, S, s, hn, hQ => by
    simp [evSeq] at he; subst he
    exact hQ _ _ _ _ (Le.refl _ _ _ _) (Fr.refl _ _ _) S s rfl rfl fun _ _ => rfl
  | (i, x) :: l, hl, st, st', he, a, w, Pr, φ, S, s, hn, hQ => by
    obtain ⟨o, ho, hc⟩ := hl (i, x) (by simp)
    simp only [List.map_cons, evSeq] at he
    split at he
    · rename_i st1 he1
      unfold evOp at he1
      cases hkn : known st.t x.guard
      · simp [hkn] at he1
      rw [hkn, cond_true] at he1
      obtain ⟨hw, hdst, hx, hbl⟩ := wanted_wants hc hkn s
      simp only [List.map_cons, List.cons_append, wpOpsIn, ho, hw]
      have kk : ∀ (j : Nat) (v : Value), (∀ p ∈ (i, x) :: l, p.2.dst ≠ some j) → (a.put o.dst v).tmps[j]? = a.tmps[j]? := fun j v hj => get_put (by rw [← hdst]; exact hj (i, x) (by simp))
      cases hwt : wants st.t x.guard
      · simp only [hwt, cond_false, Option.some.injEq] at he1
        subst he1
        simp only [Bool.false_eq_true, if_false]
        rw [hdst] at he
        refine ⟨fun _ _ => trivial, ?_⟩
        refine ops_okK snd l (fun p hp => hl p (by simp [hp])) _ st' he (a.put o.dst undef) w Pr φ S (s.put hbl hn (by simp only [Rep]; exact ⟨#[], rfl, rfl⟩)) (by rw [size_put]; exact hn) ?_
        intro w' Pr' φ' a' l' f' S' s' hs hd hj
        exact hQ _ _ _ _ l' f' S' s' (by rw [hs, size_put]) (by rw [hd, defers_put]) fun j h => (hj j fun p hp => h p (by simp [hp])).trans (kk j _ h)
      · simp only [hwt, cond_true] at he1
        split at he1 <;> simp at he1
        rename_i d h1 hev
        subst he1
        simp only [if_true]
        refine oper_FR (cX_noDefer hx hev) (evX_ok S s snd hx hev _ _ ?_)
        intro w1 Pr1 φ1 v l1 f1 S1 r1
        have s1 : Slots w1 Pr1 φ1 h1 (updO st.t x.dst d) (a.put o.dst v) := by
          rw [hdst]
          exact (s.mono l1).put hbl hn r1
        refine ops_okK snd l (fun p hp => hl p (by simp [hp])) _ st' he (a.put o.dst v) w1 Pr1 φ1 S1 s1 (by rw [size_put]; exact hn) ?_
        intro w' Pr' φ' a' l' f' S' s' hs hd hj
        exact hQ _ _ _ _ (l1.trans l') (f1.trans f') S' s' (by rw [hs, size_put]) (by rw [hd, defers_put]) fun j h => (hj j fun p hp => h p (by simp [hp])).trans (kk j _ h)
    · simp at he

/-- A region of calm operations. -/
theorem region_calm {P : Program} {rd : Option Nat} {nt m : Nat} {ops : Array Oper} {xs : List XOp} (hc : cOps P nt ops ops.toList = some xs) (hm : calm m xs = true) {id : Nat} {st st' : St} (he : evOps noC xs st = some st') {a : Act} {w : World} {Pr : Nat → Nat → Prop} {φ : List Nat}
    (S : Sim w Pr φ st.h) (s : Slots w Pr φ st.h st.t a) (hn : nt ≤ a.tmps.size) {Q : Exit → Act → World → Prop}
    (hQ : ∀ w' Pr' φ' a', Le w Pr φ st.h w' Pr' φ' st.h → Fr w Pr φ w' Pr' φ' → Sim w' Pr' φ' st.h → Slots w' Pr' φ' st.h st'.t a' → a'.tmps.size = a.tmps.size → a'.defers = a.defers → (∀ i, i ≤ m → a'.tmps[i]? = a.tmps[i]? ∧ st'.t i = st.t i) → st'.h = st.h → Q .normal a' w') :
    (Code.region id ops false).wpIn (FR rd) 0 P Q a w := by
  refine wpIn_region ?_
  have hl : ops.size = xs.length := by have := (cOps_get _ _ hc).1; simpa using this
  rw [hl, ← numbered_fst, ← List.append_nil (List.map _ _)]
  rw [evOps_seq] at he
  have hh := evSeq_keep xs st st' he fun o ho => (evOp_calm hm o ho).1
  refine ops_okK (sound_noC P) (numbered xs) (numbered_ok hc) st st' (by rw [numbered_snd]; exact he) a w Pr φ S s hn ?_
  intro w' Pr' φ' a' l f S' s' hs hd hj
  rw [hh] at l S' s'
  have mem : ∀ p ∈ numbered xs, p.2 ∈ xs := fun p hp => by
    have : p.2 ∈ (numbered xs).map (·.2) := List.mem_map_of_mem hp
    rwa [numbered_snd] at this
  exact hQ w' Pr' φ' a' l f S' s' hs hd (fun i hi => ⟨hj i fun p hp => (evOp_calm hm p.2 (mem p hp)).2 i hi, evSeq_slot xs st st' he fun o ho => (evOp_calm hm o ho).2 i hi⟩) hh

theorem asMov0_eq {o : Oper} {d : Nat} (h : asMov0 o = some d) : o.op = .move (.tmp 0) ∧ o.dst = some d ∧ o.guard = none := by
  unfold asMov0 at h
  split at h <;> simp at h
  subst h
  rename_i h1 h2 h3
  exact ⟨h1, h2, h3⟩

theorem asCallv_eq {o : Oper} {y d : Nat} {xs : List XO} (h : asCallv o = some (y, d, xs)) : ∃ c, o.op = .call c ∧ c.callee = .value (.tmp y) ∧ cOs c.args.toList = some xs ∧ o.dst = some d ∧ o.guard = none := by
  unfold asCallv at h
  split at h <;> try (simp at h; done)
  rename_i c _ h1 h2 h3
  split at h <;> simp at h
  obtain ⟨rfl, rfl, rfl⟩ := h
  rename_i h4 h5
  exact ⟨c, h1, h4, h5, h2, h3⟩

theorem asNot_eq {o : Oper} {c d : Nat} (h : asNot o = some (c, d)) : ∃ t, o.op = .unOp .not t (.tmp c) ∧ o.dst = some d ∧ o.guard = none := by
  unfold asNot at h
  split at h <;> simp at h
  obtain ⟨rfl, rfl⟩ := h
  rename_i h1 h2 h3
  exact ⟨_, h1, h2, h3⟩

theorem itCode_eq {b : Code} {a0 a1 a2 a3 : Array Oper} {c : Operand} {d : Nat} (h : itCode b = some (a0, a1, a2, a3, c, d)) :
    ∃ i0 b0 i1 b1 i2 i3, b = .seq (.region i0 a0 false) (.block b0 (.loop (.seq (.seq (.region i1 a1 false) (.cond c .skip (.exit b0))) (.seq (.block b1 (.seq (.region i2 a2 false) (.cond (.tmp d) .ret .skip))) (.region i3 a3 false))))) := by
  unfold itCode at h
  split at h <;> try (simp at h; done)
  split at h <;> simp at h
  rename_i he
  obtain ⟨rfl, rfl, rfl, rfl, rfl, rfl⟩ := h
  subst he
  exact ⟨_, _, _, _, _, _, rfl⟩

/-- What a text must be to be read as such an iterator. -/
structure ItOK (P : Program) (g : Nat) (it : It) (fn : Func) (a0 a1 a2 a3 : Array Oper) (c : Operand) (i0 b0 i1 b1 i2 i3 tc tn : Nat) (cl : Call) : Prop where
  hfn : P.funcs[g]? = some fn
  hname : (fn.name == "runtime.NumGoroutine") = false
  hres : fn.results.size = 0
  hbody : fn.body = some (.seq (.region i0 a0 false) (.block b0 (.loop (.seq (.seq (.region i1 a1 false) (.cond c .skip (.exit b0))) (.seq (.block b1 (.seq (.region i2 a2 false) (.cond (.tmp tn) .ret .skip))) (.region i3 a3 false))))))
  h0 : cOps P fn.ntmps a0 a0.toList = some it.o0
  h1 : cOps P fn.ntmps a1 a1.toList = some it.o1
  h3 : cOps P fn.ntmps a3 a3.toList = some it.o3
  hc : cO c = some it.c
  hq : ∀ p ∈ (it.q.zipIdx 1).map (fun (x, i) => (i, x)), ∃ o, a2[p.1]? = some o ∧ cOp P fn.ntmps a2 o = some p.2
  hsz : a2.size = it.q.length + 3
  hm : ∃ o, a2[0]? = some o ∧ o.op = .move (.tmp 0) ∧ o.dst = some it.ty ∧ o.guard = none
  hcl : ∃ o, a2[it.q.length + 1]? = some o ∧ o.op = .call cl ∧ cl.callee = .value (.tmp it.ty) ∧ cOs cl.args.toList = some it.xs ∧ o.dst = some tc ∧ o.guard = none
  hn : ∃ o t, a2[it.q.length + 2]? = some o ∧ o.op = .unOp .not t (.tmp tc) ∧ o.dst = some tn ∧ o.guard = none
  k0 : calm it.m it.o0 = true
  k1 : calm it.m it.o1 = true
  kq : calm it.m it.q = true
  k3 : calm it.m it.o3 = true
  kt : ∀ o ∈ it.q, o.dst ≠ some it.ty
  ly : it.m < it.ty
  lc : it.m < tc
  ln : it.m < tn
  nc : tc ≠ it.k
  nn : tn ≠ it.k
  s1 : 1 + it.m ≤ fn.ntmps
  sy : it.ty < fn.ntmps
  sc : tc < fn.ntmps
  sn : tn < fn.ntmps
  lk : it.m < it.k

theorem cIter_eq {P : Program} {g k m : Nat} {it : It} (h : cIter P g k m = some it) : ∃ fn a0 a1 a2 a3 c i0 b0 i1 b1 i2 i3 tc tn cl, ItOK P g it fn a0 a1 a2 a3 c i0 b0 i1 b1 i2 i3 tc tn cl := by
  unfold cIter at h
  split at h <;> try (simp at h; done)
  rename_i fn hfn
  split at h <;> try (simp at h; done)
  rename_i a0 a1 a2 a3 c d hb
  split at h <;> try (simp at h; done)
  rename_i o0 o1 o2 o3 c' h0 h1 h2 h3 hc
  split at h <;> try (simp at h; done)
  rename_i ty ty' tc xs tc' tn hm hcl hn
  simp only [] at h
  split at h
  case isFalse => simp at h
  rename_i hall
  have h := Option.some.inj h
  obtain ⟨⟨g1, g2, g3, g4, g5, g6⟩, ⟨g7, g8, g9, g10⟩, g11, ⟨g12, g13, g14, g15, g16⟩, g17, g18, g19, g20, g21⟩ := hall
  subst g4 g5 g6 h
  obtain ⟨body, hbody, hcode⟩ := Option.bind_eq_some_iff.1 hb
  obtain ⟨i0, b0, i1, b1, i2, i3, rfl⟩ := itCode_eq hcode
  obtain ⟨om, hm1, hm2⟩ := Option.bind_eq_some_iff.1 hm
  obtain ⟨oc, hc1, hc2⟩ := Option.bind_eq_some_iff.1 hcl
  obtain ⟨on, hn1, hn2⟩ := Option.bind_eq_some_iff.1 hn
  obtain ⟨cl, hc3⟩ := asCallv_eq hc2
  obtain ⟨hlen, hget⟩ := cOps_get _ _ h2
  have hlen : a2.size = o2.length := by simpa using hlen
  have hql : ((o2.drop 1).take (a2.size - 3)).length = a2.size - 3 := by simp; omega
  refine ⟨fn, a0, a1, a2, a3, c, i0, b0, i1, b1, i2, i3, tc', d, cl, ⟨hfn, g1, g2, hbody, h0, h1, h3, hc, ?_, ?_, ⟨om, hm1, asMov0_eq hm2⟩, ⟨oc, ?_, hc3⟩, ?_, g7, g8, g9, g10, ?_, g12, g13, g14, g15, g16, g17, g18, g19, g20, g21⟩⟩
  · intro p hp
    simp only [List.mem_map] at hp
    obtain ⟨⟨x, i⟩, hx, rfl⟩ := hp
    have hx := List.mk_mem_zipIdx_iff_le_and_getElem?_sub.1 hx
    obtain ⟨hi, hx⟩ := hx
    have hlt : i - 1 < a2.size - 3 := by
      have := (List.getElem?_eq_some_iff.1 hx).1
      omega
    rw [List.getElem?_take_of_lt hlt, List.getElem?_drop] at hx
    obtain ⟨o, ho, hco⟩ := hget i x (by rw [← hx]; congr 1; omega)
    exact ⟨o, by simpa using ho, hco⟩
  · show a2.size = _
    rw [hql]; omega
  · show a2[_]? = _
    rw [hql, ← hc1]
    congr 1; omega
  · obtain ⟨t, ht⟩ := asNot_eq hn2
    refine ⟨on, t, ?_, ht⟩
    show a2[_]? = _
    rw [hql, ← hn1]
    congr 1; omega
  · intro o ho e
    simp only [List.all_eq_true] at g11
    have := g11 o ho
    rw [e] at this
    simp at this

theorem range3 (q : List XOp) : List.range (q.length + 3) = 0 :: (((q.zipIdx 1).map fun (x, i) => (i, x)).map (·.1) ++ [q.length + 1, q.length + 2]) := by
  have e : ((q.zipIdx 1).map fun (x, i) => (i, x)).map (·.1) = List.range' 1 q.length := by
    rw [List.map_map, ← List.zipIdx_map_snd 1 q]
    rfl
  rw [e, List.range_eq_range', List.range'_succ]
  congr 1
  rw [show q.length + 2 = q.length + 1 + 1 from rfl, List.range'_1_concat, List.range'_1_concat]
  simp [Nat.add_comm, Nat.add_left_comm]

theorem wanted_none {o : Oper} {ops : Array Oper} {tm : Array Value} (h : o.guard = none) : Region.wanted o (yielded ops tm) = true := by
  simp [Region.wanted, h]

theorem results_none {P : Program} {fn : Func} {tm : Array Value} {w : World} (h : fn.results.size = 0) : (results fn tm).run P w = .ok (.tuple #[]) w := by
  have e : results fn tm = (do let vs ← fn.results.mapM (resOf tm); pure (if h : vs.size = 1 then vs[0] else .tuple vs)) := rfl
  have h0 : fn.results = #[] := Array.eq_empty_of_size_eq_zero h
  rw [e, h0]
  simp

theorem eval_tmp {a : Act} {i : Nat} : a.eval (.tmp i) = a.tmps.getD i undef := rfl

theorem eval_get {a : Act} {i : Nat} {v : Value} (h : a.tmps[i]? = some v) : a.eval (.tmp i) = v := by
  rw [eval_tmp, Array.getD_eq_getD_getElem?, h]; rfl

theorem get_put_same {a : Act} {v : Value} {i : Nat} (h : i < a.tmps.size) : (a.put (some i) v).tmps[i]? = some v := by
  simp [Act.put, h]

theorem wpOpsIn_one {F : Fence} {n : Nat} {P : Program} {ops : Array Oper} {Q : Exit → Act → World → Prop} {i : Nat} {rest : List Nat} {a : Act} {w : World} {o : Oper} (ho : ops[i]? = some o) (hg : o.guard = none)
    (h : o.wpIn F n P a w (wpOpsIn F n P ops Q rest) Q) : wpOpsIn F n P ops Q (i :: rest) a w := by
  show (match ops[i]? with
    | none => wpOpsIn F n P ops Q rest a w
    | some o => if Region.wanted o (yielded ops a.tmps) then o.wpIn F n P a w (wpOpsIn F n P ops Q rest) Q
      else (∀ f, o.about P w a.eval = some f → F.fn f) ∧ wpOpsIn F n P ops Q rest (a.put o.dst undef) w)
  rw [ho]
  simp only []
  rw [wanted_none hg]
  exact h

theorem iter_ok {P : Program} {g : Nat} {it : It} {fn : Func} {a0 a1 a2 a3 : Array Oper} {c : Operand} {i0 b0 i1 b1 i2 i3 tc tn : Nat} {cl : Call} (K : ItOK P g it fn a0 a1 a2 a3 c i0 b0 i1 b1 i2 i3 tc tn cl)
    {caps : List D} {h0 : List Blk} {r : Option (List D × D)} (hr : it.nx caps .nilp h0 = some r) : SeqOK P g caps (it.nx caps) h0 := by
  have hcl : caps.length = it.m := by
    unfold It.nx at hr
    split at hr
    · assumption
    · simp at hr
  refine ⟨⟨fn, K.hfn, K.hname, by rw [K.hbody]; rfl⟩, ?_⟩
  intro w Pr φ vcs S0 rc l I XX hI hX hStep hXS n hI0
  have hlen : vcs.size = it.m := by have := rc.length; simpa [hcl] using this
  refine callsIn_of_wp K.hfn K.hbody trivial ?_
  obtain ⟨yv, hyv⟩ : ∃ yv, yv = Value.func (.yield l) #[] #[] := ⟨_, rfl⟩
  rw [← hyv]
  obtain ⟨A, hA⟩ : ∃ A : Act, A = { tmps := (#[yv] ++ vcs) ++ Array.replicate (fn.ntmps - (#[yv] ++ vcs).size) undef, defers := [] } := ⟨_, rfl⟩
  rw [← hA]
  obtain ⟨R, hR⟩ : ∃ R : Ending → World → Prop, R = fun e W' => (∃ v, e = .returned v) ∧ ∃ Pr' φ' h', XX W' Pr' φ' h' ∨ ∃ n s, I n s W' Pr' φ' h' ∧ it.nx caps s h' = some none := ⟨_, rfl⟩
  rw [← hR]
  have done : ∀ (a : Act) W, a.defers = [] → (∃ Pr' φ' h', XX W Pr' φ' h' ∨ ∃ n s, I n s W Pr' φ' h' ∧ it.nx caps s h' = some none) → a.defers = [] ∧ ∃ v, (results fn a.tmps).run P W = .ok v W ∧ R (.returned v) W := by
    intro a W hd hx
    refine ⟨hd, _, results_none K.hres, ?_⟩
    rw [hR]
    exact ⟨⟨_, rfl⟩, hx⟩
  have key : ∀ n, (∀ m, n = m + 1 → ∀ s W Pr φ h (a : Act) st1, I m s W Pr φ h → Slots W Pr φ h st1.t a → st1.h = h → it.head caps s h = some st1 → (∀ i, i ≤ it.m → st1.t i = tabC caps i) → a.tmps[0]? = some yv → fn.ntmps ≤ a.tmps.size → a.defers = [] →
        Code.roundsIn (FR none) 0 P (.seq (.seq (.region i1 a1 false) (.cond c .skip (.exit b0))) (.seq (.block b1 (.seq (.region i2 a2 false) (.cond (.tmp tn) .ret .skip))) (.region i3 a3 false))) (Exit.inBlock b0 (bodyPost P fn R)) (m + 1) a W) →
      ∀ s W Pr φ h (a : Act) st1, I n s W Pr φ h → Slots W Pr φ h st1.t a → st1.h = h → it.head caps s h = some st1 → (∀ i, i ≤ it.m → st1.t i = tabC caps i) → a.tmps[0]? = some yv → fn.ntmps ≤ a.tmps.size → a.defers = [] →
        Code.roundsIn (FR none) 0 P (.seq (.seq (.region i1 a1 false) (.cond c .skip (.exit b0))) (.seq (.block b1 (.seq (.region i2 a2 false) (.cond (.tmp tn) .ret .skip))) (.region i3 a3 false))) (Exit.inBlock b0 (bodyPost P fn R)) (n + 1) a W := by
    intro n ih s W Pr φ h a st1 hi hs hh hhead ht hy0 hsz hd
    subst hh
    obtain ⟨S, _, r, hnx, _⟩ := hStep n s W Pr φ _ hi
    rw [roundsIn_succ]
    have hnx' : it.next st1 = some r := by simpa [It.nx, hcl, hhead] using hnx
    unfold It.next at hnx'
    split at hnx' <;> try (simp at hnx'; done)
    rename_i s2 h2
    refine wpIn_seq (wpIn_seq (region_calm K.h1 K.k1 h2 S hs hsz ?_))
    intro W2 Pr2 φ2 A2 l2 f2 S2 q2 sz2 d2 k2 hh2
    have j2 := hI n s W Pr φ _ W2 Pr2 φ2 hi l2 f2 S2
    show (Code.cond c .skip (.exit b0)).wpIn (FR none) 0 P _ A2 W2
    have rcnd := cO_rep S2.gl q2 K.hc
    split at hnx'
    · rename_i hev
      rw [hev] at rcnd
      simp only [Rep] at rcnd
      refine wpIn_cond_true rcnd (wpIn_skip ?_)
      show (Code.seq _ _).wpIn (FR none) 0 P _ A2 W2
      split at hnx' <;> try (simp at hnx'; done)
      rename_i s3 h3
      split at hnx' <;> try (simp at hnx'; done)
      rename_i q i hsk
      have hr := (Option.some.inj hnx').symm
      subst hr
      refine wpIn_seq (wpIn_block (wpIn_seq (wpIn_region ?_)))
      rw [K.hsz, range3]
      obtain ⟨om, hm1, hm2, hm3, hm4⟩ := K.hm
      simp only [wpOpsIn, hm1, wanted_none hm4, if_true]
      have hy2 : A2.tmps[0]? = some yv := ((k2 0 (Nat.zero_le _)).1).trans hy0
      refine oper_FR (fun c e => by rw [hm2] at e; cases e) ?_
      have hrun : (execOp A2.eval om).run P W2 = .ok (.value yv) W2 := by
        simp only [execOp, hm2]
        rw [eval_get hy2]
        simp
      unfold Oper.wp
      rw [hrun]
      show wpOpsIn (FR none) 0 P a2 _ _ (A2.put om.dst yv) W2
      rw [hm3]
      rw [evOps_seq] at h3
      have h3 : evSeq noC false it.q ⟨updO s2.t (some it.ty) (s2.t 0), s2.h⟩ = some s3 := by
        simpa [It.o2, evSeq, evOp, known, wants, evX, X.cls, evS, XO.ev] using h3
      have q3 : Slots W2 Pr2 φ2 st1.h (updO s2.t (some it.ty) (s2.t 0)) (A2.put (some it.ty) yv) := by
        have r0 := q2 0
        rw [Array.getD_eq_getD_getElem?, hy2] at r0
        exact q2.put (nt := fn.ntmps) (by simp [below, K.sy]) (by omega) r0
      have hh3 := evSeq_keep it.q _ _ h3 fun o ho => (evOp_calm K.kq o ho).1
      have hsnd : ∀ (p : Nat × XOp), p ∈ (it.q.zipIdx 1).map (fun (x, i) => (i, x)) → p.2 ∈ it.q := by
        intro p hp
        simp only [List.mem_map] at hp
        obtain ⟨⟨x, i⟩, hx, rfl⟩ := hp
        exact List.fst_mem_of_mem_zipIdx hx
      have hmap : ((it.q.zipIdx 1).map fun (x, i) => (i, x)).map (·.2) = it.q := by
        rw [List.map_map]
        have : ((fun x : Nat × XOp => x.2) ∘ fun (x : XOp × Nat) => (x.2, x.1)) = (fun x : XOp × Nat => x.1) := rfl
        exact (congrArg (fun f => List.map f (it.q.zipIdx 1)) this).trans (List.zipIdx_map_fst 1 it.q)
      have S2' : Sim W2 Pr2 φ2 s2.h := by rw [hh2]; exact S2
      have q3' : Slots W2 Pr2 φ2 s2.h (updO s2.t (some it.ty) (s2.t 0)) (A2.put (some it.ty) yv) := by rw [hh2]; exact q3
      refine ops_okK (st := ⟨updO s2.t (some it.ty) (s2.t 0), s2.h⟩) (st' := s3) (sound_noC P) _ K.hq (by rw [hmap]; exact h3) _ W2 Pr2 φ2 S2' q3' (by rw [size_put]; omega) ?_
      intro W4 Pr4 φ4 A4 l4 f4 S4 q4 sz4 d4 k4
      simp only [hh3, hh2] at l4 S4 q4
      have j4 := hI n s W2 Pr2 φ2 _ W4 Pr4 φ4 j2 l4 f4 S4
      obtain ⟨_, _, r4, hnx4, hy4⟩ := hStep n s W4 Pr4 φ4 _ j4
      rw [hnx] at hnx4
      obtain ⟨m, hnm, hy4⟩ := hy4 _ _ (Option.some.inj hnx4).symm
      have kq : ∀ i, i ≤ it.m → A4.tmps[i]? = A2.tmps[i]? := fun i hi => by
        rw [k4 i fun p hp => (evOp_calm K.kq p.2 (hsnd p hp)).2 i hi]
        refine get_put ?_
        have := K.ly
        simp; omega
      have hy5 : A4.tmps[it.ty]? = some yv := by
        rw [k4 it.ty fun p hp => K.kt p.2 (hsnd p hp)]
        exact get_put_same (by have := K.sy; omega)
      have hsz4 : fn.ntmps ≤ A4.tmps.size := by rw [sz4, size_put]; omega
      obtain ⟨oc, hc1, hc2, hc3, hc4, hc5, hc6⟩ := K.hcl
      obtain ⟨fnY, tmY, asY, bodyY, hrunY, hround⟩ := hy4 (cl.args.toList.map A4.eval) (cOs_rep S4.gl q4 _ _ hc4)
      refine wpOpsIn_one hc1 hc6 ⟨fun _ _ => trivial, ?_⟩
      rw [Oper.semAt_eq _ _ _ (fun c e => by rw [hc2] at e; cases e)]
      have hrun : (execOp A4.eval oc).run P W4 = .ok (.round l fnY tmY asY bodyY) W4 := by
        have e : cl.args.map A4.eval = (cl.args.toList.map A4.eval).toArray := by rw [← Array.toList_map, Array.toArray_toList]
        simp only [execOp, hc2, resolve, hc3, eval_get hy5, hyv]
        simpa [Deferred.ofValue, invoke, e] using hrunY
      rw [hrun, Oper.uponIn_round]
      refine ⟨fun h => by simp [FR, Fence.wide] at h, ?_⟩
      refine hround.mono ?_
      obtain ⟨on, tt, hn1, hn2, hn3, hn4⟩ := K.hn
      have notstep : ∀ (b : Bool) W5 (Q' : Exit → Act → World → Prop), Q' .normal ((A4.put (some tc) (.bool b)).put (some tn) (.bool (!b))) W5 → wpOpsIn (FR none) 0 P a2 Q' [it.q.length + 2] (A4.put oc.dst (.bool b)) W5 := by
        intro b W5 Q' hQ'
        refine wpOpsIn_one hn1 hn4 (oper_FR (fun c e => by rw [hn2] at e; cases e) ?_)
        have hrun : (execOp (A4.put oc.dst (.bool b)).eval on).run P W5 = .ok (.value (.bool (!b))) W5 := by
          have e : (A4.put oc.dst (.bool b)).eval (.tmp tc) = .bool b := by
            rw [hc5]
            exact eval_get (get_put_same (by have := K.sc; omega))
          simp only [execOp, hn2, e]
          simp [go_sem]
        unfold Oper.wp
        rw [hrun]
        show Q' .normal ((A4.put oc.dst (.bool b)).put on.dst (.bool (!b))) W5
        rw [hn3, hc5]
        exact hQ'
      have get6 : ∀ (b : Bool) i, i ≠ tc → i ≠ tn → ((A4.put (some tc) (.bool b)).put (some tn) (.bool (!b))).tmps[i]? = A4.tmps[i]? := fun b i h1 h2 => by
        rw [get_put (by simpa using fun e => h2 e.symm), get_put (by simpa using fun e => h1 e.symm)]
      have sz6 : ∀ (b : Bool), ((A4.put (some tc) (.bool b)).put (some tn) (.bool (!b))).tmps.size = A4.tmps.size := fun b => by rw [size_put, size_put]
      have d6 : ∀ (b : Bool), ((A4.put (some tc) (.bool b)).put (some tn) (.bool (!b))).defers = [] := fun b => by rw [defers_put, defers_put, d4, defers_put, d2, hd]
      have ev6 : ∀ (b : Bool), ((A4.put (some tc) (.bool b)).put (some tn) (.bool (!b))).eval (.tmp tn) = .bool (!b) := fun b => eval_get (get_put_same (by rw [size_put]; have := K.sn; omega))
      rintro e W5 ⟨Pr5, φ5, h5, ⟨rfl, j5, l5⟩ | ⟨rfl, x5⟩⟩
      · show wpOpsIn (FR none) 0 P a2 _ [it.q.length + 2] (A4.put oc.dst (.bool true)) W5
        refine notstep true W5 _ ?_
        show (Code.cond (.tmp tn) .ret .skip).wpIn (FR none) 0 P _ _ W5
        refine wpIn_cond_false (ev6 true) (wpIn_skip ?_)
        show (Code.region i3 a3 false).wpIn (FR none) 0 P _ _ W5
        obtain ⟨A6, hA6⟩ : ∃ A6, A6 = (A4.put (some tc) (.bool true)).put (some tn) (.bool (!true)) := ⟨_, rfl⟩
        have g6 := get6 true
        have z6 := sz6 true
        have e6 := d6 true
        rw [← hA6] at g6 z6 e6 ⊢
        obtain ⟨S5, _, r5, hnx5, _⟩ := hStep m _ W5 Pr5 φ5 h5 j5
        cases hh5 : it.head caps (.int q i) h5 with
        | none => simp [It.nx, hcl, hh5] at hnx5
        | some st7 =>
          have h7 : evOps noC it.o3 ⟨updO (tabC caps) (some it.k) (.int q i), h5⟩ = some st7 := hh5
          have tb : ∀ i, i ≤ it.m → s3.t i = tabC caps i := fun i hi => by
            rw [evSeq_slot it.q _ _ h3 fun o ho => (evOp_calm K.kq o ho).2 i hi]
            have : ¬ i = it.ty := by have := K.ly; omega
            simp only [updO, upd, this, if_false]
            rw [(k2 i hi).2, ht i hi]
          have q6 : Slots W5 Pr5 φ5 h5 (updO (tabC caps) (some it.k) (.int q i)) A6 := by
            intro j
            by_cases hj : j = it.k
            · subst hj
              have := q4 it.k
              rw [hsk] at this
              have r6 := Rep.mono l5 _ _ this
              rw [Array.getD_eq_getD_getElem?] at r6 ⊢
              rw [g6 _ (Ne.symm K.nc) (Ne.symm K.nn)]
              simpa [updO, upd] using r6
            · have e : updO (tabC caps) (some it.k) (.int q i) j = tabC caps j := by simp [updO, upd, hj]
              rw [e]
              by_cases hjm : j ≤ it.m
              · have := q4 j
                rw [tb j hjm] at this
                have r6 := Rep.mono l5 _ _ this
                rw [Array.getD_eq_getD_getElem?] at r6 ⊢
                rw [g6 _ (by have := K.lc; omega) (by have := K.ln; omega)]
                exact r6
              · have : tabC caps j = .any := by
                  unfold tabC
                  rw [if_pos (by omega), List.getD_eq_getElem?_getD, List.getElem?_eq_none (by omega)]
                  rfl
                rw [this]
                simp [Rep]
          refine region_calm K.h3 K.k3 h7 S5 q6 (by rw [z6]; exact hsz4) ?_
          intro W7 Pr7 φ7 A7 l7 f7 S7 q7 sz7 d7 k7 hh7
          show Code.roundsIn (FR none) 0 P _ _ n A7 W7
          rw [hnm]
          refine ih m hnm (.int q i) W7 Pr7 φ7 h5 A7 st7 (hI m _ W5 Pr5 φ5 h5 W7 Pr7 φ7 j5 l7 f7 S7) q7 hh7 hh5 ?_ ?_ (by rw [sz7, z6]; exact hsz4) (by rw [d7]; exact e6)
          · intro i hi
            rw [(k7 i hi).2]
            have : ¬ i = it.k := by have := K.lk; omega
            simp [updO, upd, this]
          · rw [(k7 0 (Nat.zero_le _)).1, g6 0 (by have := K.lc; omega) (by have := K.ln; omega), kq 0 (Nat.zero_le _)]
            exact hy2
      · show wpOpsIn (FR none) 0 P a2 _ [it.q.length + 2] (A4.put oc.dst (.bool false)) W5
        refine notstep false W5 _ ?_
        show (Code.cond (.tmp tn) .ret .skip).wpIn (FR none) 0 P _ _ W5
        refine wpIn_cond_true (ev6 false) (wpIn_ret ?_)
        exact done _ W5 (d6 false) ⟨Pr5, φ5, h5, .inl x5⟩
    · rename_i hev
      rw [hev] at rcnd
      simp only [Rep] at rcnd
      refine wpIn_cond_false rcnd (wpIn_exit ?_)
      have hr := (Option.some.inj hnx').symm
      subst hr
      show (if b0 = b0 then bodyPost P fn R .normal A2 W2 else _)
      rw [if_pos rfl]
      exact done _ W2 (by rw [d2]; exact hd) ⟨Pr2, φ2, st1.h, .inr ⟨n, s, j2, hnx⟩⟩
    · simp at hnx'
  have rounds : ∀ n, ∀ s W Pr φ h (a : Act) st1, I n s W Pr φ h → Slots W Pr φ h st1.t a → st1.h = h → it.head caps s h = some st1 → (∀ i, i ≤ it.m → st1.t i = tabC caps i) → a.tmps[0]? = some yv → fn.ntmps ≤ a.tmps.size → a.defers = [] →
        Code.roundsIn (FR none) 0 P (.seq (.seq (.region i1 a1 false) (.cond c .skip (.exit b0))) (.seq (.block b1 (.seq (.region i2 a2 false) (.cond (.tmp tn) .ret .skip))) (.region i3 a3 false))) (Exit.inBlock b0 (bodyPost P fn R)) (n + 1) a W := by
    intro n
    induction n with
    | zero => exact key 0 fun m h => by omega
    | succ n ihn =>
      refine key (n + 1) fun m h => ?_
      have : m = n := by omega
      subst this
      exact ihn
  have hAs : fn.ntmps ≤ A.tmps.size := by
    rw [hA]; simp; omega
  have hA0 : A.tmps[0]? = some yv := by
    rw [hA]
    show ((#[yv] ++ vcs) ++ Array.replicate _ undef)[0]? = some yv
    rw [Array.getElem?_append_left (by simp; omega), Array.getElem?_append_left (by simp)]
    rfl
  have slots0 : Slots w Pr φ h0 (tabC caps) A := by
    intro i
    unfold tabC
    by_cases h1 : 1 ≤ i
    · rw [if_pos h1]
      by_cases h2 : i - 1 < caps.length
      · obtain ⟨v, hv, rv⟩ := rc.get (i - 1) caps[i - 1] (List.getElem?_eq_getElem h2)
        have e1 : caps.getD (i - 1) .any = caps[i - 1] := by simp [List.getD_eq_getElem?_getD, h2]
        have e2 : A.tmps.getD i undef = v := by
          rw [hA, Array.getD_eq_getD_getElem?]
          show (((#[yv] ++ vcs) ++ Array.replicate _ undef)[i]?).getD undef = v
          rw [Array.getElem?_append_left (by simp; omega), Array.getElem?_append_right (by simp; omega)]
          simp only [Array.getElem?_toList] at hv
          simp only [List.size_toArray, List.length_cons, List.length_nil]
          rw [hv]; rfl
        rw [e1, e2]; exact rv
      · have e1 : caps.getD (i - 1) .any = .any := by
          rw [List.getD_eq_getElem?_getD, List.getElem?_eq_none (by omega)]; rfl
        rw [e1]; simp [Rep]
    · rw [if_neg h1]; simp [Rep]
  obtain ⟨st1, hst1⟩ : ∃ st1, it.head caps .nilp h0 = some st1 := by
    cases hh : it.head caps .nilp h0 with
    | none => simp [It.nx, hcl, hh] at hr
    | some st1 => exact ⟨st1, rfl⟩
  have h1 : evOps noC it.o0 ⟨tabC caps, h0⟩ = some st1 := hst1
  refine wpIn_seq (region_calm K.h0 K.k0 h1 S0 slots0 hAs ?_)
  intro W1 Pr1 φ1 A1 l1 f1 S1 q1 sz1 d1 k1 hh1
  show (Code.block b0 _).wpIn (FR none) 0 P _ A1 W1
  refine wpIn_block (wpIn_loop_rounds (n + 1) ?_)
  refine rounds n .nilp W1 Pr1 φ1 h0 A1 st1 (hI n .nilp w Pr φ h0 W1 Pr1 φ1 hI0 l1 f1 S1) q1 hh1 hst1 (fun i hi => (k1 i hi).2) ?_ (by rw [sz1]; exact hAs) (by rw [d1, hA])
  rw [(k1 0 (Nat.zero_le _)).1]
  exact hA0

theorem cIter_ok {P : Program} {g k m : Nat} {it : It} (h : cIter P g k m = some it) {caps : List D} {h0 : List Blk} {r : Option (List D × D)} (hr : it.nx caps .nilp h0 = some r) : SeqOK P g caps (it.nx caps) h0 := by
  obtain ⟨fn, a0, a1, a2, a3, c, i0, b0, i1, b1, i2, i3, tc, tn, cl, K⟩ := cIter_eq h
  exact iter_ok K hr

end Go.Proofs.YtccinlhenkkpeaaDoor.E
