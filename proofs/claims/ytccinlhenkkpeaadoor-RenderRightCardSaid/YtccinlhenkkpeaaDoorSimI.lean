/- Every operation that the evaluator takes. -/
import Derived.Test.YtccinlhenkkpeaaDoorSimG
import Derived.Test.YtccinlhenkkpeaaDoorMapA
namespace Go.Proofs.YtccinlhenkkpeaaDoor.E
open Go

theorem cOs_nil {l : List Operand} (h : cOs l = some []) : l = [] := by
  cases l with
  | nil => rfl
  | cons x r => simp only [cOs] at h; split at h <;> simp at h

theorem cOs_cons {l : List Operand} {y : XO} {ys : List XO} (h : cOs l = some (y :: ys)) : ∃ x r, l = x :: r ∧ cO x = some y ∧ cOs r = some ys := by
  cases l with
  | nil => simp [cOs] at h
  | cons x r =>
    simp only [cOs] at h
    split at h <;> simp at h
    rename_i y1 r1 h1 h2
    exact ⟨x, r, rfl, by rw [h1, h.1], by rw [h2, h.2]⟩

theorem cOs_one {l : List Operand} {y : XO} (h : cOs l = some [y]) : ∃ x, l = [x] ∧ cO x = some y := by
  obtain ⟨x, r, rfl, h1, h2⟩ := cOs_cons h
  rw [cOs_nil h2]
  exact ⟨x, rfl, h1⟩

theorem cOs_two {l : List Operand} {y z : XO} (h : cOs l = some [y, z]) : ∃ x u, l = [x, u] ∧ cO x = some y ∧ cO u = some z := by
  obtain ⟨x, r, rfl, h1, h2⟩ := cOs_cons h
  obtain ⟨u, rfl, h3⟩ := cOs_one h2
  exact ⟨x, u, rfl, h1, h3⟩

section
variable {P : Program} {o : Oper} {w : World} {Pr : Nat → Nat → Prop} {φ : List Nat} {h : List Blk} {t : Nat → D} {a : Act}

theorem evX_s {C : Calls} {draw : Bool} {x : X} {d : D} {h' : List Blk} (hc : x.cls draw C.own = .s) (he : evX C draw x t h = some (d, h')) : evS C (XO.ev t) x = some d ∧ h' = h := by
  unfold evX at he
  rw [hc] at he
  simp only at he
  split at he
  · simp at he; rename_i d' e; exact ⟨by rw [e, he.1], he.2.symm⟩
  · simp at he

theorem evX_w {C : Calls} {draw : Bool} {x : X} {d : D} {h' : List Blk} (hc : x.cls draw C.own = .w) (he : evX C draw x t h = some (d, h')) : evW C h (XO.ev t) x = some (d, h') := by
  unfold evX at he
  rw [hc] at he
  exact he

theorem evX_ok0 (S : Sim w Pr φ h) (s : Slots w Pr φ h t a) {C : Calls} (snd : Sound P C) {draw : Bool} {x : X} {d : D} {h' : List Blk} (hx : cX0 P o.op = some x) (he : evX C draw x t h = some (d, h')) : OKop P o a w Pr φ h d h' := by
  cases hop : o.op <;> simp only [hop, cX0] at hx <;> try (simp at hx; done)
  case move y =>
    split at hx <;> simp at hx
    rename_i y' hy; subst hx
    obtain ⟨e, rfl⟩ := evX_s rfl he
    simp only [evS, Option.some.injEq] at e; subst e
    exact ok_move S s (.inl hop) hy
  case assign y =>
    split at hx <;> simp at hx
    rename_i y' hy; subst hx
    obtain ⟨e, rfl⟩ := evX_s rfl he
    simp only [evS, Option.some.injEq] at e; subst e
    exact ok_move S s (.inr hop) hy
  case pick c y z =>
    split at hx <;> simp at hx
    rename_i c' y' z' hc hy hz; subst hx
    obtain ⟨e, rfl⟩ := evX_s rfl he
    simp only [evS] at e
    split at e <;> simp at e
    rename_i b hb; subst e
    exact ok_pick S s hop hc hy hz hb
  case makeMap t r =>
    cases r with
    | some _ => simp at hx
    | none =>
      simp at hx; subst hx
      have q := evX_w rfl he
      simp [evW] at q
  case insert t m k v =>
    split at hx <;> try (simp at hx; done)
    split at hx <;> simp at hx
    subst hx
    have q := evX_w rfl he
    simp [evW] at q
  case lookup xt y i ok =>
    split at hx <;> try (simp at hx; done)
    rename_i kt e hu
    split at hx <;> simp at hx
    rename_i ks ag z y' i' hk hz hy hi; subst hx
    obtain ⟨q, rfl⟩ := evX_s rfl he
    simp only [evS] at q
    unfold lookD at q
    split at q <;> try (simp at q; done)
    rename_i as vs hm
    split at q <;> simp at q
    · rename_i d hf
      subst q
      exact ok_lookup S s hop hu hk hz hy hi hm hf
    · rename_i hf
      subst q
      exact ok_lookup S s hop hu hk hz hy hi hm hf
  case alloc e =>
    split at hx <;> simp at hx
    rename_i sz by_ z hi; subst hx
    have q := evX_w rfl he
    simp only [evW, Option.some.injEq, Prod.mk.injEq] at q
    obtain ⟨rfl, rfl⟩ := q
    exact ok_alloc S hop hi
  case box e y =>
    split at hx <;> simp at hx
    rename_i y' hy; subst hx
    have q := evX_w rfl he
    simp only [evW] at q
    split at q <;> simp at q
    rename_i cs hc
    obtain ⟨rfl, rfl⟩ := q
    exact ok_box S s hop hy hc
  case build ty parts =>
    split at hx <;> try (simp at hx; done)
    rename_i sz by_ z ps hi hps
    split at hx
    · rename_i fs hu
      split at hx <;> simp at hx
      rename_i hall; subst hx
      obtain ⟨e, rfl⟩ := evX_s rfl he
      simp only [evS] at e
      split at e <;> simp at e
      rename_i cs hf; subst e
      exact ok_build S s hop hi hps (.inl ⟨fs, hu, hall⟩) hf
    · rename_i n e' hu
      split at hx <;> simp at hx
      rename_i hall; subst hx
      obtain ⟨e, rfl⟩ := evX_s rfl he
      simp only [evS] at e
      split at e <;> simp at e
      rename_i cs hf; subst e
      exact ok_build S s hop hi hps (.inr ⟨n, e', hu, hall⟩) hf
    · simp at hx
  case buildSlice ty len parts =>
    split at hx <;> try (simp at hx; done)
    rename_i e' hu
    split at hx <;> try (simp at hx; done)
    rename_i sz by_ z hi
    split at hx <;> try (simp at hx; done)
    rename_i ps hps
    split at hx <;> try (simp at hx; done)
    rename_i hsz
    by_cases hnew : len = 1 ∧ sz = 3
    · rw [if_pos hnew] at hx
      simp at hx; subst hx
      have q := evX_w rfl he
      simp only [evW] at q
      split at q <;> try (simp at q; done)
      rename_i cs hf
      split at q <;> try (simp at q; done)
      rename_i cs' h1 hs
      split at q <;> simp at q
      rename_i hcl
      obtain ⟨rfl, rfl⟩ := q
      obtain ⟨rfl, rfl⟩ := hnew
      exact ok_newSlice S s hop hu hi hps hsz hf hs hcl
    rw [if_neg hnew] at hx
    simp at hx; subst hx
    cases draw
    · have q := evX_w rfl he
      simp only [evW] at q
      split at q <;> try (simp at q; done)
      rename_i cs hf
      split at q <;> simp at q
      rename_i cs' h1 hs
      obtain ⟨rfl, rfl⟩ := q
      exact ok_buildSliceW S s hop hu hi hps hsz hf hs
    · obtain ⟨e, rfl⟩ := evX_s rfl he
      simp only [evS] at e
      split at e <;> try (simp at e; done)
      rename_i cs hf
      split at e <;> simp at e
      rename_i cs' hs; subst e
      exact ok_buildSlice S s hop hu hi hps hsz hf hs
  case load e y =>
    split at hx <;> simp at hx
    rename_i sz y' ht hy; subst hx
    simp only [evX, X.cls] at he
    split at he <;> simp at he
    rename_i d' hd
    obtain ⟨rfl, rfl⟩ := he
    exact ok_load S s hop hy ht hd
  case store e y z =>
    split at hx <;> simp at hx
    rename_i inf y' z' hi hy hz; subst hx
    have q := evX_w rfl he
    simp only [evW] at q
    split at q <;> try (simp at q; done)
    rename_i b off g new hpt hn
    split at q <;> try (simp at q; done)
    rename_i blk hblk
    split at q <;> try (simp at q; done)
    rename_i hcc
    obtain ⟨hg, hfz, hle, hl⟩ := hcc
    cases hb : blk.box
    · simp only [hb, cond_false] at q
      obtain ⟨r2, o2⟩ := cells_rep hn (cO_rep S.gl s hz)
      split at q
      · rename_i new' hs
        simp at q
        obtain ⟨rfl, rfl⟩ := q
        obtain ⟨u1, u2⟩ := sealL_rep _ _ _ hs r2
        have := ok_store S s (new' := new') hop hy hz hi hpt hn hblk hg hfz hle hl (by simp only [hb]; exact ⟨u1, u2 o2⟩)
        rwa [hb] at this
      · split at q <;> try (simp at q; done)
        rename_i new' h1 hs
        split at q <;> try (simp at q; done)
        rename_i blk' hblk'
        split at q <;> simp at q
        rename_i hc2
        obtain ⟨rfl, rfl⟩ := q
        obtain ⟨hg2, hfz2, hb2⟩ := hc2
        obtain ⟨Pr1, l1, f1, S1, u1, u2⟩ := freezeL_rep _ _ _ _ _ _ hs S r2
        have := ok_store S1 (fun i => Rep.mono l1 _ _ (s i)) (new' := new') hop hy hz hi hpt hn hblk' hg2 hfz2 hle hl (by simp only [hb2]; exact ⟨u1, u2 o2⟩)
        rw [hb2] at this
        exact this.after l1 f1
    · simp only [hb, cond_true, Option.some.injEq, Prod.mk.injEq] at q
      obtain ⟨rfl, rfl⟩ := q
      have := ok_store S s (new' := new) hop hy hz hi hpt hn hblk hg hfz hle hl (by simp only [hb, if_true])
      rwa [hb] at this
  case nilCheck y =>
    split at hx <;> simp at hx
    rename_i y' hy; subst hx
    obtain ⟨e, rfl⟩ := evX_s rfl he
    exact ok_nilCheck S s hop hy e
  case binOp op ty y z ty2 =>
    split at hx <;> try (simp at hx; done)
    rename_i y' z' hy hz
    split at hx
    · rename_i fs hu
      split at hx
      · rename_i offs i hf hi
        split at hx <;> simp at hx
        rename_i hcc; subst hx
        obtain ⟨e, rfl⟩ := evX_s rfl he
        simp only [evS] at e
        split at e <;> try (simp at e; done)
        rename_i xs ys hex hey
        split at e <;> try (simp at e; done)
        rename_i hl
        simp only [List.length_map] at hl
        split at e <;> simp at e
        rename_i b hb; subst e
        exact ok_eqAgg (neg := false) S s (by simpa using hop) hy hz hu hf hi hcc.1 hcc.2 hex hey hl.1 hl.2 hb
      · rename_i offs i hf hi
        split at hx <;> simp at hx
        rename_i hcc; subst hx
        obtain ⟨e, rfl⟩ := evX_s rfl he
        simp only [evS] at e
        split at e <;> try (simp at e; done)
        rename_i xs ys hex hey
        split at e <;> try (simp at e; done)
        rename_i hl
        simp only [List.length_map] at hl
        split at e <;> simp at e
        rename_i b hb; subst e
        exact ok_eqAgg (neg := true) S s (by simpa using hop) hy hz hu hf hi hcc.1 hcc.2 hex hey hl.1 hl.2 hb
      · simp at hx
    · simp at hx; subst hx
      obtain ⟨e, rfl⟩ := evX_s rfl he
      exact ok_bin S s hop hy hz e
    · simp at hx; subst hx
      obtain ⟨e, rfl⟩ := evX_s rfl he
      exact ok_bin S s hop hy hz e
    · rename_i hu
      simp at hx; subst hx
      obtain ⟨e, rfl⟩ := evX_s rfl he
      exact ok_binB S s hop hy hz hu e
    · simp at hx
  case unOp op ty y =>
    split at hx <;> simp at hx
    rename_i y' hy; subst hx
    obtain ⟨e, rfl⟩ := evX_s rfl he
    exact ok_un S s hop hy e
  case convert src dst y =>
    split at hx <;> simp at hx
    rename_i ds k y' hs hu hy; subst hx
    obtain ⟨e, rfl⟩ := evX_s rfl he
    simp only [evS] at e
    split at e <;> simp at e
    rename_i k' n hn; subst e
    exact ok_conv S s ⟨_, hs⟩ hop hy hu hn
  case extract y i =>
    split at hx <;> simp at hx
    rename_i y' hy; subst hx
    obtain ⟨e, rfl⟩ := evX_s rfl he
    simp only [evS] at e
    split at e <;> try (simp at e; done)
    rename_i vs hv
    exact ok_extract S s hop hy hv e
  case fieldAddr st y f =>
    split at hx <;> try (simp at hx; done)
    rename_i fs y' hu hy
    split at hx <;> try (simp at hx; done)
    rename_i fd hf
    split at hx <;> try (simp at hx; done)
    rename_i i hi
    split at hx <;> simp at hx
    rename_i hs; subst hx
    obtain ⟨e, rfl⟩ := evX_s rfl he
    exact ok_fieldAddr S s hop hy hu hf hi hs e
  case field st y f =>
    split at hx <;> try (simp at hx; done)
    rename_i fs y' hu hy
    split at hx <;> try (simp at hx; done)
    rename_i fd hf
    split at hx <;> simp at hx
    rename_i sz ht; subst hx
    obtain ⟨e, rfl⟩ := evX_s rfl he
    simp only [evS] at e
    split at e <;> try (simp at e; done)
    rename_i cs hc
    exact ok_field S s hop hy hu hf ht hc e
  case indexAddr ty y i =>
    split at hx <;> try (simp at hx; done)
    · rename_i e' y' i' hu hy hi
      split at hx <;> simp at hx
      rename_i j hj; subst hx
      obtain ⟨e, rfl⟩ := evX_s rfl he
      exact ok_indexAddr S s hop hy hi hu hj e
    · rename_i len e' y' i' hu hy hi
      split at hx <;> simp at hx
      rename_i j hj; subst hx
      obtain ⟨e, rfl⟩ := evX_s rfl he
      exact ok_elemAddr S s hop hy hi hu hj e
  case index ty y i =>
    split at hx
    · rename_i len e' y' i' hu hy hi
      split at hx <;> simp at hx
      rename_i ag j hag hj; subst hx
      obtain ⟨e, rfl⟩ := evX_s rfl he
      simp only [evS] at e
      split at e <;> try (simp at e; done)
      rename_i cs k ix hc hix
      split at e <;> try (simp at e; done)
      rename_i h0
      exact ok_index S s hop hy hi hu hag hj hc hix h0 e
    · rename_i y' i' hu hy hi
      simp at hx; subst hx
      obtain ⟨e, rfl⟩ := evX_s rfl he
      simp only [evS] at e
      split at e <;> try (simp at e; done)
      rename_i str k ix hc hix
      split at e <;> try (simp at e; done)
      rename_i h0
      split at e <;> simp at e
      rename_i b hb; subst e
      exact ok_indexStr S s hop hy hi hu hc hix h0 hb
    · simp at hx
  case slice ty y lo hi mx =>
    split at hx
    · rename_i e' y' lo' hi' mx' hu hy hlo hhi hmx
      split at hx <;> try (simp at hx; done)
      rename_i j hj
      split at hx <;> simp at hx
      rename_i hm; subst hx
      obtain ⟨e, rfl⟩ := evX_s rfl he
      refine ok_slice S s hop hy hlo hhi hmx ?_ hu hj e
      have hms : mx'.isSome = mx.isSome := by
        cases mx with
        | none => simp [cOO] at hmx; subst hmx; rfl
        | some m => simp only [cOO] at hmx; split at hmx <;> simp at hmx; subst hmx; rfl
      have hhs : hi'.isNone = hi.isNone := by
        cases hi with
        | none => simp [cOO] at hhi; subst hhi; rfl
        | some m => simp only [cOO] at hhi; split at hhi <;> simp at hhi; subst hhi; rfl
      rw [← hms, ← hhs]
      cases mx' <;> cases hi' <;> simp_all
    · rename_i y' lo' hi' hu hy hlo hhi hmx
      simp at hx; subst hx
      have hmn : mx = none := by
        cases mx with
        | none => rfl
        | some m => simp only [cOO] at hmx; split at hmx <;> simp at hmx
      subst hmn
      obtain ⟨e, rfl⟩ := evX_s rfl he
      simp only [evS] at e
      split at e <;> try (simp at e; done)
      rename_i str hstr
      split at e <;> simp at e
      rename_i l hh m hb
      exact ok_sliceStr S s hop hy hlo hhi hu hstr hb e.symm
    · simp at hx
  case makeInterface ty y =>
    split at hx <;> simp at hx
    rename_i de y' hn hu hy; subst hx
    obtain ⟨e, rfl⟩ := evX_s rfl he
    simp only [evS, Option.some.injEq] at e; subst e
    exact ok_mkifc S s hop hy hu (fun ms hh => hn ms hh)
  case makeFunc fn y z =>
    split at hx <;> simp at hx
    rename_i y' z' hy hz; subst hx
    obtain ⟨e, rfl⟩ := evX_s rfl he
    simp only [evS, Option.some.injEq] at e; subst e
    exact ok_mkfn S s hop hy hz
  case makeSlice ty y z =>
    split at hx <;> try (simp at hx; done)
    rename_i e' y' z' hu hy hz
    split at hx <;> try (simp at hx; done)
    rename_i sz by_ zz hi
    split at hx <;> simp at hx
    rename_i hsz; subst hx
    have q := evX_w rfl he
    simp only [evW] at q
    split at q <;> try (simp at q; done)
    rename_i l c hl hc
    split at q <;> simp at q
    rename_i hcc
    obtain ⟨rfl, rfl⟩ := q
    exact ok_makeSlice S s hop hy hz hu hi hsz hl hc hcc
  case call c =>
    split at hx <;> try (simp at hx; done)
    rename_i args hargs
    split at hx
    · rename_i f hf
      simp at hx; subst hx
      cases draw
      · have q := evX_w rfl he
        simp only [evW] at q
        exact callW_ok S snd (vs := c.args.map a.eval) q (by simpa using cOs_rep S.gl s _ _ hargs) (fun hcl => call_run hop hf hcl)
      · cases ho : C.own f
        · obtain ⟨e, rfl⟩ := evX_s (by simp [X.cls, ho]) he
          simp only [evS] at e
          split at e <;> try (simp at e; done)
          split at e <;> try (simp at e; done)
          rename_i ds hs
          exact ok_call S s snd hop hf hargs hs e
        · have q := evX_w (by simp [X.cls, ho]) he
          simp only [evW] at q
          exact callW_ok S snd (vs := c.args.map a.eval) q (by simpa using cOs_rep S.gl s _ _ hargs) (fun hcl => call_run hop hf hcl)
    · rename_i f hnf hf
      split at hx <;> simp at hx
      rename_i f' hf'; subst hx
      have q := evX_w rfl he
      simp only [evW] at q
      split at q <;> try (simp at q; done)
      rename_i g first cap hfn
      have r1 := cO_rep S.gl s hf'
      rw [hfn] at r1
      simp only [Rep] at r1
      obtain ⟨va, vc, hv, r1, r2⟩ := r1
      exact callW_ok S snd (vs := va ++ c.args.map a.eval ++ vc) q (by simpa using (r1.append (cOs_rep S.gl s _ _ hargs)).append r2) (fun hcl => callv_run hop hf hv hcl)
    · simp at hx
    · rename_i b hb
      split at hx
      · rename_i y t1 ht
        obtain ⟨y0, hy0, hy⟩ := cOs_one hargs
        split at hx
        · rename_i e' hu
          simp at hx; subst hx
          obtain ⟨e, rfl⟩ := evX_s rfl he
          exact ok_len S s hop hb hy0 ht hy hu e
        · rename_i hu
          simp at hx; subst hx
          obtain ⟨e, rfl⟩ := evX_s rfl he
          simp only [evS] at e
          split at e <;> simp at e
          rename_i str hstr; subst e
          exact ok_lenStr S s hop hb hy0 ht hy hu hstr
        · simp at hx
      · simp at hx; subst hx
        obtain ⟨e, rfl⟩ := evX_s rfl he
        simp only [evS] at e
        split at e <;> try (simp at e; done)
        rename_i y r hm
        exact ok_min S s hop hb hargs hm e
      · simp at hx; subst hx
        obtain ⟨e, rfl⟩ := evX_s rfl he
        simp only [evS] at e
        split at e <;> try (simp at e; done)
        rename_i y r hm
        exact ok_max S s hop hb hargs hm e
      · rename_i y z t1 t2 ht
        obtain ⟨y0, z0, hyz, hy, hz⟩ := cOs_two hargs
        split at hx <;> try (simp at hx; done)
        rename_i e1 e2 hu1 hu2
        split at hx <;> try (simp at hx; done)
        rename_i sz by_ zz hi
        split at hx <;> simp at hx
        rename_i hcc; subst hx
        have q := evX_w rfl he
        exact ok_append S s hop hb hyz ht hy hz hu1 hu2 hi hcc.2 q
      · rename_i y z t1 t2 ht
        obtain ⟨y0, z0, hyz, hy, hz⟩ := cOs_two hargs
        split at hx <;> try (simp at hx; done)
        rename_i e1 e2 hu1 hu2
        split at hx <;> try (simp at hx; done)
        rename_i sz by_ zz hi
        split at hx <;> simp at hx
        rename_i hcc; subst hx
        obtain ⟨inf, z', hi1, _, rfl, _⟩ := tInfo_spec hi
        have q := evX_w rfl he
        exact ok_copy S s hop hb hyz ht hy hz hu1 hi1 q
      · simp at hx


theorem equal_nil {ty : TypeId} {c v : Value} {b : Bool} (hc : nilC c = true)
    (hu : (∃ e, P.underlying ty = some (.slice e) ∧ ∃ ad n cap, v = .slice ad n cap ∧ b = ad.isNone ∧ c = .slice none 0 0) ∨ (∃ e, P.underlying ty = some (.pointer e) ∧ ∃ ad, v = .pointer ad ∧ b = ad.isNone ∧ c = .pointer none)) :
    (Op.equal ty v c).run P w = .ok b w := by
  obtain ⟨d, hd⟩ : ∃ d, Op.maxDepth = d + 1 := ⟨9999, rfl⟩
  unfold Op.equal
  rw [hd, Op.equalIn]
  rcases hu with ⟨e, hu, ad, n, cap, rfl, rfl, rfl⟩ | ⟨e, hu, ad, rfl, rfl, rfl⟩
  · simp only [Sem.run_bind, run_underlying hu, Result.andThen_ok]
    cases ad <;> rfl
  · simp only [Sem.run_bind, run_underlying hu, Result.andThen_ok]
    cases ad <;> rfl

theorem nil_run {bop : BinOp} {is : Bool} {ty ty2 : TypeId} {x : Operand} {c : Value} (ho : o.op = .binOp bop ty x (.const c) ty2) (hc : nilC c = true) (hb : (bop = .eql ∧ is = true) ∨ (bop = .neq ∧ is = false)) (b : Bool)
    (hh : (∃ e, P.underlying ty = some (.slice e) ∧ ∃ ad n cap, a.eval x = .slice ad n cap ∧ b = ad.isNone ∧ c = .slice none 0 0) ∨ (∃ e, P.underlying ty = some (.pointer e) ∧ ∃ ad, a.eval x = .pointer ad ∧ b = ad.isNone ∧ c = .pointer none)) :
    (execOp a.eval o).run P w = .ok (.value (.bool (bif b then is else !is))) w := by
  have he := equal_nil (P := P) (w := w) hc hh
  have hg : ∀ op, eqGuard op ty x (.const c) (a.eval x) c = pure () := by
    intro op
    rcases hh with ⟨e, _, ad, n, cap, h1, _, rfl⟩ | ⟨e, _, ad, h1, _, rfl⟩ <;> rw [h1] <;> cases op <;> rfl
  have hbin : (binOp bop ty (a.eval x) c).run P w = .ok (.bool (bif b then is else !is)) w := by
    rcases hb with ⟨rfl, rfl⟩ | ⟨rfl, rfl⟩
    · have : binOp .eql ty (a.eval x) c = (do pure (.bool (← Op.equal ty (a.eval x) c))) := by
        rcases hh with ⟨e, _, ad, n, cap, h1, _, rfl⟩ | ⟨e, _, ad, h1, _, rfl⟩ <;> rw [h1] <;> rfl
      rw [this]
      simp only [Sem.run_bind, he, Result.andThen_ok, Sem.run_pure]
      cases b <;> rfl
    · have : binOp .neq ty (a.eval x) c = (do pure (.bool (!(← Op.equal ty (a.eval x) c)))) := by
        rcases hh with ⟨e, _, ad, n, cap, h1, _, rfl⟩ | ⟨e, _, ad, h1, _, rfl⟩ <;> rw [h1] <;> rfl
      rw [this]
      simp only [Sem.run_bind, he, Result.andThen_ok, Sem.run_pure]
      cases b <;> rfl
  have hev : a.eval (.const c) = c := rfl
  simp only [execOp, ho, hev, hg, Sem.run_bind, Sem.run_pure, Result.andThen_ok, hbin]

theorem ok_isNil (S : Sim w Pr φ h) (s : Slots w Pr φ h t a) {bop : BinOp} {is : Bool} {ty ty2 e : TypeId} {x : Operand} {x' : XO} {d : D} (ho : o.op = .binOp bop ty x (.const (.slice none 0 0)) ty2) (hx : cO x = some x')
    (hb : (bop = .eql ∧ is = true) ∨ (bop = .neq ∧ is = false)) (hu : P.underlying ty = some (.slice e)) {C : Calls} (hd : evS C (XO.ev t) (.isNil is x') = some d) : OKop P o a w Pr φ h d h := by
  have r1 := cO_rep S.gl s hx
  simp only [evS] at hd
  have key : ∀ (ad : Option Addr) (n cap : Nat), a.eval x = .slice ad n cap → n ≤ cap → (ad = none → cap = 0) → (if n = 0 then D.anyb else D.bool !is) = d → OKop P o a w Pr φ h d h := by
    intro ad n cap hv h2 h5 hd
    have hr := nil_run (w := w) (is := is) (a := a) ho rfl hb ad.isNone (.inl ⟨e, hu, ad, n, cap, hv, rfl, rfl⟩)
    subst hd
    by_cases hn : n = 0
    · rw [if_pos hn]
      exact OKop.val S hr (by simp only [Rep]; exact ⟨_, rfl⟩)
    · rw [if_neg hn]
      cases ad with
      | none => have := h5 rfl; omega
      | some ad => exact OKop.val S hr (by simp only [Rep]; rfl)
  split at hd <;> simp only [Option.some.injEq, reduceCtorEq] at hd
  · rename_i n full cs hx'
    rw [hx'] at r1
    simp only [Rep] at r1
    obtain ⟨ad, cap, vs, hv, h2, h3, h4, h5, _⟩ := r1
    exact key ad n cap hv h2 h5 hd
  · rename_i b0 off n sz g full hx'
    rw [hx'] at r1
    simp only [Rep] at r1
    obtain ⟨ad, cap, blk, hv, h2, h3, h4, h5, _⟩ := r1
    exact key ad n cap hv h2 h5 hd

theorem ok_isNilP (S : Sim w Pr φ h) (s : Slots w Pr φ h t a) {bop : BinOp} {is : Bool} {ty ty2 e : TypeId} {x : Operand} {x' : XO} {d : D} (ho : o.op = .binOp bop ty x (.const (.pointer none)) ty2) (hx : cO x = some x')
    (hb : (bop = .eql ∧ is = true) ∨ (bop = .neq ∧ is = false)) (hu : P.underlying ty = some (.pointer e)) {C : Calls} (hd : evS C (XO.ev t) (.isNilP is x') = some d) : OKop P o a w Pr φ h d h := by
  have r1 := cO_rep S.gl s hx
  simp only [evS] at hd
  have key : ∀ (ad : Option Addr), a.eval x = .pointer ad → D.bool (bif ad.isNone then is else !is) = d → OKop P o a w Pr φ h d h := by
    intro ad hv hd
    have hr := nil_run (w := w) (is := is) (a := a) ho rfl hb ad.isNone (.inr ⟨e, hu, ad, hv, rfl, rfl⟩)
    subst hd
    exact OKop.val S hr (by simp only [Rep])
  split at hd <;> simp only [Option.some.injEq, reduceCtorEq] at hd <;> rename_i hx' <;> rw [hx'] at r1 <;> simp only [Rep] at r1
  · exact key none r1 hd
  · obtain ⟨ad, blk, hv, _⟩ := r1
    exact key (some ad) hv hd
  · obtain ⟨ad, vs, hv, _⟩ := r1
    exact key (some ad) hv hd

theorem ok_cap (S : Sim w Pr φ h) (s : Slots w Pr φ h t a) {c : Call} {ty e : TypeId} {x : Operand} {x' : XO} {d : D} (ho : o.op = .call c) (hc : c.callee = .builtin .cap) (ha : c.args.toList = [x]) (ht : c.argTypes.toList = [ty]) (hu : P.underlying ty = some (.slice e)) (hx : cO x = some x')
    {C : Calls} (hd : evS C (XO.ev t) (.cap x') = some d) : OKop P o a w Pr φ h d h := by
  have ha' : c.args = #[x] := by cases hh : c.args; simp_all
  have ht' : c.argTypes = #[ty] := by cases hh : c.argTypes; simp_all
  have r1 := cO_rep S.gl s hx
  have hrun : ∀ ad n cap, a.eval x = .slice ad n cap → (execOp a.eval o).run P w = .ok (.value (.int .i64 cap)) w := by
    intro ad n cap hv
    simp [execOp, ho, resolve, hc, ha', ht', invoke, builtin, Builtin.cap_, run_underlying hu, hv, goInt]
  simp only [evS] at hd
  split at hd <;> simp only [Option.some.injEq, reduceCtorEq] at hd <;> rename_i hx' <;> rw [hx'] at r1 <;> simp only [Rep] at r1 <;> subst hd
  · obtain ⟨ad, cap, vs, hv, h2, h3, h4, _⟩ := r1
    have := h4 trivial
    subst this
    exact OKop.val S (hrun _ _ _ hv) (by simp only [Rep])
  · obtain ⟨ad, cap, blk, hv, h2, h3, h4, _⟩ := r1
    have := h4.1 trivial
    subst this
    exact OKop.val S (hrun _ _ _ hv) (by simp only [Rep])

theorem clear_run {c : Call} {x : Operand} {t1 : TypeId} {v w' : _} (ho : o.op = .call c) (hc : c.callee = .builtin .clear) (ha : c.args.toList = [x]) (ht : c.argTypes.toList = [t1])
    (hr : (Builtin.clear_ #[t1] o.type #[a.eval x]).run P w = .ok v w') : (execOp a.eval o).run P w = .ok (.value v) w' := by
  have ha' : c.args = #[x] := by cases hh : c.args; simp_all
  have ht' : c.argTypes = #[t1] := by cases hh : c.argTypes; simp_all
  simp [execOp, ho, resolve, hc, ha', ht', invoke, builtin, hr]

theorem ok_clear (S : Sim w Pr φ h) (s : Slots w Pr φ h t a) {c : Call} {ty e : TypeId} {x : Operand} {x' : XO} {d : D} {h' : List Blk} {sz by_ : Nat} {zs : List D} (ho : o.op = .call c) (hc : c.callee = .builtin .clear) (ha : c.args.toList = [x]) (hat : c.argTypes.toList = [ty]) (hu : P.underlying ty = some (.slice e)) (hx : cO x = some x')
    (hi : tInfo P e = some (sz, by_, zs)) {C : Calls} (hd : evW C h (XO.ev t) (.clear sz zs x') = some (d, h')) : OKop P o a w Pr φ h d h' := by
  have r1 := cO_rep S.gl s hx
  obtain ⟨i, z, hi1, hz, rfl, rfl, hof, hl⟩ := tInfo_spec hi
  obtain ⟨z1, z2⟩ := ofCells_rep (w := w) (Pr := Pr) (φ := []) (h := []) _ _ hof
  have hzl : z.cells.size = i.size := by have := z1.length; simp at this; omega
  have zero0 : ∀ ad cap, a.eval x = .slice ad 0 cap → (execOp a.eval o).run P w = .ok (.value (.tuple #[])) w := by
    intro ad cap hv
    refine clear_run ho hc ha hat ?_
    rw [hv]
    cases ad <;> simp [Builtin.clear_, run_underlying hu]
  have rt : ∀ {w : World} {Pr : Nat → Nat → Prop} {φ : List Nat} {h : List Blk}, Rep w Pr φ h (.tup []) (.tuple #[]) := by
    intros; simp only [Rep]; exact ⟨#[], rfl, rfl⟩
  simp only [evW] at hd
  split at hd <;> try (simp at hd; done)
  · rename_i n full cs hx'
    split at hd <;> simp at hd
    rename_i hn
    obtain ⟨rfl, rfl⟩ := hd
    subst hn
    rw [hx'] at r1
    simp only [Rep] at r1
    obtain ⟨ad, cap, vs, hv, _⟩ := r1
    exact OKop.val S (zero0 _ _ hv) rt
  · rename_i b off n k gen full hx'
    rw [hx'] at r1
    simp only [Rep] at r1
    obtain ⟨ad, cap, blk', hv, g1, g2, g3, g4, g5, g6, g7, g8⟩ := r1
    split at hd <;> try (simp at hd; done)
    rename_i blk hblk
    rw [hblk] at g5
    simp at g5; subst g5
    split at hd
    · rename_i hcc
      obtain ⟨hg, hle, rfl, hbx, hfz, hzz⟩ := hcc
      simp at hd
      obtain ⟨rfl, rfl⟩ := hd
      obtain ⟨cc, k1, k2, k3, k4⟩ := g8 hg
      obtain ⟨vs, ee, p1, p2, p3, p4, p5, p6⟩ := S.blk _ _ _ hblk k1
      by_cases hn : n = 0
      · subst hn
        have e0 : putAt blk.cs off (zeros zs 0) = blk.cs := by simp [putAt, zeros]
        have e1 : h.set b ⟨blk.cs, blk.fz, false⟩ = h := by
          apply List.ext_getElem?
          intro j
          rw [List.getElem?_set]
          split
          · rename_i hj
            subst hj
            rw [hblk]
            simp [(List.getElem?_eq_some_iff.1 hblk).1, ← hbx]
          · rfl
        rw [e0, e1]
        exact OKop.val S (zero0 _ _ hv) rt
      · have hcap : 0 < cap := by omega
        have had := k2 hcap
        subst had
        have hr := zeros_rep z1 n
        have hzlen := zeros_len zs n
        rw [hl] at hzlen
        have hlist : (Builtin.zeroCells z.cells n).toList = (List.range (n * z.cells.size)).map (z.cells[· % z.cells.size]!) := by
          simp [Builtin.zeroCells]
        rw [← hlist] at hr
        obtain ⟨l, f, S'⟩ := write_cells S hblk k1 p1 hfz (by rw [hzlen]; omega) (liftL_closed hr) (fun _ => hr) (zeros_all z2 _)
        have hst := run_storeCells_at P cc off ee (Builtin.zeroCells z.cells n).toList 0 vs w p1 (by have := hr.length; omega) (all_one_values (w := w) (Pr := Pr) hr (zeros_all z2 _))
        simp only [Nat.add_zero] at hst
        rw [hbx] at l S'
        refine OKop.go (v := .tuple #[]) (clear_run ho hc ha hat ?_) l f S' rt
        rw [hv]
        obtain ⟨n', rfl⟩ : ∃ n', n = n' + 1 := ⟨n - 1, by omega⟩
        simp [Builtin.clear_, run_underlying hu, zero_run hi1 hz, hst]
    · split at hd <;> simp at hd
      rename_i hn
      obtain ⟨rfl, rfl⟩ := hd
      subst hn
      exact OKop.val S (zero0 _ _ hv) rt

theorem appendZ_grow {t1 t2 ty e : TypeId} {k : IntKind} {inf : TypeInfo} {z : Value} (ht : P.underlying t1 = some (.slice e)) (ht2 : P.underlying t2 = some (.int k)) (hi : P.info? e = some inf) (hz0 : inf.zero = some z) {ad : Option Addr} {n cap m : Nat} {olds : List Value}
    (hlo : olds.length = n * inf.size) (hou : olds = [] ∨ ∃ ad', ad = some ad' ∧ ∀ j u, olds[j]? = some u → w.cell? (ad'.add j) = some u) (hoz : ad = none → n * inf.size = 0)
    (hm : 0 < m) (hs : 0 < inf.size) (hg : cap < n + m) (h63 : n + m ≤ 1099511627776) (hb : (n + m) * inf.bytes ≤ 140737488355328) :
    (Builtin.append_ #[t1, t2] ty #[.slice ad n cap, .int .i64 m]).run P w =
      .ok (.slice (some ⟨w.heap.size, 0, none⟩) (n + m) (grownCap w (n + m) cap e))
        (w.drew.alloc (.cells (olds.toArray ++ (Builtin.zeroCells z.cells m).toList.toArray ++ Builtin.zeroCells z.cells (grownCap w (n + m) cap e - (n + m))) e)) := by
  have hn : ¬ (n + m ≤ cap) := by omega
  have h63' : ¬ (9223372036854775807 < ((n : Int) + (m : Int))) := by omega
  have hfit := growslice_fits hg hb
  have h48' : ¬ (281474976710656 < Builtin.nextslicecap (n + m) cap * inf.bytes) := by omega
  have hfo := firstCells_run (P := P) (w := w.drew) (m := n) (cap := cap) hlo (by simpa using hou) hoz
  have hw : IntKind.i64.wrap (m : Int) = m := IntWalk.i64_in _ (by omega)
  have hneg : ¬ ((m : Int) < 0) := by omega
  have hmb : m * inf.bytes ≤ 140737488355328 := Nat.le_trans (Nat.mul_le_mul_right _ (by omega)) hb
  have hmb' : ¬ (281474976710656 < (m : Int) * (inf.bytes : Int)) := by
    rw [← Int.natCast_mul]
    omega
  have hms : ¬ (m * inf.size = 0) := Nat.ne_of_gt (Nat.mul_pos hm hs)
  simp [Builtin.append_, run_underlying ht, run_underlying ht2, sizeOf, typeInfo, zeroValue, hi, hz0, asInt, asIntOf, hw, hneg, hmb', hn, h63', h48', Question.forced, hfo, newRow, grownCap, hms]

theorem ok_appendZ (S : Sim w Pr φ h) (s : Slots w Pr φ h t a) {e : TypeId} {k : IntKind} {c : Call} {x y : Operand} {t1 t2 : TypeId} {x' y' : XO} {sz by_ : Nat} {zs : List D} {d : D} {h' : List Blk} {C : Calls}
    (ho : o.op = .call c) (hc : c.callee = .builtin .append) (ha : c.args.toList = [x, y]) (hat : c.argTypes.toList = [t1, t2]) (hx : cO x = some x') (hy : cO y = some y')
    (ht1 : P.underlying t1 = some (.slice e)) (ht2 : P.underlying t2 = some (.int k)) (hi : tInfo P e = some (sz, by_, zs)) (hsz : 0 < sz) (hd : evW C h (XO.ev t) (.appendZ sz by_ zs x' y') = some (d, h')) : OKop P o a w Pr φ h d h' := by
  obtain ⟨inf, z, hi1, hz, rfl, rfl, hof, hl⟩ := tInfo_spec hi
  obtain ⟨z1, z2⟩ := ofCells_rep (w := w) (Pr := Pr) (φ := []) (h := []) _ _ hof
  have hzl : z.cells.size = inf.size := by have := z1.length; simp at this; omega
  have rx := cO_rep S.gl s hx
  have ry := cO_rep S.gl s hy
  simp only [evW] at hd
  split at hd <;> try (simp at hd; done)
  rename_i n full cs m hex hey
  rw [hex] at rx; rw [hey] at ry
  have rx' := rx
  simp only [Rep] at rx ry
  obtain ⟨ad, cap, vs, hv1, g1, g2, g3, g4, g5, g6, g7⟩ := rx
  split at hd
  · rename_i hm
    subst hm
    simp at hd
    obtain ⟨rfl, rfl⟩ := hd
    refine OKop.val S (v := a.eval x) (append_run ho hc ha hat ?_) rx'
    rw [hv1, ry]
    cases ad <;> simp [Builtin.append_, run_underlying ht1, run_underlying ht2, sizeOf, typeInfo, hi1, asInt, asIntOf, g1, storeCells, show IntKind.i64.wrap (0 : Int) = 0 from rfl]
  · split at hd <;> simp at hd
    rename_i hcc
    obtain ⟨hm0, hfull, hlc, hbytes, h63⟩ := hcc
    obtain ⟨rfl, rfl⟩ := hd
    obtain ⟨m', rfl⟩ : ∃ m' : Nat, m = m' := ⟨m.toNat, by omega⟩
    simp only [Int.toNat_natCast] at *
    have hcap := g3 hfull
    have hlo : vs.length = n * inf.size := by rw [g7.length, hlc]
    have hou : vs = [] ∨ ∃ ad', ad = some ad' ∧ ∀ j u, vs[j]? = some u → w.cell? (ad'.add j) = some u := by
      rcases g5 with g5 | ⟨bb, of, hb, hcc⟩
      · exact .inl g5
      · exact .inr ⟨_, hb, fun j u hj => by rw [Addr.add_lit]; exact (hcc j u hj).1⟩
    have hoz : ad = none → n * inf.size = 0 := fun hn => by
      have h0 := g4 hn
      have hn0 : n = 0 := by omega
      rw [hn0, Nat.zero_mul]
    have hrun := appendZ_grow (P := P) (w := w) (ty := o.type) ht1 ht2 hi1 hz hlo hou hoz (by omega : 0 < m') hsz (by omega : cap < n + m') h63 hbytes
    have hr := zeros_rep z1 m'
    have hlist : (Builtin.zeroCells z.cells m').toList = (List.range (m' * z.cells.size)).map (z.cells[· % z.cells.size]!) := by
      simp [Builtin.zeroCells]
    rw [← hlist] at hr
    have hzlen := zeros_len zs m'
    rw [hl] at hzlen
    obtain ⟨l, f, S'⟩ := grow_alloc S (e := e) (zc := Builtin.zeroCells z.cells (grownCap w (n + m') cap e - (n + m'))) g7 hr g6 (zeros_all z2 _)
    have hge := grownCap_ge w (n + m') cap e
    have hle := grownCap_le_maxLen w (n + m') cap e (by simp only [maxLen]; omega)
    have hlu : (Builtin.zeroCells z.cells m').toList.length = m' * inf.size := by simp [zeroCells_size, hzl]
    refine OKop.go (append_run ho hc ha hat (by rw [hv1, ry]; exact hrun)) l f S' ?_
    simp only [Rep]
    refine ⟨_, _, ⟨cs ++ zeros zs m', 0, false⟩, rfl, hge, hle, ⟨by simp, fun _ => by have := Nat.mul_le_mul_right inf.size hge; omega⟩, by simp, by simp, rfl, ?_, fun _ => ⟨w.heap.size, by rw [← S.len]; simp, fun _ => rfl, by simp, grow_room hzl hlo hlu hge⟩⟩
    simp only [List.length_append, hlc, hzlen, Nat.add_mul]
    exact Nat.le_refl _

theorem evX_ok (S : Sim w Pr φ h) (s : Slots w Pr φ h t a) {C : Calls} (snd : Sound P C) {draw : Bool} {x : X} {d : D} {h' : List Blk} (hx : cX P o.op = some x) (he : evX C draw x t h = some (d, h')) : OKop P o a w Pr φ h d h' := by
  unfold cX at hx
  split at hx
  · rename_i y hy
    simp at hx; subst hx
    unfold cNil at hy
    split at hy
    · rename_i bop ty y1 c ty2 hop
      split at hy <;> try (simp at hy; done)
      split at hy <;> simp at hy <;> subst hy
      · rename_i e y2 hu hy2 _
        obtain ⟨e1, rfl⟩ := evX_s rfl he
        exact ok_isNil S s hop hy2 (.inl ⟨rfl, rfl⟩) hu e1
      · rename_i e y2 hu hy2 _
        obtain ⟨e1, rfl⟩ := evX_s rfl he
        exact ok_isNil S s hop hy2 (.inr ⟨rfl, rfl⟩) hu e1
      · rename_i e y2 hu hy2 _
        obtain ⟨e1, rfl⟩ := evX_s rfl he
        exact ok_isNilP S s hop hy2 (.inl ⟨rfl, rfl⟩) hu e1
      · rename_i e y2 hu hy2 _
        obtain ⟨e1, rfl⟩ := evX_s rfl he
        exact ok_isNilP S s hop hy2 (.inr ⟨rfl, rfl⟩) hu e1
    · rename_i c hop
      split at hy
      · rename_i x1 t1 hc hcs hct
        obtain ⟨x2, hl, hx2⟩ := cOs_one hcs
        split at hy <;> try (simp at hy; done)
        rename_i e hu
        split at hy <;> simp at hy
        rename_i sz by_ zs hi
        subst hy
        exact ok_clear S s hop hc hl hct hu hx2 hi (evX_w rfl he)
      · rename_i x1 t1 hc hcs hct
        obtain ⟨x2, hl, hx2⟩ := cOs_one hcs
        split at hy <;> simp at hy
        rename_i e hu
        subst hy
        obtain ⟨e1, rfl⟩ := evX_s rfl he
        exact ok_cap S s hop hc hl hct hu hx2 e1
      · rename_i x1 y1 t1 t2 hc hcs hct
        obtain ⟨x2, y2, hl, hx2, hy2⟩ := cOs_two hcs
        split at hy <;> try (simp at hy; done)
        rename_i e k hu1 hu2
        split at hy <;> try (simp at hy; done)
        rename_i sz by_ zs hi
        split at hy <;> simp at hy
        rename_i hsz
        subst hy
        exact ok_appendZ S s hop hc hl hct hx2 hy2 hu1 hu2 hi hsz (evX_w rfl he)
      · simp at hy
    · simp at hy
  · split at hx
    · rename_i y hy
      simp at hx; subst hx
      exact evX_ok0 S s snd hy he
    · simp at hx; subst hx
      have := evX_w rfl he
      simp [evW] at this

end

end Go.Proofs.YtccinlhenkkpeaaDoor.E
