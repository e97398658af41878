/- Every operation that the evaluator takes. -/
import Derived.Test.YtcbegcmlohnpcaaSimH
namespace Go.Proofs.Ytcbegcmlohnpcaa.E
open Go

theorem cOs_nil {l : List Operand} (h : cOs l = some []) : l = [] := by
  cases l with
  | nil => rfl
  | cons x r => simp only [cOs] at h; split at h <;> simp at h

theorem cOs_cons {l : List Operand} {y : XO} {ys : List XO} (h : cOs l = some (y :: ys)) : ∃ x r, l = x :: r ∧ cO x = some y ∧ cOs r = some ys := by
  cases l with
  | nil => simp [cOs] at h
  | cons x r =>
    simp only [cOs] at h
    split at h <;> simp at h
    rename_i y1 r1 h1 h2
    exact ⟨x, r, rfl, by rw [h1, h.1], by rw [h2, h.2]⟩

theorem cOs_one {l : List Operand} {y : XO} (h : cOs l = some [y]) : ∃ x, l = [x] ∧ cO x = some y := by
  obtain ⟨x, r, rfl, h1, h2⟩ := cOs_cons h
  rw [cOs_nil h2]
  exact ⟨x, rfl, h1⟩

theorem cOs_two {l : List Operand} {y z : XO} (h : cOs l = some [y, z]) : ∃ x u, l = [x, u] ∧ cO x = some y ∧ cO u = some z := by
  obtain ⟨x, r, rfl, h1, h2⟩ := cOs_cons h
  obtain ⟨u, rfl, h3⟩ := cOs_one h2
  exact ⟨x, u, rfl, h1, h3⟩

section
variable {P : Program} {o : Oper} {w : World} {Pr : Nat → Nat → Prop} {φ : List Nat} {h : List Blk} {t : Nat → D} {a : Act}

theorem evX_s {C : Calls} {draw : Bool} {x : X} {d : D} {h' : List Blk} (hc : x.cls draw = .s) (he : evX C draw x t h = some (d, h')) : evS C (XO.ev t) x = some d ∧ h' = h := by
  unfold evX at he
  rw [hc] at he
  simp only at he
  split at he
  · simp at he; rename_i d' e; exact ⟨by rw [e, he.1], he.2.symm⟩
  · simp at he

theorem evX_w {C : Calls} {draw : Bool} {x : X} {d : D} {h' : List Blk} (hc : x.cls draw = .w) (he : evX C draw x t h = some (d, h')) : evW C h (XO.ev t) x = some (d, h') := by
  unfold evX at he
  rw [hc] at he
  exact he

theorem evX_ok (S : Sim w Pr φ h) (s : Slots w Pr φ h t a) {C : Calls} (snd : Sound P C) {draw : Bool} {x : X} {d : D} {h' : List Blk} (hx : cX P o.op = some x) (he : evX C draw x t h = some (d, h')) : OKop P o a w Pr φ h d h' := by
  cases hop : o.op <;> simp only [hop, cX] at hx <;> try (simp at hx; done)
  case move y =>
    split at hx <;> simp at hx
    rename_i y' hy; subst hx
    obtain ⟨e, rfl⟩ := evX_s rfl he
    simp only [evS, Option.some.injEq] at e; subst e
    exact ok_move S s (.inl hop) hy
  case assign y =>
    split at hx <;> simp at hx
    rename_i y' hy; subst hx
    obtain ⟨e, rfl⟩ := evX_s rfl he
    simp only [evS, Option.some.injEq] at e; subst e
    exact ok_move S s (.inr hop) hy
  case pick c y z =>
    split at hx <;> simp at hx
    rename_i c' y' z' hc hy hz; subst hx
    obtain ⟨e, rfl⟩ := evX_s rfl he
    simp only [evS] at e
    split at e <;> simp at e
    rename_i b hb; subst e
    exact ok_pick S s hop hc hy hz hb
  case alloc e =>
    split at hx <;> simp at hx
    rename_i sz by_ z hi; subst hx
    have q := evX_w rfl he
    simp only [evW, Option.some.injEq, Prod.mk.injEq] at q
    obtain ⟨rfl, rfl⟩ := q
    exact ok_alloc S hop hi
  case box e y =>
    split at hx <;> simp at hx
    rename_i y' hy; subst hx
    have q := evX_w rfl he
    simp only [evW] at q
    split at q <;> simp at q
    rename_i cs hc
    obtain ⟨rfl, rfl⟩ := q
    exact ok_box S s hop hy hc
  case build ty parts =>
    split at hx <;> try (simp at hx; done)
    rename_i sz by_ z ps hi hps
    split at hx
    · rename_i fs hu
      split at hx <;> simp at hx
      rename_i hall; subst hx
      obtain ⟨e, rfl⟩ := evX_s rfl he
      simp only [evS] at e
      split at e <;> simp at e
      rename_i cs hf; subst e
      exact ok_build S s hop hi hps (.inl ⟨fs, hu, hall⟩) hf
    · rename_i n e' hu
      split at hx <;> simp at hx
      rename_i hall; subst hx
      obtain ⟨e, rfl⟩ := evX_s rfl he
      simp only [evS] at e
      split at e <;> simp at e
      rename_i cs hf; subst e
      exact ok_build S s hop hi hps (.inr ⟨n, e', hu, hall⟩) hf
    · simp at hx
  case buildSlice ty len parts =>
    split at hx <;> try (simp at hx; done)
    rename_i e' hu
    split at hx <;> try (simp at hx; done)
    rename_i sz by_ z hi
    split at hx <;> try (simp at hx; done)
    rename_i ps hps
    split at hx <;> simp at hx
    rename_i hsz; subst hx
    cases draw
    · have q := evX_w rfl he
      simp only [evW] at q
      split at q <;> try (simp at q; done)
      rename_i cs hf
      split at q <;> simp at q
      rename_i cs' h1 hs
      obtain ⟨rfl, rfl⟩ := q
      exact ok_buildSliceW S s hop hu hi hps hsz hf hs
    · obtain ⟨e, rfl⟩ := evX_s rfl he
      simp only [evS] at e
      split at e <;> try (simp at e; done)
      rename_i cs hf
      split at e <;> simp at e
      rename_i cs' hs; subst e
      exact ok_buildSlice S s hop hu hi hps hsz hf hs
  case load e y =>
    split at hx <;> simp at hx
    rename_i sz y' ht hy; subst hx
    simp only [evX, X.cls] at he
    split at he <;> simp at he
    rename_i d' hd
    obtain ⟨rfl, rfl⟩ := he
    exact ok_load S s hop hy ht hd
  case store e y z =>
    split at hx <;> simp at hx
    rename_i inf y' z' hi hy hz; subst hx
    have q := evX_w rfl he
    simp only [evW] at q
    split at q <;> try (simp at q; done)
    rename_i b off g new hpt hn
    split at q <;> try (simp at q; done)
    rename_i blk hblk
    split at q <;> try (simp at q; done)
    rename_i hcc
    obtain ⟨hg, hfz, hle, hl⟩ := hcc
    cases hb : blk.box
    · simp only [hb, cond_false] at q
      obtain ⟨r2, o2⟩ := cells_rep hn (cO_rep s hz)
      split at q
      · rename_i new' hs
        simp at q
        obtain ⟨rfl, rfl⟩ := q
        obtain ⟨u1, u2⟩ := sealL_rep _ _ _ hs r2
        have := ok_store S s (new' := new') hop hy hz hi hpt hn hblk hg hfz hle hl (by simp only [hb]; exact ⟨u1, u2 o2⟩)
        rwa [hb] at this
      · split at q <;> try (simp at q; done)
        rename_i new' h1 hs
        split at q <;> try (simp at q; done)
        rename_i blk' hblk'
        split at q <;> simp at q
        rename_i hc2
        obtain ⟨rfl, rfl⟩ := q
        obtain ⟨hg2, hfz2, hb2⟩ := hc2
        obtain ⟨Pr1, l1, f1, S1, u1, u2⟩ := freezeL_rep _ _ _ _ _ _ hs S r2
        have := ok_store S1 (fun i => Rep.mono l1 _ _ (s i)) (new' := new') hop hy hz hi hpt hn hblk' hg2 hfz2 hle hl (by simp only [hb2]; exact ⟨u1, u2 o2⟩)
        rw [hb2] at this
        exact this.after l1 f1
    · simp only [hb, cond_true, Option.some.injEq, Prod.mk.injEq] at q
      obtain ⟨rfl, rfl⟩ := q
      have := ok_store S s (new' := new) hop hy hz hi hpt hn hblk hg hfz hle hl (by simp only [hb, if_true])
      rwa [hb] at this
  case nilCheck y =>
    split at hx <;> simp at hx
    rename_i y' hy; subst hx
    obtain ⟨e, rfl⟩ := evX_s rfl he
    exact ok_nilCheck S s hop hy e
  case binOp op ty y z ty2 =>
    split at hx <;> try (simp at hx; done)
    rename_i y' z' hy hz
    split at hx
    · rename_i fs hu
      split at hx
      · rename_i offs i hf hi
        split at hx <;> simp at hx
        rename_i hcc; subst hx
        obtain ⟨e, rfl⟩ := evX_s rfl he
        simp only [evS] at e
        split at e <;> try (simp at e; done)
        rename_i xs ys hex hey
        split at e <;> try (simp at e; done)
        rename_i hl
        simp only [List.length_map] at hl
        split at e <;> simp at e
        rename_i b hb; subst e
        exact ok_eqAgg (neg := false) S s (by simpa using hop) hy hz hu hf hi hcc.1 hcc.2 hex hey hl.1 hl.2 hb
      · rename_i offs i hf hi
        split at hx <;> simp at hx
        rename_i hcc; subst hx
        obtain ⟨e, rfl⟩ := evX_s rfl he
        simp only [evS] at e
        split at e <;> try (simp at e; done)
        rename_i xs ys hex hey
        split at e <;> try (simp at e; done)
        rename_i hl
        simp only [List.length_map] at hl
        split at e <;> simp at e
        rename_i b hb; subst e
        exact ok_eqAgg (neg := true) S s (by simpa using hop) hy hz hu hf hi hcc.1 hcc.2 hex hey hl.1 hl.2 hb
      · simp at hx
    · simp at hx; subst hx
      obtain ⟨e, rfl⟩ := evX_s rfl he
      exact ok_bin S s hop hy hz e
    · simp at hx; subst hx
      obtain ⟨e, rfl⟩ := evX_s rfl he
      exact ok_bin S s hop hy hz e
    · rename_i hu
      simp at hx; subst hx
      obtain ⟨e, rfl⟩ := evX_s rfl he
      exact ok_binB S s hop hy hz hu e
    · simp at hx
  case unOp op ty y =>
    split at hx <;> simp at hx
    rename_i y' hy; subst hx
    obtain ⟨e, rfl⟩ := evX_s rfl he
    exact ok_un S s hop hy e
  case convert src dst y =>
    split at hx <;> simp at hx
    rename_i ds k y' hs hu hy; subst hx
    obtain ⟨e, rfl⟩ := evX_s rfl he
    simp only [evS] at e
    split at e <;> simp at e
    rename_i k' n hn; subst e
    exact ok_conv S s ⟨_, hs⟩ hop hy hu hn
  case extract y i =>
    split at hx <;> simp at hx
    rename_i y' hy; subst hx
    obtain ⟨e, rfl⟩ := evX_s rfl he
    simp only [evS] at e
    split at e <;> try (simp at e; done)
    rename_i vs hv
    exact ok_extract S s hop hy hv e
  case fieldAddr st y f =>
    split at hx <;> try (simp at hx; done)
    rename_i fs y' hu hy
    split at hx <;> try (simp at hx; done)
    rename_i fd hf
    split at hx <;> try (simp at hx; done)
    rename_i i hi
    split at hx <;> simp at hx
    rename_i hs; subst hx
    obtain ⟨e, rfl⟩ := evX_s rfl he
    exact ok_fieldAddr S s hop hy hu hf hi hs e
  case field st y f =>
    split at hx <;> try (simp at hx; done)
    rename_i fs y' hu hy
    split at hx <;> try (simp at hx; done)
    rename_i fd hf
    split at hx <;> simp at hx
    rename_i sz ht; subst hx
    obtain ⟨e, rfl⟩ := evX_s rfl he
    simp only [evS] at e
    split at e <;> try (simp at e; done)
    rename_i cs hc
    exact ok_field S s hop hy hu hf ht hc e
  case indexAddr ty y i =>
    split at hx <;> try (simp at hx; done)
    rename_i e' y' i' hu hy hi
    split at hx <;> simp at hx
    rename_i j hj; subst hx
    obtain ⟨e, rfl⟩ := evX_s rfl he
    exact ok_indexAddr S s hop hy hi hu hj e
  case index ty y i =>
    split at hx
    · rename_i len e' y' i' hu hy hi
      split at hx <;> simp at hx
      rename_i ag j hag hj; subst hx
      obtain ⟨e, rfl⟩ := evX_s rfl he
      simp only [evS] at e
      split at e <;> try (simp at e; done)
      rename_i cs k ix hc hix
      split at e <;> try (simp at e; done)
      rename_i h0
      exact ok_index S s hop hy hi hu hag hj hc hix h0 e
    · rename_i y' i' hu hy hi
      simp at hx; subst hx
      obtain ⟨e, rfl⟩ := evX_s rfl he
      simp only [evS] at e
      split at e <;> try (simp at e; done)
      rename_i str k ix hc hix
      split at e <;> try (simp at e; done)
      rename_i h0
      split at e <;> simp at e
      rename_i b hb; subst e
      exact ok_indexStr S s hop hy hi hu hc hix h0 hb
    · simp at hx
  case slice ty y lo hi mx =>
    split at hx
    · rename_i e' y' lo' hi' mx' hu hy hlo hhi hmx
      split at hx <;> try (simp at hx; done)
      rename_i j hj
      split at hx <;> simp at hx
      rename_i hm; subst hx
      obtain ⟨e, rfl⟩ := evX_s rfl he
      refine ok_slice S s hop hy hlo hhi hmx ?_ hu hj e
      have hms : mx'.isSome = mx.isSome := by
        cases mx with
        | none => simp [cOO] at hmx; subst hmx; rfl
        | some m => simp only [cOO] at hmx; split at hmx <;> simp at hmx; subst hmx; rfl
      have hhs : hi'.isNone = hi.isNone := by
        cases hi with
        | none => simp [cOO] at hhi; subst hhi; rfl
        | some m => simp only [cOO] at hhi; split at hhi <;> simp at hhi; subst hhi; rfl
      rw [← hms, ← hhs]
      cases mx' <;> cases hi' <;> simp_all
    · rename_i y' lo' hi' hu hy hlo hhi hmx
      simp at hx; subst hx
      have hmn : mx = none := by
        cases mx with
        | none => rfl
        | some m => simp only [cOO] at hmx; split at hmx <;> simp at hmx
      subst hmn
      obtain ⟨e, rfl⟩ := evX_s rfl he
      simp only [evS] at e
      split at e <;> try (simp at e; done)
      rename_i str hstr
      split at e <;> simp at e
      rename_i l hh m hb
      exact ok_sliceStr S s hop hy hlo hhi hu hstr hb e.symm
    · simp at hx
  case makeInterface ty y =>
    split at hx <;> simp at hx
    rename_i de y' hn hu hy; subst hx
    obtain ⟨e, rfl⟩ := evX_s rfl he
    simp only [evS, Option.some.injEq] at e; subst e
    exact ok_mkifc S s hop hy hu (fun ms hh => hn ms hh)
  case makeFunc fn y z =>
    split at hx <;> simp at hx
    rename_i y' z' hy hz; subst hx
    obtain ⟨e, rfl⟩ := evX_s rfl he
    simp only [evS, Option.some.injEq] at e; subst e
    exact ok_mkfn S s hop hy hz
  case makeSlice ty y z =>
    split at hx <;> try (simp at hx; done)
    rename_i e' y' z' hu hy hz
    split at hx <;> try (simp at hx; done)
    rename_i sz by_ zz hi
    split at hx <;> simp at hx
    rename_i hsz; subst hx
    have q := evX_w rfl he
    simp only [evW] at q
    split at q <;> try (simp at q; done)
    rename_i l c hl hc
    split at q <;> simp at q
    rename_i hcc
    obtain ⟨rfl, rfl⟩ := q
    exact ok_makeSlice S s hop hy hz hu hi hsz hl hc hcc
  case call c =>
    split at hx <;> try (simp at hx; done)
    rename_i args hargs
    split at hx
    · rename_i f hf
      simp at hx; subst hx
      cases draw
      · have q := evX_w rfl he
        simp only [evW] at q
        exact callW_ok S snd (vs := c.args.map a.eval) q (by simpa using cOs_rep s _ _ hargs) (fun hcl => call_run hop hf hcl)
      · obtain ⟨e, rfl⟩ := evX_s rfl he
        simp only [evS] at e
        split at e <;> try (simp at e; done)
        split at e <;> try (simp at e; done)
        rename_i ds hs
        exact ok_call S s snd hop hf hargs hs e
    · rename_i f hnf hf
      split at hx <;> simp at hx
      rename_i f' hf'; subst hx
      have q := evX_w rfl he
      simp only [evW] at q
      split at q <;> try (simp at q; done)
      rename_i g first cap hfn
      have r1 := cO_rep s hf'
      rw [hfn] at r1
      simp only [Rep] at r1
      obtain ⟨va, vc, hv, r1, r2⟩ := r1
      exact callW_ok S snd (vs := va ++ c.args.map a.eval ++ vc) q (by simpa using (r1.append (cOs_rep s _ _ hargs)).append r2) (fun hcl => callv_run hop hf hv hcl)
    · simp at hx
    · rename_i b hb
      split at hx
      · rename_i y t1 ht
        obtain ⟨y0, hy0, hy⟩ := cOs_one hargs
        split at hx
        · rename_i e' hu
          simp at hx; subst hx
          obtain ⟨e, rfl⟩ := evX_s rfl he
          exact ok_len S s hop hb hy0 ht hy hu e
        · rename_i hu
          simp at hx; subst hx
          obtain ⟨e, rfl⟩ := evX_s rfl he
          simp only [evS] at e
          split at e <;> simp at e
          rename_i str hstr; subst e
          exact ok_lenStr S s hop hb hy0 ht hy hu hstr
        · simp at hx
      · simp at hx; subst hx
        obtain ⟨e, rfl⟩ := evX_s rfl he
        simp only [evS] at e
        split at e <;> try (simp at e; done)
        rename_i y r hm
        exact ok_min S s hop hb hargs hm e
      · simp at hx; subst hx
        obtain ⟨e, rfl⟩ := evX_s rfl he
        simp only [evS] at e
        split at e <;> try (simp at e; done)
        rename_i y r hm
        exact ok_max S s hop hb hargs hm e
      · rename_i y z t1 t2 ht
        obtain ⟨y0, z0, hyz, hy, hz⟩ := cOs_two hargs
        split at hx <;> try (simp at hx; done)
        rename_i e1 e2 hu1 hu2
        split at hx <;> try (simp at hx; done)
        rename_i sz by_ zz hi
        split at hx <;> simp at hx
        rename_i hcc; subst hx
        have q := evX_w rfl he
        exact ok_append S s hop hb hyz ht hy hz hu1 hu2 hi hcc.2 q
      · rename_i y z t1 t2 ht
        obtain ⟨y0, z0, hyz, hy, hz⟩ := cOs_two hargs
        split at hx <;> try (simp at hx; done)
        rename_i e1 e2 hu1 hu2
        split at hx <;> try (simp at hx; done)
        rename_i sz by_ zz hi
        split at hx <;> simp at hx
        rename_i hcc; subst hx
        obtain ⟨inf, z', hi1, _, rfl, _⟩ := tInfo_spec hi
        have q := evX_w rfl he
        exact ok_copy S s hop hb hyz ht hy hz hu1 hi1 q
      · simp at hx

end

end Go.Proofs.Ytcbegcmlohnpcaa.E
