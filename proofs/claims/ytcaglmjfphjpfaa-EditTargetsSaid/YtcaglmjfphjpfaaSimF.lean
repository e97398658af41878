/- The same, on: structs and slices that are put together, structs that are compared. -/
import Derived.Test.YtcaglmjfphjpfaaSimE
namespace Go.Proofs.Ytcaglmjfphjpfaa.E
open Go

theorem put_list : (l : List Value) → (k off : Nat) → (cells : Array Value) → off + k + l.length ≤ cells.size →
    ((l.zipIdx k).foldl (fun (cs : Array Value) (p : Value × Nat) => cs.setIfInBounds (off + p.2) p.1) cells).toList = cells.toList.take (off + k) ++ l ++ cells.toList.drop (off + k + l.length)
  | [], k, off, cells, _ => by simp
  | v :: r, k, off, cells, hl => by
    simp only [List.zipIdx_cons, List.foldl_cons]
    rw [put_list r (k + 1) off _ (by simp at hl ⊢; omega)]
    have e := list_seg_step cells.toList (off + k) v r (by simp at hl ⊢; omega)
    simpa [Array.toList_setIfInBounds, Nat.add_assoc] using e

section
variable {P : Program} {o : Oper} {w : World} {Pr : Nat → Nat → Prop} {φ : List Nat} {h : List Blk} {t : Nat → D} {a : Act}

theorem putAt_rep {cs new : List D} {vs us : List Value} {off : Nat} (r : RepL w Pr φ h cs vs) (q : RepL w Pr φ h new us) : RepL w Pr φ h (putAt cs off new) (vs.take off ++ us ++ vs.drop (off + us.length)) := by
  unfold putAt
  rw [q.length]
  exact ((r.take off).append q).append (r.drop _)

theorem all_putAt {p : D → Bool} {cs new : List D} {off : Nat} (h1 : cs.all p = true) (h2 : new.all p = true) : (putAt cs off new).all p = true := by
  unfold putAt
  simp only [List.all_append, Bool.and_eq_true]
  exact ⟨⟨all_take _ h1, h2⟩, all_drop _ h1⟩

theorem fill_rep (s : Slots w Pr φ h t a) {place place' : Nat → Option (Nat × Nat)} (hp : ∀ i p, place i = some p → place' i = some p) : (parts : List (Nat × Operand)) → (ps : List (Nat × Nat × XO)) → cParts place parts = some ps →
    ∀ (cs : Array Value) (ds r : List D), RepL w Pr φ h ds cs.toList → ds.all D.one = true → fillD ds (ps.map fun (o, s, x) => (o, s, x.ev t)) = some r →
    ∃ cs' : Array Value, Instr.fill place' cs (parts.map fun (i, x) => (i, a.eval x)) = some cs' ∧ RepL w Pr φ h r cs'.toList ∧ r.all D.one = true
  | [], ps, hc, cs, ds, r, hr, h1, hf => by
    simp [cParts] at hc; subst hc
    simp [fillD] at hf; subst hf
    exact ⟨cs, by simp [Instr.fill], hr, h1⟩
  | (i, x) :: parts, ps, hc, cs, ds, r, hr, h1, hf => by
    simp only [cParts] at hc
    split at hc
    · rename_i off sz x' ps' hpl hx hps
      simp at hc; subst hc
      simp only [List.map_cons, fillD] at hf
      split at hf
      · rename_i new hnew
        split at hf
        · rename_i hle
          obtain ⟨q1, q2⟩ := cells_rep hnew (cO_rep s hx)
          have hlen := q1.length
          have hlc := hr.length
          simp at hlen hlc
          have hv := put_list (a.eval x).cells.toList 0 off cs (by simp; omega)
          have hr' : RepL w Pr φ h (putAt ds off new) ((a.eval x).cells.zipIdx.foldl (fun cs p => cs.setIfInBounds (off + p.2) p.1) cs).toList := by
            rw [← Array.foldl_toList, Array.toList_zipIdx, hv]
            exact putAt_rep hr q1
          obtain ⟨cs', g1, g2, g3⟩ := fill_rep s hp parts ps' hps _ _ r hr' (all_putAt h1 q2) hf
          refine ⟨cs', ?_, g2, g3⟩
          have c1 : ((a.eval x).cells.size ≠ sz || off + (a.eval x).cells.size > cs.size) = false := by
            simp; omega
          simp only [List.map_cons, Instr.fill, hp _ _ hpl, c1]
          exact g1
        · simp at hf
      · simp at hf
    · simp at hc

theorem run_listMapM {α β : Type} (f : α → Sem β) (g : α → β) : (xs : List α) → (∀ x ∈ xs, (f x).run P w = .ok (g x) w) → (xs.mapM f).run P w = .ok (xs.map g) w
  | [], _ => by simp
  | x :: xs, hx => by
    simp only [List.mapM_cons, Sem.run_bind, hx x (by simp), Result.andThen_ok, run_listMapM f g xs (fun y hy => hx y (by simp [hy])), Sem.run_pure, List.map_cons]

theorem run_mapM {α β : Type} (f : α → Sem β) (g : α → β) (xs : Array α) (hx : ∀ x ∈ xs, (f x).run P w = .ok (g x) w) : (xs.mapM f).run P w = .ok (xs.map g) w := by
  rw [Array.mapM_eq_mapM_toList, Sem.run_map, run_listMapM f g xs.toList (fun x hm => hx x (by simpa using hm))]
  simp only [Result.andThen_ok]
  congr 1
  exact Array.ext' (by simp)

theorem ok_build (S : Sim w Pr φ h) (s : Slots w Pr φ h t a) {ty : TypeId} {parts : Array (Nat × Operand)} {sz by_ : Nat} {zs ds : List D} {ps : List (Nat × Nat × XO)} (ho : o.op = .build ty parts) (hi : tInfo P ty = some (sz, by_, zs))
    (hps : cParts (placeOf P ty) parts.toList = some ps)
    (hu : (∃ fs, P.underlying ty = some (.struct fs) ∧ (fs.toList.all fun f => (P.info? f.type).isSome) = true) ∨ ∃ n e, P.underlying ty = some (.array n e) ∧ (P.info? e).isSome = true)
    (hd : fillD zs (ps.map fun (o, s, x) => (o, s, x.ev t)) = some ds) : OKop P o a w Pr φ h (.agg ds) h := by
  obtain ⟨i, z, hi1, hz, rfl, rfl, hof, hl⟩ := tInfo_spec hi
  obtain ⟨z1, z2⟩ := ofCells_rep (w := w) (Pr := Pr) (φ := φ) (h := h) _ _ hof
  rcases hu with ⟨fs, hu, hall⟩ | ⟨n, e, hu, he⟩
  · have hplaces : (fs.mapM fun f => do pure (f.offset, ← sizeOf f.type) : Sem _).run P w = .ok (fs.map fun f => (f.offset, ((P.info? f.type).map (·.size)).getD 0)) w := by
      refine run_mapM _ _ fs fun f hf => ?_
      have := List.all_eq_true.1 hall f (by simpa using hf)
      cases hh : P.info? f.type with
      | none => simp [hh] at this
      | some j => simp [size_run hh]
    obtain ⟨cs', g1, g2, g3⟩ := fill_rep s (place := placeOf P ty) (place' := ((fs.map fun f => (f.offset, ((P.info? f.type).map (·.size)).getD 0))[·]?)) (fun i p hp => by
      unfold placeOf at hp
      rw [hu] at hp
      simp only at hp
      split at hp
      · rename_i f hf
        split at hp
        · rename_i j hj
          simp at hp; subst hp
          simp [hf, hj]
        · simp at hp
      · simp at hp) _ _ hps z.cells zs ds z1 z2 hd
    refine OKop.val S (v := .agg cs') ?_ (by simp only [Rep]; exact ⟨cs', rfl, g3, g2⟩)
    have g1' : Instr.fill (fun x => (Array.map (fun f => (f.offset, (Option.map (fun x => x.size) (P.info? f.type)).getD 0)) fs)[x]?) z.cells (Array.map (fun p => (p.1, a.eval p.2)) parts).toList = some cs' := by
      simpa using g1
    simp only [execOp, ho, Instr.build, Sem.run_bind, zero_run hi1 hz, Result.andThen_ok, run_underlying hu, hplaces, g1', Sem.run_pure]
  · obtain ⟨cs', g1, g2, g3⟩ := fill_rep s (place := placeOf P ty) (place' := fun i => some (i * ((P.info? e).map (·.size)).getD 0, ((P.info? e).map (·.size)).getD 0)) (fun i p hp => by
      unfold placeOf at hp
      rw [hu] at hp
      simp only at hp
      split at hp
      · rename_i j hj
        split at hp
        · simp at hp; subst hp
          simp [hj]
        · simp at hp
      · simp at hp) _ _ hps z.cells zs ds z1 z2 hd
    refine OKop.val S (v := .agg cs') ?_ (by simp only [Rep]; exact ⟨cs', rfl, g3, g2⟩)
    cases hh : P.info? e with
    | none => simp [hh] at he
    | some j =>
      have g1' : Instr.fill (fun i => some (i * j.size, j.size)) z.cells (Array.map (fun p => (p.1, a.eval p.2)) parts).toList = some cs' := by
        simpa [hh] using g1
      simp only [execOp, ho, Instr.build, Sem.run_bind, zero_run hi1 hz, Result.andThen_ok, run_underlying hu, size_run hh, g1', Sem.run_pure]

theorem zeros_len (zs : List D) : (n : Nat) → (zeros zs n).length = n * zs.length
  | 0 => by simp [zeros]
  | n + 1 => by simp [zeros, zeros_len zs n, Nat.add_mul]; omega

theorem zeros_all {p : D → Bool} {zs : List D} (hz : zs.all p = true) : (n : Nat) → (zeros zs n).all p = true
  | 0 => rfl
  | n + 1 => by simp only [zeros, List.all_append, hz, zeros_all hz n, Bool.and_self]

theorem range_get (z : List Value) : (List.range z.length).map (fun i => z.toArray[i]!) = z := by
  apply List.ext_getElem?
  intro j
  by_cases hj : j < z.length
  · simp [hj]
  · simp [hj]

theorem made_list (z : Array Value) : (n : Nat) → ((List.range ((n + 1) * z.size)).map (z[· % z.size]!)) = z.toList ++ ((List.range (n * z.size)).map (z[· % z.size]!)) := by
  intro n
  rw [Nat.add_mul, Nat.one_mul, Nat.add_comm, List.range_add, List.map_append, List.map_map]
  congr 1
  · have := range_get z.toList
    simp only [Array.length_toList, Array.toArray_toList] at this
    rw [← this]
    apply List.map_congr_left
    intro i hi
    rw [Nat.mod_eq_of_lt (by simpa using hi)]
  · apply List.map_congr_left
    intro i hi
    simp [Nat.add_mod_left]

theorem zeros_rep {z : Array Value} {zs : List D} (hz : RepL w Pr φ h zs z.toList) : (n : Nat) → RepL w Pr φ h (zeros zs n) ((List.range (n * z.size)).map (z[· % z.size]!))
  | 0 => by simp [zeros, RepL]
  | n + 1 => by
    rw [made_list]
    exact hz.append (zeros_rep hz n)

/-- A new block in whose cells nobody writes, and the slice over it. -/
theorem imm_arr (S : Sim w Pr φ h) {cs : List D} {vs : Array Value} {e : TypeId} {n : Nat} (hn : n ≤ maxLen) (r : RepL w Pr [] [] cs vs.toList) (h1 : cs.all D.one = true) :
    ∃ Pr', Le w Pr φ h (w.alloc (.cells vs e)) Pr' φ h ∧ Fr w Pr φ (w.alloc (.cells vs e)) Pr' φ ∧ Sim (w.alloc (.cells vs e)) Pr' φ h ∧
      Rep (w.alloc (.cells vs e)) Pr' φ h (.arr n true cs) (.slice (some ⟨w.heap.size, 0, none⟩) n n) := by
  obtain ⟨l, f, S'⟩ := imm_alloc S (.cells vs e)
  refine ⟨_, l, f, S', ?_⟩
  simp only [Rep]
  refine ⟨some ⟨w.heap.size, 0, none⟩, n, vs.toList, rfl, Nat.le_refl _, hn, fun _ => rfl, by simp, ?_, h1, RepL.mono l.closed _ _ r⟩
  refine .inr ⟨w.heap.size, 0, rfl, fun j v hj => ⟨?_, .inr rfl⟩⟩
  rw [Nat.zero_add, World.cell?_alloc_new]
  simpa using hj

theorem seal1_rep {d d' : D} {v : Value} (he : seal1 d = some d') (r : Rep w Pr φ h d v) : Rep w Pr [] [] d' v ∧ (d.one = true → d'.one = true) := by
  unfold seal1 at he
  split at he
  · simp at he; subst he
    refine ⟨?_, fun _ => rfl⟩
    simp only [Rep] at r ⊢
    obtain ⟨ad, cap, vs, h1, h2, h3, h4, h5, h6, h7, h8⟩ := r
    exact ⟨ad, cap, vs, h1, h2, h3, by simp, h5, h6, h7, h8⟩
  · split at he
    · rename_i hp
      simp at he; subst he
      exact ⟨plain_closed hp r, id⟩
    · simp at he

theorem sealL_rep : (ds ds' : List D) → (vs : List Value) → sealL ds = some ds' → RepL w Pr φ h ds vs → RepL w Pr [] [] ds' vs ∧ (ds.all D.one = true → ds'.all D.one = true)
  | [], ds', vs, he, r => by simp [sealL] at he; subst he; simp [RepL] at r; subst r; simp [RepL]
  | d :: ds, ds', vs, he, r => by
    simp only [sealL] at he
    split at he
    · rename_i d' es h1 h2
      simp at he; subst he
      simp only [RepL] at r
      obtain ⟨v, us, rfl, r1, r2⟩ := r
      obtain ⟨q1, q2⟩ := seal1_rep h1 r1
      obtain ⟨q3, q4⟩ := sealL_rep ds es us h2 r2
      exact ⟨by simp only [RepL]; exact ⟨v, us, rfl, q1, q3⟩, fun hh => by simp at hh ⊢; exact ⟨q2 hh.1, by simpa using q4 (by simpa using hh.2)⟩⟩
    · simp at he

theorem buildSlice_run {ty e : TypeId} {len : Nat} {parts : Array (Nat × Operand)} {sz by_ : Nat} {zs ds : List D} {ps : List (Nat × Nat × XO)} (s : Slots w Pr φ h t a) (hu : P.underlying ty = some (.slice e)) (hi : tInfo P e = some (sz, by_, zs))
    (hps : cParts (fun i => if i < len then some (i * sz, sz) else none) parts.toList = some ps) (hsz : len * sz ≤ 16777216 ∧ 0 < sz)
    (hd : fillD (zeros zs len) (ps.map fun (o, s, x) => (o, s, x.ev t)) = some ds) :
    ∃ vs : Array Value, (Instr.buildSlice ty len (parts.map fun (i, x) => (i, a.eval x))).run P w = .ok (.slice (some ⟨w.heap.size, 0, none⟩) len len) (w.alloc (.cells vs e)) ∧ RepL w Pr φ h ds vs.toList ∧ ds.all D.one = true ∧ len ≤ maxLen := by
  obtain ⟨i, z, hi1, hz, rfl, rfl, hof, hl⟩ := tInfo_spec hi
  obtain ⟨z1, z2⟩ := ofCells_rep (w := w) (Pr := Pr) (φ := φ) (h := h) _ _ hof
  have hzl : z.cells.size = i.size := by have := z1.length; simp at this; omega
  have hr := zeros_rep z1 len
  obtain ⟨cs', g1, g2, g3⟩ := fill_rep s (place' := fun k => some (k * i.size, i.size)) (fun k p hp => by split at hp <;> simp_all) _ _ hps ((Array.range (len * i.size)).map (z.cells[· % z.cells.size]!)) (zeros zs len) ds (by
    have : ((Array.range (len * i.size)).map (z.cells[· % z.cells.size]!)).toList = (List.range (len * z.cells.size)).map (z.cells[· % z.cells.size]!) := by
      rw [hzl]; simp
    rw [this]; exact hr) (zeros_all z2 len) hd
  have hlen : len ≤ len * i.size := Nat.le_mul_of_pos_right _ hsz.2
  refine ⟨cs', ?_, g2, g3, by simp only [maxLen]; omega⟩
  have g1' : Instr.fill (fun k => some (k * i.size, i.size)) ((Array.range (len * i.size)).map (z.cells[· % z.cells.size]!)) (Array.map (fun p => (p.1, a.eval p.2)) parts).toList = some cs' := by
    simpa using g1
  have hbig : ¬ (16777216 < len * i.size) := by omega
  by_cases h0 : len * i.size = 0
  · have hl0 : len = 0 := by
      rcases Nat.mul_eq_zero.1 h0 with h | h
      · exact h
      · omega
    subst hl0
    have g1'' : Instr.fill (fun k => some (k * i.size, i.size)) #[] (Array.map (fun p => (p.1, a.eval p.2)) parts).toList = some cs' := by
      simpa [Array.range_zero'] using g1'
    have g1q : Instr.fill (fun k => some (k * i.size, i.size)) #[] (parts.toList.map (fun p => (p.1, a.eval p.2))) = some cs' := by simpa using g1''
    simp [Instr.buildSlice, run_underlying hu, size_run hi1, newRow, Array.range_zero', g1q]
  · simp only [Instr.buildSlice, Sem.run_bind, run_underlying hu, Result.andThen_ok, size_run hi1, Sem.run_ite]
    simp only [show ¬ (len * i.size > 2 ^ 24) by omega, if_false, h0, Sem.run_pure, Result.andThen_ok, Sem.run_bind, zero_run hi1 hz, g1', newRow, run_newObj, World.alloc_eq]

theorem ok_buildSlice (S : Sim w Pr φ h) (s : Slots w Pr φ h t a) {ty e : TypeId} {len : Nat} {parts : Array (Nat × Operand)} {sz by_ : Nat} {zs ds ds' : List D} {ps : List (Nat × Nat × XO)} (ho : o.op = .buildSlice ty len parts)
    (hu : P.underlying ty = some (.slice e)) (hi : tInfo P e = some (sz, by_, zs))
    (hps : cParts (fun i => if i < len then some (i * sz, sz) else none) parts.toList = some ps) (hsz : len * sz ≤ 16777216 ∧ 0 < sz)
    (hd : fillD (zeros zs len) (ps.map fun (o, s, x) => (o, s, x.ev t)) = some ds) (hs : sealL ds = some ds') : OKop P o a w Pr φ h (.arr len true ds') h := by
  obtain ⟨vs, g1, g2, g3, g4⟩ := buildSlice_run s hu hi hps hsz hd
  obtain ⟨q1, q2⟩ := sealL_rep _ _ _ hs g2
  obtain ⟨Pr', l, f, S', r⟩ := imm_arr S (e := e) g4 q1 (q2 g3)
  refine OKop.go ?_ l f S' r
  simp only [execOp, ho, Sem.run_bind, g1, Result.andThen_ok, Sem.run_pure]

/-! ### Structs compared -/

def eqOffs (ds es : List D) : List (Nat × Nat) → Option Bool
  | [] => some true
  | (o, k) :: r => match ds[o]?, es[o]? with
    | some a, some b => match eqCell k a b with
      | some true => eqOffs ds es r
      | x => x
    | _, _ => none

theorem eqOffs_append {ds es : List D} : (xs ys : List (Nat × Nat)) → eqOffs ds es (xs ++ ys) = match eqOffs ds es xs with
    | some true => eqOffs ds es ys
    | x => x
  | [], ys => by simp [eqOffs]
  | (o, k) :: r, ys => by
    simp only [List.cons_append, eqOffs]
    split
    · split
      · exact eqOffs_append r ys
      · rename_i x hx
        split
        · rename_i he; simp_all
        · rfl
    · rfl

theorem eqOffs_cells : (offs : List (Nat × Nat)) → (ds es p q : List D) → p.length = q.length → ds.length = offs.length → offs.map (·.1) = List.range' p.length offs.length → ∀ b, eqCells (offs.map (·.2)) ds es = some b → eqOffs (p ++ ds) (q ++ es) offs = some b
  | [], ds, es, p, q, hp, hl, ho, b, he => by
    cases ds <;> cases es <;> simp [eqCells] at he
    subst he
    simp [eqOffs]
  | (o, k) :: offs, [], es, p, q, hp, hl, ho, b, he => by simp at hl
  | (o, k) :: offs, d :: ds, [], p, q, hp, hl, ho, b, he => by simp [eqCells] at he
  | (o, k) :: offs, d :: ds, e :: es, p, q, hp, hl, ho, b, he => by
    simp only [List.map_cons, eqCells] at he
    simp only [List.map_cons, List.length_cons, List.range'_succ, List.cons.injEq] at ho
    obtain ⟨rfl, ho⟩ := ho
    simp only [eqOffs]
    have e1 : (p ++ d :: ds)[p.length]? = some d := by simp
    have e2 : (q ++ e :: es)[p.length]? = some e := by rw [hp]; simp
    rw [e1, e2]
    simp only
    cases hc : eqCell k d e with
    | none => simp [hc] at he
    | some x =>
      cases x
      · simp [hc] at he ⊢; exact he
      · simp [hc] at he ⊢
        have := eqOffs_cells offs ds es (p ++ [d]) (q ++ [e]) (by simp [hp]) (by simpa using hl) (by simpa using ho) b he
        simpa using this

theorem part_extract {cs : Array Value} {off sz o : Nat} {e : TypeId} {j : TypeInfo} {de : TypeDesc} (hu : P.underlying e = some de) (hj : P.info? e = some j) (h0 : 0 < j.size) (hle : o + j.size ≤ sz) :
    (part e (cs.extract off (off + sz)) o).run P w = (part e cs (off + o)).run P w := by
  by_cases hag : (isAgg e).run P w = .ok true w
  · simp only [part, Sem.run_bind, hag, Result.andThen_ok, if_true, size_run hj, Sem.run_pure]
    congr 2
    rw [Array.extract_extract]
    congr 1
    omega
  · by_cases hag2 : (isAgg e).run P w = .ok false w
    · simp only [part, Sem.run_bind, hag2, Result.andThen_ok, Bool.false_eq_true, if_false]
      have : (cs.extract off (off + sz))[o]? = cs[off + o]? := by
        rw [Array.getElem?_extract]
        have h1 : o < min (off + sz) cs.size - off ∨ ¬ (o < min (off + sz) cs.size - off) := Decidable.em _
        rcases h1 with h1 | h1
        · simp [h1]
        · simp only [h1, if_false]
          symm
          rw [Array.getElem?_eq_none]
          omega
      rw [this]
    · exfalso
      unfold isAgg at hag hag2
      simp only [Sem.run_bind, run_underlying hu] at hag hag2
      cases de <;> simp_all

theorem part_cell {cs : Array Value} {o : Nat} {e : TypeId} {de : TypeDesc} {v : Value} (hu : P.underlying e = some de) (hk : (∃ k, de = .int k) ∨ de = .bool ∨ de = .string) (hv : cs[o]? = some v) : (part e cs o).run P w = .ok v w := by
  rcases hk with ⟨k, rfl⟩ | rfl | rfl <;> simp [part, isAgg, run_underlying hu, hv]

theorem part_struct {cs : Array Value} {o : Nat} {e : TypeId} {fs : Array Field} {i : TypeInfo} (hu : P.underlying e = some (.struct fs)) (hi : P.info? e = some i) : (part e cs o).run P w = .ok (.agg (cs.extract o (o + i.size))) w := by
  simp [part, isAgg, run_underlying hu, size_run hi]

theorem eqIn_run {xs ys : Array Value} {ds es : List D} (rx : RepL w Pr φ h ds xs.toList) (ry : RepL w Pr φ h es ys.toList) : (n : Nat) → (ty : TypeId) → (off : Nat) → (offs : List (Nat × Nat)) → flatEq P n ty off = some offs →
    ∀ b, eqOffs ds es offs = some b → ∀ v u, (part ty xs off).run P w = .ok v w → (part ty ys off).run P w = .ok u w → ∀ m, n ≤ m → (Op.equalIn m ty v u).run P w = .ok b w
  | 0, ty, off, offs, hf, b, he, v, u, hv, hu, m, hm => by simp [flatEq] at hf
  | n + 1, ty, off, offs, hf, b, he, v, u, hv, hu, m, hm => by
    obtain ⟨m, rfl⟩ : ∃ m', m = m' + 1 := ⟨m - 1, by omega⟩
    have cell : ∀ (k : Nat), offs = [(off, k)] → ∃ d e, ds[off]? = some d ∧ es[off]? = some e ∧ eqCell k d e = some b ∧ ∃ x y, xs[off]? = some x ∧ ys[off]? = some y ∧ Rep w Pr φ h d x ∧ Rep w Pr φ h e y := by
      intro k hk
      subst hk
      simp only [eqOffs] at he
      split at he
      · rename_i d e hd hes
        obtain ⟨x, hx, r1⟩ := rx.get _ _ hd
        obtain ⟨y, hy, r2⟩ := ry.get _ _ hes
        refine ⟨d, e, hd, hes, ?_, x, y, by simpa using hx, by simpa using hy, r1, r2⟩
        split at he
        · rename_i hc; rw [hc]; exact he
        · exact he
      · simp at he
    simp only [flatEq] at hf
    split at hf
    · rename_i k hty
      simp at hf
      obtain ⟨d, e, _, _, hc, x, y, hx, hy, r1, r2⟩ := cell 0 hf.symm
      rw [part_cell hty (.inl ⟨k, rfl⟩) hx] at hv
      rw [part_cell hty (.inl ⟨k, rfl⟩) hy] at hu
      simp at hv hu
      subst hv hu
      cases d <;> simp only [eqCell, reduceCtorEq] at hc
      cases e <;> simp only [reduceCtorEq] at hc
      split at hc <;> simp at hc
      rename_i hk
      subst hk hc
      simp only [Rep] at r1 r2
      subst r1 r2
      exact run_equalIn_int w m ty _ k _ _ hty
    · rename_i hty
      simp at hf
      obtain ⟨d, e, _, _, hc, x, y, hx, hy, r1, r2⟩ := cell 1 hf.symm
      rw [part_cell hty (.inr (.inl rfl)) hx] at hv
      rw [part_cell hty (.inr (.inl rfl)) hy] at hu
      simp at hv hu
      subst hv hu
      cases d <;> simp only [eqCell, reduceCtorEq] at hc
      cases e <;> simp only [reduceCtorEq, Option.some.injEq] at hc
      subst hc
      simp only [Rep] at r1 r2
      subst r1 r2
      exact run_equalIn_bool w m ty _ _ hty
    · rename_i hty
      simp at hf
      obtain ⟨d, e, _, _, hc, x, y, hx, hy, r1, r2⟩ := cell 2 hf.symm
      rw [part_cell hty (.inr (.inr rfl)) hx] at hv
      rw [part_cell hty (.inr (.inr rfl)) hy] at hu
      simp at hv hu
      subst hv hu
      cases d <;> simp only [eqCell, reduceCtorEq] at hc
      cases e <;> simp only [reduceCtorEq, Option.some.injEq] at hc
      subst hc
      simp only [Rep] at r1 r2
      subst r1 r2
      exact run_equalIn_string w m ty _ _ hty
    · rename_i fs hty
      split at hf
      · simp at hf
      · rename_i hst
        split at hf
        · rename_i i hi
          rw [part_struct hty hi] at hv hu
          simp at hv hu
          subst hv hu
          have hfo : P.fieldsOf ty = fs := by simp [Program.fieldsOf, hty]
          rw [run_equalIn_struct w m ty _ _ (by rw [hfo]; exact hty) (by simpa using hst), hfo]
          have key : ∀ (l : List Field) (offs : List (Nat × Nat)) (b : Bool), flatL P (flatEq P n) off i.size l = some offs → eqOffs ds es offs = some b →
              (Op.eqFields m (xs.extract off (off + i.size)) (ys.extract off (off + i.size)) l).run P w = .ok b w := by
            intro l
            induction l with
            | nil =>
              intro offs b hl hb
              simp [flatL] at hl; subst hl
              simp [eqOffs] at hb; subst hb
              simp [Op.eqFields]
            | cons f l ih =>
              intro offs b hl hb
              simp only [flatL] at hl
              split at hl
              · simp at hl
              · rename_i hname
                split at hl
                · rename_i j hj
                  split at hl
                  · rename_i hle
                    split at hl
                    · rename_i o1 o2 h1 h2
                      simp at hl; subst hl
                      rw [eqOffs_append] at hb
                      have hne : eqOffs ds es o1 ≠ none := by intro hn; rw [hn] at hb; simp at hb
                      obtain ⟨b1, hb1⟩ := Option.ne_none_iff_exists'.1 hne
                      obtain ⟨df, hdf⟩ : ∃ df, P.underlying f.type = some df := by
                        cases n with
                        | zero => simp [flatEq] at h1
                        | succ n => cases hh : P.underlying f.type with
                          | none => simp [flatEq, hh] at h1
                          | some df => exact ⟨df, rfl⟩
                      have hpx : ∃ v, (part f.type xs (off + f.offset)).run P w = .ok v w ∧ ∃ u, (part f.type ys (off + f.offset)).run P w = .ok u w := by
                        cases n with
                        | zero => simp [flatEq] at h1
                        | succ n =>
                          have cells1 : ∀ k, o1 = [(off + f.offset, k)] → ∃ x y, xs[off + f.offset]? = some x ∧ ys[off + f.offset]? = some y := by
                            intro k hk
                            subst hk
                            simp only [eqOffs] at hb1
                            split at hb1
                            · rename_i d e hd hes
                              obtain ⟨x, hx, _⟩ := rx.get _ _ hd
                              obtain ⟨y, hy, _⟩ := ry.get _ _ hes
                              exact ⟨x, y, by simpa using hx, by simpa using hy⟩
                            · simp at hb1
                          simp only [flatEq] at h1
                          split at h1
                          · rename_i k hk
                            simp at h1
                            obtain ⟨x, y, hx, hy⟩ := cells1 _ h1.symm
                            exact ⟨x, part_cell hk (.inl ⟨_, rfl⟩) hx, y, part_cell hk (.inl ⟨_, rfl⟩) hy⟩
                          · rename_i hk
                            simp at h1
                            obtain ⟨x, y, hx, hy⟩ := cells1 _ h1.symm
                            exact ⟨x, part_cell hk (.inr (.inl rfl)) hx, y, part_cell hk (.inr (.inl rfl)) hy⟩
                          · rename_i hk
                            simp at h1
                            obtain ⟨x, y, hx, hy⟩ := cells1 _ h1.symm
                            exact ⟨x, part_cell hk (.inr (.inr rfl)) hx, y, part_cell hk (.inr (.inr rfl)) hy⟩
                          · rename_i hk
                            exact ⟨_, part_struct hk hj, _, part_struct hk hj⟩
                          · simp at h1
                      obtain ⟨v, hv, u, hu⟩ := hpx
                      have hrec := eqIn_run rx ry n f.type (off + f.offset) o1 h1 b1 hb1 v u hv hu m (by omega)
                      rw [Op.eqFields, if_pos hname]
                      simp only [Sem.run_bind, part_extract hdf hj hle.1 hle.2, hv, hu, Result.andThen_ok, hrec]
                      cases b1
                      · simp [hb1] at hb; subst hb
                        simp
                      · simp [hb1] at hb
                        simp [ih o2 b h2 hb]
                    · simp at hl
                  · simp at hl
                · simp at hl
          exact key fs.toList offs b hf he
        · simp at hf
    · simp at hf

theorem ok_eqAgg (S : Sim w Pr φ h) (s : Slots w Pr φ h t a) {neg : Bool} {ty ty2 : TypeId} {x y : Operand} {x' y' : XO} {xs ys : List D} {b : Bool} {fs : Array Field} {offs : List (Nat × Nat)} {i : TypeInfo}
    (ho : o.op = .binOp (if neg then .neq else .eql) ty x y ty2) (hx : cO x = some x') (hy : cO y = some y') (hu : P.underlying ty = some (.struct fs)) (hf : flatEq P 100 ty 0 = some offs) (hi : P.info? ty = some i)
    (hr : offs.map (·.1) = List.range i.size) (hg : P.eqGuardType P.depth ty = false) (hex : x'.ev t = .agg xs) (hey : y'.ev t = .agg ys) (hl : xs.length = offs.length) (hl2 : ys.length = offs.length) (he : eqCells (offs.map (·.2)) xs ys = some b) :
    OKop P o a w Pr φ h (.bool (bif neg then !b else b)) h := by
  have r1 := cO_rep s hx
  have r2 := cO_rep s hy
  rw [hex] at r1; rw [hey] at r2
  simp only [Rep] at r1 r2
  obtain ⟨vx, ex, _, rx⟩ := r1
  obtain ⟨vy, ey, _, ry⟩ := r2
  have hlen : offs.length = i.size := by have := congrArg List.length hr; simpa using this
  have hlx := rx.length
  have hly := ry.length
  have hys : ys.length = xs.length := hl2.trans hl.symm
  simp at hlx hly
  have hoffs := eqOffs_cells offs xs ys [] [] rfl hl (by rw [hr]; simp [hlen, List.range_eq_range']) b he
  simp only [List.nil_append] at hoffs
  have p1 : (part ty vx 0).run P w = .ok (.agg vx) w := by
    rw [part_struct hu hi]; congr 2; rw [Nat.zero_add, ← hlen, ← hl, ← hlx, Array.extract_size]
  have p2 : (part ty vy 0).run P w = .ok (.agg vy) w := by
    rw [part_struct hu hi]; congr 2; rw [Nat.zero_add, ← hlen, ← hl, ← hys, ← hly, Array.extract_size]
  have hrun := eqIn_run rx ry 100 ty 0 offs hf b hoffs _ _ p1 p2 10000 (by omega)
  refine OKop.val S (v := .bool (bif neg then !b else b)) ?_ (by simp only [Rep])
  cases neg
  · simp only [Bool.false_eq_true, if_false] at ho
    simp only [execOp, ho, ex, ey, Sem.run_bind, run_eqGuard_agg w _ ty x y vx vy hg, Result.andThen_ok, run_eql_struct, hrun, Sem.run_pure, cond_false]
  · simp only [if_true] at ho
    simp only [execOp, ho, ex, ey, Sem.run_bind, run_eqGuard_agg w _ ty x y vx vy hg, Result.andThen_ok, run_neq_struct, hrun, Sem.run_pure, cond_true]

end

end Go.Proofs.Ytcaglmjfphjpfaa.E
