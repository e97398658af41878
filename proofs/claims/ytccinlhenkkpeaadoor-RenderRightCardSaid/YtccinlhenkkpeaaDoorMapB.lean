/- Maps: a function that builds one. -/
import Derived.Test.YtccinlhenkkpeaaDoorIter
namespace Go.Proofs.YtccinlhenkkpeaaDoor.E
open Go
set_option linter.unusedSimpArgs false
set_option linter.unusedVariables false

section
variable {P : Program} {w : World} {Pr : Nat → Nat → Prop}

/-- The same, turned by the data's order. -/
theorem PL.perm' {ps ps' : List (D × D)} (hp : ps.Perm ps') : ∀ l, PL w Pr ps l → ∃ l', l.Perm l' ∧ PL w Pr ps' l' := by
  induction hp with
  | nil => intro l h; exact ⟨l, .refl _, h⟩
  | cons x _ ih =>
    intro l h
    simp only [PL] at h
    obtain ⟨q, r, rfl, h1, h2, h3⟩ := h
    obtain ⟨l', g1, g2⟩ := ih r h3
    exact ⟨q :: l', g1.cons q, by simp only [PL]; exact ⟨_, _, rfl, h1, h2, g2⟩⟩
  | swap x y ps =>
    intro l h
    simp only [PL] at h
    obtain ⟨q, r, rfl, h1, h2, q2, r2, rfl, h4, h5, h6⟩ := h
    exact ⟨q2 :: q :: r2, .swap _ _ _, by simp only [PL]; exact ⟨_, _, rfl, h4, h5, _, _, rfl, h1, h2, h6⟩⟩
  | trans _ _ ih1 ih2 =>
    intro l h
    obtain ⟨l1, g1, g2⟩ := ih1 l h
    obtain ⟨l2, g3, g4⟩ := ih2 l1 g2
    exact ⟨l2, g1.trans g3, g4⟩

theorem PL.mono {w' : World} {Pr' : Nat → Nat → Prop} (l : Le w Pr [] [] w' Pr' [] []) : (ps : List (D × D)) → (vs : List (Value × Value)) → PL w Pr ps vs → PL w' Pr' ps vs
  | [], vs, h => h
  | p :: ps, vs, h => by
    simp only [PL] at h ⊢
    obtain ⟨q, r, e, h1, h2, h3⟩ := h
    exact ⟨q, r, e, Rep.mono l _ _ h1, Rep.mono l _ _ h2, PL.mono l ps r h3⟩

theorem PL.snoc : (ps : List (D × D)) → (vs : List (Value × Value)) → PL w Pr ps vs → ∀ {p : D × D} {q : Value × Value}, Rep w Pr [] [] p.1 q.1 → Rep w Pr [] [] p.2 q.2 → PL w Pr (ps ++ [p]) (vs ++ [q])
  | [], vs, h, p, q, h1, h2 => by
    simp only [PL] at h
    subst h
    simp only [List.nil_append, PL]
    exact ⟨q, [], rfl, h1, h2, rfl⟩
  | x :: ps, vs, h, p, q, h1, h2 => by
    simp only [PL] at h
    obtain ⟨y, r, rfl, g1, g2, g3⟩ := h
    simp only [List.cons_append, PL]
    exact ⟨y, r ++ [q], rfl, g1, g2, PL.snoc ps r g3 h1 h2⟩

theorem PL.split : (ps : List (D × D)) → (vs : List (Value × Value)) → PL w Pr ps vs → RepL w Pr [] [] (ps.map (·.1)) (vs.map (·.1)) ∧ RepL w Pr [] [] (ps.map (·.2)) (vs.map (·.2))
  | [], vs, h => by simp only [PL] at h; subst h; simp [RepL]
  | p :: ps, vs, h => by
    simp only [PL] at h
    obtain ⟨q, r, rfl, h1, h2, h3⟩ := h
    obtain ⟨g1, g2⟩ := PL.split ps r h3
    simp only [List.map_cons, RepL]
    exact ⟨⟨_, _, rfl, h1, g1⟩, ⟨_, _, rfl, h2, g2⟩⟩

/-! ### The order of a drawn region -/

/-- Orders in which each operation stands behind those that it waits for; 'd': what is done. -/
inductive Elig (ops : Array Oper) : (Nat → Bool) → List Nat → Prop
  | nil {d} : (∀ i, i < ops.size → d i = true) → Elig ops d []
  | cons {d i o L} : ops[i]? = some o → d i = false → (∀ e ∈ o.after, Region.binds .any e = true → d e.on = true) → Elig ops (fun j => if j = i then true else d j) L → Elig ops d (i :: L)

theorem elig_go {ops : Array Oper} (hedge : ∀ (i : Nat) (o : Oper), ops[i]? = some o → ∀ e ∈ o.after, Region.binds .any e = true → e.on < i) :
    ∀ (fuel t : Nat) (listed : Array Bool) (acc : List Nat), listed.size = ops.size → ((List.range ops.size).filter fun i => !listed.getD i true).length ≤ fuel →
      ∃ L, Region.linearise.go .any ops fuel t listed acc = acc.reverse ++ L ∧ Elig ops (fun i => listed.getD i false) L := by
  intro fuel
  induction fuel with
  | zero =>
    intro t listed acc hs hf
    refine ⟨[], by simp [Region.linearise.go], .nil fun i hi => ?_⟩
    have := List.eq_nil_of_length_eq_zero (Nat.le_zero.1 hf)
    rw [List.filter_eq_nil_iff] at this
    have := this i (by simpa using hi)
    simp only [Array.getD_eq_getD_getElem?] at this ⊢
    rw [Array.getElem?_eq_getElem (by omega)] at this ⊢
    simpa using this
  | succ fuel ih =>
    intro t listed acc hs hf
    simp only [Region.linearise.go]
    split
    · rename_i i hi
      have hmem := List.mem_of_getElem? hi
      simp only [List.mem_filter, List.mem_range, Bool.and_eq_true, Bool.not_eq_true'] at hmem
      obtain ⟨hlt, hl, ha⟩ := hmem
      rw [Array.getElem?_eq_getElem hlt] at ha
      simp only [Option.map_some, Option.getD_some] at ha
      obtain ⟨L, g1, g2⟩ := ih (t / _) (listed.setIfInBounds i true) (i :: acc) (by simp [hs]) (by
        have hsub : ((List.range ops.size).filter fun j => !(listed.setIfInBounds i true).getD j true).length < ((List.range ops.size).filter fun j => !listed.getD j true).length := by
          have h1 : (List.range ops.size).filter (fun j => !(listed.setIfInBounds i true).getD j true) = ((List.range ops.size).filter fun j => !listed.getD j true).filter (fun j => j != i) := by
            rw [List.filter_filter]
            apply List.filter_congr
            intro j hj
            simp only [Array.getD_eq_getD_getElem?, Array.getElem?_setIfInBounds]
            by_cases hji : i = j
            · subst hji
              have : i < listed.size := by omega
              simp [this]
            · have : (j != i) = true := by simpa using fun e => hji e.symm
              simp [hji, this]
          rw [h1]
          have hin : i ∈ (List.range ops.size).filter fun j => !listed.getD j true := by
            simp only [List.mem_filter, List.mem_range]
            exact ⟨hlt, by rw [hl]; rfl⟩
          exact List.length_filter_lt_length_iff_exists.2 ⟨i, hin, by simp⟩
        omega)
      refine ⟨i :: L, by rw [g1]; simp, ?_⟩
      refine .cons (o := ops[i]) (Array.getElem?_eq_getElem hlt) ?_ ?_ ?_
      · simp only [Array.getD_eq_getD_getElem?] at hl ⊢
        rw [Array.getElem?_eq_getElem (by omega)] at hl ⊢
        exact hl
      · intro e he hb
        have := Array.all_eq_true_iff_forall_mem.1 ha e he
        simpa [hb] using this
      · have : (fun j => if j = i then true else listed.getD j false) = fun j => (listed.setIfInBounds i true).getD j false := by
          funext j
          simp only [Array.getD_eq_getD_getElem?, Array.getElem?_setIfInBounds]
          by_cases hji : j = i
          · subst hji
            have : j < listed.size := by omega
            simp [this]
          · simp [hji, Ne.symm hji]
        rw [this]
        exact g2
    · rename_i hnone
      refine ⟨[], by simp, .nil fun i hi => ?_⟩
      -- the least one that is not listed could go
      have key : ∀ n, ∀ i, i < n → i < ops.size → listed.getD i false = true := by
        intro n
        induction n with
        | zero => intro i h; omega
        | succ n ihn =>
          intro i hin hio
          by_cases hlt : i < n
          · exact ihn i hlt hio
          · cases hl : listed.getD i false with
            | true => rfl
            | false =>
              exfalso
              have helig : i ∈ (List.range ops.size).filter fun i => !listed.getD i true && ((ops[i]?).map (·.after.all fun e => !Region.binds .any e || listed.getD e.on false)).getD false := by
                simp only [List.mem_filter, List.mem_range, Bool.and_eq_true, Bool.not_eq_true']
                refine ⟨hio, ?_, ?_⟩
                · simp only [Array.getD_eq_getD_getElem?] at hl ⊢
                  rw [Array.getElem?_eq_getElem (by omega)] at hl ⊢
                  exact hl
                · rw [Array.getElem?_eq_getElem hio]
                  simp only [Option.map_some, Option.getD_some]
                  rw [Array.all_eq_true_iff_forall_mem]
                  intro e he
                  cases hb : Region.binds .any e
                  · rfl
                  · have hlt2 := hedge i ops[i] (Array.getElem?_eq_getElem hio) e he hb
                    simp [ihn e.on (by omega) (by omega)]
              have hpos : 0 < ((List.range ops.size).filter fun i => !listed.getD i true && ((ops[i]?).map (·.after.all fun e => !Region.binds .any e || listed.getD e.on false)).getD false).length := List.length_pos_of_mem helig
              rw [List.getElem?_eq_none_iff] at hnone
              have := Nat.mod_lt t hpos
              omega
      exact key (i + 1) i (by omega) hi

theorem elig_linearise {ops : Array Oper} (hedge : ∀ (i : Nat) (o : Oper), ops[i]? = some o → ∀ e ∈ o.after, Region.binds .any e = true → e.on < i) (t : Nat) : Elig ops (fun _ => false) (Region.linearise .any ops t) := by
  obtain ⟨L, g1, g2⟩ := elig_go hedge ops.size t (Array.replicate ops.size false) [] (by simp) (by
    exact Nat.le_trans (List.length_filter_le _ _) (by simp))
  have : Region.linearise .any ops t = L := by unfold Region.linearise; rw [g1]; rfl
  rw [this]
  have e : (fun i => (Array.replicate ops.size false).getD i false) = fun _ => false := by
    funext i
    rw [Array.getD_eq_getD_getElem?, Array.getElem?_replicate]
    split <;> rfl
  rw [e] at g2
  exact g2

/-- What holds whatever the order is. -/
theorem wp_elig {ops : Array Oper} {Q : Exit → Act → World → Prop} (Inv : (Nat → Bool) → Act → World → Prop)
    (hstep : ∀ d i o a w, ops[i]? = some o → d i = false → (∀ e ∈ o.after, Region.binds .any e = true → d e.on = true) → Inv d a w → ∀ rest, (∀ a' w', Inv (fun j => if j = i then true else d j) a' w' → wpOpsIn (FR none) 0 P ops Q rest a' w') → wpOpsIn (FR none) 0 P ops Q (i :: rest) a w)
    (hend : ∀ d a w, (∀ i, i < ops.size → d i = true) → Inv d a w → Q .normal a w) {d : Nat → Bool} {L : List Nat} (hL : Elig ops d L) : ∀ a w, Inv d a w → wpOpsIn (FR none) 0 P ops Q L a w := by
  induction hL with
  | nil h => intro a w hi; exact hend _ a w h hi
  | cons ho hd hp _ ih => intro a w hi; exact hstep _ _ _ a w ho hd hp hi _ ih

/-! ### A region that builds a map -/

/-- Operations of it that the evaluator does not do: the map is made, is written, and is handed on (ms: its slot). -/
def skipM (ms qs : Nat) (x : XOp) : Bool := match x.x with
  | .mkmap => true
  | .insert .. => true
  | .mov (.t s) => s == ms || s == qs
  | _ => false

/-- The other ones, one behind the other. -/
def seqT (C : Calls) (ms qs : Nat) : List XOp → (Nat → D) → Option (Nat → D)
  | [], t => some t
  | x :: r, t => bif skipM ms qs x then seqT C ms qs r t else match evX C true x.x t [] with
    | some (d, []) => seqT C ms qs r (updO t x.dst d)
    | _ => none

/-- Each writes a slot of its own, and reads none that is written from there on. -/
def okSeq (ms qs : Nat) : List XOp → Bool
  | [] => true
  | x :: r => (skipM ms qs x || (x.x.uses.all fun u => (x :: r).all fun y => y.dst != some u)) && (match x.dst with | some s => r.all fun y => y.dst != some s | none => true) && okSeq ms qs r

theorem seqT_keep {C : Calls} {ms qs u : Nat} : (l : List XOp) → (t T : Nat → D) → seqT C ms qs l t = some T → (∀ y ∈ l, y.dst ≠ some u) → T u = t u
  | [], t, T, h, hu => by simp [seqT] at h; rw [h]
  | x :: r, t, T, h, hu => by
    simp only [seqT] at h
    cases hs : skipM ms qs x
    · rw [hs, cond_false] at h
      split at h <;> try (simp at h; done)
      rename_i d hd
      rw [seqT_keep r _ T h fun y hy => hu y (by simp [hy])]
      have := hu x (by simp)
      cases hx : x.dst with
      | none => rfl
      | some s =>
        have : ¬ u = s := fun e => this (by rw [hx, e])
        simp [updO, upd, this]
    · rw [hs, cond_true] at h
      exact seqT_keep r t T h fun y hy => hu y (by simp [hy])

theorem seqT_at {C : Calls} {ms qs : Nat} : (l : List XOp) → (t T : Nat → D) → seqT C ms qs l t = some T → okSeq ms qs l = true → ∀ x ∈ l, skipM ms qs x = false → ∃ d, evX C true x.x T [] = some (d, []) ∧ ∀ s, x.dst = some s → T s = d
  | [], t, T, h, ho, x, hx, hs => by simp at hx
  | y :: r, t, T, h, ho, x, hx, hs => by
    simp only [okSeq, Bool.and_eq_true] at ho
    obtain ⟨⟨o1, o2⟩, o3⟩ := ho
    simp only [seqT] at h
    rcases List.mem_cons.1 hx with rfl | hx
    · rw [hs, cond_false] at h
      split at h <;> try (simp at h; done)
      rename_i d hd
      rw [hs, Bool.false_or] at o1
      refine ⟨d, ?_, fun s hxs => ?_⟩
      · rw [← hd]
        refine evX_congr fun u hu => ?_
        have h1 := List.all_eq_true.1 o1 u hu
        have h2 : ∀ z ∈ x :: r, z.dst ≠ some u := fun z hz => by simpa using List.all_eq_true.1 h1 z hz
        rw [seqT_keep r _ T h fun z hz => h2 z (by simp [hz])]
        have := h2 x (by simp)
        cases hx : x.dst with
        | none => rfl
        | some s =>
          have : ¬ u = s := fun e => this (by rw [hx, e])
          simp [updO, upd, this]
      · rw [hxs] at o2
        simp only [List.all_eq_true] at o2
        rw [seqT_keep r _ T h fun z hz => by simpa using o2 z hz, hxs]
        simp [updO, upd]
    · cases hsy : skipM ms qs y
      · rw [hsy, cond_false] at h
        split at h <;> try (simp at h; done)
        exact seqT_at r _ T h o3 x hx hs
      · rw [hsy, cond_true] at h
        exact seqT_at r t T h o3 x hx hs

def pairOf (T : Nat → D) (x : XOp) : Option (D × D) := match x.x with
  | .insert _ _ _ (.t k) (.t v) => some (T k, T v)
  | _ => none

def pairAt (T : Nat → D) (xs : List XOp) (i : Nat) : Option (D × D) := (xs[i]?).bind (pairOf T)

def donePairs (T : Nat → D) (xs : List XOp) (d : Nat → Bool) : List (D × D) := (List.range xs.length).filterMap fun i => if d i = true then pairAt T xs i else none

theorem fm_congr {α β : Type} {f g : α → Option β} : {l : List α} → (∀ x ∈ l, f x = g x) → l.filterMap f = l.filterMap g
  | [], _ => rfl
  | a :: l, h => by
    have ih := fm_congr (l := l) fun x hx => h x (by simp [hx])
    have e := h a (by simp)
    cases ha : f a with
    | none => rw [List.filterMap_cons_none ha, List.filterMap_cons_none (e.symm.trans ha), ih]
    | some b => rw [List.filterMap_cons_some ha, List.filterMap_cons_some (e.symm.trans ha), ih]

theorem range_fm {α β : Type} (f : α → Option β) : (xs : List α) → (List.range xs.length).filterMap (fun i => (xs[i]?).bind f) = xs.filterMap f
  | [] => rfl
  | x :: xs => by
    have ih := range_fm f xs
    rw [List.length_cons, List.range_succ_eq_map, List.filterMap_cons, List.filterMap_map, List.filterMap_cons]
    have : ((fun i => ((x :: xs)[i]?).bind f) ∘ Nat.succ) = fun i => (xs[i]?).bind f := by
      funext i; simp
    rw [this, ih]
    simp

theorem filterMap_set {α : Type} {f f' : Nat → Option α} {i : Nat} {p : α} (h1 : f i = none) (h2 : f' i = some p) (h3 : ∀ j, j ≠ i → f' j = f j) : (l : List Nat) → l.Nodup → i ∈ l → (l.filterMap f').Perm (p :: l.filterMap f)
  | [], hn, hi => by simp at hi
  | a :: l, hn, hi => by
    simp only [List.nodup_cons] at hn
    by_cases ha : a = i
    · subst ha
      rw [List.filterMap_cons_some h2, List.filterMap_cons_none h1]
      have : l.filterMap f' = l.filterMap f := fm_congr fun j hj => h3 j fun e => hn.1 (e ▸ hj)
      rw [this]
    · have hi' : i ∈ l := by rcases List.mem_cons.1 hi with e | e; exact absurd e.symm ha; exact e
      have ih := filterMap_set h1 h2 h3 l hn.2 hi'
      have e := h3 a ha
      cases hfa : f a with
      | none =>
        rw [List.filterMap_cons_none hfa, List.filterMap_cons_none (e.trans hfa)]
        exact ih
      | some x =>
        rw [List.filterMap_cons_some hfa, List.filterMap_cons_some (e.trans hfa)]
        exact (ih.cons x).trans (.swap _ _ _)

theorem done_set_none {T : Nat → D} {xs : List XOp} {d : Nat → Bool} {i : Nat} (hp : pairAt T xs i = none) : donePairs T xs (fun j => if j = i then true else d j) = donePairs T xs d := by
  unfold donePairs
  refine fm_congr fun j _ => ?_
  by_cases e : j = i
  · subst e
    simp only [if_true, hp]
    split <;> rfl
  · simp [e]

theorem done_set_some {T : Nat → D} {xs : List XOp} {d : Nat → Bool} {i : Nat} {p : D × D} (hd : d i = false) (hp : pairAt T xs i = some p) : (donePairs T xs (fun j => if j = i then true else d j)).Perm (p :: donePairs T xs d) := by
  unfold donePairs
  have hi : i < xs.length := by
    unfold pairAt at hp
    cases hx : xs[i]? with
    | none => rw [hx] at hp; cases hp
    | some x => exact (List.getElem?_eq_some_iff.1 hx).1
  refine filterMap_set ?_ ?_ ?_ _ List.nodup_range (by simpa using hi)
  · simp [hd]
  · simp [hp]
  · intro j hj; simp [hj]

/-- Is a slot ready when an operation runs? -/
def readyB (xs : List XOp) (o : Oper) (u : Nat) : Bool := (xs.all fun x => x.dst != some u) || o.after.any fun e => Region.binds .any e && (match xs[e.on]? with | some x => x.dst == some u | none => false)

inductive MK where
  | make
  | ins (t : TypeId) (m k v : Nat)
  | give
  | pass
  | other

def mkOf (ms qs : Nat) (o : Oper) : MK := match o.op with
  | .makeMap _ none => .make
  | .insert t (.tmp m) (.tmp k) (.tmp v) => .ins t m k v
  | .move (.tmp s) => if s = ms then .give else if s = qs then .pass else .other
  | .assign (.tmp s) => if s = ms then .give else if s = qs then .pass else .other
  | _ => .other

def behind0 (o : Oper) : Bool := o.after.any fun e => Region.binds .any e && e.on == 0

def isKey (P : Program) (kinds : List Nat) (ag : Bool) (t : TypeId) : Bool := match P.underlying t with
  | some (.map kt _) => match cKey P kt with
    | some (ks, a) => ks == kinds && a == ag
    | none => false
  | _ => false

/-- Does it wait for the one that hands the map on? -/
def behindG (ms qs : Nat) (ops : Array Oper) (o : Oper) : Bool := o.after.any fun e => Region.binds .any e && (match ops[e.on]? with | some o' => (match mkOf ms qs o' with | .give => true | _ => false) | none => false)

def readyOne (P : Program) (ms qs r : Nat) (kinds : List Nat) (ag : Bool) (ops : Array Oper) (xs : List XOp) (i : Nat) (o : Oper) (x : XOp) : Bool := o.guard.isNone && (match mkOf ms qs o with
  | .make => i == 0 && o.dst == some ms && (match x.x with | .mkmap => true | _ => false)
  | .ins t m k v => m == ms && o.dst == none && (readyB xs o k && k != ms && k != r && k != qs) && (readyB xs o v && v != ms && v != r && v != qs) && behind0 o && isKey P kinds ag t && (match x.x with | .insert _ _ _ (.t k') (.t v') => k' == k && v' == v | _ => false)
  | .give => o.dst == some qs && behind0 o
  | .pass => o.dst == some r && behind0 o && behindG ms qs ops o
  | .other => decide (0 < i) && !skipM ms qs x && (o.dst != some ms) && (o.dst != some r) && (o.dst != some qs) && (x.x.uses.all fun u => u != ms && u != r && u != qs && readyB xs o u))

/-- Each operation waits for what it reads; the map is made first, and written by keys of one kind. -/
def readyAll (P : Program) (ms qs r : Nat) (kinds : List Nat) (ag : Bool) (ops : Array Oper) (xs : List XOp) : Nat → List Oper → List XOp → Bool
  | _, [], [] => true
  | i, o :: os, y :: ys => readyOne P ms qs r kinds ag ops xs i o y && readyAll P ms qs r kinds ag ops xs (i + 1) os ys
  | _, _, _ => false

theorem readyAll_at {P : Program} {ms qs r : Nat} {kinds : List Nat} {ag : Bool} {ops : Array Oper} {xs : List XOp} : (k : Nat) → (os : List Oper) → (ys : List XOp) → readyAll P ms qs r kinds ag ops xs k os ys = true → ∀ i o, os[i]? = some o → ∃ x, ys[i]? = some x ∧ readyOne P ms qs r kinds ag ops xs (k + i) o x = true
  | k, [], ys, h, i, o, ho => by simp at ho
  | k, a :: os, [], h, i, o, ho => by simp [readyAll] at h
  | k, a :: os, y :: ys, h, 0, o, ho => by
    simp only [readyAll, Bool.and_eq_true] at h
    simp at ho
    subst ho
    exact ⟨y, rfl, h.1⟩
  | k, a :: os, y :: ys, h, i + 1, o, ho => by
    simp only [readyAll, Bool.and_eq_true] at h
    obtain ⟨x, h1, h2⟩ := readyAll_at (k + 1) os ys h.2 i o (by simpa using ho)
    exact ⟨x, by simpa using h1, by rw [show k + (i + 1) = k + 1 + i by omega]; exact h2⟩

/-- No two keys are the same. -/
def keysB (kinds : List Nat) (ag : Bool) : List (D × D) → Bool
  | [] => true
  | p :: l => keyOK kinds ag p.1 && (l.all fun q => eqKey kinds ag p.1 q.1 == some false && eqKey kinds ag q.1 p.1 == some false) && keysB kinds ag l

theorem keysB_spec {kinds : List Nat} {ag : Bool} : (l : List (D × D)) → keysB kinds ag l = true → (∀ p ∈ l, keyOK kinds ag p.1 = true) ∧ l.Pairwise fun p q => eqKey kinds ag p.1 q.1 = some false ∧ eqKey kinds ag q.1 p.1 = some false
  | [], h => ⟨fun _ h => by simp at h, .nil⟩
  | p :: l, h => by
    simp only [keysB, Bool.and_eq_true, List.all_eq_true, beq_iff_eq] at h
    obtain ⟨⟨h1, h2⟩, h3⟩ := h
    obtain ⟨g1, g2⟩ := keysB_spec l h3
    refine ⟨fun q hq => ?_, .cons (fun q hq => h2 q hq) g2⟩
    rcases List.mem_cons.1 hq with rfl | hq
    · exact h1
    · exact g1 q hq

theorem findP_no {kinds : List Nat} {ag : Bool} {k : D} (hk : keyOK kinds ag k = true) : (l : List (D × D)) → (∀ q ∈ l, eqKey kinds ag k q.1 = some false) → findP kinds ag k l = some none
  | [], h => by simp [findP, hk]
  | p :: l, h => by
    simp only [findP]
    rw [h p (by simp), findP_no hk l fun q hq => h q (by simp [hq])]

/-- All pairs, in the text's order. -/
def allPairs (T : Nat → D) (xs : List XOp) : List (D × D) := xs.filterMap (pairOf T)

theorem donePairs_all {T : Nat → D} {xs : List XOp} {d : Nat → Bool} (h : ∀ i, i < xs.length → d i = true) : donePairs T xs d = allPairs T xs := by
  unfold donePairs allPairs
  have h1 : (List.range xs.length).filterMap (fun i => if d i = true then pairAt T xs i else none) = (List.range xs.length).filterMap fun i => (xs[i]?).bind (pairOf T) :=
    fm_congr fun i hi => by rw [if_pos (h i (by simpa using hi))]; rfl
  rw [h1]
  exact range_fm _ _

theorem done_other {T : Nat → D} {xs : List XOp} {kinds : List Nat} {ag : Bool} {d : Nat → Bool} {i : Nat} {p : D × D} (hk : keysB kinds ag (allPairs T xs) = true) (hd : d i = false) (hp : pairAt T xs i = some p) : keyOK kinds ag p.1 = true ∧ ∀ q ∈ donePairs T xs d, eqKey kinds ag p.1 q.1 = some false := by
  obtain ⟨g1, g2⟩ := keysB_spec _ hk
  rw [← donePairs_all (d := fun _ => true) fun _ _ => rfl] at g1 g2
  have hi : i < xs.length := by
    unfold pairAt at hp
    cases hx : xs[i]? with
    | none => rw [hx] at hp; cases hp
    | some x => exact (List.getElem?_eq_some_iff.1 hx).1
  have mem : ∀ (d : Nat → Bool) q, q ∈ donePairs T xs d ↔ ∃ j, j < xs.length ∧ d j = true ∧ pairAt T xs j = some q := by
    intro d q
    simp only [donePairs, List.mem_filterMap, List.mem_range]
    constructor
    · rintro ⟨j, h1, h2⟩
      split at h2
      · exact ⟨j, h1, by assumption, h2⟩
      · cases h2
    · rintro ⟨j, h1, h2, h3⟩
      exact ⟨j, h1, by rw [if_pos h2]; exact h3⟩
  refine ⟨g1 p ((mem _ p).2 ⟨i, hi, rfl, hp⟩), fun q hq => ?_⟩
  obtain ⟨j, hj, hdj, hqj⟩ := (mem d q).1 hq
  have hij : i ≠ j := by rintro rfl; rw [hd] at hdj; cases hdj
  unfold donePairs at g2
  rw [List.pairwise_filterMap] at g2
  have g3 := List.pairwise_iff_getElem.1 g2
  rcases Nat.lt_or_gt_of_ne hij with h | h
  · have := g3 i j (by simpa using hi) (by simpa using hj) h
    simp only [List.getElem_range, if_true] at this
    exact (this p hp q hqj).1
  · have := g3 j i (by simpa using hj) (by simpa using hi) h
    simp only [List.getElem_range, if_true] at this
    exact (this q hqj p hp).2

theorem run_mapInsert {t kt et : TypeId} {kinds : List Nat} {ag : Bool} {b c : Nat} {es : Array MapEntry} {k v : Value} {K : D} {ps : List (D × D)} (hu : P.underlying t = some (.map kt et)) (hk : cKey P kt = some (kinds, ag)) (hm : w.heap[b]? = some (.map es c))
    (rk : Rep w Pr [] [] K k) (hp : PL w Pr ps (es.toList.map fun e => (e.key, e.val))) (hf : findP kinds ag K ps = some none) :
    (Instr.mapUpdate t (.map (some b)) k v).run P w = .ok () { w with heap := w.heap.setIfInBounds b (.map (es.push { key := k, val := v, born := c }) (c + 1)) } := by
  obtain ⟨o, f1, f2⟩ := run_findKey hk rk es.toList ps hp none hf
  have ho : o = none := by
    rcases f2 with ⟨_, h⟩ | ⟨_, _, _, h, _⟩
    · exact h
    · cases h
  subst ho
  have hck := run_checkKey hk rk false (findP_key _ _ hf)
  simp only [Instr.mapUpdate, Sem.run_bind, run_underlying hu, Result.andThen_ok, MapKept.run_getObj_map hm, hck, f1, MapKept.run_setObj_map _ hm]

/-- A map that nobody else holds is written. -/
theorem map_put {b c c' : Nat} {es es' : Array MapEntry} (hm : w.heap[b]? = some (.map es c)) (hn : ∀ o, ¬ Pr b o) (hlt : ∀ b o, Pr b o → b < w.heap.size) :
    Le w Pr [] [] { w with heap := w.heap.setIfInBounds b (.map es' c') } Pr [] [] ∧ ({ w with heap := w.heap.setIfInBounds b (.map es' c') } : World).heap[b]? = some (.map es' c') ∧ (∀ x, x ≠ b → ({ w with heap := w.heap.setIfInBounds b (.map es' c') } : World).heap[x]? = w.heap[x]?) := by
  have hb : b < w.heap.size := (Array.getElem?_eq_some_iff.1 hm).1
  have hoth : ∀ x, x ≠ b → ({ w with heap := w.heap.setIfInBounds b (.map es' c') } : World).heap[x]? = w.heap[x]? := fun x hx => by
    show (w.heap.setIfInBounds b _)[x]? = _
    rw [Array.getElem?_setIfInBounds_ne (Ne.symm hx)]
  refine ⟨⟨fun x o p => ⟨p, ?_⟩, fun i k hk => by simp at hk, fun x _ _ p hx => ?_⟩, ?_, hoth⟩
  · have : x ≠ b := by rintro rfl; exact hn o p
    simp only [World.cell?, hoth x this]
  · have : x ≠ b := by rintro rfl; exact hn 0 p
    rw [hoth x this]; exact hx
  · show (w.heap.setIfInBounds b _)[b]? = _
    simp [hb]

theorem cOp_dst {nt : Nat} {ops : Array Oper} {o : Oper} {x : XOp} (h : cOp P nt ops o = some x) : cX P o.op = some x.x ∧ x.dst = o.dst ∧ below nt o.dst = true := by
  unfold cOp at h
  split at h <;> try (simp at h; done)
  rename_i y hy
  cases hb : below nt o.dst
  · rw [hb] at h; simp at h
  · rw [hb, cond_true] at h
    split at h
    · simp at h; subst h; exact ⟨hy, rfl, rfl⟩
    · split at h <;> simp at h
      subst h; exact ⟨hy, rfl, rfl⟩

open Classical in
/-- What is known of the slots when some operations are done. -/
noncomputable def tD (ms qs : Nat) (xs : List XOp) (T : Nat → D) (d : Nat → Bool) (s : Nat) : D :=
  if (∀ x ∈ xs, x.dst ≠ some s) ∨ ∃ i x, d i = true ∧ xs[i]? = some x ∧ x.dst = some s ∧ skipM ms qs x = false then T s else .any

theorem tD_ready {ms qs : Nat} {xs : List XOp} {T : Nat → D} {d : Nat → Bool} {o : Oper} {u : Nat} (hr : readyB xs o u = true) (hp : ∀ e ∈ o.after, Region.binds .any e = true → d e.on = true) (hs : ∀ x ∈ xs, x.dst = some u → skipM ms qs x = false) : tD ms qs xs T d u = T u := by
  unfold tD
  rw [if_pos]
  simp only [readyB, Bool.or_eq_true] at hr
  rcases hr with hr | hr
  · left
    intro x hx
    simpa using List.all_eq_true.1 hr x hx
  · right
    rw [← Array.any_toList, List.any_eq_true] at hr
    obtain ⟨e, he, hb⟩ := hr
    have he : e ∈ o.after := by simpa using he
    simp only [Bool.and_eq_true] at hb
    obtain ⟨h1, h2⟩ := hb
    cases hx : xs[e.on]? with
    | none => rw [hx] at h2; cases h2
    | some x =>
      rw [hx] at h2
      simp only [beq_iff_eq] at h2
      exact ⟨e.on, x, hp e he h1, hx, h2, hs x (List.mem_of_getElem? hx) h2⟩

theorem tD_same {ms qs : Nat} {xs : List XOp} {T : Nat → D} {d : Nat → Bool} {i : Nat} {x : XOp} {s : Nat} (hx : xs[i]? = some x) (h : skipM ms qs x = true ∨ x.dst ≠ some s) : tD ms qs xs T (fun j => if j = i then true else d j) s = tD ms qs xs T d s := by
  unfold tD
  congr 1
  apply propext
  constructor
  · rintro (h1 | ⟨j, y, h1, h2, h3, h4⟩)
    · exact .inl h1
    · by_cases hj : j = i
      · subst hj
        rw [hx] at h2
        simp at h2
        subst h2
        rcases h with h | h
        · rw [h] at h4; cases h4
        · exact absurd h3 h
      · exact .inr ⟨j, y, by simpa [hj] using h1, h2, h3, h4⟩
  · rintro (h1 | ⟨j, y, h1, h2, h3, h4⟩)
    · exact .inl h1
    · refine .inr ⟨j, y, ?_, h2, h3, h4⟩
      by_cases hj : j = i <;> simp [hj, h1]

theorem tD_or {ms qs : Nat} {xs : List XOp} {T : Nat → D} {d : Nat → Bool} (s : Nat) : tD ms qs xs T d s = T s ∨ tD ms qs xs T d s = .any := by
  unfold tD
  split
  · exact .inl rfl
  · exact .inr rfl

theorem tD_none {ms qs : Nat} {xs : List XOp} {T : Nat → D} {d : Nat → Bool} {s : Nat} (h0 : ∃ x ∈ xs, x.dst = some s) (h : ∀ x ∈ xs, x.dst = some s → skipM ms qs x = true) : tD ms qs xs T d s = .any := by
  unfold tD
  rw [if_neg]
  rintro (h1 | ⟨j, y, h1, h2, h3, h4⟩)
  · obtain ⟨x, hx, hd⟩ := h0
    exact h1 x hx hd
  · rw [h y (List.mem_of_getElem? h2) h3] at h4; cases h4

theorem getD_put_other {a : Act} {dst : Option Nat} {v : Value} {i : Nat} (h : dst ≠ some i) : (a.put dst v).tmps.getD i undef = a.tmps.getD i undef := by
  rw [Array.getD_eq_getD_getElem?, Array.getD_eq_getD_getElem?, get_put h]

theorem getD_put_same {a : Act} {v : Value} {i : Nat} (h : i < a.tmps.size) : (a.put (some i) v).tmps.getD i undef = v := by
  rw [Array.getD_eq_getD_getElem?, get_put_same h]; rfl

theorem mkOf_make {ms qs : Nat} {o : Oper} (h : mkOf ms qs o = .make) : ∃ t, o.op = .makeMap t none := by
  unfold mkOf at h
  split at h <;> try (cases h; done)
  · rename_i t ho; exact ⟨t, ho⟩
  · split at h <;> try (cases h; done)
    split at h <;> cases h
  · split at h <;> try (cases h; done)
    split at h <;> cases h

theorem mkOf_ins {ms qs : Nat} {o : Oper} {t : TypeId} {m k v : Nat} (h : mkOf ms qs o = .ins t m k v) : o.op = .insert t (.tmp m) (.tmp k) (.tmp v) := by
  unfold mkOf at h
  split at h <;> try (cases h; done)
  · rename_i ho; cases h; exact ho
  · split at h <;> try (cases h; done)
    split at h <;> cases h
  · split at h <;> try (cases h; done)
    split at h <;> cases h

theorem mkOf_give {ms qs : Nat} {o : Oper} (h : mkOf ms qs o = .give) : o.op = .move (.tmp ms) ∨ o.op = .assign (.tmp ms) := by
  unfold mkOf at h
  split at h <;> try (cases h; done)
  · rename_i s ho
    split at h
    · rename_i hs; subst hs; exact .inl ho
    · split at h <;> cases h
  · rename_i s ho
    split at h
    · rename_i hs; subst hs; exact .inr ho
    · split at h <;> cases h

theorem mkOf_pass {ms qs : Nat} {o : Oper} (h : mkOf ms qs o = .pass) : o.op = .move (.tmp qs) ∨ o.op = .assign (.tmp qs) := by
  unfold mkOf at h
  split at h <;> try (cases h; done)
  · rename_i s ho
    split at h
    · cases h
    · split at h
      · rename_i hs; subst hs; exact .inl ho
      · cases h
  · rename_i s ho
    split at h
    · cases h
    · split at h
      · rename_i hs; subst hs; exact .inr ho
      · cases h

theorem map_region {C : Calls} (snd : Sound P C) {id nt ms qs r : Nat} {kinds : List Nat} {ag : Bool} {ops : Array Oper} {xs : List XOp} (hc : cOps P nt ops ops.toList = some xs) (hsch : (P.follows .mixedOrders || !Region.departs ops) = true)
    (hedge : ∀ (i : Nat) (o : Oper), ops[i]? = some o → ∀ e ∈ o.after, Region.binds .any e = true → e.on < i) {t0 T : Nat → D} (hseq : seqT C ms qs xs t0 = some T) (hok : okSeq ms qs xs = true) (hready : readyAll P ms qs r kinds ag ops xs 0 ops.toList xs = true)
    (hkeys : keysB kinds ag (allPairs T xs) = true) (hgive : ∃ (i : Nat) (o : Oper), ops[i]? = some o ∧ mkOf ms qs o = .pass) (hmsr : ms ≠ r ∧ ms ≠ qs ∧ qs ≠ r)
    {a : Act} {Pr : Nat → Nat → Prop} (hlt : ∀ b o, Pr b o → b < w.heap.size) (hgl : Glob w Pr) (s0 : Slots w Pr [] [] t0 a) (hn : nt ≤ a.tmps.size) {Q : Exit → Act → World → Prop}
    (hQ : ∀ w' Pr' a', Le w Pr [] [] w' Pr' [] [] → Fr w Pr [] w' Pr' [] → (∀ b o, Pr' b o → b < w'.heap.size) → a'.defers = a.defers → Rep w' Pr' [] [] (.mapd ((allPairs T xs).map (·.1)) ((allPairs T xs).map (·.2))) (a'.tmps.getD r undef) → Q .normal a' w') :
    (Code.region id ops true).wpIn (FR none) 0 P Q a w := by
  refine wpIn_region_draw fun t => ?_
  have hs : Region.schedule (P.follows .mixedOrders) ops t = Region.linearise .any ops t := by
    unfold Region.schedule
    rw [if_pos (by simpa using hsch)]
  rw [hs]
  have hlen : ops.size = xs.length := by have := (cOps_get _ _ hc).1; simpa using this
  -- what each operation is
  have hop : ∀ i o, ops[i]? = some o → ∃ x, xs[i]? = some x ∧ cOp P nt ops o = some x ∧ readyOne P ms qs r kinds ag ops xs i o x = true := by
    intro i o ho
    obtain ⟨x, h1, h2⟩ := readyAll_at 0 _ _ hready i o (by simpa using ho)
    obtain ⟨o', h3, h4⟩ := (cOps_get _ _ hc).2 i x h1
    have : o' = o := by
      have h5 : ops.toList[i]? = some o := by simpa using ho
      rw [h5] at h3; simpa using h3.symm
    subst this
    exact ⟨x, h1, h4, by simpa using h2⟩
  have skp : ∀ u, u ≠ ms → u ≠ r → u ≠ qs → ∀ x ∈ xs, x.dst = some u → skipM ms qs x = false := by
    intro u hu1 hu2 hu3 x hx hxu
    obtain ⟨i, hi⟩ := List.getElem?_of_mem hx
    have hil : i < ops.size := by rw [hlen]; exact (List.getElem?_eq_some_iff.1 hi).1
    obtain ⟨x', h1, h2, h3⟩ := hop i ops[i] (Array.getElem?_eq_getElem hil)
    rw [hi] at h1
    simp at h1
    subst h1
    have hd := (cOp_dst h2).2.1
    simp only [readyOne, Bool.and_eq_true] at h3
    obtain ⟨_, h3⟩ := h3
    cases hm : mkOf ms qs ops[i] with
    | make =>
      simp only [hm, Bool.and_eq_true, beq_iff_eq] at h3
      rw [← hd, hxu] at h3
      simp at h3
      exact absurd h3.1.2 hu1
    | ins t m k v =>
      simp only [hm, Bool.and_eq_true, beq_iff_eq] at h3
      rw [← hd, hxu] at h3
      simp at h3
    | give =>
      simp only [hm, Bool.and_eq_true, beq_iff_eq] at h3
      rw [← hd, hxu] at h3
      simp at h3
      exact absurd h3.1 hu3
    | pass =>
      simp only [hm, Bool.and_eq_true, beq_iff_eq] at h3
      rw [← hd, hxu] at h3
      simp at h3
      exact absurd h3.1.1 hu2
    | other =>
      simp only [hm, Bool.and_eq_true, Bool.not_eq_true'] at h3
      exact h3.1.1.1.1.2
  let Inv : (Nat → Bool) → Act → World → Prop := fun d a' w' => ∃ Pr', Le w Pr [] [] w' Pr' [] [] ∧ Fr w Pr [] w' Pr' [] ∧ (∀ b o, Pr' b o → b < w'.heap.size) ∧ a'.tmps.size = a.tmps.size ∧ a'.defers = a.defers ∧ Slots w' Pr' [] [] (tD ms qs xs T d) a' ∧
    (d 0 = true → ∃ b es c ps, a'.tmps.getD ms undef = .map (some b) ∧ w.heap.size ≤ b ∧ (∀ o, ¬ Pr' b o) ∧ w'.heap[b]? = some (.map es c) ∧ PL w' Pr' ps (es.toList.map fun e => (e.key, e.val)) ∧ ps.Perm (donePairs T xs d) ∧
      ((∃ i o, d i = true ∧ ops[i]? = some o ∧ mkOf ms qs o = .give) → a'.tmps.getD qs undef = .map (some b)) ∧ ((∃ i o, d i = true ∧ ops[i]? = some o ∧ mkOf ms qs o = .pass) → a'.tmps.getD r undef = .map (some b))) ∧ (d 0 = false → donePairs T xs d = [] ∧ ∀ i o, ops[i]? = some o → mkOf ms qs o = .give ∨ mkOf ms qs o = .pass → d i = false)
  -- who writes the map's slot, and the answer's
  have wr : ∀ (u : Nat), (u = ms ∨ u = qs ∨ u = r) → ∀ x ∈ xs, x.dst = some u → skipM ms qs x = true := by
    intro u hu x hx hxu
    obtain ⟨i, hi⟩ := List.getElem?_of_mem hx
    have hil : i < ops.size := by rw [hlen]; exact (List.getElem?_eq_some_iff.1 hi).1
    obtain ⟨x', h1, h2, h3⟩ := hop i ops[i] (Array.getElem?_eq_getElem hil)
    rw [hi] at h1
    simp at h1
    subst h1
    obtain ⟨hcx, hd, _⟩ := cOp_dst h2
    simp only [readyOne, Bool.and_eq_true] at h3
    obtain ⟨_, h3⟩ := h3
    cases hm : mkOf ms qs ops[i] with
    | make =>
      simp only [hm, Bool.and_eq_true] at h3
      unfold skipM
      split at h3 <;> simp_all
    | ins t m k v =>
      simp only [hm, Bool.and_eq_true, beq_iff_eq] at h3
      rw [← hd, hxu] at h3
      simp at h3
    | give =>
      rcases mkOf_give hm with e | e <;> rw [e] at hcx <;> simp [cX, cNil, cX0, cO] at hcx <;> simp [skipM, ← hcx]
    | pass =>
      rcases mkOf_pass hm with e | e <;> rw [e] at hcx <;> simp [cX, cNil, cX0, cO] at hcx <;> simp [skipM, ← hcx]
    | other =>
      simp only [hm, Bool.and_eq_true, bne_iff_ne, ne_eq] at h3
      rw [← hd, hxu] at h3
      rcases hu with rfl | rfl | rfl
      · exact absurd rfl h3.1.1.1.2
      · exact absurd rfl h3.1.2
      · exact absurd rfl h3.1.1.2
  have S0 : Sim w Pr [] [] := ⟨rfl, hlt, fun i k c hk => by simp at hk, fun i j c hi => by simp at hi, hgl⟩
  refine wp_elig Inv ?_ ?_ (elig_linearise hedge t) a _ ?_
  · rintro d i o a1 w1 ho hd hp ⟨Pr1, l1, f1, lt1, sz1, df1, s1, h1, h0⟩ rest hrest
    obtain ⟨x, hx, hco, hro⟩ := hop i o ho
    obtain ⟨hcx, hdst, hbl⟩ := cOp_dst hco
    simp only [readyOne, Bool.and_eq_true] at hro
    obtain ⟨hg, hro⟩ := hro
    have hg : o.guard = none := by simpa using hg
    have S1 : Sim w1 Pr1 [] [] := ⟨rfl, lt1, fun i k c hk => by simp at hk, fun i j c hi => by simp at hi, hgl.mono l1⟩
    have hn1 : nt ≤ a1.tmps.size := by omega
    refine wpOpsIn_one ho hg ?_
    have b0 : behind0 o = true → d 0 = true := by
      intro hb
      unfold behind0 at hb
      rw [← Array.any_toList, List.any_eq_true] at hb
      obtain ⟨e, he, hb⟩ := hb
      simp only [Bool.and_eq_true, beq_iff_eq] at hb
      have := hp e (by simpa using he) hb.1
      rwa [hb.2] at this
    have give0 : ∀ (j : Nat) (oj : Oper), ops[j]? = some oj → mkOf ms qs oj = .give → (if j = i then true else d j) = true → mkOf ms qs o ≠ .give → d j = true := by
      intro j oj hj hmj hdj hne
      by_cases e : j = i
      · subst e
        rw [ho] at hj
        cases hj
        exact absurd hmj hne
      · simpa [e] using hdj
    have pass0 : ∀ (j : Nat) (oj : Oper), ops[j]? = some oj → mkOf ms qs oj = .pass → (if j = i then true else d j) = true → mkOf ms qs o ≠ .pass → d j = true := by
      intro j oj hj hmj hdj hne
      by_cases e : j = i
      · subst e
        rw [ho] at hj
        cases hj
        exact absurd hmj hne
      · simpa [e] using hdj
    cases hm : mkOf ms qs o with
    | make =>
      simp only [hm, Bool.and_eq_true, beq_iff_eq] at hro
      obtain ⟨⟨rfl, hdo⟩, hxx⟩ := hro
      obtain ⟨tt, hoo⟩ := mkOf_make hm
      have hsk : skipM ms qs x = true := by unfold skipM; split at hxx <;> simp_all
      have hpn : pairAt T xs 0 = none := by
        simp only [pairAt, hx, Option.bind_some, pairOf]
        split at hxx <;> simp_all
      refine oper_FR (fun c e => by rw [hoo] at e; cases e) ?_
      have hrun : (execOp a1.eval o).run P w1 = .ok (.value (.map (some w1.heap.size))) (w1.alloc (.map #[] 0)) := by
        simp only [execOp, hoo, Instr.makeMap]
        simp [go_sem]
      unfold Oper.wp
      rw [hrun]
      show wpOpsIn (FR none) 0 P ops Q rest (a1.put o.dst (.map (some w1.heap.size))) (w1.alloc (.map #[] 0))
      have la : Le w1 Pr1 [] [] (w1.alloc (.map #[] 0)) Pr1 [] [] := Le.of_below (below_alloc w1 _) (fun _ _ p => p) lt1
      have hms : ms < a1.tmps.size := by
        rw [hdo] at hbl; simp [below] at hbl; omega
      refine hrest _ _ ⟨Pr1, l1.trans la, f1.trans (Fr.of_below (below_alloc w1 _) (fun _ _ p => .inl p) (by simp) rfl rfl rfl), fun b o p => by have := lt1 b o p; simp; omega, by rw [size_put]; exact sz1, by rw [defers_put]; exact df1, ?_, ?_, ?_⟩
      · intro u
        rw [tD_same hx (.inl hsk), hdo]
        by_cases hu : u = ms
        · subst hu
          rw [tD_none ⟨x, List.mem_of_getElem? hx, by rw [hdst, hdo]⟩ (wr u (.inl rfl))]
          simp [Rep]
        · rw [getD_put_other (by simpa using fun e => hu e.symm)]
          exact Rep.mono la _ _ (s1 u)
      · intro _
        obtain ⟨e1, e2⟩ := h0 hd
        refine ⟨w1.heap.size, #[], 0, [], by rw [hdo]; exact getD_put_same hms, f1.size, fun o p => absurd (lt1 _ o p) (by omega), World.alloc_heap_new _ _, rfl, by rw [done_set_none hpn, e1], ?_, ?_⟩
        · rintro ⟨j, oj, g1, g2, g3⟩
          have := give0 j oj g2 g3 g1 (by rw [hm]; simp)
          rw [e2 j oj g2 (.inl g3)] at this; cases this
        · rintro ⟨j, oj, g1, g2, g3⟩
          have := pass0 j oj g2 g3 g1 (by rw [hm]; simp)
          rw [e2 j oj g2 (.inr g3)] at this; cases this
      · intro h; simp at h
    | ins tt m k v =>
      simp only [hm, Bool.and_eq_true, beq_iff_eq, bne_iff_ne, ne_eq] at hro
      obtain ⟨⟨⟨⟨⟨⟨rfl, hdo⟩, ⟨⟨⟨k1, k2⟩, k3⟩, k4⟩⟩, ⟨⟨⟨v1, v2⟩, v3⟩, v4⟩⟩, hb0⟩, hkey⟩, hxx⟩ := hro
      have hoo := mkOf_ins hm
      have hd0 := b0 hb0
      obtain ⟨b, es, c, ps, q1, q2, q3, q4, q5, q6, q7, q8⟩ := h1 hd0
      have hxi : ∃ ks' ag' mm, x.x = .insert ks' ag' mm (.t k) (.t v) := by
        split at hxx <;> try (cases hxx; done)
        rename_i ks' ag' mm k' v' e
        simp at hxx
        obtain ⟨rfl, rfl⟩ := hxx
        exact ⟨_, _, _, e⟩
      obtain ⟨ks', ag', mm, hxi⟩ := hxi
      have hsk : skipM m qs x = true := by simp [skipM, hxi]
      have hpi : pairAt T xs i = some (T k, T v) := by simp only [pairAt, hx, Option.bind_some, pairOf, hxi]
      have rk := s1 k
      rw [tD_ready k1 hp (skp k k2 k3 k4)] at rk
      have rv := s1 v
      rw [tD_ready v1 hp (skp v v2 v3 v4)] at rv
      obtain ⟨ko, kn⟩ := done_other hkeys hd hpi
      have hfp : findP kinds ag (T k) ps = some none := by rw [findP_perm _ _ _ q6]; exact findP_no ko _ kn
      have hkt : ∃ kt et, P.underlying tt = some (.map kt et) ∧ cKey P kt = some (kinds, ag) := by
        unfold isKey at hkey
        split at hkey <;> try (cases hkey; done)
        rename_i kt et hu
        split at hkey <;> try (cases hkey; done)
        rename_i ks2 ag2 hck
        simp at hkey
        obtain ⟨rfl, rfl⟩ := hkey
        exact ⟨kt, et, hu, hck⟩
      obtain ⟨kt, et, hu, hck⟩ := hkt
      have hup := run_mapInsert (P := P) (v := a1.tmps.getD v undef) hu hck q4 rk q5 hfp
      obtain ⟨lp, hp1, hp2⟩ := map_put (es' := es.push { key := a1.tmps.getD k undef, val := a1.tmps.getD v undef, born := c }) (c' := c + 1) q4 q3 lt1
      refine oper_FR (fun c e => by rw [hoo] at e; cases e) ?_
      have hrun : (execOp a1.eval o).run P w1 = .ok .skip { w1 with heap := w1.heap.setIfInBounds b (.map (es.push { key := a1.tmps.getD k undef, val := a1.tmps.getD v undef, born := c }) (c + 1)) } := by
        have e1 : a1.eval (.tmp m) = .map (some b) := q1
        simp only [execOp, hoo, e1]
        show (do Instr.mapUpdate tt (.map (some b)) (a1.tmps.getD k undef) (a1.tmps.getD v undef); pure Next.skip : Sem Next).run P w1 = _
        simp only [Sem.run_bind, hup, Result.andThen_ok, Sem.run_pure]
      unfold Oper.wp
      rw [hrun]
      show wpOpsIn (FR none) 0 P ops Q rest (a1.put o.dst undef) _
      rw [hdo]
      show wpOpsIn (FR none) 0 P ops Q rest a1 _
      refine hrest _ _ ⟨Pr1, l1.trans lp, ⟨f1.os, f1.tape, f1.output, by simpa using f1.size, fun x hx1 hx2 => by rw [hp2 x (by omega)]; exact f1.keep x hx1 hx2, fun c hc => by simp at hc, f1.prn⟩, fun x o p => by simpa using lt1 x o p, sz1, df1, ?_, ?_, ?_⟩
      · intro u
        rw [tD_same hx (.inl hsk)]
        exact Rep.mono lp _ _ (s1 u)
      · intro _
        refine ⟨b, _, _, ps ++ [(T k, T v)], q1, q2, q3, hp1, ?_, ?_, ?_, ?_⟩
        · rw [Array.toList_push, List.map_append]
          exact PL.snoc _ _ (PL.mono lp _ _ q5) (Rep.mono lp _ _ rk) (Rep.mono lp _ _ rv)
        · exact (List.perm_append_comm.trans ((q6.cons _).trans (done_set_some hd hpi).symm))
        · rintro ⟨j, oj, g1, g2, g3⟩
          exact q7 ⟨j, oj, give0 j oj g2 g3 g1 (by rw [hm]; simp), g2, g3⟩
        · rintro ⟨j, oj, g1, g2, g3⟩
          exact q8 ⟨j, oj, pass0 j oj g2 g3 g1 (by rw [hm]; simp), g2, g3⟩
      · intro h
        by_cases e : 0 = i
        · simp [e] at h
        · simp [e, hd0] at h
    | give =>
      simp only [hm, Bool.and_eq_true, beq_iff_eq] at hro
      obtain ⟨hdo, hb0⟩ := hro
      have hd0 := b0 hb0
      obtain ⟨b, es, c, ps, q1, q2, q3, q4, q5, q6, q7, q8⟩ := h1 hd0
      have hoo := mkOf_give hm
      have hxi : x.x = .mov (.t ms) := by
        rcases hoo with e | e <;> rw [e] at hcx <;> simp [cX, cNil, cX0, cO] at hcx <;> exact hcx.symm
      have hsk : skipM ms qs x = true := by simp [skipM, hxi]
      have hpn : pairAt T xs i = none := by simp only [pairAt, hx, Option.bind_some, pairOf, hxi]
      refine oper_FR (fun c e => by rcases hoo with e2 | e2 <;> rw [e2] at e <;> cases e) ?_
      have hrun : (execOp a1.eval o).run P w1 = .ok (.value (.map (some b))) w1 := by
        have e1 : a1.eval (.tmp ms) = .map (some b) := q1
        rcases hoo with e | e <;> simp only [execOp, e, e1] <;> simp
      unfold Oper.wp
      rw [hrun]
      show wpOpsIn (FR none) 0 P ops Q rest (a1.put o.dst (.map (some b))) w1
      have hr : qs < a1.tmps.size := by
        rw [hdo] at hbl; simp [below] at hbl; omega
      refine hrest _ _ ⟨Pr1, l1, f1, lt1, by rw [size_put]; exact sz1, by rw [defers_put]; exact df1, ?_, ?_, ?_⟩
      · intro u
        rw [tD_same hx (.inl hsk), hdo]
        by_cases hu : u = qs
        · subst hu
          rw [tD_none ⟨x, List.mem_of_getElem? hx, by rw [hdst, hdo]⟩ (wr u (.inr (.inl rfl)))]
          simp [Rep]
        · rw [getD_put_other (by simpa using fun e => hu e.symm)]
          exact s1 u
      · intro _
        exact ⟨b, es, c, ps, by rw [hdo, getD_put_other (by simpa using fun e => hmsr.2.1 e.symm)]; exact q1, q2, q3, q4, q5, by rw [done_set_none hpn]; exact q6, (fun _ => by rw [hdo]; exact getD_put_same hr), fun ⟨j, oj, g1, g2, g3⟩ => by rw [hdo, getD_put_other (by simpa using hmsr.2.2)]; exact q8 ⟨j, oj, pass0 j oj g2 g3 g1 (by rw [hm]; simp), g2, g3⟩⟩
      · intro h
        by_cases e : 0 = i
        · simp [e] at h
        · simp [e, hd0] at h
    | pass =>
      simp only [hm, Bool.and_eq_true, beq_iff_eq] at hro
      obtain ⟨⟨hdo, hb0⟩, hbg⟩ := hro
      have hd0 := b0 hb0
      obtain ⟨b, es, c, ps, q1, q2, q3, q4, q5, q6, q7, q8⟩ := h1 hd0
      have hoo := mkOf_pass hm
      have hq : a1.tmps.getD qs undef = .map (some b) := by
        unfold behindG at hbg
        rw [← Array.any_toList, List.any_eq_true] at hbg
        obtain ⟨e, he, hbg⟩ := hbg
        simp only [Bool.and_eq_true] at hbg
        obtain ⟨hb1, hb2⟩ := hbg
        split at hb2 <;> try (cases hb2; done)
        rename_i o' ho'
        split at hb2 <;> try (cases hb2; done)
        rename_i hmo
        exact q7 ⟨e.on, o', hp e (by simpa using he) hb1, ho', hmo⟩
      have hxi : x.x = .mov (.t qs) := by
        rcases hoo with e | e <;> rw [e] at hcx <;> simp [cX, cNil, cX0, cO] at hcx <;> exact hcx.symm
      have hsk : skipM ms qs x = true := by simp [skipM, hxi]
      have hpn : pairAt T xs i = none := by simp only [pairAt, hx, Option.bind_some, pairOf, hxi]
      refine oper_FR (fun c e => by rcases hoo with e2 | e2 <;> rw [e2] at e <;> cases e) ?_
      have hrun : (execOp a1.eval o).run P w1 = .ok (.value (.map (some b))) w1 := by
        have e1 : a1.eval (.tmp qs) = .map (some b) := hq
        rcases hoo with e | e <;> simp only [execOp, e, e1] <;> simp
      unfold Oper.wp
      rw [hrun]
      show wpOpsIn (FR none) 0 P ops Q rest (a1.put o.dst (.map (some b))) w1
      have hr : r < a1.tmps.size := by
        rw [hdo] at hbl; simp [below] at hbl; omega
      refine hrest _ _ ⟨Pr1, l1, f1, lt1, by rw [size_put]; exact sz1, by rw [defers_put]; exact df1, ?_, ?_, ?_⟩
      · intro u
        rw [tD_same hx (.inl hsk), hdo]
        by_cases hu : u = r
        · subst hu
          rw [tD_none ⟨x, List.mem_of_getElem? hx, by rw [hdst, hdo]⟩ (wr u (.inr (.inr rfl)))]
          simp [Rep]
        · rw [getD_put_other (by simpa using fun e => hu e.symm)]
          exact s1 u
      · intro _
        exact ⟨b, es, c, ps, by rw [hdo, getD_put_other (by simpa using fun e => hmsr.1 e.symm)]; exact q1, q2, q3, q4, q5, by rw [done_set_none hpn]; exact q6, (fun _ => by rw [hdo, getD_put_other (by simpa using fun e => hmsr.2.2 e.symm)]; exact hq), fun _ => by rw [hdo]; exact getD_put_same hr⟩
      · intro h
        by_cases e : 0 = i
        · simp [e] at h
        · simp [e, hd0] at h
    | other =>
      simp only [hm, Bool.and_eq_true, Bool.not_eq_true', bne_iff_ne, ne_eq, decide_eq_true_eq, List.all_eq_true] at hro
      obtain ⟨⟨⟨⟨⟨hi0, hsk⟩, hdm⟩, hdr⟩, hdq⟩, huse⟩ := hro
      obtain ⟨dd, hev, hT⟩ := seqT_at xs t0 T hseq hok x (List.mem_of_getElem? hx) hsk
      have hpn : pairAt T xs i = none := by
        simp only [pairAt, hx, Option.bind_some, pairOf]
        split
        · rename_i e; simp [skipM, e] at hsk
        · rfl
      have hev' : evX C true x.x (tD ms qs xs T d) [] = some (dd, []) := by
        rw [← hev]
        refine evX_congr fun u hu => ?_
        obtain ⟨⟨⟨g1, g2⟩, g4⟩, g3⟩ := huse u hu
        exact tD_ready g3 hp (skp u g1 g2 g4)
      refine oper_FR (cX_noDefer hcx hev') (evX_ok S1 s1 snd hcx hev' _ _ ?_)
      intro w2 Pr2 φ2 v l2 f2 S2 r2
      have hφ : φ2 = [] := List.eq_nil_of_length_eq_zero (by simpa using S2.len)
      subst hφ
      refine hrest _ _ ⟨Pr2, l1.trans l2, f1.trans f2, S2.prlt, by rw [size_put]; exact sz1, by rw [defers_put]; exact df1, ?_, ?_, ?_⟩
      · intro u
        have sp : Slots w2 Pr2 [] [] (updO (tD ms qs xs T d) o.dst dd) (a1.put o.dst v) := (s1.mono l2).put hbl hn1 r2
        have := sp u
        by_cases hu : x.dst = some u
        · rcases tD_or (ms := ms) (qs := qs) (xs := xs) (T := T) (d := fun j => if j = i then true else d j) u with e | e
          · rw [e, hT u hu]
            rw [hdst] at hu
            rw [hu] at this ⊢
            simpa [updO, upd] using this
          · rw [e]; simp [Rep]
        · rw [tD_same hx (.inr hu)]
          have e : updO (tD ms qs xs T d) o.dst dd u = tD ms qs xs T d u := by
            rw [← hdst]
            cases hxd : x.dst with
            | none => rfl
            | some s =>
              have : ¬ u = s := fun e => hu (by rw [hxd, e])
              simp [updO, upd, this]
          rw [e] at this
          exact this
      · intro h
        have hd0 : d 0 = true := by
          have : ¬ 0 = i := by omega
          simpa [this] using h
        obtain ⟨b, es, c, ps, q1, q2, q3, q4, q5, q6, q7, q8⟩ := h1 hd0
        have hblt : b < w1.heap.size := (Array.getElem?_eq_some_iff.1 q4).1
        refine ⟨b, es, c, ps, by rw [getD_put_other hdm]; exact q1, q2, fun o p => ?_, by rw [f2.keep b hblt (by simp)]; exact q4, PL.mono l2 _ _ q5, by rw [done_set_none hpn]; exact q6, ?_, ?_⟩
        · rcases f2.prn b o p with g | g | g
          · exact q3 o g
          · simp at g
          · omega
        · rintro ⟨j, oj, g1, g2, g3⟩
          rw [getD_put_other hdq]
          exact q7 ⟨j, oj, give0 j oj g2 g3 g1 (by rw [hm]; simp), g2, g3⟩
        · rintro ⟨j, oj, g1, g2, g3⟩
          rw [getD_put_other hdr]
          exact q8 ⟨j, oj, pass0 j oj g2 g3 g1 (by rw [hm]; simp), g2, g3⟩
      · intro h
        have hd0 : d 0 = false := by
          have : ¬ 0 = i := by omega
          simpa [this] using h
        obtain ⟨e1, e2⟩ := h0 hd0
        refine ⟨by rw [done_set_none hpn]; exact e1, fun j oj g1 g2 => ?_⟩
        by_cases e : j = i
        · subst e
          rw [ho] at g1; cases g1
          rw [hm] at g2; rcases g2 with g2 | g2 <;> cases g2
        · simpa [e] using e2 j oj g1 g2
  · rintro d a1 w1 hall ⟨Pr1, l1, f1, lt1, sz1, df1, s1, h1, h0⟩
    obtain ⟨ig, og, hg1, hg2⟩ := hgive
    have hig : ig < ops.size := (Array.getElem?_eq_some_iff.1 hg1).1
    obtain ⟨b, es, c, ps, q1, q2, q3, q4, q5, q6, q7, q8⟩ := h1 (hall 0 (by omega))
    rw [donePairs_all (by rw [← hlen]; exact hall)] at q6
    obtain ⟨l', p1, p2⟩ := PL.perm' q6 _ q5
    have l2 : Le w1 Pr1 [] [] w1 (fun b' o => Pr1 b' o ∨ (b' = b ∧ o = 0)) [] [] := ⟨fun _ _ p => ⟨.inl p, rfl⟩, fun i k hk => by simp at hk, fun _ _ _ _ m => m⟩
    obtain ⟨g1, g2⟩ := PL.split _ _ (PL.mono l2 _ _ p2)
    have hblt : b < w1.heap.size := (Array.getElem?_eq_some_iff.1 q4).1
    refine hQ w1 (fun b' o => Pr1 b' o ∨ (b' = b ∧ o = 0)) a1 (l1.trans l2) ⟨f1.os, f1.tape, f1.output, f1.size, f1.keep, f1.own, fun x o p => ?_⟩ (fun x o p => ?_) df1 ?_
    · rcases p with p | ⟨rfl, _⟩
      · exact f1.prn x o p
      · exact .inr (.inr q2)
    · rcases p with p | ⟨rfl, _⟩
      · exact lt1 x o p
      · exact hblt
    · rw [q8 ⟨ig, og, hall ig hig, hg1, hg2⟩]
      simp only [Rep]
      refine ⟨b, es, c, _, _, rfl, .inr ⟨rfl, trivial⟩, q4, g1, g2, ?_, by simp⟩
      have : (l'.map (·.1)).zip (l'.map (·.2)) = l' := by
        rw [List.zip_map']
        simp
      rw [this]
      exact p1
  · obtain ⟨ld, fd, Sd⟩ := drew_all S0
    refine ⟨Pr, ld, fd, Sd.prlt, rfl, rfl, ?_, fun h => by simp at h, fun _ => ⟨?_, fun _ _ _ _ => rfl⟩⟩
    · intro u
      unfold tD
      split
      · rename_i hu
        rcases hu with hu | ⟨_, _, h, _⟩
        · rw [seqT_keep xs t0 T hseq hu]
          exact Rep.mono ld _ _ (s0 u)
        · cases h
      · simp [Rep]
    · unfold donePairs
      rw [List.filterMap_eq_nil_iff]
      intro i _
      simp

/-- The regions ahead of the drawn one, and that one. -/
def mapBody (C : Calls) (P : Program) (nt : Nat) : Code → St → Option (St × Array Oper)
  | .seq (.region _ ops false) c, st => match cOps P nt ops ops.toList with
    | some xs => match evOps C xs st with
      | some st' => mapBody C P nt c st'
      | none => none
    | none => none
  | .seq (.region _ ops true) .ret, st => some (st, ops)
  | _, _ => none

theorem mapBody_ok {C : Calls} (snd : Sound P C) {nt : Nat} : (c : Code) → (st st' : St) → (ops : Array Oper) → mapBody C P nt c st = some (st', ops) → ∀ (a : Act) (w : World) (Pr : Nat → Nat → Prop) (φ : List Nat), Sim w Pr φ st.h → Slots w Pr φ st.h st.t a → nt ≤ a.tmps.size → ∀ (Q : Exit → Act → World → Prop),
    (∀ id w' Pr' φ' a', Le w Pr φ st.h w' Pr' φ' st'.h → Fr w Pr φ w' Pr' φ' → Sim w' Pr' φ' st'.h → Slots w' Pr' φ' st'.h st'.t a' → a'.tmps.size = a.tmps.size → a'.defers = a.defers → (Code.region id ops true).wpIn (FR none) 0 P (fun e a w => match e with | .normal => Q .ret a w | _ => False) a' w') → c.wpIn (FR none) 0 P Q a w := by
  intro c
  induction c with
  | seq c1 c2 _ ih2 =>
    intro st st' ops h a w Pr φ S s hn Q hQ
    unfold mapBody at h
    split at h
    · rename_i id ops1 c' e
      cases e
      split at h <;> try (simp at h; done)
      rename_i xs hc
      split at h <;> try (simp at h; done)
      rename_i st1 h1
      refine wpIn_seq (region_ok snd hc h1 S s hn ?_)
      intro w1 Pr1 φ1 a1 l1 f1 S1 s1 sz1 d1
      refine ih2 st1 st' ops h a1 w1 Pr1 φ1 S1 s1 (by omega) Q ?_
      intro id w2 Pr2 φ2 a2 l2 f2 S2 s2 sz2 d2
      exact hQ id w2 Pr2 φ2 a2 (l1.trans l2) (f1.trans f2) S2 s2 (sz2.trans sz1) (d2.trans d1)
    · rename_i id ops1 e
      cases e
      simp at h
      obtain ⟨rfl, rfl⟩ := h
      refine wpIn_seq ?_
      refine wpIn_mono (hQ id w Pr φ a (Le.refl _ _ _ _) (Fr.refl _ _ _) S s rfl rfl) ?_
      intro e a' w' he
      cases e <;> try (exact he.elim)
      exact wpIn_ret he
    · simp at h
  | _ =>
    intro st st' ops h
    simp [mapBody] at h

/-- All that is asked of a function that builds a map. -/
def mapFun (C : Calls) (P : Program) (f ms qs r : Nat) (kinds : List Nat) (ag : Bool) : Option (List (D × D)) :=
  match P.funcs[f]? with
  | some fn => match fn.body, fn.results.toList with
    | some c, [.tmp r'] => match mapBody noC P fn.ntmps c ⟨fun _ => .any, []⟩ with
      | some (st, ops) => match cOps P fn.ntmps ops ops.toList with
        | some xs => match seqT C ms qs xs st.t with
          | some T => if ((fn.name == "runtime.NumGoroutine") = false ∧ r' = r ∧ st.h.length = 0) ∧ ((P.follows .mixedOrders || !Region.departs ops) = true ∧ (ops.toList.zipIdx.all fun (o, i) => o.after.toList.all fun e => !Region.binds .any e || e.on < i) = true) ∧
              okSeq ms qs xs = true ∧ readyAll P ms qs r kinds ag ops xs 0 ops.toList xs = true ∧ keysB kinds ag (allPairs T xs) = true ∧ (ops.toList.any fun o => match mkOf ms qs o with | .pass => true | _ => false) = true ∧ (ms ≠ r ∧ ms ≠ qs ∧ qs ≠ r) then some (allPairs T xs) else none
          | none => none
        | none => none
      | none => none
    | _, _ => none
  | none => none

theorem mapFun_ok {C : Calls} (snd : Sound P C) {f ms qs r : Nat} {kinds : List Nat} {ag : Bool} {A : List (D × D)} (h : mapFun C P f ms qs r kinds ag = some A) : PureSound P f [] (.mapd (A.map (·.1)) (A.map (·.2))) := by
  unfold mapFun at h
  split at h <;> try (simp at h; done)
  rename_i fn hfn
  split at h <;> try (simp at h; done)
  rename_i c r' hb hr
  split at h <;> try (simp at h; done)
  rename_i st ops hm
  split at h <;> try (simp at h; done)
  rename_i xs hc
  split at h <;> try (simp at h; done)
  rename_i T hT
  split at h
  case isFalse => simp at h
  rename_i hall
  have h := Option.some.inj h
  subst h
  obtain ⟨⟨g1, rfl, g3⟩, ⟨g4, g5⟩, g6, g7, g8, g9, g10⟩ := hall
  have hst : st.h = [] := List.eq_nil_of_length_eq_zero g3
  refine ⟨⟨fn, hfn, g1, by rw [hb]; rfl⟩, fun w Pr vs hlt hgl rargs => ?_⟩
  have hvs : vs = #[] := by
    simp only [RepL] at rargs
    exact Array.toList_eq_nil_iff.1 rargs
  subst hvs
  refine callsIn_wide.1 (callsIn_of_wp (n := 0) hfn hb trivial ?_)
  have S : Sim w Pr [] [] := ⟨rfl, hlt, fun i k c hk => by simp at hk, fun i j c hi => by simp at hi, hgl⟩
  show Code.wpIn (FR none) 0 P c _ _ w
  refine mapBody_ok (sound_noC P) c _ st ops hm _ w Pr [] S (fun i => by simp [Rep]) (by simp) _ ?_
  intro id w1 Pr1 φ1 a1 l1 f1 S1 s1 sz1 d1
  rw [hst] at l1 S1 s1
  have hφ : φ1 = [] := List.eq_nil_of_length_eq_zero (by simpa using S1.len)
  subst hφ
  have hedge : ∀ (i : Nat) (o : Oper), ops[i]? = some o → ∀ e ∈ o.after, Region.binds .any e = true → e.on < i := by
    intro i o ho e hm hb
    have := List.all_eq_true.1 g5 (o, i) (List.mem_zipIdx_iff_getElem?.2 (by simpa using ho))
    have := List.all_eq_true.1 this e (by simpa using hm)
    simp only [hb, Bool.not_true, Bool.false_or, decide_eq_true_eq] at this
    exact this
  have hgive : ∃ (i : Nat) (o : Oper), ops[i]? = some o ∧ mkOf ms qs o = .pass := by
    rw [List.any_eq_true] at g9
    obtain ⟨o, ho, hg⟩ := g9
    obtain ⟨i, hi⟩ := List.getElem?_of_mem ho
    refine ⟨i, o, by simpa using hi, ?_⟩
    split at hg
    · assumption
    · cases hg
  refine map_region snd hc g4 hedge hT g6 g7 g8 hgive g10 S1.prlt S1.gl s1 (by rw [sz1]; simp) ?_
  intro w2 Pr2 a2 l2 f2 lt2 d2 r2
  show a2.defers = [] ∧ ∃ v, (results fn a2.tmps).run P w2 = .ok v w2 ∧ _
  refine ⟨d2.trans d1, a2.tmps.getD r' undef, ?_, _, Pr2, rfl, l1.trans l2, f1.trans f2, lt2, r2⟩
  have e : results fn a2.tmps = (do let vs ← fn.results.mapM (resOf a2.tmps); pure (if h : vs.size = 1 then vs[0] else .tuple vs)) := rfl
  rw [e, Array.mapM_eq_mapM_toList, hr]
  simp [resOf]

end

end Go.Proofs.YtccinlhenkkpeaaDoor.E
