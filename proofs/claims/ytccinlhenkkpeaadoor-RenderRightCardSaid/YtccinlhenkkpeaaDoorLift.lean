/- From what a law's function answers at all data of its parameters' types to the given statement. -/
import Derived.Test.YtccinlhenkkpeaaDoorSimJ
import Derived.ProofKit
import Derived.OpenShut
import Derived.ChangeOld
import Derived.Below
import Derived.Carry
import Derived.Deep.Slices
import Derived.SizedLaws
import Derived.Stop.Joined
namespace Go.Proofs.YtccinlhenkkpeaaDoor.E
open Go
open Go.ChangeShapes Go.WideShapes Go.ChangeAt Go.RowKit Go.Deep

/-- The data of a type, cell by cell. -/
def TyD (P : Program) : Nat → TypeId → List D → Prop
  | 0, _, _ => False
  | d + 1, t, ds => match P.underlying t with
    | some .bool => ∃ b, ds = [.bool b]
    | some (.int k) => ∃ n, ds = [.int k n] ∧ (Lit.int k n).wf = true
    | some .string => ∃ s, ds = [.str s] ∧ s.size ≤ maxLen
    | some (.slice e) => ∃ parts : List (List D), ds = [.arr parts.length false parts.flatten] ∧ (parts.length ≤ maxLen ∧ parts.length * P.bytesOf e ≤ reachBytes) ∧ ∀ p ∈ parts, TyD P d e p
    | some (.struct fs) => ∃ parts : List (List D), ds = parts.flatten ∧ parts.length = fs.toList.length ∧ ∀ (i : Nat) f p, fs.toList[i]? = some f → parts[i]? = some p → TyD P d f.type p
    | _ => False

def tiles (P : Program) (tot : Nat) : Nat → List Field → Bool
  | off, [] => off == tot
  | off, f :: fs => f.offset == off && tiles P tot (off + P.cellsOf f.type) fs

/-- The types that are read here. -/
def plainT (P : Program) : Nat → TypeId → Bool
  | 0, _ => false
  | d + 1, t => match P.underlying t with
    | some .bool | some (.int _) | some .string => true
    | some (.slice e) => P.cellsOf e > 0 && plainT P d e
    | some (.struct fs) => tiles P (P.cellsOf t) 0 fs.toList && fs.toList.all fun f => plainT P d f.type
    | _ => false

section
variable {H : Type} {enc : TypeId × Value → H} {P : Program} {w : World} {spare : Nat → Bool} {held : Bool} {Pr : Nat → Nat → Prop}

theorem At.append {b o : Nat} {vs us : List Value} (h1 : At w Pr (some ⟨b, o, none⟩) vs) (h2 : At w Pr (some ⟨b, o + vs.length, none⟩) us) : At w Pr (some ⟨b, o, none⟩) (vs ++ us) := by
  refine .inr ⟨b, o, rfl, fun j v hj => ?_⟩
  by_cases hlt : j < vs.length
  · rw [List.getElem?_append_left hlt] at hj
    rcases h1 with h1 | ⟨b', o', e, hc⟩
    · subst h1; simp at hlt
    · simp at e
      obtain ⟨rfl, rfl⟩ := e
      exact hc j v hj
  · rw [List.getElem?_append_right (by omega)] at hj
    rcases h2 with h2 | ⟨b', o', e, hc⟩
    · subst h2; simp at hj
    · simp at e
      obtain ⟨rfl, rfl⟩ := e
      have := hc _ v hj
      rw [show o + vs.length + (j - vs.length) = o + j by omega] at this
      exact this

theorem cells?_add {base : Nat} {x : Addr} {n : Nat} {cs : List Value} (h : w.cells? base x n = some cs) (hpr : ∀ b o, b < w.heap.size → Pr b o) : At w Pr (some x) cs := by
  obtain ⟨_, hl, hc⟩ := World.cells?_some h
  by_cases h0 : cs = []
  · exact .inl h0
  · have hpos : 0 < n := by rw [← hl]; exact List.length_pos_iff.2 h0
    have c0 := hc 0 hpos
    rw [List.getElem?_eq_getElem (by omega), Addr.add_zero'] at c0
    have hsp : x.spot = none := World.cell?_spot c0
    obtain ⟨b, o, sp⟩ := x
    simp at hsp
    subst hsp
    refine .inr ⟨b, o, rfl, fun j v hj => ?_⟩
    have hjn : j < n := by rw [← hl]; exact (List.getElem?_eq_some_iff.1 hj).1
    have := hc j hjn
    rw [hj, Addr.add_lit] at this
    exact ⟨this, hpr _ _ (World.block_lt_of_cell? w _ this)⟩

theorem flat_cells {b o size n : Nat} {C : Nat → List Value} (hs : ∀ i, i < n → (C i).length = size) (h : ∀ i, i < n → At w Pr (some ⟨b, o + i * size, none⟩) (C i)) : ∀ m, m ≤ n →
    At w Pr (some ⟨b, o, none⟩) ((List.range m).map C).flatten ∧ ((List.range m).map C).flatten.length = m * size
  | 0, _ => ⟨.inl (by simp), by simp⟩
  | m + 1, hm => by
    obtain ⟨g1, g2⟩ := flat_cells hs h m (by omega)
    rw [List.range_succ, List.map_append, List.flatten_append]
    simp only [List.map_cons, List.map_nil, List.flatten_cons, List.flatten_nil, List.append_nil]
    refine ⟨At.append g1 (by rw [g2]; exact h m (by omega)), ?_⟩
    rw [List.length_append, g2, hs m (by omega), Nat.add_mul, Nat.one_mul]

theorem flat_rep {n : Nat} {C : Nat → List Value} {F : Nat → List D} (h : ∀ i, i < n → RepL w Pr [] [] (F i) (C i) ∧ (F i).all D.one = true) : ∀ m, m ≤ n →
    RepL w Pr [] [] ((List.range m).map F).flatten ((List.range m).map C).flatten ∧ ((List.range m).map F).flatten.all D.one = true
  | 0, _ => ⟨by simp [RepL], by simp⟩
  | m + 1, hm => by
    obtain ⟨g1, g2⟩ := flat_rep h m (by omega)
    obtain ⟨h1, h2⟩ := h m (by omega)
    rw [List.range_succ, List.map_append, List.map_append, List.flatten_append, List.flatten_append]
    simp only [List.map_cons, List.map_nil, List.flatten_cons, List.flatten_nil, List.append_nil]
    exact ⟨g1.append h1, by rw [List.all_append, g2, h2]; rfl⟩

theorem tiles_le {tot : Nat} : (l : List Field) → (o : Nat) → tiles P tot o l = true → o ≤ tot
  | [], o, h => by simp [tiles] at h; omega
  | g :: l, o, h => by
    simp only [tiles, Bool.and_eq_true, beq_iff_eq] at h
    have := tiles_le l _ h.2
    omega

/-- What is read is no greater than a memory bears. -/
def SizedD {H : Type} (P : Program) (t : TypeId) (d : DataW H) : Prop := (DataW.weights P t d).all (· ≤ reachBytes) = true

theorem sized_all {H : Type} {e : TypeId} : (ds : List (DataW H)) → (DataW.weightsAll P e ds).all (· ≤ reachBytes) = true → ∀ d ∈ ds, SizedD P e d
  | [], _, d, hd => by simp at hd
  | x :: r, h, d, hd => by
    simp only [DataW.weightsAll, List.all_append, Bool.and_eq_true] at h
    rcases List.mem_cons.1 hd with rfl | hd
    · exact h.1
    · exact sized_all r h.2 d hd

theorem sized_each {H : Type} : (ts : List TypeId) → (ds : List (DataW H)) → (DataW.weightsEach P ts ds).all (· ≤ reachBytes) = true → ∀ (i : Nat) t d, ts[i]? = some t → ds[i]? = some d → SizedD P t d
  | [], ds, _, i, t, d, ht, hd => by simp at ht
  | t0 :: ts, [], _, i, t, d, ht, hd => by simp at hd
  | t0 :: ts, x :: r, h, i, t, d, ht, hd => by
    simp only [DataW.weightsEach, List.all_append, Bool.and_eq_true] at h
    cases i with
    | zero => simp at ht hd; subst ht hd; exact h.1
    | succ i => exact sized_each ts r h.2 i t d (by simpa using ht) (by simpa using hd)

theorem weightsEach_app {H : Type} (us : List TypeId) : (ts : List TypeId) → (ds : List (DataW H)) → ds.length = ts.length → DataW.weightsEach P (ts ++ us) ds = DataW.weightsEach P ts ds
  | [], [], _ => by cases us <;> simp [DataW.weightsEach]
  | [], _ :: _, h => by simp at h
  | _ :: _, [], h => by simp at h
  | t :: ts, d :: ds, h => by
    simp only [List.cons_append, DataW.weightsEach]
    rw [weightsEach_app us ts ds (by simpa using h)]

theorem read_fields {d : Nat} {tot : Nat} {cs : List Value} (hlen : cs.length = tot) (ih : ∀ t, plainT P d t = true → ∀ (fuel : Nat) (cs : List Value) x, DataW.trod enc P w 0 spare held fuel t cs = some x → SizedD P t x.1 → ∃ ds, RepL w Pr [] [] ds cs ∧ ds.all D.one = true ∧ TyD P d t ds) :
    (fs : List Field) → (off : Nat) → tiles P tot off fs = true → (fs.all fun f => plainT P d f.type) = true → (∀ f ∈ fs, ∃ n x, DataW.trod enc P w 0 spare held n f.type ((cs.drop f.offset).take (P.cellsOf f.type)) = some x ∧ SizedD P f.type x.1) →
      ∃ parts : List (List D), RepL w Pr [] [] parts.flatten (cs.drop off) ∧ parts.flatten.all D.one = true ∧ parts.length = fs.length ∧ ∀ (i : Nat) f p, fs[i]? = some f → parts[i]? = some p → TyD P d f.type p
  | [], off, ht, _, hx => by
    simp [tiles] at ht
    subst ht
    exact ⟨[], by simp [RepL, List.drop_of_length_le (Nat.le_of_eq hlen)], by simp, rfl, by simp⟩
  | f :: fs, off, ht, hp, hx => by
    simp only [tiles, Bool.and_eq_true, beq_iff_eq] at ht
    obtain ⟨rfl, ht⟩ := ht
    simp only [List.all_cons, Bool.and_eq_true] at hp
    obtain ⟨n, x, hx1, hsz1⟩ := hx f (by simp)
    obtain ⟨ds, r1, o1, t1⟩ := ih f.type hp.1 n _ _ hx1 hsz1
    obtain ⟨parts, r2, o2, l2, t2⟩ := read_fields hlen ih fs _ ht hp.2 (fun g hg => hx g (by simp [hg]))
    refine ⟨ds :: parts, ?_, by simp only [List.flatten_cons, List.all_append, o1, o2, Bool.and_self], by simp [l2], ?_⟩
    · have := r1.append r2
      rw [show cs.drop (f.offset + P.cellsOf f.type) = (cs.drop f.offset).drop (P.cellsOf f.type) by rw [List.drop_drop], List.take_append_drop] at this
      simpa using this
    · intro i g p hg hpp
      cases i with
      | zero => simp at hg hpp; subst hg hpp; exact t1
      | succ i => exact t2 i g p (by simpa using hg) (by simpa using hpp)

theorem read_ty (hpr : ∀ b o, b < w.heap.size → Pr b o) : (d : Nat) → (t : TypeId) → plainT P d t = true → ∀ (fuel : Nat) (cs : List Value) x, DataW.trod enc P w 0 spare held fuel t cs = some x → SizedD P t x.1 → ∃ ds, RepL w Pr [] [] ds cs ∧ ds.all D.one = true ∧ TyD P d t ds
  | 0, t, hp, fuel, cs, x, hx, hsz => by simp [plainT] at hp
  | d + 1, t, hp, fuel, cs, x, hx, hsz => by
    have ih := read_ty hpr d
    cases hu : P.underlying t with
    | none => simp [plainT, hu] at hp
    | some de =>
      cases de <;> simp only [plainT, hu, Bool.false_eq_true] at hp
      case bool =>
        obtain ⟨b, rfl, _⟩ := DataW.trod_bool hu hx
        exact ⟨[.bool b], by simp [RepL, Rep], rfl, by simp only [TyD, hu]; exact ⟨b, rfl⟩⟩
      case int k =>
        obtain ⟨n, rfl, _, wf⟩ := DataW.trod_int hu hx
        exact ⟨[.int k n], by simp [RepL, Rep], rfl, by simp only [TyD, hu]; exact ⟨n, rfl, wf⟩⟩
      case string =>
        obtain ⟨str, rfl, _, hs⟩ := DataW.trod_string hu hx
        exact ⟨[.str str], by simp [RepL, Rep], rfl, by simp only [TyD, hu]; exact ⟨str, rfl, hs⟩⟩
      case slice e =>
        simp only [Bool.and_eq_true, decide_eq_true_eq] at hp
        rcases open_slice hu hx with ⟨rfl, _⟩ | ⟨x0, len, cap, m, n, DD, Pl, rfl, _, hl, hm, hmm, hxe, hel⟩
        · refine ⟨[.arr 0 false []], ?_, rfl, by simp only [TyD, hu]; exact ⟨[], rfl, by simp [maxLen], by simp⟩⟩
          simp only [RepL, Rep]
          exact ⟨_, _, rfl, ⟨none, 0, [], rfl, Nat.le_refl _, Nat.zero_le _, by simp, by simp, .inl rfl, rfl, rfl⟩, rfl⟩
        · have hlm : len ≤ m := by rw [hmm]; split <;> omega
          rw [hxe] at hsz
          simp only [SizedD, DataW.weights, hu, List.all_cons, List.all_append, Bool.and_eq_true, decide_eq_true_eq, List.length_map, List.length_range] at hsz
          obtain ⟨hz1, hz2, _⟩ := hsz
          have hz3 : len * P.bytesOf e ≤ reachBytes := Nat.le_trans (Nat.mul_le_mul_right _ (by omega)) hz1
          obtain ⟨C, hC⟩ := choose_lt (n := len) (p := fun i (c : List Value) => w.cells? 0 (x0.add (i * P.cellsOf e)) (P.cellsOf e) = some c ∧ ∃ y, DataW.trod enc P w 0 spare held n e c = some y ∧ SizedD P e y.1) (fun i hi => by
            obtain ⟨cs', h1, h2⟩ := hel i (by omega)
            exact ⟨cs', h1, _, h2, sized_all _ hz2 _ (List.mem_map.2 ⟨i, by simpa using hi, rfl⟩)⟩)
          obtain ⟨F, hF⟩ := choose_lt (n := len) (p := fun i (f : List D) => RepL w Pr [] [] f (C i) ∧ f.all D.one = true ∧ TyD P d e f) (fun i hi => by
            obtain ⟨_, y, hy, hsy⟩ := hC i hi
            exact ih e hp.2 n _ _ hy hsy)
          have hsz : ∀ i, i < len → (C i).length = P.cellsOf e := fun i hi => (World.cells?_some (hC i hi).1).2.1
          obtain ⟨g1, g2⟩ := flat_rep (fun i hi => ⟨(hF i hi).1, (hF i hi).2.1⟩) len (Nat.le_refl _)
          have hat : At w Pr (some x0) ((List.range len).map C).flatten := by
            by_cases h0 : len = 0
            · subst h0; exact .inl (by simp)
            · have a0 := cells?_add (hC 0 (by omega)).1 hpr
              rw [Nat.zero_mul, Addr.add_zero'] at a0
              rcases a0 with a0 | ⟨b, o, e0, _⟩
              · have := hsz 0 (by omega); rw [a0] at this; simp at this; omega
              · simp at e0
                subst e0
                exact (flat_cells hsz (fun i hi => by
                  have := cells?_add (hC i hi).1 hpr
                  rwa [Addr.add_lit] at this) len (Nat.le_refl _)).1
          refine ⟨[.arr len false ((List.range len).map F).flatten], ?_, rfl, ?_⟩
          · simp only [RepL, Rep]
            exact ⟨_, _, rfl, ⟨some x0, cap, _, rfl, hl, hm, by simp, by simp, hat, g2, g1⟩, rfl⟩
          · simp only [TyD, hu]
            refine ⟨(List.range len).map F, by simp, ⟨by simp; omega, by simpa using hz3⟩, fun p hp => ?_⟩
            obtain ⟨i, hi, rfl⟩ := List.mem_map.1 hp
            exact (hF i (by simpa using hi)).2.2
      case struct fs =>
        simp only [Bool.and_eq_true] at hp
        obtain ⟨xs, n, _, hxe, hlen, hxs, hel⟩ := DataW.trod_struct hu hx
        rw [hxe] at hsz
        simp only [SizedD, DataW.weights, hu] at hsz
        obtain ⟨parts, r, o, l, tt⟩ := read_fields hlen ih fs.toList 0 hp.1 hp.2 (fun f hf => by
          obtain ⟨i, hi⟩ := List.getElem?_of_mem hf
          have hi' : fs[i]? = some f := by simpa using hi
          have hlt : i < xs.length := by rw [hxs]; exact (Array.getElem?_eq_some_iff.1 hi').1
          exact ⟨n, _, (hel i f hi').trans (List.getElem?_eq_getElem hlt), sized_each _ _ hsz i f.type _ (by simp [hi']) (by simp [hlt])⟩)
        exact ⟨parts.flatten, by simpa using r, o, by simp only [TyD, hu]; exact ⟨parts, rfl, l, tt⟩⟩

/-- A datum as an argument of a type. -/
def ArgD (P : Program) (t : TypeId) (d : D) : Prop := ∃ ds, TyD P 50 t ds ∧ d = (match P.underlying t with | some (.struct _) => .agg ds | _ => ds.headD .nilp)

inductive ArgsD (P : Program) : List TypeId → List D → Prop
  | nil : ArgsD P [] []
  | cons {t ts d ds} : ArgD P t d → ArgsD P ts ds → ArgsD P (t :: ts) (d :: ds)

theorem read_arg (hpr : ∀ b o, b < w.heap.size → Pr b o) {t : TypeId} {v : Value} {d : DataW H} {p : List MemPlace} {r : Reach} {base : Nat} (hp : plainT P 50 t = true) (hok : Value.okWide P w r base t v) (h : DataW.Trod enc P w 0 spare held t v d p) (hsz : SizedD P t d) :
    ∃ x, ArgD P t x ∧ Rep w Pr [] [] x v := by
  obtain ⟨fuel, hf⟩ := h
  obtain ⟨ds, r1, o1, t1⟩ := read_ty hpr 50 t hp fuel _ _ hf hsz
  cases hu : P.underlying t with
  | none => simp [plainT, hu] at hp
  | some de =>
    have single : ∀ (x : D), ds = [x] → v.cells = #[v] → (∀ fs, de ≠ .struct fs) → ∃ x, ArgD P t x ∧ Rep w Pr [] [] x v := by
      intro x hx hv hn
      refine ⟨x, ⟨ds, t1, ?_⟩, ?_⟩
      · rw [hu, hx]
        cases de <;> first | rfl | exact absurd rfl (hn _)
      · rw [hx, hv] at r1
        simp only [RepL] at r1
        obtain ⟨v', q, e, r2, _⟩ := r1
        simp at e
        rw [e.1]; exact r2
    cases de <;> simp only [plainT, hu, Bool.false_eq_true] at hp
    case bool =>
      have t1' := t1
      rw [TyD, hu] at t1'
      obtain ⟨b, hb⟩ := t1'
      obtain ⟨x, rfl⟩ : ∃ x, v = .bool x := by
        simp only [Value.okWide, hu, Cell.okWide] at hok
        cases v <;> simp_all [Cell.ok]
      exact single _ hb rfl (by simp)
    case int k =>
      have t1' := t1
      rw [TyD, hu] at t1'
      obtain ⟨n, hn, _⟩ := t1'
      obtain ⟨x, rfl⟩ := okWide_int hu hok
      exact single _ hn rfl (by simp)
    case string =>
      have t1' := t1
      rw [TyD, hu] at t1'
      obtain ⟨n, hn, _⟩ := t1'
      obtain ⟨x, rfl⟩ := okWide_string hu hok
      exact single _ hn rfl (by simp)
    case slice e =>
      have t1' := t1
      rw [TyD, hu] at t1'
      obtain ⟨n, hn, _⟩ := t1'
      obtain ⟨x, l, c, rfl⟩ := okWide_slice hu hok
      exact single _ hn rfl (by simp)
    case struct fs =>
      obtain ⟨cs, rfl, _, _⟩ : ∃ cs, v = .agg cs ∧ cs.size = P.cellsOf t ∧ Row.okWide P w r base t cs := by
        simpa only [Value.okWide, hu] using hok
      refine ⟨.agg ds, ⟨ds, t1, by rw [hu]⟩, ?_⟩
      simp only [Rep]
      exact ⟨cs, rfl, o1, r1⟩

theorem read_args (hpr : ∀ b o, b < w.heap.size → Pr b o) {r : Reach} {base : Nat} : (ts : List TypeId) → (vs : List Value) → (ds : List (DataW H)) → (p : List MemPlace) → (∀ t ∈ ts, plainT P 50 t = true) →
    (∀ (j : Nat) t v, ts[j]? = some t → vs[j]? = some v → Value.okWide P w r base t v) → DataW.TrodAll enc P w 0 spare held ts vs ds p → (DataW.weightsEach P ts ds).all (· ≤ reachBytes) = true → ∃ xs, ArgsD P ts xs ∧ RepL w Pr [] [] xs vs
  | [], vs, ds, p, hp, hok, h, _ => by
    obtain ⟨rfl, rfl, rfl⟩ := trodAll_nil h
    exact ⟨[], .nil, by simp [RepL]⟩
  | t :: ts, vs, ds, p, hp, hok, h, hsz => by
    obtain ⟨v, vs', d, ds', p1, q1, rfl, rfl, rfl, h0, r0⟩ := trodAll_cons h
    simp only [DataW.weightsEach, List.all_append, Bool.and_eq_true] at hsz
    obtain ⟨x, a1, rx⟩ := read_arg hpr (hp t (by simp)) (hok 0 t v rfl rfl) h0 hsz.1
    obtain ⟨xs, a2, rxs⟩ := read_args hpr ts vs' ds' q1 (fun u hu => hp u (by simp [hu])) (fun j u y hj hy => hok (j + 1) u y (by simpa using hj) (by simpa using hy)) r0 hsz.2
    exact ⟨x :: xs, .cons a1 a2, by simp only [RepL]; exact ⟨v, vs', rfl, rx, rxs⟩⟩

theorem trodAll_stays (hl : laidOutB P = true) {W W' : World} (bel : Below W.heap.size W W') : (ts : List TypeId) → (vs : List Value) → (ds : List (DataW H)) → (p : List MemPlace) → (∀ t ∈ ts, P.readableRec t = true ∧ t < P.types.size) →
    DataW.TrodAll enc P W 0 (fun _ => true) true ts vs ds p → DataW.TrodAll enc P W' 0 (fun b => decide (b < W.heap.size)) true ts vs ds p
  | [], vs, ds, p, hr, h => by
    obtain ⟨rfl, rfl, rfl⟩ := trodAll_nil h
    exact trodAll_mk0
  | t :: ts, vs, ds, p, hr, h => by
    obtain ⟨v, vs', d, ds', p1, q1, rfl, rfl, rfl, h0, r0⟩ := trodAll_cons h
    have lt0 : ∀ x ∈ p1, x.block < W.heap.size := by obtain ⟨m, hm⟩ := h0; exact DataW.trod_lt m _ _ _ hm
    exact trodAll_cons_mk (Below.trod hl (hr t (by simp)).1 (hr t (by simp)).2 h0 bel lt0) (trodAll_stays hl bel ts vs' ds' q1 (fun u hu => hr u (by simp [hu])) r0)

theorem trodAll_length : (ts : List TypeId) → (vs : List Value) → (ds : List (DataW H)) → (p : List MemPlace) → DataW.TrodAll enc P w 0 spare held ts vs ds p → ds.length = ts.length ∧ vs.length = ts.length
  | [], vs, ds, p, h => by obtain ⟨rfl, rfl, rfl⟩ := trodAll_nil h; exact ⟨rfl, rfl⟩
  | t :: ts, vs, ds, p, h => by
    obtain ⟨v, vs', d, ds', p1, q1, rfl, rfl, rfl, h0, r0⟩ := trodAll_cons h
    have := trodAll_length ts vs' ds' q1 r0
    simp [this.1, this.2]
end

/-- A law: whatever data come in, it answers true. -/
def Law (P : Program) (f : FuncId) (ts : List TypeId) : Prop := ∀ xs, ArgsD P ts xs → PureSound P f xs (.bool true)

/-- The call answers as the law's specification says, where the package variables hold what the table says. -/
theorem law_call {C : Checked} {f : FuncId} {fn : Func} {s : ChangeSpec} {H : Type} {enc : TypeId × Value → H} {tb : TypeId}
    (hvars : s.vars = []) (hsp : ∀ ds : List (DataW H), ds.length = fn.params.size → s.fn H ds = { results := [.lit (.bool true)], args := ds })
    (hlaid : laidOutB C.prog = true) (hread : (fn.params.toList.all fun t => C.prog.readableRec t && decide (t < C.prog.types.size) && plainT C.prog 50 t) = true)
    (hres : fn.resultTypes.toList = [tb]) (hb : C.prog.underlying tb = some .bool) (law : Law C.prog f fn.params.toList)
    (W : World) (base : Nat) (args : Array Value) (ds gs : List (DataW H)) (before : List MemPlace)
    (hval : ∀ (j : Nat) t v, fn.params[j]? = some t → args[j]? = some v → Value.okWide C.prog W .any base t v)
    (hW : DataW.Whole enc C.prog fn.params.toList s.vars false W args.toList ds gs before)
    (hsz : (DataW.weightsEach C.prog (fn.params.toList ++ s.plain.varTypes C.prog) (ds ++ gs)).all (· ≤ reachBytes) = true)
    (hgl : Glob W (fun b _ => b < W.heap.size)) :
    Go.Calls C.prog f args W fun e W' => ∃ v, e = .returned v ∧ s.post enc C.prog fn false true false false W args v W' := by
  have hW' := hW
  obtain ⟨p, q, hA, hV, rfl, hfz, hnd⟩ := hW
  rw [hvars] at hV
  obtain ⟨rfl, rfl⟩ := trodVars_none hV
  have hread' : ∀ t ∈ fn.params.toList, C.prog.readableRec t = true ∧ t < C.prog.types.size ∧ plainT C.prog 50 t = true := by
    intro t ht
    have := List.all_eq_true.1 hread t ht
    simp only [Bool.and_eq_true, decide_eq_true_eq] at this
    exact ⟨this.1.1, this.1.2, this.2⟩
  obtain ⟨xs, ax, rx⟩ := read_args (Pr := fun b _ => b < W.heap.size) (fun _ _ h => h) fn.params.toList args.toList ds p (fun t ht => (hread' t ht).2.2) (fun j t v hj hv => hval j t v (by simpa using hj) (by simpa using hv)) hA (by
    rw [List.append_nil, weightsEach_app _ _ _ (trodAll_length _ _ _ _ hA).1] at hsz
    exact hsz)
  refine ((law xs ax).2 W (fun b _ => b < W.heap.size) args (fun _ _ h => h) hgl rx).mono fun e W' he => ?_
  obtain ⟨v, Pr', rfl, l, fr, hlt, rv⟩ := he
  simp only [Rep] at rv
  subst rv
  have bel : Below W.heap.size W W' := ⟨fr.os, fr.tape, fr.output, fr.size, fun k hk => fr.keep k hk (by simp)⟩
  have hlen := (trodAll_length _ _ _ _ hA).1
  have hsp' := hsp (ds ++ []) (by simpa using hlen)
  have hrs : fn.resultTypes.size = 1 := by have := congrArg List.length hres; simpa using this
  refine ⟨_, rfl, ds, [], p ++ [], [], p, [], hW', ?_, ?_, ?_, bel.frame _, fun h => by cases h⟩
  · rw [hsp', hres, hrs]
    exact trodAll_mk1 (shut_bool hb _)
  · rw [hsp']
    simpa using trodAll_stays hlaid bel _ _ _ _ (fun t ht => ⟨(hread' t ht).1, (hread' t ht).2.1⟩) hA
  · rw [hvars, hsp']; rfl

theorem law_lifted {C : Checked} {os : Os} {f : FuncId} {fn : Func} {s : ChangeSpec} {H : Type} {enc : TypeId × Value → H} {tb : TypeId} {conds : List PathCond} (own : ownKnob C.prog.godebug = none) (started : os.Started) (noInit : C.prog.inits.idxOf? f = none) (hfn : C.prog.funcs[f]? = some fn)
    (witness : ∃ (w : World) (tape : Tape) (i : Input), w.os = os ∧ (w.forCall tape i).Shaped C.prog ∧ i.vars = [] ∧ Input.okWide C.prog (w.forCall tape i) .any w.heap.size f i ∧
      s.pre6 enc C.prog fn conds false (w.forCall tape i).memory i.args ∧ ({} : Assume).holds C.prog (lone (Frame.enter C.prog f i.args .normal) [] (w.forCall tape i)))
    (hvars : s.vars = []) (hsp : ∀ ds : List (DataW H), ds.length = fn.params.size → s.fn H ds = { results := [.lit (.bool true)], args := ds })
    (hlaid : laidOutB C.prog = true) (hread : (fn.params.toList.all fun t => C.prog.readableRec t && decide (t < C.prog.types.size) && plainT C.prog 50 t) = true)
    (hres : fn.resultTypes.toList = [tb]) (hb : C.prog.underlying tb = some .bool) (law : Law C.prog f fn.params.toList) (hgt : GT = []) :
    ReturnsInHanded {} C os f .any (s.pre6 enc C.prog fn conds false) (s.post enc C.prog fn false true false false) := by
  refine returnsInHanded_of_change_sized own started noInit hfn witness ?_
  intro W base args ds gs before hval hW hcnd hsz _
  exact law_call hvars hsp hlaid hread hres hb law W base args ds gs before hval hW hsz (fun g cs h => by simp [glob, hgt] at h)

/-- The same, where package variables are laid. -/
theorem law_laid {C : Checked} {os : Os} {f : FuncId} {fn : Func} {s : ChangeSpec} {H : Type} {enc : TypeId × Value → H} {tb : TypeId} {laid : List (String × DataW Unit)} (own : ownKnob C.prog.godebug = none) (started : os.Started) (noInit : C.prog.inits.idxOf? f = none) (hfn : C.prog.funcs[f]? = some fn)
    (witness : ∃ (w : World) (tape : Tape) (i : Input), w.os = os ∧ (w.forCall tape i).Shaped C.prog ∧ i.vars = [] ∧ Input.okWide C.prog (w.forCall tape i) .any w.heap.size f i ∧
      ((s.pre enc C.prog fn [] false (w.forCall tape i).memory i.args ∧ laidMetH C.prog laid (w.forCall tape i).memory) ∧ sizedMet enc C.prog fn (OpenSpec.ofChange s) false (w.forCall tape i).memory i.args) ∧ ({} : Assume).holds C.prog (lone (Frame.enter C.prog f i.args .normal) [] (w.forCall tape i)))
    (hvars : s.vars = []) (hsp : ∀ ds : List (DataW H), ds.length = fn.params.size → s.fn H ds = { results := [.lit (.bool true)], args := ds })
    (hlaid : laidOutB C.prog = true) (hread : (fn.params.toList.all fun t => C.prog.readableRec t && decide (t < C.prog.types.size) && plainT C.prog 50 t) = true)
    (hres : fn.resultTypes.toList = [tb]) (hb : C.prog.underlying tb = some .bool) (law : Law C.prog f fn.params.toList) (hgl : ∀ W, laidMetH C.prog laid W → Glob W (fun b _ => b < W.heap.size)) :
    ReturnsInHanded {} C os f .any (fun w args => (s.pre enc C.prog fn [] false w args ∧ laidMetH C.prog laid w) ∧ sizedMet enc C.prog fn (OpenSpec.ofChange s) false w args) (s.post enc C.prog fn false true false false) := by
  refine returnsInHanded_of_change_and (X := fun w _ => laidMetH C.prog laid w) (fun _ _ _ hh h => h.of_heap hh) own started noInit hfn witness ?_
  intro W base args ds gs before hval hW hcnd hsz hL _
  exact law_call hvars hsp hlaid hread hres hb law W base args ds gs before hval hW hsz (hgl W hL)

/-- A row of integers, out of what is read there. -/
theorem arr_ints {H : Type} {enc : TypeId × Value → H} {P : Program} {w : World} {sp : Nat → Bool} {held : Bool} {fuel : Nat} {t e : TypeId} {k : IntKind} {cs : List Value} {l : List Int} {p : List MemPlace} (hu : P.underlying t = some (.array l.length e)) (he : P.underlying e = some (.int k)) (hc : P.cellsOf e = 1) (ht : P.cellsOf t = l.length)
    (h : DataW.trod enc P w 0 sp held fuel t cs = some (.agg (l.map fun n => .lit (.int k n)), p)) : cs = l.map (Value.int k) := by
  obtain ⟨xs, m, rfl, hx, hlen, hn, hel⟩ := DataW.trod_array hu h
  simp only [Prod.mk.injEq, DataW.agg.injEq] at hx
  rw [ht] at hlen
  refine List.ext_getElem (by simp [hlen]) fun i h1 h2 => ?_
  have hi : i < l.length := by omega
  have hE := hel i hi
  rw [hc, Nat.mul_one, List.drop_eq_getElem_cons h1, List.take_succ_cons, List.take_zero, List.getElem?_eq_getElem (by omega)] at hE
  obtain ⟨n, h3, h4, _⟩ := DataW.trod_int he hE
  have h5 : (xs.map (·.1))[i]? = (l.map fun n => (DataW.lit (.int k n) : DataW H))[i]? := by rw [hx.1]
  simp only [List.getElem?_map, List.getElem?_eq_getElem hi, List.getElem?_eq_getElem (show i < xs.length by omega), Option.map_some, Option.some.injEq] at h5
  rw [h4] at h5
  simp only [DataW.lit.injEq, Lit.int.injEq, true_and] at h5
  simp only [List.cons.injEq, and_true] at h3
  simp [h3, h5]

/-- Rows of integers. -/
theorem arr_rows {H : Type} {enc : TypeId × Value → H} {P : Program} {w : World} {sp : Nat → Bool} {held : Bool} {fuel : Nat} {t e i : TypeId} {k : IntKind} {cs : List Value} {ls : List (List Int)} {n : Nat} {p : List MemPlace} (hu : P.underlying t = some (.array ls.length e)) (he : P.underlying e = some (.array n i)) (hi : P.underlying i = some (.int k))
    (ci : P.cellsOf i = 1) (ce : P.cellsOf e = n) (ct : P.cellsOf t = ls.length * n) (hl : ∀ l ∈ ls, l.length = n)
    (h : DataW.trod enc P w 0 sp held fuel t cs = some (.agg (ls.map fun l => .agg (l.map fun n => .lit (.int k n))), p)) : cs = ls.flatten.map (Value.int k) := by
  obtain ⟨xs, m, rfl, hx, hlen, hn, hel⟩ := DataW.trod_array hu h
  simp only [Prod.mk.injEq, DataW.agg.injEq] at hx
  rw [ct] at hlen
  have key : ∀ (j : Nat) (hj : j < ls.length), (cs.drop (j * n)).take n = ls[j].map (Value.int k) := by
    intro j hj
    have hE := hel j hj
    rw [ce, List.getElem?_eq_getElem (by omega)] at hE
    have h5 : (xs.map (·.1))[j]? = (ls.map fun l => (DataW.agg (l.map fun n => .lit (.int k n)) : DataW H))[j]? := by rw [hx.1]
    simp only [List.getElem?_map, List.getElem?_eq_getElem hj, List.getElem?_eq_getElem (show j < xs.length by omega), Option.map_some, Option.some.injEq] at h5
    have hln := hl ls[j] (List.getElem_mem hj)
    exact arr_ints (l := ls[j]) (by rw [hln]; exact he) hi ci (by rw [hln]; exact ce) (by rw [hE, ← h5])
  have fin : ∀ (ls : List (List Int)) (cs : List Value), cs.length = ls.length * n → (∀ (j : Nat) (hj : j < ls.length), (cs.drop (j * n)).take n = ls[j].map (Value.int k)) → cs = ls.flatten.map (Value.int k) := by
    intro ls
    induction ls with
    | nil => intro cs hc _; simpa using hc
    | cons l r ih =>
      intro cs hc hk
      have h0 := hk 0 (by simp)
      simp only [Nat.zero_mul, List.drop_zero, List.getElem_cons_zero] at h0
      have h1 := ih (cs.drop n) (by simp only [List.length_drop, hc, List.length_cons, Nat.succ_mul]; omega) (fun j hj => by
        have := hk (j + 1) (by simp; omega)
        simp only [List.getElem_cons_succ] at this
        rw [List.drop_drop, ← this]
        congr 2
        rw [Nat.succ_mul]; omega)
      rw [List.flatten_cons, List.map_append, ← h0, ← h1, List.take_append_drop]
  exact fin ls cs hlen key

#print axioms law_laid

end Go.Proofs.YtccinlhenkkpeaaDoor.E
