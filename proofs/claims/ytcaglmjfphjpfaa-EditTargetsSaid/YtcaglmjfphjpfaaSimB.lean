/- How the memory and the store change together: a new block, a write, a move, a row that is let go, a row that nobody writes any more. -/
import Derived.Test.YtcaglmjfphjpfaaSimA
namespace Go.Proofs.Ytcaglmjfphjpfaa.E
open Go

section
variable {w w' : World} {Pr Pr' : Nat → Nat → Prop} {φ : List Nat} {h : List Blk}

theorem cell_of_heap (hb : ∀ c, c < w.heap.size → w'.heap[c]? = w.heap[c]?) {b : Nat} (hlt : b < w.heap.size) (o : Nat) : w'.cell? ⟨b, o, none⟩ = w.cell? ⟨b, o, none⟩ := by
  simp [World.cell?, hb b hlt]

theorem Room.lt {c n : Nat} (r : Room w c n) : c < w.heap.size := by
  obtain ⟨vs, e, hc, _⟩ := r
  exact (Array.getElem?_eq_some_iff.1 hc).1

theorem Room.same {c n : Nat} (hb : w'.heap[c]? = w.heap[c]?) (r : Room w c n) : Room w' c n := by
  obtain ⟨vs, e, hc, hn⟩ := r
  exact ⟨vs, e, hb.trans hc, hn⟩

theorem Room.of_below {c n : Nat} (hb : ∀ c, c < w.heap.size → w'.heap[c]? = w.heap[c]?) (r : Room w c n) : Room w' c n := r.same (hb c r.lt)

/-- All that was there is as it was. -/
theorem Le.of_below (hb : ∀ c, c < w.heap.size → w'.heap[c]? = w.heap[c]?) (hp : ∀ b o, Pr b o → Pr' b o) (hlt : ∀ b o, Pr b o → b < w.heap.size) : Le w Pr φ h w' Pr' φ h :=
  ⟨fun b o p => ⟨hp b o p, cell_of_heap hb (hlt b o p) o⟩, fun _ k hk => ⟨k, hk, rfl, Nat.le_refl _, fun _ _ hc => ⟨hc, fun _ r => r.of_below hb⟩⟩⟩

theorem Sim.lt (S : Sim w Pr φ h) {i c : Nat} (hc : φ[i]? = some c) : c < w.heap.size := by
  have hi : i < h.length := by rw [← S.len]; exact (List.getElem?_eq_some_iff.1 hc).1
  obtain ⟨vs, e, he, _⟩ := S.blk i h[i] c (List.getElem?_eq_getElem hi) hc
  exact (Array.getElem?_eq_some_iff.1 he).1

theorem Sim.mem_lt (S : Sim w Pr φ h) {c : Nat} (hc : c ∈ φ) : c < w.heap.size := by
  obtain ⟨i, hi⟩ := List.getElem?_of_mem hc
  exact S.lt hi

theorem Sim.of_below (S : Sim w Pr φ h) (hb : ∀ c, c < w.heap.size → w'.heap[c]? = w.heap[c]?) (hp : ∀ b o, Pr b o → Pr' b o)
    (hn : ∀ b o, Pr' b o → Pr b o ∨ (w.heap.size ≤ b ∧ b < w'.heap.size)) (hs : w.heap.size ≤ w'.heap.size) : Sim w' Pr' φ h := by
  have l : Le w Pr φ h w' Pr' φ h := Le.of_below hb hp S.prlt
  refine ⟨S.len, fun b o p => ?_, fun i k c hk hc => ?_, S.inj⟩
  · rcases hn b o p with q | q
    · have := S.prlt b o q; omega
    · exact q.2
  · obtain ⟨vs, e, he, hl, hr, ho, hf, hpr⟩ := S.blk i k c hk hc
    have hlt := S.lt hc
    refine ⟨vs, e, (hb c hlt).trans he, hl, ?_, ho, hf, fun o p => ?_⟩
    · cases hbx : k.box <;> simp only [hbx, cond_true, cond_false] at hr ⊢
      · exact RepL.mono l.closed _ _ hr
      · exact RepL.mono l _ _ hr
    · rcases hn c o p with q | q
      · exact hpr o q
      · omega

theorem Fr.of_below (hb : ∀ c, c < w.heap.size → w'.heap[c]? = w.heap[c]?) (hn : ∀ b o, Pr' b o → Pr b o ∨ (w.heap.size ≤ b ∧ b < w'.heap.size)) (hs : w.heap.size ≤ w'.heap.size)
    (h1 : w'.os = w.os) (h2 : w'.tape = w.tape) (h3 : w'.output = w.output) : Fr w Pr φ w' Pr' φ :=
  ⟨h1, h2, h3, hs, fun b hb' _ => hb b hb', fun _ hc => .inl hc, fun b o p => (hn b o p).elim .inl fun q => .inr (.inr q.1)⟩

theorem below_alloc (w : World) (o : Obj) : ∀ c, c < w.heap.size → (w.alloc o).heap[c]? = w.heap[c]? := by
  intro c hc
  show (w.heap.push o)[c]? = _
  rw [Array.getElem?_push, if_neg (by omega)]
theorem below_drew (w : World) : ∀ c, c < w.heap.size → w.drew.heap[c]? = w.heap[c]? := fun _ _ => rfl

/-- A new block that nobody writes. -/
theorem imm_alloc (S : Sim w Pr φ h) (o : Obj) : let Pr' := fun b o => Pr b o ∨ b = w.heap.size
    Le w Pr φ h (w.alloc o) Pr' φ h ∧ Fr w Pr φ (w.alloc o) Pr' φ ∧ Sim (w.alloc o) Pr' φ h := by
  intro Pr'
  have hn : ∀ b p, Pr' b p → Pr b p ∨ (w.heap.size ≤ b ∧ b < (w.alloc o).heap.size) := fun b p q => q.imp id fun e => by simp [e]
  exact ⟨Le.of_below (below_alloc w o) (fun _ _ p => .inl p) S.prlt, Fr.of_below (below_alloc w o) hn (by simp) rfl rfl rfl, S.of_below (below_alloc w o) (fun _ _ p => .inl p) hn (by simp)⟩

theorem drew_all (S : Sim w Pr φ h) : Le w Pr φ h w.drew Pr φ h ∧ Fr w Pr φ w.drew Pr φ ∧ Sim w.drew Pr φ h :=
  ⟨Le.of_below (below_drew w) (fun _ _ p => p) S.prlt, Fr.of_below (below_drew w) (fun _ _ p => .inl p) (Nat.le_refl _) rfl rfl rfl, S.of_below (below_drew w) (fun _ _ p => p) (fun _ _ p => .inl p) (Nat.le_refl _)⟩

/-- A block of the memory that is there already becomes one of the store's. -/
theorem adopt (S : Sim w Pr φ h) (c : Nat) (k : Blk) (hc : ∀ x ∈ φ, x ≠ c) {vs : Array Value} {e : TypeId} (he : w.heap[c]? = some (.cells vs e (0, 0))) (hl : k.cs.length ≤ vs.size)
    (hr : RepL w Pr (φ ++ [c]) (h ++ [k]) k.cs (vs.toList.take k.cs.length)) (hrc : k.box = false → RepL w Pr [] [] k.cs (vs.toList.take k.cs.length)) (ho : k.cs.all D.one = true) (hf : k.fz ≤ k.cs.length) (hpr : ∀ o, Pr c o → o < k.fz) :
    Le w Pr φ h w Pr (φ ++ [c]) (h ++ [k]) ∧ Sim w Pr (φ ++ [c]) (h ++ [k]) := by
  have l : Le w Pr φ h w Pr (φ ++ [c]) (h ++ [k]) := by
    refine ⟨fun _ _ p => ⟨p, rfl⟩, fun i k' hk => ⟨k', ?_, rfl, Nat.le_refl _, fun _ c' hc' => ⟨?_, fun _ r => r⟩⟩⟩
    · rw [List.getElem?_append_left (List.getElem?_eq_some_iff.1 hk).1]; exact hk
    · rw [List.getElem?_append_left (List.getElem?_eq_some_iff.1 hc').1]; exact hc'
  refine ⟨l, by simp [S.len], S.prlt, fun i k' c' hk' hc' => ?_, fun i j c' hi hj => ?_⟩
  · by_cases hi : i < h.length
    · rw [List.getElem?_append_left hi] at hk'
      rw [List.getElem?_append_left (by rw [S.len]; exact hi)] at hc'
      obtain ⟨vs, e, he, hl, hr, ho, hf, hpr⟩ := S.blk i k' c' hk' hc'
      refine ⟨vs, e, he, hl, ?_, ho, hf, hpr⟩
      cases hbx : k'.box <;> simp only [hbx, cond_true, cond_false] at hr ⊢
      · exact hr
      · exact RepL.mono l _ _ hr
    · have hi' : i = h.length := by
        have := (List.getElem?_eq_some_iff.1 hk').1
        simp at this; omega
      subst hi'
      simp at hk'
      rw [← S.len] at hc'
      simp at hc'
      subst hk' hc'
      refine ⟨vs, e, he, hl, ?_, ho, hf, hpr⟩
      cases hbx : k.box <;> simp only [cond_true, cond_false]
      · exact hrc hbx
      · exact hr
  · have one : ∀ i, (φ ++ [c])[i]? = some c' → (i < φ.length ∧ φ[i]? = some c') ∨ (i = φ.length ∧ c' = c) := by
      intro i hi
      by_cases hlt : i < φ.length
      · rw [List.getElem?_append_left hlt] at hi; exact .inl ⟨hlt, hi⟩
      · have : i = φ.length := by have := (List.getElem?_eq_some_iff.1 hi).1; simp at this; omega
        subst this; simp at hi; exact .inr ⟨rfl, hi.symm⟩
    rcases one i hi with ⟨a, b⟩ | ⟨a, b⟩ <;> rcases one j hj with ⟨a', b'⟩ | ⟨a', b'⟩
    · exact S.inj i j c' b b'
    · subst b'; exact absurd rfl (hc c' (List.mem_of_getElem? b))
    · subst b; exact absurd rfl (hc c' (List.mem_of_getElem? b'))
    · omega

/-- A new block of the store. -/
theorem own_alloc (S : Sim w Pr φ h) (vs : Array Value) (e : TypeId) (k : Blk) (hl : k.cs.length ≤ vs.size)
    (hr : RepL w Pr φ h k.cs (vs.toList.take k.cs.length)) (hrc : k.box = false → RepL w Pr [] [] k.cs (vs.toList.take k.cs.length)) (ho : k.cs.all D.one = true) (hf : k.fz = 0) :
    Le w Pr φ h (w.alloc (.cells vs e)) Pr (φ ++ [w.heap.size]) (h ++ [k]) ∧ Fr w Pr φ (w.alloc (.cells vs e)) Pr (φ ++ [w.heap.size]) ∧ Sim (w.alloc (.cells vs e)) Pr (φ ++ [w.heap.size]) (h ++ [k]) := by
  have hn : ∀ b p, Pr b p → Pr b p ∨ (w.heap.size ≤ b ∧ b < (w.alloc (.cells vs e)).heap.size) := fun _ _ q => .inl q
  have l1 : Le w Pr φ h (w.alloc (.cells vs e)) Pr φ h := Le.of_below (below_alloc w _) (fun _ _ p => p) S.prlt
  have s1 : Sim (w.alloc (.cells vs e)) Pr φ h := S.of_below (below_alloc w _) (fun _ _ p => p) hn (by simp)
  have hc : ∀ x ∈ φ, x ≠ w.heap.size := fun x hx => Nat.ne_of_lt (S.mem_lt hx)
  have la : Le (w.alloc (.cells vs e)) Pr φ h (w.alloc (.cells vs e)) Pr (φ ++ [w.heap.size]) (h ++ [k]) := by
    refine ⟨fun _ _ p => ⟨p, rfl⟩, fun i k' hk => ⟨k', ?_, rfl, Nat.le_refl _, fun _ c' hc' => ⟨?_, fun _ r => r⟩⟩⟩
    · rw [List.getElem?_append_left (List.getElem?_eq_some_iff.1 hk).1]; exact hk
    · rw [List.getElem?_append_left (List.getElem?_eq_some_iff.1 hc').1]; exact hc'
  obtain ⟨l2, s2⟩ := adopt s1 w.heap.size k hc (heap_alloc_new w _) hl (RepL.mono (l1.trans la) _ _ hr) (fun hb => RepL.mono l1.closed _ _ (hrc hb)) ho (by omega) (fun o p => absurd (S.prlt _ o p) (by omega))
  refine ⟨l1.trans l2, ⟨rfl, rfl, rfl, by simp, fun b hb _ => below_alloc w _ b hb, fun c hc => ?_, fun b o p => .inl p⟩, s2⟩
  rcases List.mem_append.1 hc with h | h
  · exact .inl h
  · exact .inr (by simp at h; omega)

/-- A block of the store is written. -/
theorem own_write (S : Sim w Pr φ h) {i c : Nat} {k k' : Blk} (hi : h[i]? = some k) (hc : φ[i]? = some c) {vs vs' : Array Value} {e : TypeId} (he : w.heap[c]? = some (.cells vs e (0, 0)))
    (he' : w'.heap[c]? = some (.cells vs' e (0, 0))) (hoth : ∀ b, b ≠ c → w'.heap[b]? = w.heap[b]?) (hsz : w'.heap.size = w.heap.size) (h1 : w'.os = w.os) (h2 : w'.tape = w.tape) (h3 : w'.output = w.output)
    (hvs : vs.size ≤ vs'.size) (hpre : ∀ o, o < k.fz → vs'[o]? = vs[o]?) (hbx : k'.box = k.box) (hln : k.cs.length ≤ k'.cs.length) (hl : k'.cs.length ≤ vs'.size)
    (hfz : k'.fz = k.fz) (ho : k'.cs.all D.one = true)
    (hr : Le w Pr φ h w' Pr φ (h.set i k') → (bif k.box then RepL w' Pr φ (h.set i k') k'.cs (vs'.toList.take k'.cs.length) else RepL w' Pr [] [] k'.cs (vs'.toList.take k'.cs.length))) :
    Le w Pr φ h w' Pr φ (h.set i k') ∧ Fr w Pr φ w' Pr φ ∧ Sim w' Pr φ (h.set i k') := by
  have hil : i < h.length := (List.getElem?_eq_some_iff.1 hi).1
  obtain ⟨vs0, e0, q1, q2, q3, q4, q5, q6⟩ := S.blk i k c hi hc
  have hroom : ∀ b n, Room w b n → Room w' b n := by
    intro b n r
    by_cases hb : b = c
    · subst hb
      obtain ⟨u, f, hu, hn⟩ := r
      rw [he] at hu
      simp at hu
      obtain ⟨rfl, rfl⟩ := hu
      exact ⟨vs', e, he', by omega⟩
    · exact r.same (hoth b hb)
  have l : Le w Pr φ h w' Pr φ (h.set i k') := by
    refine ⟨fun b o p => ⟨p, ?_⟩, fun j kj hj => ?_⟩
    · by_cases hb : b = c
      · subst hb
        have hof := q6 o p
        simp [World.cell?, he, he', hpre o hof]
      · simp [World.cell?, hoth b hb]
    · by_cases hji : j = i
      · subst hji
        rw [hi] at hj
        simp at hj
        subst hj
        exact ⟨k', by simp [hil], hbx, hln, fun _ c' hc' => ⟨hc', fun n r => hroom c' n r⟩⟩
      · exact ⟨kj, by rw [List.getElem?_set_ne (Ne.symm hji)]; exact hj, rfl, Nat.le_refl _, fun _ c' hc' => ⟨hc', fun n r => hroom c' n r⟩⟩
  refine ⟨l, ⟨h1, h2, h3, by omega, fun b _ hn => hoth b fun hbc => hn (hbc ▸ List.mem_of_getElem? hc), fun _ hx => .inl hx, fun _ _ p => .inl p⟩, by simp [S.len], fun b o p => by rw [hsz]; exact S.prlt b o p, fun j kj cj hj hcj => ?_, S.inj⟩
  by_cases hji : j = i
  · subst hji
    rw [hc] at hcj
    simp at hcj
    subst hcj
    simp [hil] at hj
    subst hj
    refine ⟨vs', e, he', hl, ?_, ho, by omega, fun o p => by rw [hfz]; exact q6 o p⟩
    rw [hbx]
    exact hr l
  · rw [List.getElem?_set_ne (Ne.symm hji)] at hj
    obtain ⟨us, f, g1, g2, g3, g4, g5, g6⟩ := S.blk j kj cj hj hcj
    have hne : cj ≠ c := fun hh => hji (S.inj j i c (hh ▸ hcj) hc)
    refine ⟨us, f, (hoth cj hne).trans g1, g2, ?_, g4, g5, g6⟩
    cases hb : kj.box <;> simp only [hb, cond_true, cond_false] at g3 ⊢
    · exact RepL.mono l.closed _ _ g3
    · exact RepL.mono l _ _ g3

/-- A row of the store grows into a new block. -/
theorem own_move (S : Sim w Pr φ h) {i c c' : Nat} {k k' : Blk} (hi : h[i]? = some k) (hc : φ[i]? = some c) (hnew : c' ∉ φ) (hnp : ∀ o, ¬ Pr c' o)
    {vs' : Array Value} {e : TypeId} (he' : w.heap[c']? = some (.cells vs' e (0, 0)))
    (hbx : k'.box = false) (hbk : k.box = false) (hln : k.cs.length < k'.cs.length) (hl : k'.cs.length ≤ vs'.size) (hfz : k'.fz ≤ k'.cs.length) (ho : k'.cs.all D.one = true)
    (hr : RepL w Pr [] [] k'.cs (vs'.toList.take k'.cs.length)) :
    Le w Pr φ h w Pr (φ.set i c') (h.set i k') ∧ Sim w Pr (φ.set i c') (h.set i k') := by
  have hil : i < h.length := (List.getElem?_eq_some_iff.1 hi).1
  have hil' : i < φ.length := by rw [S.len]; exact hil
  have l : Le w Pr φ h w Pr (φ.set i c') (h.set i k') := by
    refine ⟨fun b o p => ⟨p, rfl⟩, fun j kj hj => ?_⟩
    by_cases hji : j = i
    · subst hji
      rw [hi] at hj
      simp at hj
      subst hj
      exact ⟨k', by simp [hil], by rw [hbx, hbk], by omega, fun hh => by omega⟩
    · exact ⟨kj, by rw [List.getElem?_set_ne (Ne.symm hji)]; exact hj, rfl, Nat.le_refl _, fun _ c'' hc'' => ⟨by rw [List.getElem?_set_ne (Ne.symm hji)]; exact hc'', fun n r => r⟩⟩
  refine ⟨l, by simp [S.len], S.prlt, fun j kj cj hj hcj => ?_, fun a b x ha hb => ?_⟩
  · by_cases hji : j = i
    · subst hji
      simp [hil'] at hcj
      subst hcj
      simp [hil] at hj
      subst hj
      refine ⟨vs', e, he', hl, ?_, ho, hfz, fun o p => absurd p (hnp o)⟩
      simp only [hbx, cond_false]
      exact hr
    · rw [List.getElem?_set_ne (Ne.symm hji)] at hj hcj
      obtain ⟨us, f, g1, g2, g3, g4, g5, g6⟩ := S.blk j kj cj hj hcj
      refine ⟨us, f, g1, g2, ?_, g4, g5, g6⟩
      cases hb : kj.box <;> simp only [hb, cond_true, cond_false] at g3 ⊢
      · exact g3
      · exact RepL.mono l _ _ g3
  · by_cases hai : a = i <;> by_cases hbi : b = i
    · omega
    · subst hai
      simp [hil'] at ha
      rw [List.getElem?_set_ne (Ne.symm hbi)] at hb
      subst ha
      exact absurd (List.mem_of_getElem? hb) hnew
    · subst hbi
      simp [hil'] at hb
      rw [List.getElem?_set_ne (Ne.symm hai)] at ha
      subst hb
      exact absurd (List.mem_of_getElem? ha) hnew
    · rw [List.getElem?_set_ne (Ne.symm hai)] at ha
      rw [List.getElem?_set_ne (Ne.symm hbi)] at hb
      exact S.inj a b x ha hb

/-- The first f cells of a block are written no more. -/
theorem own_freeze (S : Sim w Pr φ h) {i c f : Nat} {k k' : Blk} (hi : h[i]? = some k) (hc : φ[i]? = some c) (hf : f ≤ k.cs.length) (hk' : k' = ⟨k.cs, max k.fz f, k.box⟩) : let Pr' := fun b o => Pr b o ∨ (b = c ∧ o < f)
    Le w Pr φ h w Pr' φ (h.set i k') ∧ Fr w Pr φ w Pr' φ ∧ Sim w Pr' φ (h.set i k') := by
  intro Pr'
  subst hk'
  have hil : i < h.length := (List.getElem?_eq_some_iff.1 hi).1
  have l : Le w Pr φ h w Pr' φ (h.set i ⟨k.cs, max k.fz f, k.box⟩) := by
    refine ⟨fun b o p => ⟨.inl p, rfl⟩, fun j kj hj => ?_⟩
    by_cases hji : j = i
    · subst hji
      rw [hi] at hj
      simp at hj
      subst hj
      exact ⟨⟨k.cs, max k.fz f, k.box⟩, by simp [hil], rfl, Nat.le_refl _, fun _ c' hc' => ⟨hc', fun n r => r⟩⟩
    · exact ⟨kj, by rw [List.getElem?_set_ne (Ne.symm hji)]; exact hj, rfl, Nat.le_refl _, fun _ c'' hc'' => ⟨hc'', fun n r => r⟩⟩
  have hcl := S.lt hc
  refine ⟨l, ⟨rfl, rfl, rfl, Nat.le_refl _, fun _ _ _ => rfl, fun _ hx => .inl hx, fun b o p => by
    rcases p with p | ⟨rfl, _⟩
    · exact .inl p
    · exact .inr (.inl (List.mem_of_getElem? hc))⟩, by simp [S.len], fun b o p => ?_, fun j kj cj hj hcj => ?_, S.inj⟩
  · rcases p with p | ⟨rfl, _⟩
    · exact S.prlt b o p
    · exact hcl
  · by_cases hji : j = i
    · subst hji
      rw [hc] at hcj
      simp at hcj
      subst hcj
      simp [hil] at hj
      subst hj
      obtain ⟨us, e, g1, g2, g3, g4, g5, g6⟩ := S.blk j k c hi hc
      refine ⟨us, e, g1, g2, ?_, g4, by simp only; omega, fun o p => ?_⟩
      · cases hb : k.box <;> simp only [hb, cond_true, cond_false] at g3 ⊢
        · exact RepL.mono l.closed _ _ g3
        · have := RepL.mono l _ _ g3
          rw [hb] at this
          exact this
      · simp only
        rcases p with p | ⟨_, p⟩
        · have := g6 o p; omega
        · omega
    · rw [List.getElem?_set_ne (Ne.symm hji)] at hj
      obtain ⟨us, e, g1, g2, g3, g4, g5, g6⟩ := S.blk j kj cj hj hcj
      have hne : cj ≠ c := fun hh => hji (S.inj j i c (hh ▸ hcj) hc)
      refine ⟨us, e, g1, g2, ?_, g4, g5, fun o p => ?_⟩
      · cases hb : kj.box <;> simp only [hb, cond_true, cond_false] at g3 ⊢
        · exact RepL.mono l.closed _ _ g3
        · exact RepL.mono l _ _ g3
      · rcases p with p | ⟨q, _⟩
        · exact g6 o p
        · exact absurd q hne
end

end Go.Proofs.Ytcaglmjfphjpfaa.E
