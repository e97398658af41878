/- How simp computes a call to which a part of the store is lent. -/
import Derived.Test.YtccinlhenkkpeaaDoorAw
namespace Go.Proofs.YtccinlhenkkpeaaDoor.E
open Go
set_option linter.unusedSimpArgs false
set_option linter.unusedVariables false

section
variable {α : Type} {E' : Cell α} {ρ : Nat → Option Nat} {h : List Blk}

/-! ### Data without blocks -/

/-- Cells that name no block. -/
def Shut (cs : List D) : Prop := refsL cs = [] ∧ (∀ ρ, renL ρ cs = some cs) ∧ ∀ m h, frzL m cs h = some (cs, h)

@[simp] theorem refs_int (k : IntKind) (n : Int) : (D.int k n).refs = [] := id rfl
@[simp] theorem refs_bool (b : Bool) : (D.bool b).refs = [] := id rfl
@[simp] theorem refs_str (s : ByteArray) : (D.str s).refs = [] := id rfl
@[simp] theorem refs_arr (n : Nat) (f : Bool) (cs : List D) : (D.arr n f cs).refs = [] := id rfl
@[simp] theorem refs_row (b : Bool) (l : List α) : (row E' b l).refs = [] := id rfl
@[simp] theorem refs_cptr (cs : List D) : (D.cptr cs).refs = [] := id rfl
@[simp] theorem refs_nilp : D.nilp.refs = [] := id rfl
@[simp] theorem refs_nilf : D.nilf.refs = [] := id rfl
@[simp] theorem refs_nili : D.nili.refs = [] := id rfl
@[simp] theorem refs_ref (b off n sz gen : Nat) (full : Bool) : (D.ref b off n sz gen full).refs = [b] := id rfl
@[simp] theorem refs_ptr (b o g : Nat) : (D.ptr b o g).refs = [b] := id rfl
@[simp] theorem refs_agg (cs : List D) : (D.agg cs).refs = refsL cs := by simp only [D.refs]
@[simp] theorem refs_tup (cs : List D) : (D.tup cs).refs = refsL cs := by simp only [D.refs]
@[simp] theorem refs_fn (f : Fn) (a c : List D) : (D.fn f a c).refs = refsL a ++ refsL c := by simp only [D.refs]
@[simp] theorem refs_ifc (t : TypeId) (d : D) : (D.ifc t d).refs = d.refs := by simp only [D.refs]
@[simp] theorem refsL_nil : refsL [] = [] := id rfl
@[simp] theorem refsL_cons (d : D) (r : List D) : refsL (d :: r) = d.refs ++ refsL r := by simp only [refsL]

@[simp] theorem ren_int (k : IntKind) (n : Int) : (D.int k n).ren ρ = some (.int k n) := id rfl
@[simp] theorem ren_bool (b : Bool) : (D.bool b).ren ρ = some (.bool b) := id rfl
@[simp] theorem ren_str (s : ByteArray) : (D.str s).ren ρ = some (.str s) := id rfl
@[simp] theorem ren_arr (n : Nat) (f : Bool) (cs : List D) : (D.arr n f cs).ren ρ = some (.arr n f cs) := id rfl
@[simp] theorem ren_row (b : Bool) (l : List α) : (row E' b l).ren ρ = some (row E' b l) := id rfl
@[simp] theorem ren_cptr (cs : List D) : (D.cptr cs).ren ρ = some (.cptr cs) := id rfl
@[simp] theorem ren_nilp : D.nilp.ren ρ = some .nilp := id rfl
@[simp] theorem ren_nilf : D.nilf.ren ρ = some .nilf := id rfl
@[simp] theorem ren_nili : D.nili.ren ρ = some .nili := id rfl
@[simp] theorem ren_ref (b off n sz gen : Nat) (full : Bool) : (D.ref b off n sz gen full).ren ρ = (ρ b).map fun b' => .ref b' off n sz gen full := by
  simp only [D.ren]; cases ρ b <;> rfl
@[simp] theorem ren_ptr (b o g : Nat) : (D.ptr b o g).ren ρ = (ρ b).map fun b' => .ptr b' o g := by
  simp only [D.ren]; cases ρ b <;> rfl
@[simp] theorem ren_agg (cs : List D) : (D.agg cs).ren ρ = (renL ρ cs).map .agg := by
  simp only [D.ren]; cases renL ρ cs <;> rfl
@[simp] theorem ren_tup (cs : List D) : (D.tup cs).ren ρ = (renL ρ cs).map .tup := by
  simp only [D.ren]; cases renL ρ cs <;> rfl
@[simp] theorem ren_fn (f : Fn) (a c : List D) : (D.fn f a c).ren ρ = (renL ρ a).bind fun a' => (renL ρ c).map fun c' => .fn f a' c' := by
  simp only [D.ren]; cases renL ρ a <;> cases renL ρ c <;> rfl
@[simp] theorem ren_ifc (t : TypeId) (d : D) : (D.ifc t d).ren ρ = (d.ren ρ).map (.ifc t) := by
  simp only [D.ren]; cases d.ren ρ <;> rfl
@[simp] theorem renL_nil : renL ρ [] = some [] := by simp only [renL]
@[simp] theorem renL_cons (d : D) (r : List D) : renL ρ (d :: r) = (d.ren ρ).bind fun d' => (renL ρ r).map (d' :: ·) := by
  simp only [renL]; cases d.ren ρ <;> cases renL ρ r <;> rfl

@[simp] theorem frz1_int (m : Nat) (k : IntKind) (n : Int) : frz1 m (.int k n) h = some (.int k n, h) := id rfl
@[simp] theorem frz1_bool (m : Nat) (b : Bool) : frz1 m (.bool b) h = some (.bool b, h) := id rfl
@[simp] theorem frz1_str (m : Nat) (s : ByteArray) : frz1 m (.str s) h = some (.str s, h) := id rfl
@[simp] theorem frz1_arr (m : Nat) (n : Nat) (f : Bool) (cs : List D) : frz1 m (.arr n f cs) h = some (.arr n f cs, h) := id rfl
@[simp] theorem frz1_row (m : Nat) (b : Bool) (l : List α) : frz1 m (row E' b l) h = some (row E' b l, h) := id rfl
@[simp] theorem frz1_cptr (m : Nat) (cs : List D) : frz1 m (.cptr cs) h = some (.cptr cs, h) := id rfl
@[simp] theorem frz1_nilp (m : Nat) : frz1 m .nilp h = some (.nilp, h) := id rfl
@[simp] theorem frz1_nilf (m : Nat) : frz1 m .nilf h = some (.nilf, h) := id rfl
@[simp] theorem frz1_nili (m : Nat) : frz1 m .nili h = some (.nili, h) := id rfl
@[simp] theorem frz1_ptr (m b o g : Nat) : frz1 m (.ptr b o g) h = some (.ptr b o g, h) := id rfl
@[simp] theorem frz1_fn (m : Nat) (f : Fn) (a c : List D) : frz1 m (.fn f a c) h = some (.fn f a c, h) := id rfl
@[simp] theorem frz1_ifc (m : Nat) (t : TypeId) (d : D) : frz1 m (.ifc t d) h = some (.ifc t d, h) := id rfl
@[simp] theorem frz1_tup (m : Nat) (cs : List D) : frz1 m (.tup cs) h = some (.tup cs, h) := id rfl
@[simp] theorem frz1_ref (m b off n sz gen : Nat) (full : Bool) : frz1 m (.ref b off n sz gen full) h = if m ≤ b then freeze1 (.ref b off n sz gen full) h else some (.ref b off n sz gen full, h) := id rfl
@[simp] theorem frzL_nil (m : Nat) : frzL m [] h = some ([], h) := id rfl
@[simp] theorem frzL_cons (m : Nat) (d : D) (r : List D) : frzL m (d :: r) h = (frz1 m d h).bind fun p => (frzL m r p.2).map fun q => (p.1 :: q.1, q.2) := by
  simp only [frzL]
  cases frz1 m d h with
  | none => rfl
  | some p => simp only [Option.bind_some]; cases frzL m r p.2 <;> rfl
@[simp] theorem frzV_agg (m : Nat) (cs : List D) : frzV m (.agg cs) h = (frzL m cs h).map fun q => (.agg q.1, q.2) := by
  simp only [frzV]; cases frzL m cs h <;> rfl
@[simp] theorem frzV_int (m : Nat) (k : IntKind) (n : Int) : frzV m (.int k n) h = some (.int k n, h) := id rfl
@[simp] theorem frzV_bool (m : Nat) (b : Bool) : frzV m (.bool b) h = some (.bool b, h) := id rfl
@[simp] theorem frzV_str (m : Nat) (s : ByteArray) : frzV m (.str s) h = some (.str s, h) := id rfl
@[simp] theorem frzV_arr (m : Nat) (n : Nat) (f : Bool) (cs : List D) : frzV m (.arr n f cs) h = some (.arr n f cs, h) := id rfl
@[simp] theorem frzV_row (m : Nat) (b : Bool) (l : List α) : frzV m (row E' b l) h = some (row E' b l, h) := id rfl
@[simp] theorem frzV_nilp (m : Nat) : frzV m .nilp h = some (.nilp, h) := id rfl
@[simp] theorem frzV_nilf (m : Nat) : frzV m .nilf h = some (.nilf, h) := id rfl
@[simp] theorem frzV_nili (m : Nat) : frzV m .nili h = some (.nili, h) := id rfl
@[simp] theorem frzV_ptr (m b o g : Nat) : frzV m (.ptr b o g) h = some (.ptr b o g, h) := id rfl
@[simp] theorem frzV_fn (m : Nat) (f : Fn) (a c : List D) : frzV m (.fn f a c) h = some (.fn f a c, h) := id rfl
@[simp] theorem frzV_ifc (m : Nat) (t : TypeId) (d : D) : frzV m (.ifc t d) h = some (.ifc t d, h) := id rfl
@[simp] theorem frzV_ref (m b off n sz gen : Nat) (full : Bool) : frzV m (.ref b off n sz gen full) h = if m ≤ b then freeze1 (.ref b off n sz gen full) h else some (.ref b off n sz gen full, h) := id rfl
@[simp] theorem frzVs_nil (m : Nat) : frzVs m [] h = some ([], h) := id rfl
@[simp] theorem frzVs_cons (m : Nat) (d : D) (r : List D) : frzVs m (d :: r) h = (frzV m d h).bind fun p => (frzVs m r p.2).map fun q => (p.1 :: q.1, q.2) := by
  simp only [frzVs]
  cases frzV m d h with
  | none => rfl
  | some p => simp only [Option.bind_some]; cases frzVs m r p.2 <;> rfl
@[simp] theorem frzR_tup (m : Nat) (cs : List D) : frzR m (.tup cs) h = (frzVs m cs h).map fun q => (.tup q.1, q.2) := by
  simp only [frzR]; cases frzVs m cs h <;> rfl
@[simp] theorem frzR_int (m : Nat) (k : IntKind) (n : Int) : frzR m (.int k n) h = some (.int k n, h) := id rfl
@[simp] theorem frzR_bool (m : Nat) (b : Bool) : frzR m (.bool b) h = some (.bool b, h) := id rfl
@[simp] theorem frzR_row (m : Nat) (b : Bool) (l : List α) : frzR m (row E' b l) h = some (row E' b l, h) := id rfl
@[simp] theorem frzR_agg (m : Nat) (cs : List D) : frzR m (.agg cs) h = (frzL m cs h).map fun q => (.agg q.1, q.2) := by
  simp only [frzR, frzV]; cases frzL m cs h <;> rfl
@[simp] theorem frzR_fn (m : Nat) (f : Fn) (a c : List D) : frzR m (.fn f a c) h = some (.fn f a c, h) := id rfl
@[simp] theorem frzR_ptr (m b o g : Nat) : frzR m (.ptr b o g) h = some (.ptr b o g, h) := id rfl

@[simp] theorem range_0 : List.range 0 = [] := id rfl
@[simp] theorem range_1 : List.range 1 = [0] := id rfl
@[simp] theorem range_2 : List.range 2 = [0, 1] := id rfl
@[simp] theorem range_3 : List.range 3 = [0, 1, 2] := id rfl
@[simp] theorem range_4 : List.range 4 = [0, 1, 2, 3] := id rfl
@[simp] theorem range_5 : List.range 5 = [0, 1, 2, 3, 4] := id rfl
@[simp] theorem range_6 : List.range 6 = [0, 1, 2, 3, 4, 5] := id rfl

/-! ### Blocks -/

@[simp] theorem blkrefs_box (cs : List D) (fz : Nat) : (Blk.mk cs fz true).refs = refsL cs := id rfl
@[simp] theorem blkrefs_arr (cs : List D) (fz : Nat) : (Blk.mk cs fz false).refs = [] := id rfl
@[simp] theorem blkren_box (cs : List D) (fz : Nat) : (Blk.mk cs fz true).ren ρ = (renL ρ cs).map fun cs => ⟨cs, fz, true⟩ := by
  simp only [Blk.ren, cond_true]; cases renL ρ cs <;> rfl
@[simp] theorem blkren_arr (cs : List D) (fz : Nat) : (Blk.mk cs fz false).ren ρ = some ⟨cs, fz, false⟩ := id rfl

@[simp] theorem reach_nil (n : Nat) (acc : List Nat) : reach h n [] acc = acc := by cases n <;> rfl
def reachK (h : List Blk) (n : Nat) (b : Nat) (r acc : List Nat) (x : Option Blk) : List Nat := match x with
  | some k => reach h n (k.refs ++ r) (acc ++ [b])
  | none => reach h n r acc
@[simp] theorem reachK_some (n b : Nat) (r acc : List Nat) (k : Blk) : reachK h n b r acc (some k) = reach h n (k.refs ++ r) (acc ++ [b]) := id rfl
@[simp] theorem reach_cons (n b : Nat) (r acc : List Nat) : reach h (n + 1) (b :: r) acc = if acc.contains b = true then reach h n r acc else reachK h n b r acc h[b]? := by
  simp only [reach, reachK]
  cases acc.contains b <;> rfl

@[simp] theorem idx_nil (b : Nat) : idx [] b = none := id rfl
@[simp] theorem idx_cons (x : Nat) (r : List Nat) (b : Nat) : idx (x :: r) b = if x = b then some 0 else (idx r b).map (· + 1) := by
  simp only [idx]; split
  · rfl
  · cases idx r b <;> rfl
@[simp] theorem partH_nil : partH ρ h [] = some [] := id rfl
@[simp] theorem partH_cons (b : Nat) (r : List Nat) : partH ρ h (b :: r) = (h[b]?).bind fun k => (k.ren ρ).bind fun k' => (partH ρ h r).map (k' :: ·) := by
  simp only [partH]
  cases h[b]? with
  | none => rfl
  | some k => simp only [Option.bind_some]; cases k.ren ρ <;> cases partH ρ h r <;> rfl
@[simp] theorem renBs_nil : renBs ρ [] = some [] := id rfl
@[simp] theorem renBs_cons (k : Blk) (r : List Blk) : renBs ρ (k :: r) = (k.ren ρ).bind fun k' => (renBs ρ r).map (k' :: ·) := by
  simp only [renBs]; cases k.ren ρ <;> cases renBs ρ r <;> rfl
@[simp] theorem backN_def (n : Nat) (bs : List Nat) (i : Nat) : backN n bs i = if i < bs.length then bs[i]? else some (n + (i - bs.length)) := id rfl
@[simp] theorem putBs_nil (ks : List Blk) : putBs h [] ks = h := by simp only [putBs]
@[simp] theorem putBs_cons (b : Nat) (bs : List Nat) (k : Blk) (ks : List Blk) : putBs h (b :: bs) (k :: ks) = putBs (h.set b k) bs ks := by simp only [putBs]
theorem back_def (bs : List Nat) (r : D) (h2 : List Blk) : back h bs r h2 = (r.ren (backN h.length bs)).bind fun r' => (renBs (backN h.length bs) h2).map fun ks => (r', putBs h bs (ks.take bs.length) ++ ks.drop bs.length) := by
  simp only [back]; cases r.ren (backN h.length bs) <;> cases renBs (backN h.length bs) h2 <;> rfl
@[simp] theorem frzB_nil (m : Nat) : frzB m [] h = some h := id rfl
def frzBK (m : Nat) (b : Nat) (r : List Nat) (h : List Blk) (x : Option Blk) : Option (List Blk) := match x with
  | some k => bif k.box then (frzL m k.cs h).bind fun p => frzB m r (p.2.set b ⟨p.1, k.fz, true⟩) else frzB m r h
  | none => frzB m r h
@[simp] theorem frzBK_box (m b : Nat) (r : List Nat) (cs : List D) (fz : Nat) : frzBK m b r h (some ⟨cs, fz, true⟩) = (frzL m cs h).bind fun p => frzB m r (p.2.set b ⟨p.1, fz, true⟩) := id rfl
@[simp] theorem frzBK_arr (m b : Nat) (r : List Nat) (cs : List D) (fz : Nat) : frzBK m b r h (some ⟨cs, fz, false⟩) = frzB m r h := id rfl
@[simp] theorem frzB_cons (m b : Nat) (r : List Nat) : frzB m (b :: r) h = frzBK m b r h h[b]? := by
  simp only [frzB, frzBK]
  cases h[b]? with
  | none => rfl
  | some k =>
    obtain ⟨cs, fz, box⟩ := k
    cases box
    · rfl
    · simp only [cond_true]; cases frzL m cs h <;> rfl

theorem lendW_def (S : List D → List Blk → Option (D × List Blk)) (h : List Blk) (ds : List D) : lendW S h ds =
    if (reach h 100 (refsL ds) []).Nodup then (renL (idx (reach h 100 (refsL ds) [])) ds).bind fun ds' => (partH (idx (reach h 100 (refsL ds) [])) h (reach h 100 (refsL ds) [])).bind fun h1 =>
      (S ds' h1).bind fun p => back h (reach h 100 (refsL ds) []) p.1 p.2 else none := by
  simp only [lendW]
  split
  · cases renL (idx (reach h 100 (refsL ds) [])) ds with
    | none => rfl
    | some ds' =>
      cases partH (idx (reach h 100 (refsL ds) [])) h (reach h 100 (refsL ds) []) with
      | none => rfl
      | some h1 =>
        simp only [Option.bind_some]
        cases S ds' h1 <;> rfl
  · rfl

theorem lendF_def (C : Calls) (f : FuncId) (ds : List D) : lendF C h f ds = (frzVs 0 ds h).bind fun p => (frzB 0 (reach p.2 100 (refsL p.1) []) p.2).bind fun h2 => lendW (lendS C f) h2 p.1 := by
  simp only [lendF]
  cases frzVs 0 ds h with
  | none => rfl
  | some p => simp only [Option.bind_some]; cases frzB 0 (reach p.2 100 (refsL p.1) []) p.2 <;> rfl

theorem settle_def (m : Nat) (r : D) (h : List Blk) : settle m r h =
    if (List.range m ++ (reach h 100 (r.refs ++ (h.take m).flatMap Blk.refs) []).filter (fun b => decide (m ≤ b))).Nodup then
      (r.ren (idx (List.range m ++ (reach h 100 (r.refs ++ (h.take m).flatMap Blk.refs) []).filter (fun b => decide (m ≤ b))))).bind fun r' =>
      (partH (idx (List.range m ++ (reach h 100 (r.refs ++ (h.take m).flatMap Blk.refs) []).filter (fun b => decide (m ≤ b)))) h (List.range m ++ (reach h 100 (r.refs ++ (h.take m).flatMap Blk.refs) []).filter (fun b => decide (m ≤ b)))).map fun h' => (r', h') else none := by
  simp only [settle]
  split
  · cases r.ren (idx (List.range m ++ (reach h 100 (r.refs ++ (h.take m).flatMap Blk.refs) []).filter (fun b => decide (m ≤ b)))) with
    | none => rfl
    | some r' =>
      simp only [Option.bind_some]
      cases partH (idx (List.range m ++ (reach h 100 (r.refs ++ (h.take m).flatMap Blk.refs) []).filter (fun b => decide (m ≤ b)))) h (List.range m ++ (reach h 100 (r.refs ++ (h.take m).flatMap Blk.refs) []).filter (fun b => decide (m ≤ b))) <;> rfl
  · rfl

theorem settleF_def (m : Nat) (r : D) (h : List Blk) : settleF m r h = (frzR m r h).bind fun p => (frzB m (List.range m) p.2).bind fun h2 => settle m p.1 h2 := by
  simp only [settleF]
  cases frzR m r h with
  | none => rfl
  | some p => simp only [Option.bind_some]; cases frzB m (List.range m) p.2 <;> rfl

@[simp] theorem callW_lends (C : Calls) {f : FuncId} {ds : List D} {K : D × List Blk → Prop} (hm : C.mode f = 3) : oSat (callW C h f ds) K = oSat ((frzVs 0 ds h).bind fun p => (frzB 0 (reach p.2 100 (refsL p.1) []) p.2).bind fun h2 => lendW (lendS C f) h2 p.1) K := by
  rw [callW_lend hm, lendF_def]
@[simp] theorem callW_keeps (C : Calls) {f : FuncId} {ds : List D} {K : D × List Blk → Prop} (hm : C.mode f = 4) : oSat (callW C h f ds) K = oSat (lendW (lendK C f) h ds) K := callW_keep hm

end

end Go.Proofs.YtccinlhenkkpeaaDoor.E
