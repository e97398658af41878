/- The abstract values and the evaluator of this claim: a plain function that runs a Go function's translated text over pure data. It states nothing of the program; the text behind it (Sim) shows that what it computes is what the model does. -/
import Derived.WalkKit
namespace Go.Proofs.YtccinlhenkkpeaaDoor.E
open Go

/-- Pure data: what a slot may hold. 'arr': a slice whose elements nobody writes any more (n elements, in flat cells; full: its capacity is n). 'ref': a slice in a block of the store. 'ptr': the address of a cell of such a block. 'cptr': the address of cells that nobody writes. 'any': nothing is known; 'anyb': some bool. 'mapd': a map that nobody writes any more, its keys and elements. -/
inductive D where
  | int (k : IntKind) (n : Int)
  | bool (b : Bool)
  | str (s : ByteArray)
  | arr (n : Nat) (full : Bool) (cs : List D)
  | ref (b off n sz gen : Nat) (full : Bool)
  | nilp
  | ptr (b off gen : Nat)
  | cptr (cs : List D)
  | agg (cs : List D)
  | tup (vs : List D)
  | fn (f : Fn) (first cap : List D)
  | nilf
  | ifc (t : TypeId) (d : D)
  | nili
  | any
  | anyb
  | mapd (ks vs : List D)

/-- A block of the store: its cells; of the first 'fz' nobody writes any more; is it a variable ('box') or the array of a slice? -/
structure Blk where
  cs : List D
  fz : Nat
  box : Bool

inductive XO where
  | t (i : Nat)
  | c (d : D)

inductive X where
  | mov (x : XO)
  | pick (c a b : XO)
  | box (x : XO)
  | alloc (zero : List D)
  | build (zero : List D) (ps : List (Nat × Nat × XO))
  | buildSlice (n : Nat) (zero : List D) (ps : List (Nat × Nat × XO))
  | load (sz : Option Nat) (a : XO)
  | store (sz : Nat) (a v : XO)
  | fieldAddr (off : Nat) (a : XO)
  | field (sz : Option Nat) (off : Nat) (x : XO)
  | indexAddr (sz : Nat) (x i : XO)
  | elemAddr (len sz : Nat) (x i : XO)
  | index (len : Nat) (sz : Nat) (ag : Bool) (x i : XO)
  | indexStr (x i : XO)
  | slice (sz : Nat) (x : XO) (lo hi mx : Option XO)
  | sliceStr (x : XO) (lo hi : Option XO)
  | bin (op : BinOp) (x y : XO)
  | binB (op : BinOp) (x y : XO)
  | eqAgg (ks : List Nat) (neg : Bool) (x y : XO)
  | un (op : UnOp) (x : XO)
  | conv (k : IntKind) (x : XO)
  | extract (x : XO) (i : Nat)
  | len (x : XO)
  | lenStr (x : XO)
  | min (xs : List XO)
  | max (xs : List XO)
  | append (sz bytes : Nat) (s x : XO)
  | appendZ (sz bytes : Nat) (zero : List D) (s n : XO)
  | copy (sz : Nat) (d s : XO)
  | makeSlice (sz bytes : Nat) (zero : List D) (l c : XO)
  | isNil (is : Bool) (x : XO)
  | isNilP (is : Bool) (x : XO)
  | clear (sz : Nat) (zero : List D) (x : XO)
  | cap (x : XO)
  | stuck
  | call (f : FuncId) (args : List XO)
  | callv (f : XO) (args : List XO)
  | mkfn (fn : Fn) (first cap : List XO)
  | nilCheck (x : XO)
  | mkifc (t : TypeId) (x : XO)
  | lookup (kinds : List Nat) (ag : Bool) (zero : D) (ok : Bool) (x i : XO)
  | newSlice (sz : Nat) (zero : List D) (ps : List (Nat × Nat × XO))
  | mkmap
  | insert (kinds : List Nat) (ag : Bool) (m k v : XO)

structure XOp where
  dst : Option Nat
  guard : Option (Nat × Bool)
  x : X

inductive XC where
  | skip
  | region (K : Option (List Nat)) (ops : List XOp)
  | regionD (K : Option (List Nat)) (bs : List Nat) (ops : List XOp)
  | seq (a b : XC)
  | cond (c : XO) (a b : XC)
  | block (id : Nat) (b : XC)
  | loop (b : XC)
  | exit (id : Nat)
  | ret
  | guard (k : Nat) (xs : List XOp) (c : XO) (ys : List XOp) (b : XC)
  | rangeF (f : XO) (ps : List Nat) (as b : XC)

/-- No range over a function within. -/
def XC.flat : XC → Bool
  | .seq a b | .cond _ a b => a.flat && b.flat
  | .block _ b | .loop b | .guard _ _ _ _ b => b.flat
  | .rangeF .. => false
  | _ => true

inductive XR where
  | tmp (t : Nat)
  | cell (t : Nat) (sz : Option Nat)

structure XF where
  res : List XR
  body : XC

/-! ### Small words on data -/

def D.cells : D → Option (List D)
  | .agg cs => some cs
  | .tup _ | .any => none
  | d => some [d]

/-- One cell's datum that leads to no block of the store. -/
def D.plain : D → Bool
  | .int .. | .bool _ | .str _ | .arr .. | .nilp | .nilf | .nili | .fn _ [] [] => true
  | _ => false

def putAt (cs : List D) (off : Nat) (new : List D) : List D := cs.take off ++ new ++ cs.drop (off + new.length)

def fillD (cs : List D) : List (Nat × Nat × D) → Option (List D)
  | [] => some cs
  | (off, size, d) :: r => match d.cells with
    | some new => if new.length = size ∧ off + size ≤ cs.length then fillD (putAt cs off new) r else none
    | none => none

def take1 (cs : List D) (off : Nat) : Option Nat → Option D
  | none => cs[off]?
  | some n => if off + n ≤ cs.length then some (.agg ((cs.drop off).take n)) else none

def zeros (zero : List D) : Nat → List D
  | 0 => []
  | n + 1 => zero ++ zeros zero n

def bnd1 (x : Option D) (dflt : Nat) : Option Nat :=
  match x with
  | none => some dflt
  | some (.int _ i) => if 0 ≤ i then some i.toNat else none
  | _ => none

/-- Is it known what room a part of a slice has? -/
def roomB (full : Bool) (n h : Nat) (m : Option Nat) (e g : Nat) : Bool := match m with
  | none => !full || (h == n || decide (g ≤ e))
  | some m => h == m

/-- The bounds of a slice expression. -/
def bnds (n : Nat) (lo hi mx : Option D) : Option (Nat × Nat × Option Nat) :=
  match bnd1 lo 0, bnd1 hi n with
  | some l, some h => match mx with
    | none => if l ≤ h ∧ h ≤ n then some (l, h, none) else none
    | some (.int _ m) => if 0 ≤ m ∧ m.toNat ≤ n ∧ h ≤ m.toNat ∧ l ≤ h then some (l, h, some m.toNat) else none
    | _ => none
  | _, _ => none

def evBin (op : BinOp) : D → D → Option D
  | .int k a, .int k' b =>
    if k ≠ k' then none else
    match op with
    | .add => some (.int k (k.wrap (a + b)))
    | .sub => some (.int k (k.wrap (a - b)))
    | .mul => some (.int k (k.wrap (a * b)))
    | .quo => if b = 0 then none else some (.int k (k.wrap (a.tdiv b)))
    | .rem => if b = 0 then none else some (.int k (a.tmod b))
    | .and => some (.int k (k.wrap (BitVec.ofInt k.bits a &&& BitVec.ofInt k.bits b).toNat))
    | .or => some (.int k (k.wrap (BitVec.ofInt k.bits a ||| BitVec.ofInt k.bits b).toNat))
    | .xor => some (.int k (k.wrap (BitVec.ofInt k.bits a ^^^ BitVec.ofInt k.bits b).toNat))
    | .shl => if b < 0 then none else some (.int k (k.wrap (a * 2 ^ (min b.toNat k.bits))))
    | .shr => if b < 0 then none else some (.int k (a.fdiv (2 ^ (min b.toNat k.bits))))
    | .eql => some (.bool (a == b))
    | .neq => some (.bool (a != b))
    | .lss => some (.bool (decide (a < b)))
    | .leq => some (.bool (decide (a ≤ b)))
    | .gtr => some (.bool (decide (a > b)))
    | .geq => some (.bool (decide (a ≥ b)))
    | _ => none
  | .str a, .str b => match op with
    | .eql => some (.bool (a.toList == b.toList))
    | .neq => some (.bool (!(a.toList == b.toList)))
    | .add => if a.size + b.size ≤ 1099511627776 then some (.str (a ++ b)) else none
    | _ => none
  | _, _ => none

def evBinB (op : BinOp) : D → D → Option D
  | .bool a, .bool b => match op with
    | .eql => some (.bool (a == b))
    | .neq => some (.bool (!(a == b)))
    | _ => none
  | _, _ => none

/-- Are two cells of one kind (0: integers, 1: bools, 2: strings) the same? -/
def eqCell : Nat → D → D → Option Bool
  | 0, .int k a, .int k' b => if k = k' then some (a == b) else none
  | 1, .bool a, .bool b => some (a == b)
  | 2, .str a, .str b => some (a.toList == b.toList)
  | _, _, _ => none

def eqCells : List Nat → List D → List D → Option Bool
  | [], [], [] => some true
  | k :: ks, a :: r, b :: s => match eqCell k a b with
    | some true => eqCells ks r s
    | some false => some false
    | none => none
  | _, _, _ => none

/-- Are two keys the same? (ag: keys are structs.) -/
def eqKey (ks : List Nat) (ag : Bool) (x y : D) : Option Bool := match ag, x, y with
  | true, .agg xs, .agg ys => if xs.length = ks.length ∧ ys.length = ks.length then eqCells ks xs ys else none
  | false, x, y => eqCells ks [x] [y]
  | _, _, _ => none

def keyOK (ks : List Nat) : Bool → D → Bool
  | true, .agg xs => xs.length == ks.length
  | true, _ => false
  | false, _ => true

/-- The element of a key; all keys are compared. -/
def findK (ks : List Nat) (ag : Bool) (k : D) : List D → List D → Option (Option D)
  | [], [] => bif keyOK ks ag k then some none else none
  | a :: r, v :: vs => match eqKey ks ag k a, findK ks ag k r vs with
    | some false, o => o
    | some true, some none => some (some v)
    | _, _ => none
  | _, _ => none

def evUn (op : UnOp) : D → Option D
  | .int k a => match op with
    | .neg => some (.int k (k.wrap (0 - a)))
    | _ => none
  | .bool b => match op with
    | .not => some (.bool (!b))
    | _ => none
  | _ => none

def minD : D → D → Option D
  | .int k x, .int k' y => if k = k' then some (.int k (if y < x then y else x)) else none
  | _, _ => none

def maxD : D → D → Option D
  | .int k x, .int k' y => if k = k' then some (.int k (if y > x then y else x)) else none
  | _, _ => none

def foldD (f : D → D → Option D) (x : D) : List D → Option D
  | [] => some x
  | y :: r => match f x y with
    | some z => foldD f z r
    | none => none

/-! ### What is handed over: references become data -/

def freeze1 (d : D) (h : List Blk) : Option (D × List Blk) :=
  match d with
  | .ref b off n sz gen _ => match h[b]? with
    | some blk => if blk.cs.length = gen ∧ off + n * sz ≤ gen ∧ blk.box = false then
        some (.arr n false ((blk.cs.drop off).take (n * sz)), h.set b ⟨blk.cs, max blk.fz (off + n * sz), false⟩) else none
    | none => none
  | .arr n _ cs => some (.arr n false cs, h)
  | d => if d.plain then some (d, h) else none

def freezeL : List D → List Blk → Option (List D × List Blk)
  | [], h => some ([], h)
  | d :: r, h => match freeze1 d h with
    | some (d', h') => match freezeL r h' with
      | some (r', h'') => some (d' :: r', h'')
      | none => none
    | none => none

def freezeV (d : D) (h : List Blk) : Option (D × List Blk) :=
  match d with
  | .agg cs => match freezeL cs h with
    | some (cs', h') => some (.agg cs', h')
    | none => none
  | d => freeze1 d h

def freezeVs : List D → List Blk → Option (List D × List Blk)
  | [], h => some ([], h)
  | d :: r, h => match freezeV d h with
    | some (d', h') => match freezeVs r h' with
      | some (r', h'') => some (d' :: r', h'')
      | none => none
    | none => none

def freezeR (d : D) (h : List Blk) : Option (D × List Blk) :=
  match d with
  | .tup vs => match freezeVs vs h with
    | some (vs', h') => some (.tup vs', h')
    | none => none
  | d => freezeV d h

/-- The same without a store. -/
def seal1 : D → Option D
  | .arr n _ cs => some (.arr n false cs)
  | d => if d.plain then some d else none

def sealL : List D → Option (List D)
  | [] => some []
  | d :: r => match seal1 d, sealL r with
    | some d, some r => some (d :: r)
    | _, _ => none

def sealV : D → Option D
  | .agg cs => match sealL cs with
    | some cs => some (.agg cs)
    | none => none
  | d => seal1 d

def sealVs : List D → Option (List D)
  | [] => some []
  | d :: r => match sealV d, sealVs r with
    | some d, some r => some (d :: r)
    | _, _ => none

/-- Does a cell lead to a block that is written by others, too? Such an argument is handed over as it is. -/
def D.tied : D → Bool
  | .ptr .. => true
  | .fn _ a b => !(a.isEmpty && b.isEmpty)
  | .ifc .. => true
  | .agg cs => cs.any fun | .ptr .. => true | .fn _ a b => !(a.isEmpty && b.isEmpty) | .ifc .. => true | _ => false
  | _ => false

/-! ### A part of the store, its blocks numbered anew -/

mutual
/-- The blocks that a datum names. -/
def D.refs : D → List Nat
  | .ref b _ _ _ _ _ => [b]
  | .ptr b _ _ => [b]
  | .agg cs => refsL cs
  | .tup vs => refsL vs
  | .fn _ a c => refsL a ++ refsL c
  | .ifc _ d => d.refs
  | _ => []
def refsL : List D → List Nat
  | [] => []
  | d :: r => d.refs ++ refsL r
end

mutual
def D.ren (ρ : Nat → Option Nat) : D → Option D
  | .ref b off n sz gen full => match ρ b with
    | some b' => some (.ref b' off n sz gen full)
    | none => none
  | .ptr b off gen => match ρ b with
    | some b' => some (.ptr b' off gen)
    | none => none
  | .agg cs => match renL ρ cs with
    | some cs' => some (.agg cs')
    | none => none
  | .tup cs => match renL ρ cs with
    | some cs' => some (.tup cs')
    | none => none
  | .fn f a c => match renL ρ a, renL ρ c with
    | some a', some c' => some (.fn f a' c')
    | _, _ => none
  | .ifc t d => match d.ren ρ with
    | some d' => some (.ifc t d')
    | none => none
  | d => some d
def renL (ρ : Nat → Option Nat) : List D → Option (List D)
  | [] => some []
  | d :: r => match d.ren ρ, renL ρ r with
    | some d', some r' => some (d' :: r')
    | _, _ => none
end

def Blk.ren (ρ : Nat → Option Nat) (k : Blk) : Option Blk := bif k.box then (match renL ρ k.cs with
  | some cs => some ⟨cs, k.fz, true⟩
  | none => none) else some k

def Blk.refs (k : Blk) : List Nat := bif k.box then refsL k.cs else []

/-- The blocks that some lead to. -/
def reach (h : List Blk) : Nat → List Nat → List Nat → List Nat
  | 0, _, acc => acc
  | _ + 1, [], acc => acc
  | n + 1, b :: r, acc => bif acc.contains b then reach h n r acc else match h[b]? with
    | some k => reach h n (k.refs ++ r) (acc ++ [b])
    | none => reach h n r acc

def idx : List Nat → Nat → Option Nat
  | [], _ => none
  | x :: r, b => if x = b then some 0 else match idx r b with
    | some i => some (i + 1)
    | none => none

def partH (ρ : Nat → Option Nat) (h : List Blk) : List Nat → Option (List Blk)
  | [] => some []
  | b :: r => match h[b]? with
    | some k => match k.ren ρ, partH ρ h r with
      | some k', some r' => some (k' :: r')
      | _, _ => none
    | none => none

def renBs (ρ : Nat → Option Nat) : List Blk → Option (List Blk)
  | [] => some []
  | k :: r => match k.ren ρ, renBs ρ r with
    | some k', some r' => some (k' :: r')
    | _, _ => none

def backN (n : Nat) (bs : List Nat) (i : Nat) : Option Nat := if i < bs.length then bs[i]? else some (n + (i - bs.length))

def putBs : List Blk → List Nat → List Blk → List Blk
  | h, b :: bs, k :: ks => putBs (h.set b k) bs ks
  | h, _, _ => h

/-- A part of the store, as it is now, laid back. -/
def back (h : List Blk) (bs : List Nat) (r : D) (h2 : List Blk) : Option (D × List Blk) :=
  match r.ren (backN h.length bs), renBs (backN h.length bs) h2 with
  | some r', some ks => some (r', putBs h bs (ks.take bs.length) ++ ks.drop bs.length)
  | _, _ => none

/-- Slices of blocks from number m on become data. -/
def frz1 (m : Nat) (d : D) (h : List Blk) : Option (D × List Blk) := match d with
  | .ref b off n sz gen full => if m ≤ b then freeze1 (.ref b off n sz gen full) h else some (.ref b off n sz gen full, h)
  | d => some (d, h)

def frzL (m : Nat) : List D → List Blk → Option (List D × List Blk)
  | [], h => some ([], h)
  | d :: r, h => match frz1 m d h with
    | some (d', h') => match frzL m r h' with
      | some (r', h'') => some (d' :: r', h'')
      | none => none
    | none => none

def frzV (m : Nat) (d : D) (h : List Blk) : Option (D × List Blk) := match d with
  | .agg cs => match frzL m cs h with
    | some (cs', h') => some (.agg cs', h')
    | none => none
  | d => frz1 m d h

def frzVs (m : Nat) : List D → List Blk → Option (List D × List Blk)
  | [], h => some ([], h)
  | d :: r, h => match frzV m d h with
    | some (d', h') => match frzVs m r h' with
      | some (r', h'') => some (d' :: r', h'')
      | none => none
    | none => none

def frzR (m : Nat) (d : D) (h : List Blk) : Option (D × List Blk) := match d with
  | .tup vs => match frzVs m vs h with
    | some (vs', h') => some (.tup vs', h')
    | none => none
  | d => frzV m d h

/-- The same in some boxes. -/
def frzB (m : Nat) : List Nat → List Blk → Option (List Blk)
  | [], h => some h
  | b :: r, h => match h[b]? with
    | some k => bif k.box then (match frzL m k.cs h with
      | some (cs, h') => frzB m r (h'.set b ⟨cs, k.fz, true⟩)
      | none => none) else frzB m r h
    | none => frzB m r h

/-- What is behind a call: its store but for what nothing leads to. -/
def settle (m : Nat) (r : D) (h : List Blk) : Option (D × List Blk) :=
  let bs := List.range m ++ (reach h 100 (r.refs ++ (h.take m).flatMap Blk.refs) []).filter (fun b => decide (m ≤ b))
  if bs.Nodup then (match r.ren (idx bs), partH (idx bs) h bs with
    | some r', some h' => some (r', h')
    | _, _ => none) else none

def settleF (m : Nat) (r : D) (h : List Blk) : Option (D × List Blk) := match frzR m r h with
  | some (r', h') => match frzB m (List.range m) h' with
    | some h'' => settle m r' h''
    | none => none
  | none => none

/-! ### The evaluator -/

/-- The calls: 'pc' of pure data in, pure data out; 'oc' the same, the result is a slice that the caller may write; 'fc': with the store; 'nx': what an iterator hands to its next round, by what it bears, its state, and the store; and its state behind that. -/
structure Calls where
  mode : FuncId → Nat
  pc : FuncId → List D → Option D
  oc : FuncId → List D → Option (D × List Blk)
  fc : FuncId → List D → List Blk → Option (D × List Blk)
  nx : FuncId → List D → D → List Blk → Option (Option (List D × D))

def lookD (kinds : List Nat) (ag : Bool) (zero : D) (ok : Bool) (k : D) : D → Option D
  | .mapd ks vs => match findK kinds ag k ks vs with
    | some (some d) => some (bif ok then .tup [d, .bool true] else d)
    | some none => some (bif ok then .tup [zero, .bool false] else zero)
    | none => none
  | _ => none

def evS (C : Calls) (ρ : XO → D) : X → Option D
  | .mov x => some (ρ x)
  | .pick c a b => match ρ c with
    | .bool v => some (bif v then ρ a else ρ b)
    | _ => none
  | .build zero ps => match fillD zero (ps.map fun (o, s, x) => (o, s, ρ x)) with
    | some cs => some (.agg cs)
    | none => none
  | .buildSlice n zero ps => match fillD zero (ps.map fun (o, s, x) => (o, s, ρ x)) with
    | some cs => match sealL cs with
      | some cs => some (.arr n true cs)
      | none => none
    | none => none
  | .fieldAddr off a => match ρ a with
    | .ptr b o g => some (.ptr b (o + off) g)
    | .cptr cs => if off ≤ cs.length then some (.cptr (cs.drop off)) else none
    | _ => none
  | .field sz off x => match ρ x with
    | .agg cs => take1 cs off sz
    | _ => none
  | .indexAddr sz x i => match ρ x, ρ i with
    | .arr n _ cs, .int _ i => if 0 ≤ i ∧ i < n then some (.cptr (cs.drop (i.toNat * sz))) else none
    | .ref b off n _ g _, .int _ i => if 0 ≤ i ∧ i < n then some (.ptr b (off + i.toNat * sz) g) else none
    | _, _ => none
  | .elemAddr len sz x i => match ρ x, ρ i with
    | .cptr cs, .int _ i => if 0 ≤ i ∧ i < len ∧ i.toNat * sz ≤ cs.length then some (.cptr (cs.drop (i.toNat * sz))) else none
    | .ptr b o g, .int _ i => if 0 ≤ i ∧ i < len then some (.ptr b (o + i.toNat * sz) g) else none
    | _, _ => none
  | .index len sz ag x i => match ρ x, ρ i with
    | .agg cs, .int _ i => if 0 ≤ i ∧ i < len then take1 cs (i.toNat * sz) (bif ag then some sz else none) else none
    | _, _ => none
  | .indexStr x i => match ρ x, ρ i with
    | .str s, .int _ i => if 0 ≤ i then match s[i.toNat]? with
      | some b => some (.int .u8 b.toNat)
      | none => none else none
    | _, _ => none
  | .slice sz x lo hi mx => match ρ x with
    | .arr n full cs => match bnds n (lo.map ρ) (hi.map ρ) (mx.map ρ) with
      | some (l, h, m) => some (.arr (h - l) (match m with | none => full && h == n | some m => h == m) ((cs.drop (l * sz)).take ((h - l) * sz)))
      | none => none
    | .ref b off n k g full => match bnds n (lo.map ρ) (hi.map ρ) (mx.map ρ) with
      | some (l, h, m) => if k = sz ∧ roomB full n h m (off + n * sz) g = true then some (.ref b (off + l * sz) (h - l) sz g (match m with | none => full && h == n | some m => h == m)) else none
      | none => none
    | _ => none
  | .sliceStr x lo hi => match ρ x with
    | .str s => match bnds s.size (lo.map ρ) (hi.map ρ) none with
      | some (l, h, _) => some (.str (s.extract l h))
      | none => none
    | _ => none
  | .bin op x y => evBin op (ρ x) (ρ y)
  | .binB op x y => evBinB op (ρ x) (ρ y)
  | .eqAgg ks neg x y => match ρ x, ρ y with
    | .agg xs, .agg ys => if xs.length = ks.length ∧ ys.length = ks.length then match eqCells ks xs ys with
      | some b => some (.bool (bif neg then !b else b))
      | none => none else none
    | _, _ => none
  | .un op x => evUn op (ρ x)
  | .conv k x => match ρ x with
    | .int _ n => some (.int k (k.wrap n))
    | _ => none
  | .extract x i => match ρ x with
    | .tup vs => vs[i]?
    | _ => none
  | .isNil is x => match ρ x with
    | .arr n _ _ => some (if n = 0 then .anyb else .bool !is)
    | .ref _ _ n _ _ _ => some (if n = 0 then .anyb else .bool !is)
    | _ => none
  | .isNilP is x => match ρ x with
    | .nilp => some (.bool is)
    | .ptr .. => some (.bool !is)
    | .cptr _ => some (.bool !is)
    | _ => none
  | .cap x => match ρ x with
    | .arr n true _ => some (.int .i64 n)
    | .ref _ _ n _ _ true => some (.int .i64 n)
    | _ => none
  | .len x => match ρ x with
    | .arr n _ _ => some (.int .i64 n)
    | .ref _ _ n _ _ _ => some (.int .i64 n)
    | _ => none
  | .lenStr x => match ρ x with
    | .str s => some (.int .i64 s.size)
    | _ => none
  | .min xs => match xs.map ρ with
    | [] => none
    | x :: r => foldD minD x r
  | .max xs => match xs.map ρ with
    | [] => none
    | x :: r => foldD maxD x r
  | .call f args => if C.mode f = 0 then match sealVs (args.map ρ) with
      | some ds => C.pc f ds
      | none => none
    else none
  | .mkfn fn first cap => some (.fn fn (first.map ρ) (cap.map ρ))
  | .nilCheck x => match ρ x with
    | .ptr b o g => some (.ptr b o g)
    | .cptr cs => some (.cptr cs)
    | .fn (.func f) a b => some (.fn (.func f) a b)
    | _ => none
  | .mkifc t x => some (.ifc t (ρ x))
  | .lookup kinds ag zero ok x i => lookD kinds ag zero ok (ρ i) (ρ x)
  | _ => none

/-- What reads the store and turns nothing. -/
def evL (h : List Blk) (ρ : XO → D) (sz : Option Nat) (a : XO) : Option D :=
  match ρ a with
  | .cptr cs => take1 cs 0 sz
  | .ptr b o g => match h[b]? with
    | some blk => if blk.cs.length = g then take1 blk.cs o sz else none
    | none => none
  | _ => none

/-- The cells of a slice, wherever they lie. -/
def contents (h : List Blk) : D → Option (Nat × List D)
  | .arr n _ cs => some (n, cs)
  | .ref b off n sz gen _ => match h[b]? with
    | some blk => if blk.cs.length = gen ∧ off + n * sz ≤ gen ∧ blk.box = false then some (n, (blk.cs.drop off).take (n * sz)) else none
    | none => none
  | _ => none

/-- A call to which a part of the store is lent: what is behind it. -/
def lendS (C : Calls) (f : FuncId) (ds : List D) (h : List Blk) : Option (D × List Blk) := match C.fc f ds h with
  | some (r, h') => settleF h.length r h'
  | none => none

def lendK (C : Calls) (f : FuncId) (ds : List D) (h : List Blk) : Option (D × List Blk) := match C.fc f ds h with
  | some (r, h') => settle h.length r h'
  | none => none

def lendW (S : List D → List Blk → Option (D × List Blk)) (h : List Blk) (ds : List D) : Option (D × List Blk) :=
  let bs := reach h 100 (refsL ds) []
  if bs.Nodup then (match renL (idx bs) ds, partH (idx bs) h bs with
    | some ds', some h1 => match S ds' h1 with
      | some (r, h2) => back h bs r h2
      | none => none
    | _, _ => none) else none

/-- Its slices, and those of what it is lent, are data. -/
def lendF (C : Calls) (h : List Blk) (f : FuncId) (ds : List D) : Option (D × List Blk) := match frzVs 0 ds h with
  | some (ds1, h1) => match frzB 0 (reach h1 100 (refsL ds1) []) h1 with
    | some h2 => lendW (lendS C f) h2 ds1
    | none => none
  | none => none

def callW (C : Calls) (h : List Blk) (f : FuncId) (ds : List D) : Option (D × List Blk) :=
  if C.mode f = 3 then lendF C h f ds
  else if C.mode f = 4 then lendW (lendK C f) h ds
  else if C.mode f = 2 ∨ ds.any D.tied = true then C.fc f ds h
  else match freezeVs ds h with
    | some (ds', h') =>
      if C.mode f = 1 then
        match C.oc f ds' with
        | some (.ref b off n sz gen full, h1) => match h1[b]? with
          | some blk => if blk.cs.length = gen ∧ blk.box = false ∧ blk.fz = 0 then some (.ref h'.length off n sz gen full, h' ++ [blk]) else none
          | none => none
        | some (.arr n full cs, _) => some (.arr n full cs, h')
        | _ => none
      else match C.pc f ds' with
        | some r => some (r, h')
        | none => none
    | none => none

def evW (C : Calls) (h : List Blk) (ρ : XO → D) : X → Option (D × List Blk)
  | .box x => match (ρ x).cells with
    | some cs => some (.ptr h.length 0 cs.length, h ++ [⟨cs, 0, true⟩])
    | none => none
  | .alloc zero => some (.ptr h.length 0 zero.length, h ++ [⟨zero, 0, true⟩])
  | .store sz a v => match ρ a, (ρ v).cells with
    | .ptr b o g, some new => match h[b]? with
      | some blk => if blk.cs.length = g ∧ blk.fz ≤ o ∧ o + sz ≤ g ∧ new.length = sz then
          (bif blk.box then some (.tup [], h.set b ⟨putAt blk.cs o new, blk.fz, true⟩)
           else match sealL new with
            | some new => some (.tup [], h.set b ⟨putAt blk.cs o new, blk.fz, false⟩)
            | none => match freezeL new h with
              | some (new, h') => match h'[b]? with
                | some blk' => if blk'.cs.length = g ∧ blk'.fz ≤ o ∧ blk'.box = false then some (.tup [], h'.set b ⟨putAt blk'.cs o new, blk'.fz, false⟩) else none
                | none => none
              | none => none) else none
      | none => none
    | _, _ => none
  | .buildSlice n zero ps => match fillD zero (ps.map fun (o, s, x) => (o, s, ρ x)) with
    | some cs => match freezeL cs h with
      | some (cs, h') => some (.arr n true cs, h')
      | none => none
    | none => none
  | .newSlice sz zero ps => match fillD zero (ps.map fun (o, s, x) => (o, s, ρ x)) with
    | some cs => match freezeL cs h with
      | some (cs, h') => if cs.length = sz then some (.ref h'.length 0 1 sz sz true, h' ++ [⟨cs, 0, false⟩]) else none
      | none => none
    | none => none
  | .append sz bytes s x => match contents h (ρ x) with
    | some (m, cs2) => if m = 0 then (match ρ s with | .arr .. => some (ρ s, h) | .ref .. => some (ρ s, h) | _ => none)
      else if cs2.length = m * sz then match ρ s with
      | .arr n full cs => if full = true ∧ cs.length = n * sz ∧ (n + m) * bytes ≤ 140737488355328 ∧ n + m ≤ 1099511627776 then
          some (.ref h.length 0 (n + m) sz ((n + m) * sz) false, h ++ [⟨cs ++ cs2, 0, false⟩]) else none
      | .ref b off n sz' gen full => match h[b]? with
        | some blk => if off + n * sz < gen then
            (if blk.cs.length = gen ∧ sz' = sz ∧ blk.box = false ∧ full = false ∧ off + (n + m) * sz ≤ gen ∧ blk.fz ≤ off + n * sz then
              some (.ref b off (n + m) sz gen false, h.set b ⟨putAt blk.cs (off + n * sz) cs2, blk.fz, false⟩) else none)
            else if blk.cs.length = gen ∧ off + n * sz = gen ∧ sz' = sz ∧ blk.box = false ∧ (n + m) * bytes ≤ 140737488355328 ∧ n + m ≤ 1099511627776 then
            (bif full then some (.ref h.length 0 (n + m) sz ((n + m) * sz) false, h ++ [⟨blk.cs.drop off ++ cs2, 0, false⟩])
             else if off = 0 then some (.ref b 0 (n + m) sz ((n + m) * sz) false, h.set b ⟨blk.cs ++ cs2, blk.fz, false⟩) else none) else none
        | none => none
      | _ => none
      else none
    | none => none
  | .appendZ sz bytes zero s x => match ρ s, ρ x with
    | .arr n full cs, .int .i64 m => if m = 0 then some (.arr n full cs, h)
      else if 0 < m ∧ full = true ∧ cs.length = n * sz ∧ (n + m.toNat) * bytes ≤ 140737488355328 ∧ n + m.toNat ≤ 1099511627776 then
        some (.ref h.length 0 (n + m.toNat) sz ((n + m.toNat) * sz) false, h ++ [⟨cs ++ zeros zero m.toNat, 0, false⟩]) else none
    | _, _ => none
  | .copy sz d s => match contents h (ρ s), ρ d with
    | some (m, cs2), .ref b off n sz' gen _ => match h[b]? with
      | some blk => if blk.cs.length = gen ∧ off + n * sz ≤ gen ∧ sz' = sz ∧ blk.box = false ∧ blk.fz ≤ off ∧ cs2.length = m * sz then
          some (.int .i64 (Nat.min m n : Nat), h.set b ⟨putAt blk.cs off (cs2.take (Nat.min m n * sz)), blk.fz, false⟩) else none
      | none => none
    | some (m, _), .arr n _ _ => if n = 0 ∨ m = 0 then some (.int .i64 0, h) else none
    | _, _ => none
  | .clear sz zero x => match ρ x with
    | .arr n _ _ => if n = 0 then some (.tup [], h) else none
    | .ref b off n k gen _ => match h[b]? with
      | some blk => if blk.cs.length = gen ∧ off + n * sz ≤ gen ∧ k = sz ∧ blk.box = false ∧ blk.fz ≤ off ∧ zero.length = sz then
          some (.tup [], h.set b ⟨putAt blk.cs off (zeros zero n), blk.fz, false⟩) else if n = 0 then some (.tup [], h) else none
      | none => none
    | _ => none
  | .makeSlice sz bytes zero l c => match ρ l, ρ c with
    | .int .i64 l, .int .i64 c => if 0 ≤ l ∧ l ≤ c ∧ c ≤ 1099511627776 ∧ c * bytes ≤ 140737488355328 then
        some (.ref h.length 0 l.toNat sz (l.toNat * sz) (l == c), h ++ [⟨zeros zero l.toNat, 0, false⟩]) else none
    | _, _ => none
  | .call f args => callW C h f (args.map ρ)
  | .callv f args => match ρ f with
    | .fn (.func g) first cap => callW C h g (first ++ args.map ρ ++ cap)
    | _ => none
  | _ => none

inductive Cls where
  | s | r | w
  deriving DecidableEq

/-- Does a call of f do more than to answer with data? -/
def Calls.own (C : Calls) (f : FuncId) : Bool := C.mode f != 0

def X.cls (draw : Bool) (own : FuncId → Bool) : X → Cls
  | .load .. => .r
  | .mkmap | .insert .. | .newSlice .. => .w
  | .box _ | .alloc _ | .store .. | .copy .. | .makeSlice .. | .callv .. | .append .. | .appendZ .. | .clear .. | .stuck => .w
  | .call f _ => bif draw then (bif own f then .w else .s) else .w
  | .buildSlice .. => bif draw then .s else .w
  | _ => .s

structure St where
  t : Nat → D
  h : List Blk

def upd (t : Nat → D) (i : Nat) (d : D) : Nat → D := fun j => if j = i then d else t j

def updO (t : Nat → D) : Option Nat → D → Nat → D
  | none, _ => t
  | some i, d => upd t i d

def XO.ev (t : Nat → D) : XO → D
  | .t i => t i
  | .c d => d

def wants (t : Nat → D) : Option (Nat × Bool) → Bool
  | none => true
  | some (i, b) => match t i with
    | .bool b' => b' == b
    | _ => false

def evX (C : Calls) (draw : Bool) (x : X) (t : Nat → D) (h : List Blk) : Option (D × List Blk) :=
  match x.cls draw C.own with
  | .s => match evS C (XO.ev t) x with
    | some d => some (d, h)
    | none => none
  | .r => match x with
    | .load sz a => match evL h (XO.ev t) sz a with
      | some d => some (d, h)
      | none => none
    | _ => none
  | .w => evW C h (XO.ev t) x

/-- Is what is asked ahead of an operation known? -/
def known (t : Nat → D) : Option (Nat × Bool) → Bool
  | none => true
  | some (i, _) => match t i with
    | .any | .anyb => false
    | _ => true

def evOp (C : Calls) (draw : Bool) (o : XOp) (st : St) : Option St :=
  bif known st.t o.guard then (bif wants st.t o.guard then
    match evX C draw o.x st.t st.h with
    | some (d, h') => some ⟨updO st.t o.dst d, h'⟩
    | none => none
  else some ⟨updO st.t o.dst (.tup []), st.h⟩) else none

def evOps (C : Calls) : List XOp → St → Option St
  | [], st => some st
  | o :: r, st => match evOp C false o st with
    | some st' => evOps C r st'
    | none => none

/-! ### Regions whose order is open: what an operation reads and writes of the store -/

inductive Foot where
  | none
  | rd (b : Nat)
  | wr (bs : List Nat) (len : Nat)

def footR (ρ : XO → D) : X → Foot
  | .load _ a => match ρ a with
    | .ptr b _ _ => .rd b
    | _ => .none
  | _ => .none

/-- Does a store of this into block b change that block alone? -/
def storeLight (h : List Blk) (b : Nat) (d : D) : Bool := match h[b]? with
  | some blk => blk.box || (match d.cells with | some cs => (sealL cs).isSome | none => true)
  | none => true

def footW (C : Calls) (h : List Blk) (ρ : XO → D) : X → Option Foot
  | .box _ | .alloc _ | .makeSlice .. => some (.wr [] h.length)
  | .store _ a v => match ρ a with
    | .ptr b _ _ => bif storeLight h b (ρ v) then some (.wr [b] h.length) else some (.wr (List.range h.length) h.length)
    | _ => none
  | .append _ _ s x => match ρ s, ρ x with
    | .arr .., .arr .. => some (.wr [] h.length)
    | .ref b .., .arr .. => some (.wr [b] h.length)
    | _, _ => none
  | .call f args => if C.mode f = 1 ∧ (args.map ρ).any D.tied = false ∧ (sealVs (args.map ρ)).isSome = true then some (.wr [] h.length) else some (.wr (List.range h.length) h.length)
  | .callv _ _ => some (.wr (List.range h.length) h.length)
  | .copy _ d s => match ρ d, ρ s with
    | .ref b .., .arr .. => some (.wr [b] h.length)
    | .ref b .., .ref .. => some (.wr [b] h.length)
    | .arr .., .arr .. => some (.wr [] h.length)
    | _, _ => none
  | _ => none

def evFoot (C : Calls) (o : XOp) (st : St) : Option Foot :=
  bif known st.t o.guard then (bif wants st.t o.guard then
    match o.x.cls true C.own with
    | .s => some .none
    | .r => some (footR (XO.ev st.t) o.x)
    | .w => footW C st.h (XO.ev st.t) o.x
  else some .none) else none

def Foot.fits : Foot → Foot → Bool
  | .none, _ | _, .none | .rd _, .rd _ => true
  | .rd b, .wr bs n | .wr bs n, .rd b => !bs.contains b && decide (b < n)
  | .wr .., .wr .. => false

/-- Is each foot of an earlier operation fit beside this one, or does an edge lead to it? -/
def feetOK (bf : Nat) (f : Foot) : List (Nat × Foot) → Bool
  | [] => true
  | (i, g) :: r => (bf.testBit i || g.fits f) && feetOK bf f r

def evOpsD (C : Calls) (bs : List Nat) (i : Nat) (fs : List (Nat × Foot)) : List XOp → St → Option St
  | [], st => some st
  | o :: r, st => match evFoot C o st with
    | some f => bif feetOK (bs.getD i 0) f fs then
        match evOp C true o st with
        | some st' => evOpsD C bs (i + 1) ((i, f) :: fs) r st'
        | none => none
      else none
    | none => none

inductive Ex where
  | normal
  | exit (id : Nat)
  | ret

def loopN (f : St → Option (Ex × St)) : Nat → St → Option (Ex × St)
  | 0, _ => none
  | n + 1, st => match f st with
    | some (.normal, st') => loopN f n st'
    | r => r

/-- The rounds of a range over a function. -/
def rangeN (f : List D → List Blk → Option (Ex × St)) (nx : D → List Blk → Option (Option (List D × D))) : Nat → D → List Blk → Option (Ex × List Blk)
  | 0, _, _ => none
  | n + 1, s, h => match nx s h with
    | some none => some (.normal, h)
    | some (some (x, s')) => match f x h with
      | some (.normal, st) => rangeN f nx n s' st.h
      | some (e, st) => some (e, st.h)
      | none => none
    | none => none

/-- A round's slots. -/
def putL : (Nat → D) → List Nat → List D → Nat → D
  | t, p :: ps, x :: xs => putL (updO t (some p) x) ps xs
  | t, _, _ => t

/-- The slots that are told; of all others nothing is known. -/
def tab : List (Nat × D) → Nat → D
  | [], _ => .any
  | (j, d) :: r, i => if i = j then d else tab r i

/-- Just these slots go on. -/
def St.keep (K : Option (List Nat)) (st : St) : St := match K with
  | some l => ⟨tab (l.map fun i => (i, st.t i)), st.h⟩
  | none => st

def evC (C : Calls) (lf : Nat) : XC → St → Option (Ex × St)
  | .skip, st => some (.normal, st)
  | .region K ops, st => match evOps C ops st with
    | some st' => some (.normal, st'.keep K)
    | none => none
  | .regionD K bs ops, st => match evOpsD C bs 0 [] ops st with
    | some st' => some (.normal, st'.keep K)
    | none => none
  | .seq a b, st => match evC C lf a st with
    | some (.normal, st') => evC C lf b st'
    | r => r
  | .cond c a b, st => match c.ev st.t with
    | .bool v => bif v then evC C lf a st else evC C lf b st
    | _ => none
  | .block id b, st => match evC C lf b st with
    | some (.exit id', st') => if id' = id then some (.normal, st') else some (.exit id', st')
    | r => r
  | .loop b, st => loopN (evC C lf b) lf st
  | .exit id, st => some (.exit id, st)
  | .ret, st => some (.ret, st)
  | .guard k xs c ys b, st => match evOps C xs st with
    | some st1 => match c.ev st1.t with
      | .bool true => match evOps C ys st1 with
        | some st2 => some (.ret, st2)
        | none => none
      | .bool false => evC C lf b st1
      | .anyb => match evOps C ys st1, evC C lf b st1 with
        | some sA, some (.ret, sB) => match sA.t k, sB.t k, sA.h, sB.h with
          | .arr 0 true [], .arr 0 true [], [], [] => some (.ret, ⟨fun i => if i = k then .arr 0 true [] else .any, []⟩)
          | _, _, _, _ => none
        | _, _ => none
      | _ => none
    | none => none
  | .rangeF f ps as b, st => match f.ev st.t with
    | .fn (.func g) [] caps => match rangeN (fun x h => bif x.length == ps.length then (match evC C lf as ⟨putL st.t ps x, h⟩ with
        | some (.normal, s) => evC C lf b s
        | _ => none) else none) (C.nx g caps) lf .nilp st.h with
      | some (e, h') => some (e, ⟨st.t, h'⟩)
      | none => none
    | _ => none

def evRes (st : St) : XR → Option D
  | .tmp t => some (st.t t)
  | .cell t sz => evL st.h (XO.ev st.t) sz (.t t)

def evRess (st : St) : List XR → Option (List D)
  | [] => some []
  | r :: rs => match evRes st r with
    | some d => match evRess st rs with
      | some ds => some (d :: ds)
      | none => none
    | none => none

def oneOrTup : List D → D
  | [d] => d
  | ds => .tup ds

def args0 (args : List D) : Nat → D := fun i => args.getD i (.tup [])

def evBody (C : Calls) (lf : Nat) (x : XF) (args : List D) (h : List Blk) : Option (D × List Blk) :=
  match evC C lf x.body ⟨args0 args, h⟩ with
  | some (.normal, st) | some (.ret, st) => match evRess st x.res with
    | some ds => some (oneOrTup ds, st.h)
    | none => none
  | _ => none

/-! ### The translation's text, read into the evaluator's -/

def ofCells : List Value → Option (List D)
  | [] => some []
  | v :: r =>
    let d : Option D := match v with
      | .int k n => some (.int k n)
      | .bool b => some (.bool b)
      | .string s => some (.str s)
      | .slice none 0 0 => some (.arr 0 true [])
      | .pointer none => some .nilp
      | .nilFunc => some .nilf
      | .nilIface => some .nili
      | _ => none
    match d, ofCells r with
    | some d, some ds => some (d :: ds)
    | _, _ => none

def ofConst : Value → Option D
  | .agg cs => match ofCells cs.toList with
    | some ds => some (.agg ds)
    | none => none
  | .map none => some .any
  | v => match ofCells [v] with
    | some [d] => some d
    | _ => none

/-- The package variables that nobody writes, with what they hold. -/
def GT : List (Nat × List D) :=
  (0, [.int .i32 4352, .int .i32 4447, .int .i32 11904, .int .i32 12350, .int .i32 12353, .int .i32 42191, .int .i32 44032, .int .i32 55203, .int .i32 63744, .int .i32 64255, .int .i32 65072, .int .i32 65135, .int .i32 65281, .int .i32 65376, .int .i32 65504, .int .i32 65510, .int .i32 127744, .int .i32 128591, .int .i32 129280, .int .i32 129535, .int .i32 131072, .int .i32 262141]) ::
  []

def glob (g : Nat) : Option (List D) := (GT.find? fun x => x.1 == g).map (·.2)

def cO : Operand → Option XO
  | .tmp t => some (.t t)
  | .const v => match ofConst v with
    | some d => some (.c d)
    | none => none
  | .func f => some (.c (.fn (.func f) [] []))
  | .global g => match glob g with
    | some cs => some (.c (.cptr cs))
    | none => none

def cOs : List Operand → Option (List XO)
  | [] => some []
  | x :: r => match cO x, cOs r with
    | some x, some r => some (x :: r)
    | _, _ => none

def cOO : Option Operand → Option (Option XO)
  | none => some none
  | some x => match cO x with
    | some x => some (some x)
    | none => none

/-- A type's size in cells, in bytes, its zero's cells. -/
def tInfo (P : Program) (t : TypeId) : Option (Nat × Nat × List D) :=
  match P.info? t with
  | some i => match i.zero with
    | some z => match ofCells z.cells.toList with
      | some ds => if ds.length = i.size then some (i.size, i.bytes, ds) else none
      | none => none
    | none => none
  | none => none

def tAgg (P : Program) (t : TypeId) : Option (Option Nat) :=
  match P.underlying t, P.info? t with
  | some (.struct _), some i => some (some i.size)
  | some (.array _ _), some i => some (some i.size)
  | some _, some _ => some none
  | _, _ => none

/-- Where part i of a struct or an array lies, and its size. -/
def placeOf (P : Program) (t : TypeId) (i : Nat) : Option (Nat × Nat) :=
  match P.underlying t with
  | some (.struct fs) => match fs[i]? with
    | some f => match P.info? f.type with
      | some j => some (f.offset, j.size)
      | none => none
    | none => none
  | some (.array n e) => match P.info? e with
    | some j => if i < n then some (i * j.size, j.size) else none
    | none => none
  | _ => none

def cParts (place : Nat → Option (Nat × Nat)) : List (Nat × Operand) → Option (List (Nat × Nat × XO))
  | [] => some []
  | (i, x) :: r => match place i, cO x, cParts place r with
    | some (o, s), some x, some r => some ((o, s, x) :: r)
    | _, _, _ => none

/-- The places of a struct's cells, where each is an integer, a bool or a string, compared by itself. -/
def flatL (P : Program) (sub : TypeId → Nat → Option (List (Nat × Nat))) (off sz : Nat) : List Field → Option (List (Nat × Nat))
  | [] => some []
  | f :: fs => if f.name = "_" then none else match P.info? f.type with
    | some j => if 0 < j.size ∧ f.offset + j.size ≤ sz then match sub f.type (off + f.offset), flatL P sub off sz fs with
      | some a, some b => some (a ++ b)
      | _, _ => none else none
    | none => none

def flatEq (P : Program) : Nat → TypeId → Nat → Option (List (Nat × Nat))
  | 0, _, _ => none
  | d + 1, t, off => match P.underlying t with
    | some (.int _) => some [(off, 0)]
    | some .bool => some [(off, 1)]
    | some .string => some [(off, 2)]
    | some (.struct fs) => if P.stoodInHeld t then none else match P.info? t with
      | some i => flatL P (flatEq P d) off i.size fs.toList
      | none => none
    | _ => none

/-- Keys that are integers, or structs of integers. -/
def cKey (P : Program) (t : TypeId) : Option (List Nat × Bool) := match P.underlying t with
  | some (.int _) => some ([0], false)
  | some (.struct fs) => match flatEq P 100 t 0, P.info? t with
    | some offs, some i => if offs.map (·.1) = List.range i.size ∧ (fs.toList.all fun f => match P.underlying f.type with | some (.int _) => true | _ => false) = true then some (offs.map (·.2), true) else none
    | _, _ => none
  | _ => none

/-- A type's zero. -/
def cZero (P : Program) (t : TypeId) : Option D := match P.info? t with
  | some i => match i.zero with
    | some z => ofConst z
    | none => none
  | none => none

def nilC : Value → Bool
  | .slice none 0 0 | .pointer none => true
  | _ => false

/-- Comparisons with nil, and what the table below lacks. -/
def cNil (P : Program) (op : Op) : Option X := match op with
  | .binOp bop t x (.const c) _ => if nilC c = true then (match bop, P.underlying t, c, cO x with
      | .eql, some (.slice _), .slice none 0 0, some x => some (.isNil true x)
      | .neq, some (.slice _), .slice none 0 0, some x => some (.isNil false x)
      | .eql, some (.pointer _), .pointer none, some x => some (.isNilP true x)
      | .neq, some (.pointer _), .pointer none, some x => some (.isNilP false x)
      | _, _, _, _ => none) else none
  | .call c => match c.callee, cOs c.args.toList, c.argTypes.toList with
    | .builtin .clear, some [x], [t] => match P.underlying t with
      | some (.slice e) => match tInfo P e with
        | some (sz, _, z) => some (.clear sz z x)
        | none => none
      | _ => none
    | .builtin .cap, some [x], [t] => match P.underlying t with
      | some (.slice _) => some (.cap x)
      | _ => none
    | .builtin .append, some [s, x], [t, u] => match P.underlying t, P.underlying u with
      | some (.slice e), some (.int _) => match tInfo P e with
        | some (sz, by_, z) => if 0 < sz then some (.appendZ sz by_ z s x) else none
        | none => none
      | _, _ => none
    | _, _, _ => none
  | _ => none

def cX0 (P : Program) (op : Op) : Option X :=
  match op with
  | .move x | .assign x => match cO x with
    | some x => some (.mov x)
    | none => none
  | .pick c a b => match cO c, cO a, cO b with
    | some c, some a, some b => some (.pick c a b)
    | _, _, _ => none
  | .alloc e => match tInfo P e with
    | some (_, _, z) => some (.alloc z)
    | none => none
  | .box _ x => match cO x with
    | some x => some (.box x)
    | none => none
  | .build t parts => match tInfo P t, cParts (placeOf P t) parts.toList with
    | some (_, _, z), some ps => match P.underlying t with
      | some (.struct fs) => if (fs.toList.all fun f => (P.info? f.type).isSome) = true then some (.build z ps) else none
      | some (.array _ e) => if (P.info? e).isSome then some (.build z ps) else none
      | _ => none
    | _, _ => none
  | .buildSlice t len parts => match P.underlying t with
    | some (.slice e) => match tInfo P e with
      | some (sz, _, z) => match cParts (fun i => if i < len then some (i * sz, sz) else none) parts.toList with
        | some ps => if len * sz ≤ 16777216 ∧ 0 < sz then (if len = 1 ∧ sz = 3 then some (.newSlice sz (zeros z len) ps) else some (.buildSlice len (zeros z len) ps)) else none
        | none => none
      | none => none
    | _ => none
  | .load t a => match tAgg P t, cO a with
    | some sz, some a => some (.load sz a)
    | _, _ => none
  | .store t a v => match P.info? t, cO a, cO v with
    | some i, some a, some v => some (.store i.size a v)
    | _, _, _ => none
  | .nilCheck x => match cO x with
    | some x => some (.nilCheck x)
    | none => none
  | .binOp op t x y _ => match cO x, cO y with
    | some x, some y => match P.underlying t with
      | some (.struct _) => match op, flatEq P 100 t 0, P.info? t with
        | .eql, some offs, some i => if offs.map (·.1) = List.range i.size ∧ P.eqGuardType P.depth t = false then some (.eqAgg (offs.map (·.2)) false x y) else none
        | .neq, some offs, some i => if offs.map (·.1) = List.range i.size ∧ P.eqGuardType P.depth t = false then some (.eqAgg (offs.map (·.2)) true x y) else none
        | _, _, _ => none
      | some (.int _) | some .string => some (.bin op x y)
      | some .bool => some (.binB op x y)
      | _ => none
    | _, _ => none
  | .unOp op _ x => match cO x with
    | some x => some (.un op x)
    | none => none
  | .convert src dst x => match P.underlying src, P.underlying dst, cO x with
    | some _, some (.int k), some x => some (.conv k x)
    | _, _, _ => none
  | .extract x i => match cO x with
    | some x => some (.extract x i)
    | none => none
  | .fieldAddr s x f => match P.underlying s, cO x with
    | some (.struct fs), some x => match fs[f]? with
      | some f => match P.info? f.type with
        | some i => if 0 < i.size then some (.fieldAddr f.offset x) else none
        | none => none
      | none => none
    | _, _ => none
  | .field t x f => match P.underlying t, cO x with
    | some (.struct fs), some x => match fs[f]? with
      | some f => match tAgg P f.type with
        | some sz => some (.field sz f.offset x)
        | none => none
      | none => none
    | _, _ => none
  | .indexAddr t x i => match P.underlying t, cO x, cO i with
    | some (.slice e), some x, some i => match P.info? e with
      | some j => some (.indexAddr j.size x i)
      | none => none
    | some (.array len e), some x, some i => match P.info? e with
      | some j => some (.elemAddr len j.size x i)
      | none => none
    | _, _, _ => none
  | .index t x i => match P.underlying t, cO x, cO i with
    | some (.array len e), some x, some i => match tAgg P e, P.info? e with
      | some ag, some j => some (.index len j.size ag.isSome x i)
      | _, _ => none
    | some .string, some x, some i => some (.indexStr x i)
    | _, _, _ => none
  | .slice t x lo hi mx => match P.underlying t, cO x, cOO lo, cOO hi, cOO mx with
    | some (.slice e), some x, some lo, some hi, some mx => match P.info? e with
      | some j => if mx.isSome && hi.isNone then none else some (.slice j.size x lo hi mx)
      | none => none
    | some .string, some x, some lo, some hi, some none => some (.sliceStr x lo hi)
    | _, _, _, _, _ => none
  | .makeMap _ none => some .mkmap
  | .insert t m k v => match P.underlying t with
    | some (.map kt _) => match cKey P kt, cO m, cO k, cO v with
      | some (ks, ag), some m, some k, some v => some (.insert ks ag m k v)
      | _, _, _, _ => none
    | _ => none
  | .lookup t x i ok => match P.underlying t with
    | some (.map kt e) => match cKey P kt, cZero P e, cO x, cO i with
      | some (ks, ag), some z, some x, some i => some (.lookup ks ag z ok x i)
      | _, _, _, _ => none
    | _ => none
  | .makeInterface t x => match P.underlying t, cO x with
    | some (.interface _), _ => none
    | some _, some x => some (.mkifc t x)
    | _, _ => none
  | .makeFunc fn a b => match cOs a.toList, cOs b.toList with
    | some a, some b => some (.mkfn fn a b)
    | _, _ => none
  | .makeSlice t l c => match P.underlying t, cO l, cO c with
    | some (.slice e), some l, some c => match tInfo P e with
      | some (sz, by_, z) => if 0 < sz then some (.makeSlice sz by_ z l c) else none
      | none => none
    | _, _, _ => none
  | .call c => match cOs c.args.toList with
    | none => none
    | some args => match c.callee with
      | .value (.func f) => some (.call f args)
      | .value f => match cO f with
        | some f => some (.callv f args)
        | none => none
      | .invoke _ _ => none
      | .builtin b => match b, args, c.argTypes.toList with
        | .len, [x], [t] => match P.underlying t with
          | some (.slice _) => some (.len x)
          | some .string => some (.lenStr x)
          | _ => none
        | .min, xs, _ => some (.min xs)
        | .max, xs, _ => some (.max xs)
        | .append, [s, x], [t, u] => match P.underlying t, P.underlying u with
          | some (.slice e), some (.slice e') => match tInfo P e with
            | some (sz, by_, _) => if e = e' ∧ 0 < sz then some (.append sz by_ s x) else none
            | none => none
          | _, _ => none
        | .copy, [d, s], [t, u] => match P.underlying t, P.underlying u with
          | some (.slice e), some (.slice e') => match tInfo P e with
            | some (sz, _, _) => if e = e' ∧ 0 < sz then some (.copy sz d s) else none
            | none => none
          | _, _ => none
        | _, _, _ => none
  | _ => none

/-- An operation; what is not supported stands still. -/
def cX (P : Program) (op : Op) : Option X := match cNil P op with
  | some x => some x
  | none => match cX0 P op with
    | some x => some x
    | none => some .stuck

def below (nt : Nat) : Option Nat → Bool
  | none => true
  | some d => decide (d < nt)

def cOp (P : Program) (nt : Nat) (ops : Array Oper) (o : Oper) : Option XOp :=
  match cX P o.op with
  | none => none
  | some x => bif below nt o.dst then match o.guard with
      | none => some ⟨o.dst, none, x⟩
      | some (j, b) => match (ops[j]?).bind (·.dst) with
        | some s => some ⟨o.dst, some (s, b), x⟩
        | none => none
    else none

def cOps (P : Program) (nt : Nat) (ops : Array Oper) : List Oper → Option (List XOp)
  | [] => some []
  | o :: r => match cOp P nt ops o, cOps P nt ops r with
    | some x, some xs => some (x :: xs)
    | _, _ => none

/-! ### Regions whose order is open -/

def XO.use : XO → List Nat
  | .t i => [i]
  | .c _ => []

def X.uses : X → List Nat
  | .mov x | .box x | .load _ x | .fieldAddr _ x | .field _ _ x | .un _ x | .conv _ x | .extract x _ | .len x | .lenStr x | .nilCheck x | .mkifc _ x => x.use
  | .pick c a b => c.use ++ a.use ++ b.use
  | .isNil _ x | .isNilP _ x | .clear _ _ x | .cap x => x.use
  | .stuck | .mkmap => []
  | .lookup _ _ _ _ x i => x.use ++ i.use
  | .insert _ _ m k v => m.use ++ k.use ++ v.use
  | .alloc _ => []
  | .build _ ps | .buildSlice _ _ ps | .newSlice _ _ ps => ps.flatMap fun p => p.2.2.use
  | .store _ a v | .indexAddr _ a v | .elemAddr _ _ a v | .index _ _ _ a v | .indexStr a v | .bin _ a v | .binB _ a v | .eqAgg _ _ a v | .append _ _ a v | .appendZ _ _ _ a v | .copy _ a v | .makeSlice _ _ _ a v => a.use ++ v.use
  | .slice _ x lo hi mx => x.use ++ (lo.toList ++ hi.toList ++ mx.toList).flatMap XO.use
  | .sliceStr x lo hi => x.use ++ (lo.toList ++ hi.toList).flatMap XO.use
  | .min xs | .max xs | .call _ xs => xs.flatMap XO.use
  | .callv f xs => f.use ++ xs.flatMap XO.use
  | .mkfn _ a b => a.flatMap XO.use ++ b.flatMap XO.use

def XOp.uses (o : XOp) : List Nat := o.x.uses ++ (match o.guard with | some (i, _) => [i] | none => [])

/-- Neither writes a slot that the other one reads or writes. -/
def indep (a b : XOp) : Bool :=
  (match a.dst with | some d => !b.uses.contains d | none => true) &&
  (match b.dst with | some d => !a.uses.contains d | none => true) &&
  (match a.dst, b.dst with | some d, some e => d != e | _, _ => true)

def drawOK (P : Program) (ops : Array Oper) (xs : List XOp) : Bool :=
  let b := Region.before ops
  (P.follows .mixedOrders || !Region.departs ops) && (ops.toList.zipIdx.all fun (o, i) => o.after.toList.all fun e => !Region.binds .any e || e.on < i) &&
  (xs.zipIdx.all fun (y, j) => xs.zipIdx.all fun (x, i) => i ≥ j || (b.getD j 0).testBit i || indep x y)

/-- 'if s == nil { return nil }', and what is behind it. -/
def cGuard (P : Program) (nt : Nat) (a : Code) (y : XC) : Option XC := match a with
  | .seq (.region _ ops false) (.cond c (.seq (.region _ ops2 false) .ret) .skip) =>
    match cOps P nt ops ops.toList, cO c, cOps P nt ops2 ops2.toList with
    | some [⟨some d1, none, .mov x⟩, ⟨some d2, none, .isNil b z⟩], some c, some [⟨some k, none, .mov (.c (.arr 0 true []))⟩] =>
      some (.guard k [⟨some d1, none, .mov x⟩, ⟨some d2, none, .isNil b z⟩] c [⟨some k, none, .mov (.c (.arr 0 true []))⟩] y)
    | _, _, _ => none
  | _ => none

/-- Which slots are read later: a set of numbers, rising. -/
def ins (a : Nat) : List Nat → List Nat
  | [] => [a]
  | b :: r => if a < b then a :: b :: r else if a = b then b :: r else b :: ins a r
def join (x y : List Nat) : List Nat := x.foldl (fun s a => ins a s) y

def opndUse : Operand → List Nat
  | .tmp t => [t]
  | _ => []

def liveOps (ops : Array Oper) : List Oper → List Nat → List Nat
  | [], out => out
  | o :: r, out =>
    let l := liveOps ops r out
    let l := match o.dst with | some d => l.filter (fun i => i != d) | none => l
    let l := join (o.op.operands.toList.flatMap opndUse) l
    match o.guard with
    | some (j, _) => match (ops[j]?).bind (·.dst) with | some s => ins s l | none => l
    | none => l

def exOf : List (Nat × List Nat) → Nat → List Nat
  | [], _ => []
  | (i, l) :: r, id => if i = id then l else exOf r id

/-- What is read from a code on, and, for each region, behind it. -/
def liveC (ret : List Nat) : Code → List (Nat × List Nat) → List Nat → List Nat × List (Nat × List Nat)
  | .region id ops _, _, out => (liveOps ops ops.toList out, [(id, out)])
  | .seq a b, ex, out =>
    let (lb, tb) := liveC ret b ex out
    let (la, ta) := liveC ret a ex lb
    (la, ta ++ tb)
  | .cond c a b, ex, out =>
    let (la, ta) := liveC ret a ex out
    let (lb, tb) := liveC ret b ex out
    (join (opndUse c) (join la lb), ta ++ tb)
  | .block id b, ex, out => liveC ret b ((id, out) :: ex) out
  | .loop b, ex, _ =>
    let (l, _) := liveC ret b ex []
    let (_, t) := liveC ret b ex l
    (l, t)
  | .scope b, ex, out => liveC ret b ex out
  | .exit id, ex, _ => (exOf ex id, [])
  | .ret, _, _ => (ret, [])
  | .rangeFunc g ps as b, ex, out =>
    let (lb, tb) := liveC [] b [] []
    let (la, ta) := liveC [] as [] lb
    (join (opndUse g) (join (la.filter fun i => !ps.contains i) (join out (join ret (ex.flatMap (·.2))))), ta ++ tb)
  | _, _, out => (out, [])

def keepOf : List (Nat × List Nat) → Nat → Option (List Nat)
  | [], _ => none
  | (i, l) :: r, id => if i = id then some l else keepOf r id

def cCode (P : Program) (nt : Nat) (kp : Nat → Option (List Nat)) : Code → Option XC
  | .skip => some .skip
  | .region id ops draw => match cOps P nt ops ops.toList with
    | some xs => bif draw then (bif drawOK P ops xs then some (.regionD (kp id) (Region.before ops).toList xs) else none) else some (.region (kp id) xs)
    | none => none
  | .seq a b => match cCode P nt kp b with
    | none => none
    | some y => match cGuard P nt a y with
      | some x => some x
      | none => match cCode P nt kp a with
        | some a => some (.seq a y)
        | none => none
  | .cond c a b => match cO c, cCode P nt kp a, cCode P nt kp b with
    | some c, some a, some b => some (.cond c a b)
    | _, _, _ => none
  | .block id b => match cCode P nt kp b with
    | some b => some (.block id b)
    | none => none
  | .loop b => match cCode P nt kp b with
    | some b => some (.loop b)
    | none => none
  | .scope b => cCode P nt kp b
  | .label _ => some .skip
  | .exit id => some (.exit id)
  | .ret => some .ret
  | .rangeFunc g ps as b => match cO g, cCode P nt kp as, cCode P nt kp b with
    | some f, some x, some y => bif ps.toList.all (fun p => decide (p < nt)) && (x.flat && y.flat) then some (.rangeF f ps.toList x y) else none
    | _, _, _ => none
  | _ => none

def cRes (P : Program) : List ResultVar → Option (List XR)
  | [] => some []
  | r :: rs =>
    let x : Option XR := match r with
      | .tmp t => some (.tmp t)
      | .cell a t => match tAgg P t with
        | some sz => some (.cell a sz)
        | none => none
    match x, cRes P rs with
    | some x, some xs => some (x :: xs)
    | _, _ => none

def resUse : ResultVar → Nat
  | .tmp t => t
  | .cell a _ => a

def cFunc (P : Program) (f : FuncId) : Option XF :=
  match P.funcs[f]? with
  | some fn => if fn.name == "runtime.NumGoroutine" then none else match fn.body with
    | some c => match cCode P fn.ntmps (keepOf (liveC (fn.results.toList.map resUse) c [] []).2) c, cRes P fn.results.toList with
      | some b, some r => some ⟨r, b⟩
      | _, _ => none
    | none => none
  | none => none

/-- The same calls, in the body of a function that takes them so. -/
def Calls.at (C : Calls) (m : FuncId → Nat) : Calls := ⟨m, C.pc, C.oc, C.fc, C.nx⟩

/-- No calls. -/
def noC : Calls := ⟨fun _ => 0, fun _ _ => none, fun _ _ => none, fun _ _ _ => none, fun _ _ _ _ => none⟩

/-- An iterator 'i := ..; for test { if !yield(..) { return }; i = .. }': o0 its beginning, o1 and c its test, q what lies ahead of the call of yield, xs what is handed on, o3 its step, k the slot of i, ty of yield, m how many it bears. -/
structure It where
  o0 : List XOp
  o1 : List XOp
  q : List XOp
  o3 : List XOp
  c : XO
  xs : List XO
  k : Nat
  ty : Nat
  m : Nat

def It.o2 (it : It) : List XOp := ⟨some it.ty, none, .mov (.t 0)⟩ :: it.q

/-- The slots of what it bears. -/
def tabC (caps : List D) (i : Nat) : D := if 1 ≤ i then caps.getD (i - 1) .any else .any

/-- Its state at the head of its loop, from the state that it told last. -/
def It.head (it : It) (caps : List D) (s : D) (h : List Blk) : Option St := match s with
  | .nilp => evOps noC it.o0 ⟨tabC caps, h⟩
  | d => evOps noC it.o3 ⟨updO (tabC caps) (some it.k) d, h⟩

def It.next (it : It) (s1 : St) : Option (Option (List D × D)) :=
  match evOps noC it.o1 s1 with
  | some s2 => match it.c.ev s2.t with
    | .bool true => match evOps noC it.o2 s2 with
      | some s3 => match s3.t it.k with
        | .int q i => some (some (it.xs.map (XO.ev s3.t), .int q i))
        | _ => none
      | none => none
    | .bool false => some none
    | _ => none
  | none => none

/-- What it hands on next. The state: i; '.nilp' at first. -/
def It.nx (it : It) (caps : List D) (s : D) (h : List Blk) : Option (Option (List D × D)) :=
  if caps.length = it.m then match it.head caps s h with
    | some s1 => it.next s1
    | none => none
  else none

/-- Such operations write neither the store nor the slots up to m. -/
def calm (m : Nat) (l : List XOp) : Bool := l.all fun o => (match o.x.cls false (fun _ => false) with | .w => false | _ => true) && (match o.dst with | none => true | some i => decide (m < i))

def asMov0 (o : Oper) : Option Nat := match o.op, o.dst, o.guard with
  | .move (.tmp 0), some d, none => some d
  | _, _, _ => none

def asCallv (o : Oper) : Option (Nat × Nat × List XO) := match o.op, o.dst, o.guard with
  | .call c, some d, none => match c.callee, cOs c.args.toList with
    | .value (.tmp y), some xs => some (y, d, xs)
    | _, _ => none
  | _, _, _ => none

def asNot (o : Oper) : Option (Nat × Nat) := match o.op, o.dst, o.guard with
  | .unOp .not _ (.tmp c), some d, none => some (c, d)
  | _, _, _ => none

/-- The texts of such an iterator's regions, its test, and the slot of its answer. -/
def itCode : Code → Option (Array Oper × Array Oper × Array Oper × Array Oper × Operand × Nat)
  | .seq (.region _ a0 false) (.block b0 (.loop (.seq (.seq (.region _ a1 false) (.cond c .skip (.exit e0))) (.seq (.block _ (.seq (.region _ a2 false) (.cond (.tmp d) .ret .skip))) (.region _ a3 false))))) =>
    if e0 = b0 then some (a0, a1, a2, a3, c, d) else none
  | _ => none

/-- A function, read as such an iterator. -/
def cIter (P : Program) (g k m : Nat) : Option It :=
  match P.funcs[g]? with
  | some fn => match fn.body.bind itCode with
    | some (a0, a1, a2, a3, c, d) =>
      match cOps P fn.ntmps a0 a0.toList, cOps P fn.ntmps a1 a1.toList, cOps P fn.ntmps a2 a2.toList, cOps P fn.ntmps a3 a3.toList, cO c with
      | some o0, some o1, some o2, some o3, some c' => match (a2[0]?).bind asMov0, (a2[a2.size - 2]?).bind asCallv, (a2[a2.size - 1]?).bind asNot with
        | some ty, some (ty', tc, xs), some (tc', tn) =>
            let q := (o2.drop 1).take (a2.size - 3)
            if ((fn.name == "runtime.NumGoroutine") = false ∧ fn.results.size = 0 ∧ 3 ≤ a2.size ∧ ty' = ty ∧ tc' = tc ∧ d = tn) ∧ (calm m o0 = true ∧ calm m o1 = true ∧ calm m q = true ∧ calm m o3 = true) ∧
                (q.all fun o => match o.dst with | some i => i != ty | none => true) = true ∧ (m < ty ∧ m < tc ∧ m < tn ∧ tc ≠ k ∧ tn ≠ k) ∧ 1 + m ≤ fn.ntmps ∧ ty < fn.ntmps ∧ tc < fn.ntmps ∧ tn < fn.ntmps ∧ m < k then
              some ⟨o0, o1, q, o3, c', xs, k, ty, m⟩ else none
        | _, _, _ => none
      | _, _, _, _, _ => none
    | none => none
  | none => none

/-- The evaluator, 'n' calls deep; 'mode f g': how f's body calls g; 'orc': what is known of functions by other means; 'nx': of iterators. -/
def evF (P : Program) (mode : FuncId → FuncId → Nat) (orc : FuncId → List D → Option D) (orf : FuncId → List D → List Blk → Option (D × List Blk)) (nx : FuncId → List D → D → List Blk → Option (Option (List D × D))) (lf : Nat) : Nat → Calls
  | 0 => ⟨fun _ => 0, orc, fun _ _ => none, orf, nx⟩
  | n + 1 =>
    let C := evF P mode orc orf nx lf n
    ⟨fun _ => 0,
      fun f args => match orc f args with
        | some r => some r
        | none => match cFunc P f with
          | some x => match evBody (C.at (mode f)) lf x args [] with
            | some (r, h) => match freezeR r h with
              | some (r, _) => some r
              | none => none
            | none => none
          | none => none,
      fun f args => match cFunc P f with
        | some x => evBody (C.at (mode f)) lf x args []
        | none => none,
      fun f args h => match orf f args h with
        | some r => some r
        | none => match cFunc P f with
          | some x => evBody (C.at (mode f)) lf x args h
          | none => none,
      nx⟩

end Go.Proofs.YtccinlhenkkpeaaDoor.E
