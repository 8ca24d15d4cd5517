/- The abstract interpreter: values, heap, operations, code, the evaluator and the translation of loaded code into it. Definitions alone. -/
import Derived.Orders
import Derived.LoopN
import Derived.Tactics
import Derived.Laws.Sem
import Derived.WalkKit
import Derived.Laws.CopyRow
import Derived.Lib.ConvBytes
import Derived.Laws.BytesString
import Derived.Laws.MakeOwn
namespace Go.Abs

/-- Abstract values. 'ro': a slice whose content will not change; 'sl sz b g off len': a window into the abstract block b (elements of sz cells), good while that block has g elements; 'rp': a pointer into an element of such content. -/
inductive AV where
  | undef
  | int (k : IntKind) (n : Int)
  | bool (b : Bool)
  | str (s : List UInt8)
  | nilp
  | ptr (b g i o : Nat)
  | rp (sz : Nat) (e : AV) (o : Nat)
  | emp
  | nn (b : Bool)
  | ro (sz : Nat) (xs : List AV)
  | sl (sz b g off len : Nat)
  | agg (cs : List AV)
  | tup (vs : List AV)
  | fn (f : Nat) (first cap : List AV)
  deriving Inhabited

/-- Content of a row that is read; of an empty one nothing is told. -/
def mkRo (sz : Nat) (xs : List AV) : AV :=
  match xs with
  | [] => .ro 0 []
  | x :: xs => .ro sz (x :: xs)

mutual
def AV.scopd (n : Nat) : AV → Bool
  | .ptr b .. => decide (b < n)
  | .sl _ b .. => decide (b < n)
  | .rp _ e _ => e.scopd n
  | .ro _ xs => AV.scopdL n xs
  | .agg cs => AV.scopdL n cs
  | .tup vs => AV.scopdL n vs
  | .fn _ a b => AV.scopdL n a && AV.scopdL n b
  | _ => true
def AV.scopdL (n : Nat) : List AV → Bool
  | [] => true
  | x :: xs => x.scopd n && AV.scopdL n xs
end

mutual
/-- One spelling for each: an empty row is 'ro 0 []'. -/
def AV.canon : AV → AV
  | .emp => .ro 0 []
  | .ro sz xs => mkRo sz (AV.canonL xs)
  | .agg cs => .agg (AV.canonL cs)
  | .tup vs => .tup (AV.canonL vs)
  | .fn f a c => .fn f (AV.canonL a) (AV.canonL c)
  | v => v
def AV.canonL : List AV → List AV
  | [] => []
  | x :: xs => x.canon :: AV.canonL xs
end
/-- The same of a result that may be kept. -/
def AV.canonK : AV → AV
  | .emp => .emp
  | v => v.canon
def canonR (keep : Bool) (v : AV) : AV :=
  match keep, v with
  | true, .tup vs => .tup (vs.map AV.canonK)
  | true, v => v.canonK
  | false, v => v.canon

structure Blk where
  ty : Nat
  sz : Nat
  frz : Bool
  es : List AV

inductive Ent where
  | free
  | hid
  | live (B : Blk)

abbrev Heap := List Ent
abbrev Frame := Nat → AV

def upd (fr : Frame) (d : Nat) (v : AV) : Frame := fun t => if t = d then v else fr t
def updO (fr : Frame) : Option Nat → AV → Frame
  | some d, v => upd fr d v
  | none, _ => fr

def AV.cells : AV → List AV
  | .agg cs => cs
  | v => [v]
def AV.isAgg : AV → Bool
  | .agg _ => true
  | _ => false
/-- May it be stored into a variable? -/
def AV.ok : AV → Bool
  | .undef => false
  | .tup _ => false
  | _ => true

mutual
/-- No reference to an abstract block in it. -/
def AV.closed : AV → Bool
  | .ptr .. => false
  | .sl .. => false
  | .rp _ e _ => e.closed
  | .ro _ xs => AV.closedL xs
  | .agg cs => AV.closedL cs
  | .tup vs => AV.closedL vs
  | .fn _ a b => AV.closedL a && AV.closedL b
  | _ => true
def AV.closedL : List AV → Bool
  | [] => true
  | x :: xs => x.closed && AV.closedL xs
end

mutual
/-- Nothing in it that leads to memory. -/
def AV.flat : AV → Bool
  | .int .. => true
  | .bool _ => true
  | .str _ => true
  | .undef => true
  | .emp => true
  | .nilp => true
  | .ro _ xs => xs.isEmpty
  | .agg cs => AV.flatL cs
  | .tup vs => AV.flatL vs
  | _ => false
def AV.flatL : List AV → Bool
  | [] => true
  | x :: xs => x.flat && AV.flatL xs
end

def blk (h : Heap) (b : Nat) : Option Blk :=
  match h[b]? with
  | some (.live B) => some B
  | _ => none

/-- A block that still has g elements. -/
def good (h : Heap) (b g : Nat) : Option Blk :=
  match blk h b with
  | some B => if B.es.length = g then some B else none
  | none => none

/-! ### Parts of an element -/
def part (agg : Bool) (n sz o : Nat) (e : AV) : Option AV :=
  if agg then
    (if (o == 0 && n == sz && e.isAgg) = true then some e
     else if (e.isAgg && decide (o + n ≤ e.cells.length)) = true then some (.agg ((e.cells.drop o).take n)) else none)
  else e.cells[o]?

def splice (cs : List AV) (o : Nat) (vs : List AV) : List AV := cs.take o ++ vs ++ cs.drop (o + vs.length)

def putPart (n sz o : Nat) (e v : AV) : Option AV :=
  if v.cells.length = n ∧ v.ok = true then
    (if (o == 0 && n == sz && e.isAgg && v.isAgg) = true then some v
     else if o + n ≤ e.cells.length then
       (if e.isAgg = true then some (.agg (splice e.cells o v.cells))
        else if v.isAgg = true then none else some v)
     else none)
  else none

/-! ### Sealing: own slices as content -/
def mapO {α β : Type} (f : α → Option β) : List α → Option (List β)
  | [] => some []
  | x :: xs => match f x, mapO f xs with
    | some y, some ys => some (y :: ys)
    | _, _ => none

/-- Slices of blocks from ns on, and what pointers into them lead to, become content. -/
def embed (h : Heap) (ns np : Nat) : Nat → AV → Option AV
  | 0, v => if v.closed then some v else none
  | d + 1, v => if v.closed then some v else match v with
    | .sl sz b g off len =>
      if b < ns then some (.sl sz b g off len) else
      match good h b g with
      | some B => if off + len ≤ g then
          (if AV.closedL B.es then some (.ro B.sz ((B.es.drop off).take len)) else (mapO (embed h ns np d) ((B.es.drop off).take len)).map (.ro B.sz)) else none
      | none => none
    | .ptr b g i o => if b < ns then some (.ptr b g i o) else
      match good h b g with
      | some B => match B.es[i]? with
        | some e => if e.closed then some (.rp B.sz e o) else (embed h ns np d e).map (.rp B.sz · o)
        | none => none
      | none => none
    | .agg cs => (mapO (embed h ns np d) cs).map .agg
    | .tup vs => (mapO (embed h ns np d) vs).map .tup
    | .ro sz xs => (mapO (embed h ns np d) xs).map (.ro sz)
    | .fn f a c => match mapO (embed h ns np d) a, mapO (embed h ns np d) c with
      | some a', some c' => some (.fn f a' c')
      | _, _ => none
    | _ => none

/-- The blocks from ns on whose content 'embed' takes. -/
def slIds (h : Heap) (ns : Nat) : Nat → AV → List Nat
  | 0, _ => []
  | d + 1, v => if v.closed then [] else match v with
    | .sl _ b g off len =>
      if b < ns then [] else
      match good h b g with
      | some B => if AV.closedL B.es then [b] else b :: ((B.es.drop off).take len).flatMap (slIds h ns d)
      | none => []
    | .ptr b g i _ =>
      if b < ns then [] else
      match good h b g with
      | some B => match B.es[i]? with
        | some e => if e.closed then [b] else b :: slIds h ns d e
        | none => []
      | none => []
    | .agg cs => cs.flatMap (slIds h ns d)
    | .tup vs => vs.flatMap (slIds h ns d)
    | .ro _ xs => xs.flatMap (slIds h ns d)
    | .fn _ a c => a.flatMap (slIds h ns d) ++ c.flatMap (slIds h ns d)
    | _ => []

def depth : Nat := 8

/-- Blocks that from now on stay as they are. -/
def freeze1 (lo : Nat) (h : Heap) (b : Nat) : Option Heap :=
  match blk h b with
  | some B => if B.frz then some h else if lo ≤ b then some (h.set b (.live { B with frz := true })) else none
  | none => none
def freeze (lo : Nat) : Heap → List Nat → Option Heap
  | h, [] => some h
  | h, b :: bs => match freeze1 lo h b with
    | some h' => freeze lo h' bs
    | none => none

/-- New blocks: behind the last one, or in places that were kept free. -/
def fill (h : Heap) (t : Nat) : List Blk → Option Heap
  | [] => some h
  | B :: bs => match h[t]? with
    | some .free => fill (h.set t (.live B)) (t + 1) bs
    | _ => none
def place (h : Heap) (tgt : Nat) (bs : List Blk) : Option Heap :=
  if tgt = h.length then some (h ++ bs.map .live) else fill h tgt bs

/-! ### Operations -/
inductive Opd where
  | tmp (t : Nat)
  | val (v : AV)
  deriving Inhabited

def Opd.get (fr : Frame) : Opd → AV
  | .tmp t => fr t
  | .val v => v

inductive AOp where
  | move (x : Opd)
  | pick (c a b : Opd)
  | bin (op : BinOp) (x y : Opd)
  | eqB (neg : Bool) (x y : Opd)
  | eqAgg (neg : Bool) (x y : Opd)
  | un (op : UnOp) (x : Opd)
  | conv (k : IntKind) (x : Opd)
  | b2s (x : Opd)
  | s2b (ty : Nat) (x : Opd)
  | box (ty sz : Nat) (gh : List (Nat × Nat × Nat)) (x : Opd)
  | alloc (ty sz : Nat) (gh : List (Nat × Nat × Nat)) (zero : AV)
  | build (zero : List AV) (parts : List (Nat × Nat × Opd))
  | buildSl (asRo : Bool) (ty sz len : Nat) (zero : AV) (parts : List (Nat × Opd))
  | load (agg : Bool) (n : Nat) (a : Opd)
  | store (n : Nat) (a x : Opd)
  | nilChk (x : Opd)
  | mkfn (f : Nat) (first cap : List Opd)
  | mksl (ty sz bytes : Nat) (zero : AV) (len cap : Opd)
  | slStr (x : Opd) (lo hi : Option Opd)
  | slSl (sz : Nat) (x : Opd) (lo hi mx : Option Opd)
  | faddr (off : Nat) (x : Opd)
  | field (agg : Bool) (off n sz : Nat) (x : Opd)
  | iaddr (sz : Nat) (x i : Opd)
  | aaddr (len sz : Nat) (x i : Opd)
  | isNil (neg : Bool) (x : Opd)
  | istr (x i : Opd)
  | extract (x : Opd) (i : Nat)
  | call (f : Opd) (args : List Opd)
  | append (ty sz bytes : Nat) (x y : Opd)
  | clear (zero : AV) (x : Opd)
  | lenSl (x : Opd)
  | lenStr (x : Opd)
  | mx (x : Opd) (xs : List Opd)
  | mn (x : Opd) (xs : List Opd)
  deriving Inhabited

structure AOper where
  dst : Option Nat
  op : AOp
  guard : Option (Nat × Bool)
  deriving Inhabited

inductive Cls where
  | P | L | A | W | C
  deriving DecidableEq, Inhabited

structure DOper where
  o : AOper
  cls : Cls
  slot : Nat
  hidS : List Nat
  lk : List Nat
  vOnly : Bool
  root : Option Nat
  uo : List Nat
  deriving Inhabited

inductive ACode where
  | skip
  | region (ops : List AOper)
  | draw (total : Nat) (ops : List DOper)
  | seq (a b : ACode)
  | cond (c : Opd) (a b : ACode)
  | block (id : Nat) (a : ACode)
  | loop (a : ACode)
  | exit (id : Nat)
  | ret
  deriving Inhabited

inductive ARes where
  | tmp (t : Nat)
  | cell (t : Nat) (agg : Bool) (n : Nat)
  deriving Inhabited

structure AFn where
  res : List ARes
  code : ACode
  deriving Inhabited

/-! ### What operations do -/
def intBin (op : BinOp) (k : IntKind) (x y : Int) : Option AV :=
  match op with
  | .add => some (.int k (k.wrap (x + y)))
  | .sub => some (.int k (k.wrap (x - y)))
  | .mul => some (.int k (k.wrap (x * y)))
  | .quo => if y = 0 then none else some (.int k (k.wrap (x.tdiv y)))
  | .rem => if y = 0 then none else some (.int k (x.tmod y))
  | .and => some (.int k (k.wrap (BitVec.ofInt k.bits x &&& BitVec.ofInt k.bits y).toNat))
  | .or => some (.int k (k.wrap (BitVec.ofInt k.bits x ||| BitVec.ofInt k.bits y).toNat))
  | .xor => some (.int k (k.wrap (BitVec.ofInt k.bits x ^^^ BitVec.ofInt k.bits y).toNat))
  | .andNot => some (.int k (k.wrap (BitVec.ofInt k.bits x &&& ~~~BitVec.ofInt k.bits y).toNat))
  | .eql => some (.bool (x == y))
  | .neq => some (.bool (x != y))
  | .lss => some (.bool (decide (x < y)))
  | .leq => some (.bool (decide (x ≤ y)))
  | .gtr => some (.bool (decide (x > y)))
  | .geq => some (.bool (decide (x ≥ y)))
  | _ => none

def shiftBin (op : BinOp) (k : IntKind) (x y : Int) : Option AV :=
  if y < 0 then none else
  match op with
  | .shl => some (.int k (k.wrap (x * 2 ^ (min y.toNat k.bits))))
  | .shr => some (.int k (x.fdiv (2 ^ (min y.toNat k.bits))))
  | _ => none

def strBin (op : BinOp) (s t : List UInt8) : Option AV :=
  match op with
  | .eql => some (.bool (s == t))
  | .neq => some (.bool (!(s == t)))
  | .add => if s.length + t.length < 4611686018427387904 then some (.str (s ++ t)) else none
  | _ => none

def isShift : BinOp → Bool
  | .shl => true
  | .shr => true
  | _ => false

def binAV (op : BinOp) (x y : AV) : Option AV :=
  match x, y with
  | .int k a, .int k' b => if isShift op then shiftBin op k a b else if k = k' then intBin op k a b else none
  | .str s, .str t => strBin op s t
  | _, _ => none

def eqBasic : AV → AV → Option Bool
  | .int k a, .int k' b => if k = k' then some (a == b) else none
  | .bool a, .bool b => some (a == b)
  | .str a, .str b => some (a == b)
  | _, _ => none
def eqCells : List AV → List AV → Option Bool
  | [], [] => some true
  | x :: xs, y :: ys => match eqBasic x y, eqCells xs ys with
    | some a, some b => some (a && b)
    | _, _ => none
  | _, _ => none

def unAV (op : UnOp) (x : AV) : Option AV :=
  match op, x with
  | .not, .bool b => some (.bool !b)
  | .neg, .int k n => some (.int k (k.wrap (0 - n)))
  | .xor, .int k n => some (.int k (k.wrap (BitVec.ofInt k.bits (if k.signed then -1 else k.max) ^^^ BitVec.ofInt k.bits n).toNat))
  | _, _ => none

def natArg : AV → Option Nat
  | .int _ n => if 0 ≤ n then some n.toNat else none
  | _ => none
def natOpt (fr : Frame) (dflt : Nat) : Option Opd → Option Nat
  | none => some dflt
  | some x => natArg (x.get fr)

def slLen : AV → Option Nat
  | .emp => some 0
  | .nn _ => some 0
  | .ro _ xs => some xs.length
  | .sl _ _ _ _ len => some len
  | _ => none

/-- A slice's elements and their size. -/
def readSl (h : Heap) (sz : Nat) : AV → Option (List AV)
  | .emp => some []
  | .nn _ => some []
  | .ro sz' xs => if sz' = sz ∨ xs.isEmpty = true then some xs else none
  | .sl _ b g off len => match good h b g with
    | some B => if B.sz = sz ∧ off + len ≤ g then some ((B.es.drop off).take len) else none
    | none => none
  | _ => none

def cut (szT : Nat) (x : AV) (l r : Nat) : Option AV :=
  match x with
  | .emp => some .emp
  | .ro sz xs => if sz = szT ∨ xs.isEmpty = true then some (mkRo szT ((xs.take r).drop l)) else none
  | .sl sz b g off _ => if sz = szT then some (.sl sz b g (off + l) (r - l)) else none
  | _ => none

def sliceAV (szT : Nat) (x : AV) (l r : Nat) (mx : Option Nat) : Option AV :=
  match slLen x with
  | none => none
  | some n =>
    match mx with
    | none => if l ≤ r ∧ r ≤ n then cut szT x l r else none
    | some m => if l = r ∧ r = m ∧ m ≤ n then some .emp else none

def faddrAV (off : Nat) : AV → Option AV
  | .ptr b g i o => some (.ptr b g i (o + off))
  | .rp sz e o => some (.rp sz e (o + off))
  | _ => none

def iaddrAV (szT : Nat) (x i : AV) : Option AV :=
  match natArg i with
  | none => none
  | some j =>
    match x with
    | .ro sz xs => match xs[j]? with
      | some e => if sz = szT then some (.rp sz e 0) else none
      | none => none
    | .sl sz b g off len => if j < len ∧ sz = szT then some (.ptr b g (off + j) 0) else none
    | _ => none

def istrAV (x i : AV) : Option AV :=
  match natArg i, x with
  | some j, .str s => match s[j]? with
    | some c => some (.int .u8 c.toNat)
    | none => none
  | _, _ => none

def max2 (x y : AV) : Option AV :=
  match x, y with
  | .int k a, .int k' b => if k = k' then some (.int k (if b > a then b else a)) else none
  | _, _ => none
def min2 (x y : AV) : Option AV :=
  match x, y with
  | .int k a, .int k' b => if k = k' then some (.int k (if b < a then b else a)) else none
  | _, _ => none
def foldO (f : AV → AV → Option AV) : AV → List AV → Option AV
  | x, [] => some x
  | x, y :: ys => match f x y with
    | some z => foldO f z ys
    | none => none

def loadAV (h : Heap) (agg : Bool) (n : Nat) (a : AV) : Option AV :=
  match a with
  | .ptr b g i o => match good h b g with
    | some B => match B.es[i]? with
      | some e => part agg n B.sz o e
      | none => none
    | none => none
  | .rp sz e o => part agg n sz o e
  | _ => none

/-- What may be put in an old cell's place: no reference, or the same block's. -/
def okCell (new old : AV) : Bool :=
  new.closed || match new, old with
    | .sl _ a .., .sl _ b .. => a == b
    | _, _ => false
def okCells : List AV → List AV → Bool
  | [], _ => true
  | x :: xs, y :: ys => okCell x y && okCells xs ys
  | _ :: _, [] => false

def storeAV (h : Heap) (lo base : Nat) (n : Nat) (a v : AV) : Option Heap :=
  match a with
  | .ptr b g i o =>
    if lo ≤ b then
      match good h b g with
      | some B => if B.frz then none else
        match B.es[i]? with
        | some e =>
          if base ≤ b then
            match putPart n B.sz o e v with
            | some e' => some (h.set b (.live { B with es := B.es.set i e' }))
            | none => none
          else
            match embed h base base depth v with
            | some v' =>
              match freeze lo h (slIds h base depth v), putPart n B.sz o e v' with
              | some h', some e' => if okCells e'.cells e.cells then some (h'.set b (.live { B with es := B.es.set i e' })) else none
              | _, _ => none
            | none => none
        | none => none
      | none => none
    else none
  | _ => none

/-- Cells that begin as nil and are appended to by others get a block of their own from the first. -/
def ghosts (x : AV) (t : Nat) : List (Nat × Nat × Nat) → List AV × List Blk
  | [] => (x.cells, [])
  | (q, ty, sz) :: gs =>
    let r := ghosts x (t + 1) gs
    match x.cells[q]? with
    | some .emp => (r.1.set q (.sl sz t 0 0 0), { ty, sz, frz := false, es := [] } :: r.2)
    | _ => (r.1, { ty, sz, frz := false, es := [] } :: r.2)

def boxAV (h : Heap) (tgt ty sz : Nat) (gh : List (Nat × Nat × Nat)) (x : AV) : Option (AV × Heap) :=
  if x.cells.length = sz then
    match gh with
    | [] => match place h tgt [{ ty, sz, frz := false, es := [x] }] with
      | some h' => some (.ptr tgt 1 0 0, h')
      | none => none
    | _ =>
      let r := ghosts x (tgt + 1) gh
      match place h tgt ({ ty, sz, frz := false, es := [.agg r.1] } :: r.2) with
      | some h' => if x.isAgg then some (.ptr tgt 1 0 0, h') else none
      | none => none
  else none

def most : Nat := 1073741824

def appendAV (h : Heap) (lo base tgt ty sz : Nat) (x : AV) (ys : List AV) : Option (AV × Heap) :=
  match x with
  | .emp =>
    if ys.isEmpty = true then some (.emp, h) else
    if ys.length ≤ most then
      match place h tgt [{ ty, sz, frz := false, es := ys }] with
      | some h' => some (.sl sz tgt ys.length 0 ys.length, h')
      | none => none
    else none
  | .sl _ b g off len =>
    if lo ≤ b then
      match good h b g with
      | some B =>
        if (B.frz || !(off == 0) || !(len == g) || !(B.sz == sz) || !(B.ty == ty) || !(decide (g + ys.length ≤ most)) || !(ys.all AV.ok)) = true then none else
        if base ≤ b then
          some (.sl sz b (g + ys.length) 0 (g + ys.length), h.set b (.live { B with es := B.es ++ ys }))
        else
          match mapO (embed h base base depth) ys with
          | some ys' =>
            match freeze lo h (ys.flatMap (slIds h base depth)) with
            | some h' => if AV.closedL ys' then some (.sl sz b (g + ys.length) 0 (g + ys.length), h'.set b (.live { B with es := B.es ++ ys' })) else none
            | none => none
          | none => none
      | none => none
    else none
  | _ => none

def clearAV (h : Heap) (lo : Nat) (zero : AV) (x : AV) : Option Heap :=
  match x with
  | .emp => some h
  | .sl _ b g off len =>
    if lo ≤ b then
      match good h b g with
      | some B => if B.frz then none else if zero.closed ∧ zero.cells.length = B.sz ∧ off + len ≤ g then
          some (h.set b (.live { B with es := B.es.take off ++ List.replicate len zero ++ B.es.drop (off + len) })) else none
      | none => none
    else none
  | _ => none

def bytesOf : List AV → Option (List UInt8)
  | [] => some []
  | .int .u8 n :: xs => match bytesOf xs with
    | some l => some (UInt8.ofNat n.toNat :: l)
    | none => none
  | _ :: _ => none

def buildCells (cs : List AV) (fr : Frame) : List (Nat × Nat × Opd) → Option (List AV)
  | [] => some cs
  | (off, n, x) :: ps =>
    let v := x.get fr
    if v.cells.length = n ∧ off + n ≤ cs.length ∧ v.ok = true then buildCells (splice cs off v.cells) fr ps else none
def buildEls (sz : Nat) (es : List AV) (fr : Frame) : List (Nat × Opd) → Option (List AV)
  | [] => some es
  | (i, x) :: ps =>
    let v := x.get fr
    if v.cells.length = sz ∧ i < es.length ∧ v.ok = true then buildEls sz (es.set i v) fr ps else none

/-- A call: the function, the least block that may be written, where the frame that calls begins, where kept results go, the arguments. -/
abbrev CallF := Nat → Nat → Nat → Nat → List AV → Heap → Option (AV × Heap)

def put1 (h : Heap) (v : Option AV) : Option (AV × Heap) :=
  match v with
  | some x => some (x, h)
  | none => none
def putU (h : Option Heap) : Option (AV × Heap) :=
  match h with
  | some x => some (.undef, x)
  | none => none

def stepOp (cf : CallF) (lo base tgt : Nat) (op : AOp) (fr : Frame) (h : Heap) : Option (AV × Heap) :=
  match op with
  | .move x => some (x.get fr, h)
  | .pick c a b => match c.get fr with
    | .bool t => some (if t then a.get fr else b.get fr, h)
    | _ => none
  | .bin op x y => put1 h (binAV op (x.get fr) (y.get fr))
  | .eqB neg x y => match x.get fr, y.get fr with
    | .bool a, .bool b => some (.bool (if neg then !(a == b) else a == b), h)
    | _, _ => none
  | .eqAgg neg x y => match eqCells (x.get fr).cells (y.get fr).cells with
    | some b => if ((x.get fr).isAgg && (y.get fr).isAgg) = true then some (.bool (if neg then !b else b), h) else none
    | none => none
  | .un op x => put1 h (unAV op (x.get fr))
  | .conv k x => match x.get fr with
    | .int _ n => some (.int k (k.wrap n), h)
    | _ => none
  | .b2s x => match readSl h 1 (x.get fr) with
    | some xs => match bytesOf xs with
      | some l => some (.str l, h)
      | none => none
    | none => none
  | .s2b _ x => match x.get fr with
    | .str s => if s.length ≤ most then some (.ro 1 (s.map fun c => .int .u8 c.toNat), h) else none
    | _ => none
  | .box ty sz gh x => boxAV h tgt ty sz gh (x.get fr)
  | .alloc ty sz gh zero => boxAV h tgt ty sz gh zero
  | .build zero parts => match buildCells zero fr parts with
    | some cs => some (.agg cs, h)
    | none => none
  | .buildSl asRo ty sz len zero parts => match buildEls sz (List.replicate len zero) fr parts with
    | some es => if zero.cells.length = sz then
        (if len = 0 then some (.emp, h)
         else if asRo then some (.ro sz es, h)
         else match place h tgt [{ ty, sz, frz := false, es }] with
          | some h' => some (.sl sz tgt len 0 len, h')
          | none => none) else none
    | none => none
  | .load agg n a => put1 h (loadAV h agg n (a.get fr))
  | .store n a x => putU (storeAV h lo base n (a.get fr) (x.get fr))
  | .nilChk x => match x.get fr with
    | .ptr b g i o => some (.ptr b g i o, h)
    | .rp sz e o => some (.rp sz e o, h)
    | _ => none
  | .mkfn f a c => some (.fn f (a.map (Opd.get fr)) (c.map (Opd.get fr)), h)
  | .mksl ty sz _ zero len cap => match natArg (len.get fr), natArg (cap.get fr) with
    | some n, some m => if n = m ∧ n ≤ most ∧ zero.cells.length = sz then
        (match place h tgt [{ ty, sz, frz := false, es := List.replicate n zero }] with
         | some h' => some (.sl sz tgt n 0 n, h')
         | none => none) else none
    | _, _ => none
  | .slStr x lo' hi => match x.get fr with
    | .str s => match natOpt fr 0 lo', natOpt fr s.length hi with
      | some l, some r => if l ≤ r ∧ r ≤ s.length then some (.str ((s.take r).drop l), h) else none
      | _, _ => none
    | _ => none
  | .slSl sz x lo' hi mx => match slLen (x.get fr) with
    | some n => match natOpt fr 0 lo', natOpt fr n hi with
      | some l, some r => match mx with
        | none => put1 h (sliceAV sz (x.get fr) l r none)
        | some m => match natArg (m.get fr) with
          | some m' => put1 h (sliceAV sz (x.get fr) l r (some m'))
          | none => none
      | _, _ => none
    | none => none
  | .faddr off x => put1 h (faddrAV off (x.get fr))
  | .field agg off n sz x => if (x.get fr).isAgg then put1 h (part agg n sz off (x.get fr)) else none
  | .iaddr sz x i => put1 h (iaddrAV sz (x.get fr) (i.get fr))
  | .aaddr len sz x i => match natArg (i.get fr) with
    | some j => if j < len then put1 h (faddrAV (j * sz) (x.get fr)) else none
    | none => none
  | .isNil neg x => match x.get fr with
    | .nn b => some (.bool (b != neg), h)
    | v => match slLen v with
      | some n => if n = 0 then none else some (.bool neg, h)
      | none => none
  | .istr x i => put1 h (istrAV (x.get fr) (i.get fr))
  | .extract x i => match x.get fr with
    | .tup vs => put1 h vs[i]?
    | _ => none
  | .call f args => match f.get fr with
    | .fn g a c => cf g lo base tgt (a ++ args.map (Opd.get fr) ++ c) h
    | _ => none
  | .append ty sz _ x y => match readSl h sz (y.get fr) with
    | some ys => appendAV h lo base tgt ty sz (x.get fr) ys
    | none => none
  | .clear zero x => putU (clearAV h lo zero (x.get fr))
  | .lenSl x => match slLen (x.get fr) with
    | some n => some (.int .i64 n, h)
    | none => none
  | .lenStr x => match x.get fr with
    | .str s => some (.int .i64 s.length, h)
    | _ => none
  | .mx x xs => put1 h (foldO max2 (x.get fr) (xs.map (Opd.get fr)))
  | .mn x xs => put1 h (foldO min2 (x.get fr) (xs.map (Opd.get fr)))

def wants (fr : Frame) : Option (Nat × Bool) → Bool
  | none => true
  | some (t, w) => match fr t with
    | .bool b => b == w
    | _ => false

def runOps (cf : CallF) (lo base : Nat) : List AOper → Frame → Heap → Option (Frame × Heap)
  | [], fr, h => some (fr, h)
  | o :: os, fr, h =>
    if wants fr o.guard then
      match stepOp cf lo base h.length o.op fr h with
      | some (v, h') => runOps cf lo base os (updO fr o.dst v) h'
      | none => none
    else runOps cf lo base os (updO fr o.dst .undef) h

/-! ### Regions whose order is open -/
def ptrBlk : AV → Option Nat
  | .ptr b _ _ _ => some b
  | .sl _ b _ _ _ => some b
  | _ => none
def touch (fr : Frame) : AOp → Option Nat
  | .load _ _ a => ptrBlk (a.get fr)
  | .b2s x => ptrBlk (x.get fr)
  | .store _ a _ => ptrBlk (a.get fr)
  | .append _ _ _ x _ => ptrBlk (x.get fr)
  | .clear _ x => ptrBlk (x.get fr)
  | _ => none

def hide : List Nat → Heap → Heap
  | [], h => h
  | b :: bs, h => hide bs (h.set b .hid)
def restore : List Nat → Heap → Heap → Heap
  | [], _, h' => h'
  | b :: bs, h, h' => match h[b]? with
    | some e => restore bs h (h'.set b e)
    | none => restore bs h h'
def Ent.isFree : Ent → Bool
  | .free => true
  | _ => false
/-- Free places at the end, behind the first n, are given back. -/
def trim (n : Nat) (h : Heap) : Heap := h.take n ++ ((h.drop n).reverse.dropWhile Ent.isFree).reverse

structure DSt where
  fr : Frame
  h : Heap
  log : Nat → Option Nat

def offLog (log : Nat → Option Nat) (b : Option Nat) (uo : List Nat) : Bool :=
  match b with
  | none => true
  | some b => uo.all fun k => !(log k == some b)
def rootOk (fr0 fr : Frame) (o : DOper) : Bool :=
  match o.root with
  | none => true
  | some t => match touch fr o.o.op with
    | none => true
    | some b => ptrBlk (fr0 t) == some b

/-- The places that an operation may not see. -/
def dIds (n0 : Nat) (fr0 : Frame) (o : DOper) : List Nat :=
  match o.cls with
  | .P => []
  | .A => []
  | .C => o.hidS.map (n0 + ·) ++ o.lk.filterMap fun t => ptrBlk (fr0 t)
  | _ => o.hidS.map (n0 + ·)
def callsV (stOf : Nat → Bool) (fr : Frame) : AOp → Bool
  | .call f _ => match f.get fr with
    | .fn g _ _ => !(stOf g)
    | _ => false
  | _ => false
def dCond (stOf : Nat → Bool) (fr0 : Frame) (o : DOper) (fr : Frame) (log : Nat → Option Nat) : Bool :=
  match o.cls with
  | .L => offLog log (touch fr o.o.op) o.uo && rootOk fr0 fr o
  | .W => offLog log (touch fr o.o.op) o.uo
  | .C => !o.vOnly || callsV stOf fr o.o.op
  | _ => true
def dLog (i : Nat) (o : DOper) (fr : Frame) (log : Nat → Option Nat) : Nat → Option Nat :=
  match o.cls with
  | .L => fun k => if k = i then touch fr o.o.op else log k
  | .W => fun k => if k = i then touch fr o.o.op else log k
  | _ => log

def stepD (cf : CallF) (stOf : Nat → Bool) (lo base n0 : Nat) (fr0 : Frame) (i : Nat) (o : DOper) (s : DSt) : Option DSt :=
  if wants s.fr o.o.guard then
    if dCond stOf fr0 o s.fr s.log = true then
      if o.cls = .P then
        match stepOp cf lo base (n0 + o.slot) o.o.op s.fr [] with
        | some (v, _) => some { s with fr := updO s.fr o.o.dst v }
        | none => none
      else
        match stepOp cf lo base (n0 + o.slot) o.o.op s.fr (hide (dIds n0 fr0 o) s.h) with
        | some (v, h') => if h'.length = s.h.length then some { fr := updO s.fr o.o.dst v, h := restore (dIds n0 fr0 o) s.h h', log := dLog i o s.fr s.log } else none
        | none => none
    else none
  else some { s with fr := updO s.fr o.o.dst .undef }

def runD (cf : CallF) (stOf : Nat → Bool) (lo base n0 : Nat) (fr0 : Frame) : Nat → List DOper → DSt → Option DSt
  | _, [], s => some s
  | i, o :: os, s => match stepD cf stOf lo base n0 fr0 i o s with
    | some s' => runD cf stOf lo base n0 fr0 (i + 1) os s'
    | none => none

/-! ### Code -/
inductive Out where
  | normal
  | exit (id : Nat)
  | ret
  deriving DecidableEq

abbrev R := Out × Frame × Heap
abbrev Body := Frame → Heap → Option R

def andThen (r : Option R) (k : Body) : Option R :=
  match r with
  | some (.normal, fr, h) => k fr h
  | r => r
def inBlk (id : Nat) (r : Option R) : Option R :=
  match r with
  | some (.exit j, fr, h) => if j = id then some (.normal, fr, h) else some (.exit j, fr, h)
  | r => r

structure Ctx where
  cf : CallF
  it : Body → Body
  stOf : Nat → Bool

def exec (c : Ctx) (lo base : Nat) : ACode → Body
  | .skip, fr, h => some (.normal, fr, h)
  | .region ops, fr, h => match runOps c.cf lo base ops fr h with
    | some (fr', h') => some (.normal, fr', h')
    | none => none
  | .draw total ops, fr, h => match runD c.cf c.stOf lo base h.length fr 0 ops { fr, h := h ++ List.replicate total .free, log := fun _ => none } with
    | some s => some (.normal, s.fr, trim h.length s.h)
    | none => none
  | .seq a b, fr, h => andThen (exec c lo base a fr h) (exec c lo base b)
  | .cond t a b, fr, h => match t.get fr with
    | .bool t => if t then exec c lo base a fr h else exec c lo base b fr h
    | _ => none
  | .block id a, fr, h => inBlk id (exec c lo base a fr h)
  | .loop a, fr, h => c.it (exec c lo base a) fr h
  | .exit id, fr, h => some (.exit id, fr, h)
  | .ret, fr, h => some (.ret, fr, h)

def iter (n : Nat) (b : Body) (fr : Frame) (h : Heap) : Option R :=
  match n with
  | 0 => none
  | n + 1 => andThen (b fr h) (iter n b)

/-! ### Calls -/
structure Pol where
  st : Bool
  keep : Bool
  raw : Bool
  top : Nat
  deriving Inhabited

def initFr (args : List AV) : Frame := fun t => args.getD t .undef

def resAV (h : Heap) (fr : Frame) : ARes → Option AV
  | .tmp t => some (fr t)
  | .cell t agg n => loadAV h agg n (fr t)
def resultAV (h : Heap) (fr : Frame) (rs : List ARes) : Option AV :=
  match mapO (resAV h fr) rs with
  | some [v] => some v
  | some vs => some (.tup vs)
  | none => none

def bodyAV (c : Ctx) (fn : AFn) (lo base : Nat) (args : List AV) (h : Heap) : Option (AV × Heap) :=
  match exec c lo base fn.code (initFr args) h with
  | some (.normal, fr, h') => put1 h' (resultAV h' fr fn.res)
  | some (.ret, fr, h') => put1 h' (resultAV h' fr fn.res)
  | _ => none

/-- A result behind the call: fresh slices are kept as blocks (from 'tgt' on), all else is sealed. -/
def seal1 (keep : Bool) (h : Heap) (base tgt : Nat) (v : AV) : Option (AV × List Blk) :=
  match keep, v with
  | true, .sl _ b g off len =>
    if base ≤ b then
      match good h b g with
      | some B => if (B.frz || !(off == 0) || !(decide (len ≤ g))) = true then none else
        match (if AV.closedL B.es then some (B.es.take len) else mapO (embed h base base depth) (B.es.take len)) with
        | some es => some (.sl B.sz tgt len 0 len, [{ B with es }])
        | none => none
      | none => none
    else some (v, [])
  | _, v => match embed h base base depth v with
    | some v' => some (v', [])
    | none => none
def sealL (keep : Bool) (h : Heap) (base tgt : Nat) : List AV → Option (List AV × List Blk)
  | [] => some ([], [])
  | v :: vs => match seal1 keep h base tgt v with
    | some (x, bs) => match sealL keep h base (tgt + bs.length) vs with
      | some (xs, bs') => some (x :: xs, bs ++ bs')
      | none => none
    | none => none
def sealAV (keep : Bool) (h : Heap) (base tgt : Nat) (v : AV) : Option (AV × List Blk) :=
  match keep, v with
  | true, .tup vs => match sealL keep h base tgt vs with
    | some (xs, bs) => some (.tup xs, bs)
    | none => none
  | _, v => seal1 keep h base tgt v

def keptOf (base : Nat) : AV → List Nat
  | .sl _ b _ _ _ => if base ≤ b then [b] else []
  | _ => []
def keptIds (keep : Bool) (base : Nat) (v : AV) : List Nat :=
  match keep, v with
  | true, .tup vs => vs.flatMap (keptOf base)
  | true, v => keptOf base v
  | false, _ => []
def embIds1 (keep : Bool) (h : Heap) (base : Nat) (v : AV) : List Nat :=
  match keep, v with
  | true, .sl _ b g _ len =>
    if base ≤ b then
      match good h b g with
      | some B => if AV.closedL B.es then [] else (B.es.take len).flatMap (slIds h base depth)
      | none => []
    else []
  | _, v => slIds h base depth v
def embIds (keep : Bool) (h : Heap) (base : Nat) (v : AV) : List Nat :=
  match keep, v with
  | true, .tup vs => vs.flatMap (embIds1 true h base)
  | _, v => embIds1 keep h base v
/-- No kept block is kept twice, nor is one content of another result. -/
def keepsOk (keep : Bool) (h : Heap) (base : Nat) (v : AV) : Bool :=
  decide ((keptIds keep base v).Nodup) && (keptIds keep base v).all fun k => !((embIds keep h base v).contains k)

def AV.isSl : AV → Bool
  | .sl .. => true
  | _ => false
/-- Results that lead to no old memory. -/
def flatRes (r : AV) (bs : List Blk) : Bool := (r.flat || r.isSl) && bs.all fun B => AV.flatL B.es

/-- What a call that may write sees of memory: all up to the blocks that it is led to by its pointers (or by its first argument, a slice), and 'top' blocks more. -/
def topPtr : AV → Nat
  | .ptr b .. => b + 1
  | _ => 0
def topOf (top : Nat) (args : List AV) : Nat :=
  match args with
  | .sl _ b .. :: _ => b + 1 + top
  | _ => match (args.map topPtr).foldl max 0 with
    | 0 => 0
    | n + 1 => n + 1 + top
/-- The blocks below k are there, or free, and lead to none from k on. -/
def lowOk (k : Nat) (h : Heap) : Bool := decide (k ≤ h.length) && (h.take k).all fun e => match e with
  | .live B => AV.scopdL k B.es
  | .free => true
  | .hid => false

def callPol (p : Pol) (body : Nat → Nat → List AV → Heap → Option (AV × Heap)) (lo base tgt : Nat) (args : List AV) (h : Heap) : Option (AV × Heap) :=
  if p.raw then body lo base args h
  else if p.st then
    match freeze lo h (args.flatMap (slIds h (topOf p.top args) depth)), mapO (embed h (topOf p.top args) (topOf p.top args) depth) args with
    | some h2, some args' =>
      if (lowOk (topOf p.top args) h2 && decide (lo ≤ topOf p.top args)) = true then
        match body lo (topOf p.top args) (args'.map AV.canon) (h2.take (topOf p.top args)) with
        | some (v, h1) =>
          match sealAV p.keep h1 (topOf p.top args) tgt v with
          | some (r, bs) => if (keepsOk p.keep h1 (topOf p.top args) v && decide (bs.length ≤ 2)) = true then put1' (canonR p.keep r) (place (h1.take (topOf p.top args) ++ h2.drop (topOf p.top args)) tgt bs) else none
          | none => none
        | none => none
      else none
    | _, _ => none
  else
    match mapO (embed h 0 0 depth) args with
    | some args' =>
      match body 0 0 (args'.map AV.canon) [] with
      | some (v, h1) =>
        match sealAV p.keep h1 0 tgt v with
        | some (r, bs) =>
          if (keepsOk p.keep h1 0 v && decide (bs.length ≤ 2)) = true then
            (if flatRes r bs = true then put1' (canonR p.keep r) (place h tgt bs)
             else match freeze lo h (args.flatMap (slIds h 0 depth)) with
              | some h2 => put1' (canonR p.keep r) (place h2 tgt bs)
              | none => none)
          else none
        | none => none
      | none => none
    | none => none
where put1' (r : AV) (h : Option Heap) : Option (AV × Heap) :=
  match h with
  | some h => some (r, h)
  | none => none

/-- A program: its functions, how each is called, and those that are told by themselves. -/
structure Prg where
  fns : Nat → Option AFn
  pol : Nat → Pol
  ext : Nat → Option (Nat → Nat → Nat → List AV → Heap → Option (AV × Heap))

def callN (P : Prg) : Nat → CallF
  | 0, _, _, _, _, _, _ => none
  | k + 1, f, lo, base, tgt, args, h =>
    match P.ext f with
    | some e => e lo base tgt args h
    | none => match P.fns f with
      | some fn => callPol (P.pol f) (bodyAV { cf := callN P k, it := iter k, stOf := fun g => (P.pol g).st || (P.pol g).raw } fn) lo base tgt args h
      | none => none

end Go.Abs

/- The translation of loaded code into the abstract interpreter's code: a plain function. Definitions alone. -/
namespace Go.Abs

section
variable (P : Program) (gh : Nat → List (Nat × Nat × Nat))

def tySize (t : Nat) : Option Nat := (P.info? t).map (·.size)
def tyBytes (t : Nat) : Option Nat := (P.info? t).map (·.bytes)
def tyAgg (t : Nat) : Option Bool :=
  match P.underlying t with
  | some (.struct _) => some true
  | some (.array _ _) => some true
  | some _ => some false
  | none => none
def elemTy (t : Nat) : Option Nat :=
  match P.underlying t with
  | some (.slice e) => some e
  | _ => none

def constAV1 : Value → Option AV
  | .int k n => some (.int k n)
  | .bool b => some (.bool b)
  | .string s => some (.str s.data.toList)
  | .pointer none => some .nilp
  | .slice none 0 0 => some .emp
  | _ => none
def constAV : Value → Option AV
  | .agg cs => (mapO constAV1 cs.toList).map .agg
  | v => constAV1 v
def zeroAV (t : Nat) : Option AV :=
  match P.info? t with
  | some i => match i.zero with
    | some v => constAV v
    | none => none
  | none => none

def opd : Operand → Option Opd
  | .tmp t => some (.tmp t)
  | .const v => (constAV v).map .val
  | .func f => some (.val (.fn f [] []))
  | .global _ => none
def opdO : Option Operand → Option (Option Opd)
  | none => some none
  | some x => (opd x).map some

def fieldOf (s f : Nat) : Option (Nat × Nat × Bool) :=
  match P.underlying s with
  | some (.struct fs) => match fs[f]? with
    | some fd => match tySize P fd.type, tyAgg P fd.type with
      | some n, some a => some (fd.offset, n, a)
      | _, _ => none
    | none => none
  | _ => none

def fieldsOk (t : Nat) : Bool :=
  match P.underlying t with
  | some (.struct fs) => fs.toList.all fun f => (tySize P f.type).isSome
  | _ => false
def buildPart (t : Nat) (p : Nat × Operand) : Option (Nat × Nat × Opd) :=
  match fieldOf P t p.1, opd p.2 with
  | some (off, n, _), some x => some (off, n, x)
  | _, _ => none
def elPart (p : Nat × Operand) : Option (Nat × Opd) :=
  match opd p.2 with
  | some x => some (p.1, x)
  | none => none

def isIntT (t : Nat) : Bool :=
  match P.underlying t with
  | some (.int _) => true
  | _ => false
def isStrT (t : Nat) : Bool :=
  match P.underlying t with
  | some .string => true
  | _ => false
def isBoolT (t : Nat) : Bool :=
  match P.underlying t with
  | some .bool => true
  | _ => false
def isU8T (t : Nat) : Bool :=
  match P.underlying t with
  | some (.int .u8) => true
  | _ => false

def isEq : BinOp → Option Bool
  | .eql => some false
  | .neq => some true
  | _ => none

def Opd.isEmp : Opd → Bool
  | .val .emp => true
  | _ => false
def cBin (op : BinOp) (t : Nat) (x y : Opd) : Option AOp :=
  if isIntT P t || isStrT P t then some (.bin op x y)
  else if isBoolT P t then (isEq op).map fun n => .eqB n x y
  else if (elemTy P t).isSome && y.isEmp then (isEq op).map fun n => .isNil n x
  else none

def cConv (src dst : Nat) (x : Opd) : Option AOp :=
  match P.underlying src, P.underlying dst with
  | some (.int _), some (.int k) => some (.conv k x)
  | some (.slice e), some .string => if isU8T P e then some (.b2s x) else none
  | some .string, some (.slice e) => if isU8T P e then some (.s2b e x) else none
  | _, _ => none

def cCall (c : Call) : Option AOp :=
  match c.callee, mapO opd c.args.toList with
  | .value f, some as => match opd f with
    | some g => some (.call g as)
    | none => none
  | .builtin b, some as =>
    match b, as, c.argTypes.toList with
    | .len, [x], [t] => if isStrT P t then some (.lenStr x) else match elemTy P t with
      | some _ => some (.lenSl x)
      | none => none
    | .append, [x, y], [t, u] => match elemTy P t with
      | some e => match tySize P e, tyBytes P e, zeroAV P e with
        | some sz, some bs, some z => if u = t ∧ bs ≤ 4096 ∧ 0 < sz ∧ z.cells.length = sz then some (.append e sz bs x y) else none
        | _, _, _ => none
      | none => none
    | .clear, [x], [t] => match elemTy P t with
      | some e => match tySize P e, zeroAV P e with
        | some sz, some z => if 0 < sz ∧ z.cells.length = sz then some (.clear z x) else none
        | _, _ => none
      | none => none
    | .max, x :: xs, _ => some (.mx x xs)
    | .min, x :: xs, _ => some (.mn x xs)
    | _, _, _ => none
  | _, _ => none

def compileOp (draw : Bool) (o : Op) : Option AOp :=
  match o with
  | .move x => (opd x).map .move
  | .assign x => (opd x).map .move
  | .pick c a b => match opd c, opd a, opd b with
    | some c, some a, some b => some (.pick c a b)
    | _, _, _ => none
  | .box t x => match tySize P t, opd x with
    | some n, some x => some (.box t n (gh t) x)
    | _, _ => none
  | .alloc t => match tySize P t, zeroAV P t with
    | some n, some z => some (.alloc t n (gh t) z)
    | _, _ => none
  | .build t ps => match zeroAV P t, mapO (buildPart P t) ps.toList with
    | some (.agg z), some ps => if fieldsOk P t then some (.build z ps) else none
    | _, _ => none
  | .buildSlice t len ps => match elemTy P t with
    | some e => match tySize P e, zeroAV P e, mapO elPart ps.toList with
      | some sz, some z, some ps => if len * sz ≤ 16777216 ∧ 0 < sz ∧ z.cells.length = sz then some (.buildSl draw e sz len z ps) else none
      | _, _, _ => none
    | none => none
  | .load t a => match tyAgg P t, tySize P t, opd a with
    | some g, some n, some a => some (.load g n a)
    | _, _, _ => none
  | .store t a x => match tySize P t, opd a, opd x with
    | some n, some a, some x => some (.store n a x)
    | _, _, _ => none
  | .nilCheck x => (opd x).map .nilChk
  | .binOp op t x y _ => match opd x, opd y with
    | some x, some y => cBin P op t x y
    | _, _ => none
  | .unOp op _ x => (opd x).map (.un op)
  | .convert s d x => match opd x with
    | some x => cConv P s d x
    | none => none
  | .makeFunc (.func f) a c => match mapO opd a.toList, mapO opd c.toList with
    | some a, some c => some (.mkfn f a c)
    | _, _ => none
  | .makeSlice t l c => match elemTy P t with
    | some e => match tySize P e, tyBytes P e, zeroAV P e, opd l, opd c with
      | some sz, some bs, some z, some l, some c => if bs ≤ 4096 ∧ 0 < sz ∧ z.cells.length = sz then some (.mksl e sz bs z l c) else none
      | _, _, _, _, _ => none
    | none => none
  | .slice t x lo hi mx => match opd x, opdO lo, opdO hi, opdO mx with
    | some x, some lo, some hi, some mx =>
      if isStrT P t then (match mx with
        | none => some (.slStr x lo hi)
        | some _ => none)
      else match elemTy P t with
        | some e => match tySize P e with
          | some sz => if (mx.isSome && hi.isNone) = true then none else some (.slSl sz x lo hi mx)
          | none => none
        | none => none
    | _, _, _, _ => none
  | .fieldAddr s x f => match fieldOf P s f, opd x with
    | some (off, n, _), some x => if n = 0 then none else some (.faddr off x)
    | _, _ => none
  | .indexAddr t x i => match elemTy P t, opd x, opd i with
    | some e, some x, some i => match tySize P e with
      | some sz => some (.iaddr sz x i)
      | none => none
    | none, some x, some i => match P.underlying t with
      | some (.array len e) => match tySize P e with
        | some sz => if 1 < len then some (.aaddr len sz x i) else none
        | none => none
      | _ => none
    | _, _, _ => none
  | .index t x i => match opd x, opd i with
    | some x, some i => if isStrT P t then some (.istr x i) else none
    | _, _ => none
  | .extract x i => (opd x).map (.extract · i)
  | .call c => cCall P c
  | _ => none

def guardOf (ops : Array Oper) : Option (Nat × Bool) → Option (Option (Nat × Bool))
  | none => some none
  | some (j, w) => match (ops[j]?).bind (·.dst) with
    | some t => some (some (t, w))
    | none => none

def compileOper (draw : Bool) (ops : Array Oper) (o : Oper) : Option AOper :=
  match compileOp P gh draw o.op, guardOf ops o.guard with
  | some op, some g => some { dst := o.dst, op, guard := g }
  | _, _ => none

def clsOf : AOp → Cls
  | .load .. => .L
  | .b2s _ => .L
  | .store .. => .W
  | .append .. => .W
  | .clear .. => .W
  | .call .. => .C
  | .box .. => .A
  | .alloc .. => .A
  | .mksl .. => .A
  | .buildSl false .. => .A
  | _ => .P
def nslot : AOp → Nat
  | .box _ _ g _ => 1 + g.length
  | .alloc _ _ g _ => 1 + g.length
  | .mksl .. => 1
  | .append .. => 1
  | .call .. => 2
  | .buildSl false .. => 1
  | _ => 0
def unord (bef : Array Nat) (i j : Nat) : Bool :=
  if i < j then !((bef.getD j 0).testBit i) else if j < i then !((bef.getD i 0).testBit j) else false

def Opd.reads : Opd → List Nat
  | .tmp t => [t]
  | .val _ => []
def readsO : Option Opd → List Nat
  | none => []
  | some x => x.reads
def AOp.reads : AOp → List Nat
  | .move x => x.reads
  | .pick c a b => c.reads ++ a.reads ++ b.reads
  | .bin _ x y => x.reads ++ y.reads
  | .eqB _ x y => x.reads ++ y.reads
  | .eqAgg _ x y => x.reads ++ y.reads
  | .un _ x => x.reads
  | .conv _ x => x.reads
  | .b2s x => x.reads
  | .s2b _ x => x.reads
  | .box _ _ _ x => x.reads
  | .alloc .. => []
  | .build _ ps => ps.flatMap fun p => p.2.2.reads
  | .buildSl _ _ _ _ _ ps => ps.flatMap fun p => p.2.reads
  | .load _ _ a => a.reads
  | .store _ a x => a.reads ++ x.reads
  | .nilChk x => x.reads
  | .mkfn _ a c => a.flatMap Opd.reads ++ c.flatMap Opd.reads
  | .mksl _ _ _ _ l c => l.reads ++ c.reads
  | .slStr x l h => x.reads ++ readsO l ++ readsO h
  | .slSl _ x l h m => x.reads ++ readsO l ++ readsO h ++ readsO m
  | .faddr _ x => x.reads
  | .field _ _ _ _ x => x.reads
  | .iaddr _ x i => x.reads ++ i.reads
  | .aaddr _ _ x i => x.reads ++ i.reads
  | .isNil _ x => x.reads
  | .istr x i => x.reads ++ i.reads
  | .extract x _ => x.reads
  | .call f as => f.reads ++ as.flatMap Opd.reads
  | .append _ _ _ x y => x.reads ++ y.reads
  | .clear _ x => x.reads
  | .lenSl x => x.reads
  | .lenStr x => x.reads
  | .mx x xs => x.reads ++ xs.flatMap Opd.reads
  | .mn x xs => x.reads ++ xs.flatMap Opd.reads
def AOper.reads (o : AOper) : List Nat :=
  (match o.guard with
   | some (t, _) => [t]
   | none => []) ++ o.op.reads
def writesInto (x y : AOper) : Bool :=
  match x.dst with
  | some d => y.reads.contains d || y.dst == some d
  | none => false
def apartA (x y : AOper) : Bool := !(writesInto x y) && !(writesInto y x)

def slotsOf (o : DOper) : List Nat := (List.range (nslot o.o.op)).map (o.slot + ·)
def subL (xs ys : List Nat) : Bool := xs.all fun x => ys.contains x
def rootIn (x y : DOper) : Bool :=
  (match x.root with
   | some t => y.lk.contains t
   | none => false) || y.vOnly
/-- May the two be done in either order? -/
def heapOk (i : Nat) (x : DOper) (j : Nat) (y : DOper) : Bool :=
  match x.cls, y.cls with
  | .P, _ => true
  | _, .P => true
  | .A, .A => (slotsOf x).all fun k => !((slotsOf y).contains k)
  | .A, _ => subL (slotsOf x) y.hidS
  | _, .A => subL (slotsOf y) x.hidS
  | .L, .L => !(x.uo.contains j) && !(y.uo.contains i)
  | .L, .W => x.uo.contains j && y.uo.contains i && subL (slotsOf y) x.hidS
  | .W, .L => x.uo.contains j && y.uo.contains i && subL (slotsOf x) y.hidS
  | .L, .C => subL (slotsOf y) x.hidS && rootIn x y
  | .C, .L => subL (slotsOf x) y.hidS && rootIn y x
  | _, _ => false

def trace (ops : List AOper) : Nat → Opd → Option Nat
  | 0, _ => none
  | n + 1, x => match x with
    | .val _ => none
    | .tmp t => match ops.find? (fun o => o.dst == some t) with
      | none => some t
      | some o => match o.op with
        | .faddr _ y => trace ops n y
        | .nilChk y => trace ops n y
        | .move y => trace ops n y
        | _ => none
def rootOf (ops : List AOper) : AOp → Option Nat
  | .load _ _ a => trace ops 20 a
  | _ => none

def slotAt (ops : List AOper) (i : Nat) : Nat := ((ops.take i).map (fun o => nslot o.op)).foldl (· + ·) 0

def metaOf (bef : Array Nat) (ops : List AOper) (i : Nat) (o : AOper) : DOper :=
  let n := ops.length
  let un := (List.range n).filter (unord bef i)
  let opAt := fun k => (ops.getD k default).op
  let c := clsOf o.op
  { o, cls := c, slot := slotAt ops i
    hidS := if c == .P || c == .A then [] else un.flatMap fun k => (List.range (nslot (opAt k))).map (slotAt ops k + ·)
    lk := if c == .C then (un.filter fun k => clsOf (opAt k) == .L).filterMap fun k => rootOf ops (opAt k) else []
    vOnly := c == .C && un.any fun k => clsOf (opAt k) == .L && (rootOf ops (opAt k)).isNone
    root := if c == .L && un.any fun k => clsOf (opAt k) == .C then rootOf ops o.op else none
    uo := if c == .L then un.filter fun k => clsOf (opAt k) == .W
      else if c == .W then un.filter fun k => clsOf (opAt k) == .L || clsOf (opAt k) == .W
      else [] }

def preOf (bef : Array Nat) (n j : Nat) : List Nat := (List.range n).filter fun i => (bef.getD j 0).testBit i
/-- The lists of what comes before are closed under the edges. -/
def preOk (ops : Array Oper) (pre : List (List Nat)) : Bool :=
  (List.range ops.size).all fun j => match ops[j]? with
    | some o => (pre.getD j []).all fun i => o.after.any fun e => Region.binds .any e && decide (e.on < j) && (e.on == i || (pre.getD e.on []).contains i)
    | none => true
def backOk (ops : Array Oper) : Bool :=
  (List.range ops.size).all fun j => match ops[j]? with
    | some o => o.after.all fun e => decide (e.on < j)
    | none => true
def pairsOk (pre : List (List Nat)) (ds : List DOper) : Bool :=
  (List.range ds.length).all fun j => (List.range j).all fun i => (pre.getD j []).contains i || (match ds[i]?, ds[j]? with
      | some x, some y => apartA x.o y.o && heapOk i x j y
      | _, _ => true)
def wfD (total : Nat) (x : DOper) : Bool := x.cls == clsOf x.o.op && (slotsOf x).all (fun k => decide (k < total))

def zipIdx' {α β : Type} (f : Nat → α → β) : Nat → List α → List β
  | _, [] => []
  | i, x :: xs => f i x :: zipIdx' f (i + 1) xs

def compileRegion (draw : Bool) (ops : Array Oper) : Option ACode :=
  match mapO (compileOper P gh draw ops) ops.toList with
  | none => none
  | some as =>
    if draw then
      let bef := Region.before ops
      let pre := (List.range ops.size).map (preOf bef ops.size)
      let ds := zipIdx' (metaOf bef as) 0 as
      let total := slotAt as as.length
      if (backOk ops && preOk ops pre && pairsOk pre ds && ds.all (wfD total)) = true then some (.draw total ds)
      else none
    else some (.region as)

def compileCode : Code → Option ACode
  | .skip => some .skip
  | .region _ ops draw => compileRegion P gh draw ops
  | .seq a b => match compileCode a, compileCode b with
    | some x, some y => some (.seq x y)
    | _, _ => none
  | .cond c a b => match opd c, compileCode a, compileCode b with
    | some c, some x, some y => some (.cond c x y)
    | _, _, _ => none
  | .block id a => (compileCode a).map (.block id)
  | .loop a => (compileCode a).map .loop
  | .exit id => some (.exit id)
  | .ret => some .ret
  | _ => none

def compileRes : ResultVar → Option ARes
  | .tmp t => some (.tmp t)
  | .cell a t => match tyAgg P t, tySize P t with
    | some g, some n => some (.cell a g n)
    | _, _ => none

/-- All places that the code writes lie in the frame. -/
def dstsOk (n : Nat) : Code → Bool
  | .region _ ops _ => ops.all fun o => match o.dst with
    | some d => decide (d < n)
    | none => true
  | .seq a b => dstsOk n a && dstsOk n b
  | .cond _ a b => dstsOk n a && dstsOk n b
  | .block _ a => dstsOk n a
  | .loop a => dstsOk n a
  | _ => true

def compileFn (fn : Func) : Option AFn :=
  match fn.body with
  | none => none
  | some c =>
    if dstsOk fn.ntmps c && !(fn.name == "runtime.NumGoroutine") then
      match mapO (compileRes P) fn.results.toList, compileCode P gh c with
      | some res, some code => some { res, code }
      | _, _ => none
    else none

end
end Go.Abs

/- What an abstract value and an abstract heap say of the machine's; how they go on from step to step. -/
namespace Go.Abs

/-- A state: the abstract heap, which machine block each abstract block is, the world, the machine blocks that stay as they are. -/
structure RM where
  im : Nat → Option Nat
  hb : Nat → Option Blk
instance : CoeFun RM (fun _ => Nat → Option Nat) := ⟨RM.im⟩

structure G where
  h : Heap
  r : RM
  w : World
  St : Nat → Prop

theorem scopdL_iff {n : Nat} {xs : List AV} : AV.scopdL n xs = true ↔ ∀ (i : Nat) (x : AV), xs[i]? = some x → x.scopd n = true := by
  induction xs with
  | nil => simp [AV.scopdL]
  | cons y ys ih =>
    simp only [AV.scopdL, Bool.and_eq_true, ih]
    constructor
    · rintro ⟨h1, h2⟩ i x hx
      cases i with
      | zero => simp at hx; exact hx ▸ h1
      | succ i => exact h2 i x (by simpa using hx)
    · intro h
      exact ⟨h 0 y rfl, fun i x hx => h (i + 1) x (by simpa using hx)⟩
theorem closedL_iff {xs : List AV} : AV.closedL xs = true ↔ ∀ (i : Nat) (x : AV), xs[i]? = some x → x.closed = true := by
  induction xs with
  | nil => simp [AV.closedL]
  | cons y ys ih =>
    simp only [AV.closedL, Bool.and_eq_true, ih]
    constructor
    · rintro ⟨h1, h2⟩ i x hx
      cases i with
      | zero => simp at hx; exact hx ▸ h1
      | succ i => exact h2 i x (by simpa using hx)
    · intro h
      exact ⟨h 0 y rfl, fun i x hx => h (i + 1) x (by simpa using hx)⟩
theorem flatL_iff {xs : List AV} : AV.flatL xs = true ↔ ∀ (i : Nat) (x : AV), xs[i]? = some x → x.flat = true := by
  induction xs with
  | nil => simp [AV.flatL]
  | cons y ys ih =>
    simp only [AV.flatL, Bool.and_eq_true, ih]
    constructor
    · rintro ⟨h1, h2⟩ i x hx
      cases i with
      | zero => simp at hx; exact hx ▸ h1
      | succ i => exact h2 i x (by simpa using hx)
    · intro h
      exact ⟨h 0 y rfl, fun i x hx => h (i + 1) x (by simpa using hx)⟩

mutual
theorem scopd_of_closed (n : Nat) : ∀ x : AV, x.closed = true → x.scopd n = true
  | .ptr .., h => by simp [AV.closed] at h
  | .sl .., h => by simp [AV.closed] at h
  | .rp _ e _, h => by simp only [AV.closed] at h; simp only [AV.scopd]; exact scopd_of_closed n e h
  | .ro _ xs, h => by simp only [AV.closed] at h; simp only [AV.scopd]; exact scopdL_of_closed n xs h
  | .agg cs, h => by simp only [AV.closed] at h; simp only [AV.scopd]; exact scopdL_of_closed n cs h
  | .tup vs, h => by simp only [AV.closed] at h; simp only [AV.scopd]; exact scopdL_of_closed n vs h
  | .fn _ a b, h => by
    simp only [AV.closed, Bool.and_eq_true] at h
    simp only [AV.scopd, Bool.and_eq_true]
    exact ⟨scopdL_of_closed n a h.1, scopdL_of_closed n b h.2⟩
  | .undef, _ => rfl
  | .int .., _ => rfl
  | .bool _, _ => rfl
  | .str _, _ => rfl
  | .nilp, _ => rfl
  | .emp, _ => rfl
  | .nn _, _ => rfl
theorem scopdL_of_closed (n : Nat) : ∀ xs : List AV, AV.closedL xs = true → AV.scopdL n xs = true
  | [], _ => rfl
  | x :: xs, h => by
    simp only [AV.closedL, Bool.and_eq_true] at h
    simp only [AV.scopdL, Bool.and_eq_true]
    exact ⟨scopd_of_closed n x h.1, scopdL_of_closed n xs h.2⟩
end

theorem blk_eq {h : Heap} {b : Nat} {B : Blk} : blk h b = some B ↔ h[b]? = some (.live B) := by
  unfold blk
  split
  · rename_i C hC
    simp [hC]
  · rename_i hn
    constructor
    · intro h; cases h
    · intro h; exact absurd h (hn B)
theorem good_eq {h : Heap} {b n : Nat} {B : Blk} : good h b n = some B ↔ blk h b = some B ∧ B.es.length = n := by
  unfold good
  split
  · rename_i C hC
    split
    · rename_i hl
      simp only [hC, Option.some.injEq]
      constructor
      · rintro rfl; exact ⟨rfl, hl⟩
      · rintro ⟨rfl, _⟩; rfl
    · rename_i hl
      simp only [hC, Option.some.injEq]
      constructor
      · intro h; cases h
      · rintro ⟨rfl, h⟩; exact absurd h hl
  · rename_i hn
    simp [hn]

/-- What lies at a place, hidden or not. -/
def vblk (h : Heap) (r : RM) (b : Nat) : Option Blk :=
  match h[b]? with
  | some (.live B) => some B
  | some .hid => r.hb b
  | _ => none
def vgood (h : Heap) (r : RM) (b g : Nat) : Option Blk :=
  match vblk h r b with
  | some B => if B.es.length = g then some B else none
  | none => none
theorem vblk_congr {h h' : Heap} {r r' : RM} {b : Nat} (e : h'[b]? = h[b]?) (er : h[b]? = some .hid → r'.hb b = r.hb b) : vblk h' r' b = vblk h r b := by
  unfold vblk
  rw [e]
  split <;> try rfl
  rename_i he
  exact er he
theorem vblk_live {h : Heap} {r : RM} {b : Nat} {B : Blk} (e : h[b]? = some (.live B)) : vblk h r b = some B := by simp [vblk, e]
theorem vblk_of {h : Heap} {r : RM} {b : Nat} {B : Blk} (e : blk h b = some B) : vblk h r b = some B := vblk_live (blk_eq.1 e)
theorem vblk_none {h : Heap} {r : RM} {b : Nat} (e : h[b]? = none ∨ h[b]? = some .free) : vblk h r b = none := by
  rcases e with e | e <;> simp [vblk, e]
theorem vblk_lt {h : Heap} {r : RM} {b : Nat} {B : Blk} (e : vblk h r b = some B) : b < h.length := by
  rcases Nat.lt_or_ge b h.length with h' | h'
  · exact h'
  · rw [vblk_none (.inl (List.getElem?_eq_none h'))] at e
    cases e
theorem vblk_cases {h : Heap} {r : RM} {b : Nat} {B : Blk} (e : vblk h r b = some B) : blk h b = some B ∨ h[b]? = some .hid := by
  unfold vblk at e
  split at e
  · rename_i C hb
    cases e
    exact .inl (blk_eq.2 hb)
  · rename_i hb
    exact .inr hb
  · cases e
theorem vgood_eq {h : Heap} {r : RM} {b n : Nat} {B : Blk} : vgood h r b n = some B ↔ vblk h r b = some B ∧ B.es.length = n := by
  unfold vgood
  split
  · rename_i C hC
    split
    · rename_i hl
      simp only [hC, Option.some.injEq]
      constructor
      · rintro rfl; exact ⟨rfl, hl⟩
      · rintro ⟨rfl, _⟩; rfl
    · rename_i hl
      simp only [hC, Option.some.injEq]
      constructor
      · intro h; cases h
      · rintro ⟨rfl, h⟩; exact absurd h hl
  · rename_i hn
    simp [hn]
theorem vgood_of {h : Heap} {r : RM} {b n : Nat} {B : Blk} (e : good h b n = some B) : vgood h r b n = some B :=
  vgood_eq.2 ⟨vblk_of (good_eq.1 e).1, (good_eq.1 e).2⟩

def refOk (g : G) (b n : Nat) : Prop := ∃ B, vblk g.h g.r b = some B ∧ n ≤ B.es.length

theorem refOk.lt {g : G} {b n : Nat} (h : refOk g b n) : b < g.h.length := by
  obtain ⟨B, hB, _⟩ := h
  exact vblk_lt hB

inductive Rep (g : G) : AV → Value → Prop
  | undef : Rep g .undef Go.undef
  | int (k : IntKind) (n : Int) : Rep g (.int k n) (.int k n)
  | bool (b : Bool) : Rep g (.bool b) (.bool b)
  | str (s : List UInt8) : Rep g (.str s) (.string ⟨s.toArray⟩)
  | nilp : Rep g .nilp (.pointer none)
  | ptr {b n i o : Nat} {a : Addr} (h1 : refOk g b n) (h2 : ∀ B c, vgood g.h g.r b n = some B → g.r b = some c → a = ⟨c, i * B.sz + o, none⟩) : Rep g (.ptr b n i o) (.pointer (some a))
  | rp {sz o c off : Nat} {e : AV} {v : Value} (h1 : Rep g e v) (h2 : g.St c) (h3 : ∀ (j : Nat) (x : Value), v.cells[j]? = some x → g.w.cell? ⟨c, off + j, none⟩ = some x) (h4 : v.cells.size = sz) : Rep g (.rp sz e o) (.pointer (some ⟨c, off + o, none⟩))
  | emp {A : Option Addr} : Rep g .emp (.slice A 0 0)
  | nn {A : Option Addr} {cap : Nat} : Rep g (.nn A.isNone) (.slice A 0 cap)
  | ro {sz cap : Nat} {xs : List AV} {A : Option Addr} (vf : Nat → Value) (h1 : ∀ (i : Nat) (x : AV), xs[i]? = some x → Rep g x (vf i)) (h2 : ∀ i, i < xs.length → (vf i).cells.size = sz) (h3 : xs.length ≤ cap)
      (h4 : xs ≠ [] → ∃ c off, A = some ⟨c, off, none⟩ ∧ g.St c ∧ ∀ (i j : Nat) (x : Value), i < xs.length → (vf i).cells[j]? = some x → g.w.cell? ⟨c, off + i * sz + j, none⟩ = some x) : Rep g (.ro sz xs) (.slice A xs.length cap)
  | sl {sz b n off len cap : Nat} {A : Option Addr} (h1 : refOk g b n) (h2 : len ≤ cap) (h3 : off + len ≤ n) (h6 : ∀ B, vgood g.h g.r b n = some B → B.sz = sz) (h7 : 0 < len → ∃ ad, A = some ad)
      (h4 : 0 < len → ∀ B c, vgood g.h g.r b n = some B → g.r b = some c → A = some ⟨c, off * B.sz, none⟩)
      (h5 : off = 0 → ∀ B, vgood g.h g.r b n = some B → (g.r b = none → cap = 0) ∧ ∀ c, g.r b = some c → (0 < cap → A = some ⟨c, 0, none⟩) ∧ ∃ m, g.w.shape? c = some (B.ty, m) ∧ cap * B.sz ≤ m) : Rep g (.sl sz b n off len) (.slice A len cap)
  | agg {cs : List AV} {vs : Array Value} (h1 : cs.length = vs.size) (h2 : ∀ (j : Nat) (c : AV) (v : Value), cs[j]? = some c → vs[j]? = some v → Rep g c v) (h3 : ∀ (j : Nat) (v : Value), vs[j]? = some v → v.oneCell' = true) : Rep g (.agg cs) (.agg vs)
  | tup {cs : List AV} {vs : Array Value} (h1 : cs.length = vs.size) (h2 : ∀ (j : Nat) (c : AV) (v : Value), cs[j]? = some c → vs[j]? = some v → Rep g c v) : Rep g (.tup cs) (.tuple vs)
  | fn {f : Nat} {a c : List AV} {as cs : Array Value} (h1 : a.length = as.size) (h2 : ∀ (j : Nat) (x : AV) (v : Value), a[j]? = some x → as[j]? = some v → Rep g x v)
      (h3 : c.length = cs.size) (h4 : ∀ (j : Nat) (x : AV) (v : Value), c[j]? = some x → cs[j]? = some v → Rep g x v) : Rep g (.fn f a c) (.func (.func f) as cs)

theorem Rep.scopd {g : G} {x : AV} {v : Value} (h : Rep g x v) : x.scopd g.h.length = true := by
  induction h with
  | undef => rfl
  | int => rfl
  | bool => rfl
  | str => rfl
  | nilp => rfl
  | ptr h1 _ => simp [AV.scopd, h1.lt]
  | rp _ _ _ _ ih => simpa [AV.scopd] using ih
  | emp => rfl
  | nn => rfl
  | ro vf _ _ _ _ ih => simp only [AV.scopd]; exact scopdL_iff.2 fun i x hx => ih i x hx
  | sl h1 => simp [AV.scopd, h1.lt]
  | agg h1 _ _ ih =>
    simp only [AV.scopd]
    refine scopdL_iff.2 fun i x hx => ?_
    have hi := (List.getElem?_eq_some_iff.1 hx).1
    exact ih i x _ hx (Array.getElem?_eq_getElem (h1 ▸ hi))
  | tup h1 _ ih =>
    simp only [AV.scopd]
    refine scopdL_iff.2 fun i x hx => ?_
    have hi := (List.getElem?_eq_some_iff.1 hx).1
    exact ih i x _ hx (Array.getElem?_eq_getElem (h1 ▸ hi))
  | fn h1 _ h3 _ ih1 ih2 =>
    simp only [AV.scopd, Bool.and_eq_true]
    refine ⟨scopdL_iff.2 fun i x hx => ?_, scopdL_iff.2 fun i x hx => ?_⟩
    · have hi := (List.getElem?_eq_some_iff.1 hx).1
      exact ih1 i x _ hx (Array.getElem?_eq_getElem (h1 ▸ hi))
    · have hi := (List.getElem?_eq_some_iff.1 hx).1
      exact ih2 i x _ hx (Array.getElem?_eq_getElem (h3 ▸ hi))

theorem Rep.mkRo {g : G} {sz : Nat} {xs : List AV} {v : Value} (h : Rep g (.ro sz xs) v) : Rep g (mkRo sz xs) v := by
  cases xs with
  | cons x xs => exact h
  | nil =>
    cases h with
    | ro vf _ _ h3 _ => exact .ro vf (by simp) (by simp) h3 (by simp)
theorem canonL_eq (xs : List AV) : AV.canonL xs = xs.map AV.canon := by
  induction xs with
  | nil => rfl
  | cons x xs ih => simp [AV.canonL, ih]
theorem Rep.canon {g : G} {x : AV} {v : Value} (h : Rep g x v) : Rep g x.canon v := by
  induction h with
  | undef => exact .undef
  | int k n => exact .int k n
  | bool b => exact .bool b
  | str x => exact .str x
  | nilp => exact .nilp
  | ptr h1 h2 => exact .ptr h1 h2
  | rp h1 h2 h3 h4 _ => exact .rp h1 h2 h3 h4
  | emp => exact .ro (xs := []) (fun _ => Go.undef) (by simp) (by simp) (Nat.le_refl _) (by simp)
  | nn => exact .nn
  | @ro sz cap xs A vf h1 h2 h3 h4 ih =>
    simp only [AV.canon, canonL_eq]
    refine Rep.mkRo ?_
    rw [show xs.length = (xs.map AV.canon).length by simp]
    refine .ro vf (fun i x hx => ?_) (by simpa using h2) (by simpa using h3) fun hn => ?_
    · rw [List.getElem?_map] at hx
      cases hy : xs[i]? with
      | none => rw [hy] at hx; cases hx
      | some y =>
        rw [hy] at hx
        cases hx
        exact ih i y hy
    · obtain ⟨c, off, k1, k2, k3⟩ := h4 (by intro e; subst e; exact hn rfl)
      exact ⟨c, off, k1, k2, by simpa using k3⟩
  | sl h1 h2 h3 h6 h7 h4 h5 => exact .sl h1 h2 h3 h6 h7 h4 h5
  | agg h1 _ h3 ih =>
    simp only [AV.canon, canonL_eq]
    refine .agg (by simpa using h1) (fun j c v hc hv => ?_) h3
    rw [List.getElem?_map, Option.map_eq_some_iff] at hc
    obtain ⟨y, hy, rfl⟩ := hc
    exact ih j y v hy hv
  | tup h1 _ ih =>
    simp only [AV.canon, canonL_eq]
    refine .tup (by simpa using h1) fun j c v hc hv => ?_
    rw [List.getElem?_map, Option.map_eq_some_iff] at hc
    obtain ⟨y, hy, rfl⟩ := hc
    exact ih j y v hy hv
  | fn h1 _ h3 _ ih1 ih2 =>
    simp only [AV.canon, canonL_eq]
    refine .fn (by simpa using h1) (fun j c v hc hv => ?_) (by simpa using h3) (fun j c v hc hv => ?_)
    · rw [List.getElem?_map, Option.map_eq_some_iff] at hc
      obtain ⟨y, hy, rfl⟩ := hc
      exact ih1 j y v hy hv
    · rw [List.getElem?_map, Option.map_eq_some_iff] at hc
      obtain ⟨y, hy, rfl⟩ := hc
      exact ih2 j y v hy hv
theorem Rep.canonK {g : G} {x : AV} {v : Value} (h : Rep g x v) : Rep g x.canonK v := by
  unfold AV.canonK
  split
  · exact h
  · exact h.canon
theorem Rep.canonR {g : G} {keep : Bool} {x : AV} {v : Value} (h : Rep g x v) : Rep g (canonR keep x) v := by
  unfold Go.Abs.canonR
  split
  · cases h with
    | tup h1 h2 =>
      refine .tup (by simpa using h1) fun j c v hc hv => ?_
      rw [List.getElem?_map, Option.map_eq_some_iff] at hc
      obtain ⟨y, hy, rfl⟩ := hc
      exact (h2 j y v hy hv).canonK
  · exact h.canonK
  · exact h.canon

/-- One block of the heap. -/
def BlkRep (g : G) (b : Nat) (B : Blk) : Prop :=
  (g.r b = none → B.es = []) ∧
  ∀ c, g.r b = some c → ∃ cells : Array Value, g.w.heap[c]? = some (.cells cells B.ty (0, 0)) ∧ B.es.length * B.sz ≤ cells.size ∧
    ∀ (i : Nat) (e : AV), B.es[i]? = some e → ∃ v : Value, Rep g e v ∧ v.cells.size = B.sz ∧ ∀ (j : Nat) (x : Value), v.cells[j]? = some x → cells[i * B.sz + j]? = some x

structure HRep (lo : Nat) (g : G) : Prop where
  blks : ∀ b B, vblk g.h g.r b = some B → BlkRep g b B
  inj : ∀ b b' B B' c, vblk g.h g.r b = some B → vblk g.h g.r b' = some B' → g.r b = some c → g.r b' = some c → b = b'
  nost : ∀ b B c, lo ≤ b → vblk g.h g.r b = some B → B.frz = false → g.r b = some c → ¬ g.St c
  stlt : ∀ c, g.St c → c < g.w.heap.size
  frst : ∀ b B c, vblk g.h g.r b = some B → B.frz = true → g.r b = some c → g.St c

/-- From one state to a later one. Blocks below 'lo' are only read; of blocks below 'base' the references stay. -/
structure Step (lo base : Nat) (g g' : G) : Prop where
  len : g.h.length ≤ g'.h.length
  hid : ∀ b : Nat, g.h[b]? = some .hid → g'.h[b]? = some .hid ∧ g'.r.hb b = g.r.hb b
  free : ∀ b : Nat, b < base → g.h[b]? = some .free → g'.h[b]? = some .free
  live : ∀ b B, vblk g.h g.r b = some B → ∃ B', vblk g'.h g'.r b = some B' ∧ B'.sz = B.sz ∧ B'.ty = B.ty ∧ (B.frz = true → B'.frz = true) ∧ B.es.length ≤ B'.es.length ∧ (B'.es.length = B.es.length → g'.r b = g.r b)
  keep : ∀ b B, vblk g.h g.r b = some B → (b < lo ∨ B.frz = true ∨ g.h[b]? = some .hid) → vblk g'.h g'.r b = some B ∧ g'.r b = g.r b
  scp : ∀ b B B', b < base → vblk g.h g.r b = some B → vblk g'.h g'.r b = some B' → ∀ n, AV.scopdL n B.es = true → AV.scopdL n B'.es = true
  size : g.w.heap.size ≤ g'.w.heap.size
  old : ∀ c, c < g.w.heap.size → (∀ b B, lo ≤ b → blk g.h b = some B → B.frz = false → g.r b ≠ some c) → g'.w.heap[c]? = g.w.heap[c]?
  shp : ∀ c, c < g.w.heap.size → g'.w.shape? c = g.w.shape? c
  img : ∀ b B c, vblk g'.h g'.r b = some B → g'.r b = some c → c < g.w.heap.size → (∃ B0, vblk g.h g.r b = some B0) ∧ g.r b = some c
  st : ∀ c, g.St c → g'.St c
  stNew : ∀ c, c < g.w.heap.size → g'.St c → g.St c ∨ ∃ b B, lo ≤ b ∧ vblk g'.h g'.r b = some B ∧ B.frz = true ∧ g'.r b = some c
  os : g'.w.os = g.w.os
  tape : g'.w.tape = g.w.tape
  output : g'.w.output = g.w.output

theorem Step.refl (lo base : Nat) (g : G) : Step lo base g g where
  len := Nat.le_refl _
  hid := fun _ h => ⟨h, rfl⟩
  free := fun _ _ h => h
  live := fun _ B h => ⟨B, h, rfl, rfl, id, Nat.le_refl _, fun _ => rfl⟩
  keep := fun _ _ h _ => ⟨h, rfl⟩
  scp := fun _ B B' _ h h' _ hn => by rw [h] at h'; cases h'; exact hn
  size := Nat.le_refl _
  old := fun _ _ _ => rfl
  shp := fun _ _ => rfl
  img := fun _ B _ h hr _ => ⟨⟨B, h⟩, hr⟩
  st := fun _ h => h
  stNew := fun _ _ h => .inl h
  os := rfl
  tape := rfl
  output := rfl

theorem Step.trans {lo base : Nat} {g g1 g2 : G} (a : Step lo base g g1) (b : Step lo base g1 g2) : Step lo base g g2 where
  len := Nat.le_trans a.len b.len
  hid := fun i h => by
    obtain ⟨h1, r1⟩ := a.hid i h
    obtain ⟨h2, r2⟩ := b.hid i h1
    exact ⟨h2, r2.trans r1⟩
  free := fun i hi h => b.free i hi (a.free i hi h)
  live := fun i B h => by
    obtain ⟨B1, h1, s1, t1, f1, l1, r1⟩ := a.live i B h
    obtain ⟨B2, h2, s2, t2, f2, l2, r2⟩ := b.live i B1 h1
    exact ⟨B2, h2, s2.trans s1, t2.trans t1, fun hf => f2 (f1 hf), Nat.le_trans l1 l2, fun hl => (r2 (by omega)).trans (r1 (by omega))⟩
  keep := fun i B h hc => by
    obtain ⟨h1, r1⟩ := a.keep i B h hc
    obtain ⟨h2, r2⟩ := b.keep i B h1 (hc.imp id (Or.imp id fun he => (a.hid i he).1))
    exact ⟨h2, r2.trans r1⟩
  scp := fun i B B' hi h h' n hn => by
    obtain ⟨B1, h1, _⟩ := a.live i B h
    exact b.scp i B1 B' hi h1 h' n (a.scp i B B1 hi h h1 n hn)
  size := Nat.le_trans a.size b.size
  old := fun c hc hw => by
    rw [b.old c (Nat.lt_of_lt_of_le hc a.size) ?_, a.old c hc hw]
    intro i B1 hlo h1 hf1 hr1
    obtain ⟨⟨B0, h0⟩, hr0⟩ := a.img i B1 c (vblk_of h1) hr1 hc
    have h0' : blk g.h i = some B0 := (vblk_cases h0).resolve_right fun he => by
      have := (a.hid i he).1
      rw [blk_eq.1 h1] at this
      cases this
    refine hw i B0 hlo h0' ?_ hr0
    cases hf : B0.frz
    · rfl
    · obtain ⟨B', h', _, _, f', _⟩ := a.live i B0 h0
      rw [vblk_of h1] at h'
      cases h'
      rw [f' hf] at hf1
      cases hf1
  shp := fun c hc => (b.shp c (Nat.lt_of_lt_of_le hc a.size)).trans (a.shp c hc)
  img := fun i B c h hr hc => by
    obtain ⟨⟨B1, h1⟩, hr1⟩ := b.img i B c h hr (Nat.lt_of_lt_of_le hc a.size)
    exact a.img i B1 c h1 hr1 hc
  st := fun c h => b.st c (a.st c h)
  stNew := fun c hc h => by
    rcases b.stNew c (Nat.lt_of_lt_of_le hc a.size) h with h1 | h1
    · rcases a.stNew c hc h1 with h0 | ⟨i, B, hlo, hb, hf, hr⟩
      · exact .inl h0
      · obtain ⟨hb2, hr2⟩ := b.keep i B hb (.inr (.inl hf))
        exact .inr ⟨i, B, hlo, hb2, hf, hr2.trans hr⟩
    · exact .inr h1
  os := b.os.trans a.os
  tape := b.tape.trans a.tape
  output := b.output.trans a.output

theorem Step.mono {lo base lo' base' : Nat} {g g' : G} (h : Step lo base g g') (hl : lo' ≤ lo) (hb : base' ≤ base) : Step lo' base' g g' where
  len := h.len
  hid := h.hid
  free := fun i hi hf => h.free i (Nat.lt_of_lt_of_le hi hb) hf
  live := h.live
  keep := fun i B hB hc => h.keep i B hB (hc.imp (fun x => Nat.lt_of_lt_of_le x hl) id)
  scp := fun i B B' hi => h.scp i B B' (Nat.lt_of_lt_of_le hi hb)
  size := h.size
  old := fun c hc hw => h.old c hc fun i B hi => hw i B (Nat.le_trans hl hi)
  shp := h.shp
  img := h.img
  st := h.st
  stNew := fun c hc hs => (h.stNew c hc hs).imp id fun ⟨i, B, hi, hx⟩ => ⟨i, B, Nat.le_trans hl hi, hx⟩
  os := h.os
  tape := h.tape
  output := h.output

theorem cell_of_heap {w w' : World} {c o : Nat} (h : w'.heap[c]? = w.heap[c]?) : w'.cell? ⟨c, o, none⟩ = w.cell? ⟨c, o, none⟩ := by
  simp only [World.cell?, h]

theorem Step.stHeap {lo base : Nat} {g g' : G} (s : Step lo base g g') (hr : HRep lo g) {c : Nat} (hc : g.St c) : g'.w.heap[c]? = g.w.heap[c]? :=
  s.old c (hr.stlt c hc) fun b B hlo hb hf hrb => hr.nost b B c hlo (vblk_of hb) hf hrb hc

theorem refOk.step {lo base : Nat} {g g' : G} (s : Step lo base g g') {b n : Nat} (h : refOk g b n) : refOk g' b n := by
  obtain ⟨B, hB, hl⟩ := h
  obtain ⟨B', h', _, _, _, hle, _⟩ := s.live b B hB
  exact ⟨B', h', Nat.le_trans hl hle⟩

theorem good_back {lo base : Nat} {g g' : G} (s : Step lo base g g') {b n : Nat} (h : refOk g b n) {B' : Blk} (hg : vgood g'.h g'.r b n = some B') :
    ∃ B, vgood g.h g.r b n = some B ∧ B'.sz = B.sz ∧ B'.ty = B.ty ∧ g'.r b = g.r b := by
  obtain ⟨B, hB, hl⟩ := h
  obtain ⟨hb', hl'⟩ := vgood_eq.1 hg
  obtain ⟨B1, h1, hs, ht, _, hle, hr⟩ := s.live b B hB
  rw [hb'] at h1
  cases h1
  exact ⟨B, vgood_eq.2 ⟨hB, by omega⟩, hs, ht, hr (by omega)⟩

theorem shape_lt {w : World} {c : Nat} {x : TypeId × Nat} (h : w.shape? c = some x) : c < w.heap.size := by
  rcases Nat.lt_or_ge c w.heap.size with h' | h'
  · exact h'
  · simp [World.shape?, Array.getElem?_eq_none h'] at h

theorem Rep.step {lo base : Nat} {g g' : G} (s : Step lo base g g') (hr : HRep lo g) {x : AV} {v : Value} (h : Rep g x v) : Rep g' x v := by
  induction h with
  | undef => exact .undef
  | int k n => exact .int k n
  | bool b => exact .bool b
  | str x => exact .str x
  | nilp => exact .nilp
  | ptr h1 h2 =>
    refine .ptr (h1.step s) fun B' c hg hc => ?_
    obtain ⟨B, hB, hs, _, hr'⟩ := good_back s h1 hg
    rw [hs]
    exact h2 B c hB (hr' ▸ hc)
  | rp _ h2 h3 h4 ih => exact .rp ih (s.st _ h2) (fun j x hx => (cell_of_heap (s.stHeap hr h2)).trans (h3 j x hx)) h4
  | emp => exact .emp
  | nn => exact .nn
  | ro vf _ h2 h3 h4 ih =>
    refine .ro vf ih h2 h3 fun hn => ?_
    obtain ⟨c, off, hA, hS, hc⟩ := h4 hn
    exact ⟨c, off, hA, s.st c hS, fun i j x hi hx => (cell_of_heap (s.stHeap hr hS)).trans (hc i j x hi hx)⟩
  | sl h1 h2 h3 h6 h7 h4 h5 =>
    refine .sl (h1.step s) h2 h3 (fun B' hg => by obtain ⟨B, hB, hs, _, _⟩ := good_back s h1 hg; rw [hs]; exact h6 B hB) h7 (fun hp B' c hg hc => ?_) fun ho B' hg => ?_
    · obtain ⟨B, hB, hs, _, hr'⟩ := good_back s h1 hg
      rw [hs]
      exact h4 hp B c hB (hr' ▸ hc)
    · obtain ⟨B, hB, hs, ht, hr'⟩ := good_back s h1 hg
      obtain ⟨ha, hb⟩ := h5 ho B hB
      refine ⟨fun hn => ha (hr' ▸ hn), fun c hc => ?_⟩
      obtain ⟨hA, m, hm, hle⟩ := hb c (hr' ▸ hc)
      exact ⟨hA, m, by rw [s.shp c (shape_lt hm), hm, ht], by rw [hs]; exact hle⟩
  | agg h1 _ h3 ih => exact .agg h1 ih h3
  | tup h1 _ ih => exact .tup h1 ih
  | fn h1 _ h3 _ ih1 ih2 => exact .fn h1 ih1 h3 ih2

/-- The same of what does not refer to anything from block n on, in a heap where the blocks below n are as large. -/
theorem Rep.under {g g2 : G} {n : Nat} (hh : ∀ (b : Nat) (B : Blk), b < n → vblk g.h g.r b = some B → ∃ B', vblk g2.h g2.r b = some B' ∧ B'.sz = B.sz ∧ B'.ty = B.ty ∧ B'.es.length = B.es.length ∧ g2.r b = g.r b) (hw : g2.w = g.w) (hS : ∀ c, g.St c → g2.St c)
    {x : AV} {v : Value} (h : Rep g x v) : x.scopd n = true → Rep g2 x v := by
  have ok : ∀ {b k : Nat}, b < n → refOk g b k → refOk g2 b k := fun {b k} hb ⟨B, hB, hl⟩ => by
    obtain ⟨B', h1, _, _, h4, _⟩ := hh b B hb hB
    exact ⟨B', h1, by omega⟩
  have gd : ∀ {b k : Nat} {B : Blk}, b < n → refOk g b k → vgood g2.h g2.r b k = some B → ∃ B0, vgood g.h g.r b k = some B0 ∧ B.sz = B0.sz ∧ B.ty = B0.ty ∧ g2.r b = g.r b := fun {b k B} hb ⟨C, hC, hl⟩ hg => by
    obtain ⟨C', h1, h2, h3, h4, h5⟩ := hh b C hb hC
    obtain ⟨k3, k4⟩ := vgood_eq.1 hg
    rw [h1] at k3
    cases k3
    exact ⟨C, vgood_eq.2 ⟨hC, by omega⟩, h2, h3, h5⟩
  induction h with
  | undef => intro _; exact .undef
  | int k n => intro _; exact .int k n
  | bool b => intro _; exact .bool b
  | str x => intro _; exact .str x
  | nilp => intro _; exact .nilp
  | ptr h1 h2 =>
    intro hs
    simp only [AV.scopd, decide_eq_true_eq] at hs
    refine .ptr (ok hs h1) fun B c hg hc => ?_
    obtain ⟨B0, h3, k1, k2, h4⟩ := gd hs h1 hg
    rw [k1]
    exact h2 B0 c h3 (h4 ▸ hc)
  | rp _ h2 h3 h4 ih =>
    intro hs
    simp only [AV.scopd] at hs
    exact .rp (ih hs) (hS _ h2) (fun j x hx => by rw [hw]; exact h3 j x hx) h4
  | emp => intro _; exact .emp
  | nn => intro _; exact .nn
  | ro vf _ h2 h3 h4 ih =>
    intro hs
    simp only [AV.scopd] at hs
    refine .ro vf (fun i x hx => ih i x hx (scopdL_iff.1 hs i x hx)) h2 h3 fun hn => ?_
    obtain ⟨c, off, hA, hc, hx⟩ := h4 hn
    exact ⟨c, off, hA, hS c hc, fun i j x hi hv => by rw [hw]; exact hx i j x hi hv⟩
  | sl h1 h2 h3 h6 h7 h4 h5 =>
    intro hs
    simp only [AV.scopd, decide_eq_true_eq] at hs
    refine .sl (ok hs h1) h2 h3 (fun B hg => by obtain ⟨B0, q1, q2, q3, q4⟩ := gd hs h1 hg; rw [q2]; exact h6 B0 q1) h7 (fun hp B c hg hc => ?_) fun ho B hg => ?_
    · obtain ⟨B0, q1, q2, q3, q4⟩ := gd hs h1 hg
      rw [q2]
      exact h4 hp B0 c q1 (q4 ▸ hc)
    · obtain ⟨B0, q1, q2, q3, q4⟩ := gd hs h1 hg
      obtain ⟨ha, hb⟩ := h5 ho B0 q1
      refine ⟨fun hn => ha (q4 ▸ hn), fun c hc => ?_⟩
      obtain ⟨k1, m, k2, k3⟩ := hb c (q4 ▸ hc)
      exact ⟨k1, m, by rw [hw, q3]; exact k2, by rw [q2]; exact k3⟩
  | agg h1 _ h3 ih =>
    intro hs
    simp only [AV.scopd] at hs
    exact .agg h1 (fun j c v hc hv => ih j c v hc hv (scopdL_iff.1 hs j c hc)) h3
  | tup h1 _ ih =>
    intro hs
    simp only [AV.scopd] at hs
    exact .tup h1 (fun j c v hc hv => ih j c v hc hv (scopdL_iff.1 hs j c hc))
  | fn h1 _ h3 _ ih1 ih2 =>
    intro hs
    simp only [AV.scopd, Bool.and_eq_true] at hs
    exact .fn h1 (fun j c v hc hv => ih1 j c v hc hv (scopdL_iff.1 hs.1 j c hc)) h3 (fun j c v hc hv => ih2 j c v hc hv (scopdL_iff.1 hs.2 j c hc))

/-- What leads nowhere is represented in any state. -/
theorem Rep.flat {g g2 : G} {x : AV} {v : Value} (h : Rep g x v) : x.flat = true → Rep g2 x v := by
  induction h with
  | undef => intro _; exact .undef
  | int k n => intro _; exact .int k n
  | bool b => intro _; exact .bool b
  | str x => intro _; exact .str x
  | nilp => intro _; exact .nilp
  | ptr => intro h; simp [AV.flat] at h
  | rp => intro h; simp [AV.flat] at h
  | emp => intro _; exact .emp
  | nn => intro h; simp [AV.flat] at h
  | ro vf _ h2 h3 _ _ =>
    intro hs
    simp only [AV.flat, List.isEmpty_iff] at hs
    subst hs
    exact .ro vf (by simp) (by simp) h3 (by simp)
  | sl => intro h; simp [AV.flat] at h
  | agg h1 _ h3 ih =>
    intro hs
    simp only [AV.flat] at hs
    exact .agg h1 (fun j c v hc hv => ih j c v hc hv (flatL_iff.1 hs j c hc)) h3
  | tup h1 _ ih =>
    intro hs
    simp only [AV.flat] at hs
    exact .tup h1 (fun j c v hc hv => ih j c v hc hv (flatL_iff.1 hs j c hc))
  | fn => intro h; simp [AV.flat] at h

end Go.Abs

/- Operations that leave the world as it is: what they yield is what the abstract operation says. -/
namespace Go.Abs

theorem mapO_some {α β : Type} {f : α → Option β} : ∀ {xs : List α} {ys : List β}, mapO f xs = some ys →
    ys.length = xs.length ∧ ∀ (i : Nat) (x : α), xs[i]? = some x → ∃ y, ys[i]? = some y ∧ f x = some y
  | [], ys, h => by simp [mapO] at h; subst h; simp
  | x :: xs, ys, h => by
    simp only [mapO] at h
    split at h
    · rename_i y ys' hy hys
      cases h
      obtain ⟨hl, hi⟩ := mapO_some hys
      refine ⟨by simp [hl], fun i z hz => ?_⟩
      cases i with
      | zero => simp at hz; subst hz; exact ⟨y, rfl, hy⟩
      | succ i => simpa using hi i z (by simpa using hz)
    · cases h

def FrRep (g : G) (fr : Frame) (a : Act) : Prop := ∀ t, Rep g (fr t) (a.tmps.getD t undef)

theorem constAV1_rep {g : G} {v : Value} {x : AV} (h : constAV1 v = some x) : Rep g x v := by
  unfold constAV1 at h
  split at h <;> cases h
  · exact .int _ _
  · exact .bool _
  · rename_i s
    have : Rep g (.str s.data.toList) (.string ⟨s.data.toList.toArray⟩) := .str _
    simpa using this
  · exact .nilp
  · exact .emp
theorem constAV1_one {v : Value} {x : AV} (h : constAV1 v = some x) : v.oneCell' = true := by
  unfold constAV1 at h
  split at h <;> first | cases h; done | rfl
theorem constAV_rep {g : G} {v : Value} {x : AV} (h : constAV v = some x) : Rep g x v := by
  unfold constAV at h
  split at h
  · rename_i cs
    cases hm : mapO constAV1 cs.toList with
    | none => rw [hm] at h; cases h
    | some ys =>
      rw [hm] at h
      cases h
      obtain ⟨hl, hi⟩ := mapO_some hm
      refine .agg (by simpa using hl) (fun j c v hc hv => ?_) (fun j v hv => ?_)
      · obtain ⟨y, hy, he⟩ := hi j v (by simpa using hv)
        rw [hc] at hy
        cases hy
        exact constAV1_rep he
      · obtain ⟨y, _, he⟩ := hi j v (by simpa using hv)
        exact constAV1_one he
  · exact constAV1_rep h

theorem opd_rep {g : G} {fr : Frame} {a : Act} (hf : FrRep g fr a) {x : Operand} {y : Opd} (h : opd x = some y) : Rep g (y.get fr) (a.eval x) := by
  cases x with
  | tmp t => simp [opd] at h; subst h; exact hf t
  | const v =>
    simp only [opd, Option.map_eq_some_iff] at h
    obtain ⟨z, hz, rfl⟩ := h
    exact constAV_rep hz
  | global => simp [opd] at h
  | func f =>
    simp [opd] at h
    subst h
    exact .fn rfl (by simp) rfl (by simp)

/-- The operation yields a value and leaves the world. -/
def Yl (P : Program) (o : Oper) (a : Act) (g : G) (v : AV) : Prop := ∃ v', (execOp a.eval o).run P g.w = .ok (.value v') g.w ∧ Rep g v v'

section
variable {P : Program} {g : G} {fr : Frame} {a : Act}

theorem run_vv {s : Sem Value} {w w' : World} {v : Value} (h : s.run P w = .ok v w') : (do pure (Next.value (← s)) : Sem Next).run P w = .ok (.value v) w' := by
  simp [h]

theorem und_run {t : Nat} {d : TypeDesc} (h : P.underlying t = some d) (w : World) : (underlying t).run P w = .ok d w := by simp [underlying, program, Sem.run, h]
theorem size_run {t n : Nat} (h : tySize P t = some n) (w : World) : (sizeOf t).run P w = .ok n w := by
  unfold tySize at h
  cases hi : P.info? t with
  | none => rw [hi] at h; cases h
  | some i => rw [hi] at h; cases h; simp [sizeOf, typeInfo, program, Sem.run, hi]
theorem agg_run {t : Nat} {b : Bool} (h : tyAgg P t = some b) (w : World) : (isAgg t).run P w = .ok b w := by
  unfold tyAgg at h
  cases hu : P.underlying t with
  | none => rw [hu] at h; cases h
  | some d =>
    rw [hu] at h
    simp only [isAgg, Sem.run_bind, und_run hu, Result.andThen_ok]
    cases d <;> cases h <;> simp

theorem yl_move {o : Oper} {x : Operand} {y : Opd} (ho : o.op = .move x ∨ o.op = .assign x) (hx : opd x = some y) (hf : FrRep g fr a) : Yl P o a g (y.get fr) :=
  ⟨a.eval x, by rcases ho with ho | ho <;> simp [execOp, ho], opd_rep hf hx⟩

theorem rep_bool {b : Bool} {v : Value} (h : Rep g (.bool b) v) : v = .bool b := by cases h; rfl
theorem rep_int {k : IntKind} {n : Int} {v : Value} (h : Rep g (.int k n) v) : v = .int k n := by cases h; rfl
theorem rep_str {s : List UInt8} {v : Value} (h : Rep g (.str s) v) : v = .string ⟨s.toArray⟩ := by cases h; rfl

theorem yl_pick {o : Oper} {c x y : Operand} {c' x' y' : Opd} {t : Bool} (ho : o.op = .pick c x y) (hc : opd c = some c') (hx : opd x = some x') (hy : opd y = some y') (hf : FrRep g fr a)
    (ht : c'.get fr = .bool t) : Yl P o a g (if t then x'.get fr else y'.get fr) := by
  have h1 := opd_rep hf hc
  rw [ht] at h1
  have h1 := rep_bool h1
  refine ⟨if t then a.eval x else a.eval y, by simp [execOp, ho, h1, asBool], ?_⟩
  cases t
  · exact opd_rep hf hy
  · exact opd_rep hf hx

theorem eqGuard_int (op : BinOp) (t : Nat) (x y : Operand) (k : IntKind) (n : Int) (v : Value) : eqGuard op t x y (.int k n) v = pure () := by cases op <;> rfl
theorem eqGuard_str (op : BinOp) (t : Nat) (x y : Operand) (s : ByteArray) (v : Value) : eqGuard op t x y (.string s) v = pure () := by cases op <;> rfl
theorem eqGuard_bool (op : BinOp) (t : Nat) (x y : Operand) (b : Bool) (v : Value) : eqGuard op t x y (.bool b) v = pure () := by cases op <;> rfl

theorem byteArray_toList (l : List UInt8) : (⟨l.toArray⟩ : ByteArray).toList = l := by
  rw [ByteArray.toList_eq]

theorem run_binOp_int {op : BinOp} {t : Nat} {k : IntKind} {x y : Int} {v : AV} (hs : isShift op = false) (h : intBin op k x y = some v) (w : World) : ∃ v', (binOp op t (.int k x) (.int k y)).run P w = .ok v' w ∧ Rep g v v' := by
  unfold intBin at h
  split at h <;> (try cases h) <;> (try (simp [isShift] at hs; done))
  · exact ⟨_, by simp [binOp, Op.intArith], .int _ _⟩
  · exact ⟨_, by simp [binOp, Op.intArith], .int _ _⟩
  · exact ⟨_, by simp [binOp, Op.intArith], .int _ _⟩
  · split at h
    · cases h
    · rename_i hy
      cases h
      exact ⟨_, by simp [binOp, Op.intDiv, hy], .int _ _⟩
  · split at h
    · cases h
    · rename_i hy
      cases h
      exact ⟨_, by simp [binOp, Op.intDiv, hy], .int _ _⟩
  · exact ⟨_, by simp [binOp, Op.intBits], .int _ _⟩
  · exact ⟨_, by simp [binOp, Op.intBits], .int _ _⟩
  · exact ⟨_, by simp [binOp, Op.intBits], .int _ _⟩
  · exact ⟨_, by simp [binOp, Op.intBits], .int _ _⟩
  · exact ⟨_, by simp [binOp, Op.intCmp], .bool _⟩
  · exact ⟨_, by simp [binOp, Op.intCmp], .bool _⟩
  · exact ⟨_, by simp [binOp, Op.intCmp], .bool _⟩
  · exact ⟨_, by simp [binOp, Op.intCmp], .bool _⟩
  · exact ⟨_, by simp [binOp, Op.intCmp], .bool _⟩
  · exact ⟨_, by simp [binOp, Op.intCmp], .bool _⟩

theorem run_binOp_shift {op : BinOp} {t : Nat} {k k' : IntKind} {x y : Int} {v : AV} (h : shiftBin op k x y = some v) (w : World) : ∃ v', (binOp op t (.int k x) (.int k' y)).run P w = .ok v' w ∧ Rep g v v' := by
  unfold shiftBin at h
  split at h
  · cases h
  · rename_i hy
    split at h <;> cases h
    · exact ⟨_, by simp [binOp, Op.shift, hy], .int _ _⟩
    · exact ⟨_, by simp [binOp, Op.shift, hy], .int _ _⟩

theorem run_binOp_str {op : BinOp} {t : Nat} {x y : List UInt8} {v : AV} (h : strBin op x y = some v) (w : World) : ∃ v', (binOp op t (.string ⟨x.toArray⟩) (.string ⟨y.toArray⟩)).run P w = .ok v' w ∧ Rep g v v' := by
  unfold strBin at h
  split at h
  · cases h
    exact ⟨_, by simp [binOp, Op.stringOp], .bool _⟩
  · cases h
    exact ⟨_, by simp [binOp, Op.stringOp], .bool _⟩
  · split at h
    · rename_i hl
      cases h
      refine ⟨.string (⟨x.toArray⟩ ++ ⟨y.toArray⟩), ?_, ?_⟩
      · have hx : (⟨x.toArray⟩ : ByteArray).size = x.length := rfl
        have hy : (⟨y.toArray⟩ : ByteArray).size = y.length := rfl
        have : ¬ (((x.length : Int) + (y.length : Int)) > IntKind.i64.max) := by
          have : IntKind.i64.max = 9223372036854775807 := by decide
          omega
        simp only [binOp, Op.stringOp, hx, hy]
        simp only [Int.natCast_add, this, if_false]
        rfl
      · have : Rep g (.str (x ++ y)) (.string ⟨(x ++ y).toArray⟩) := .str _
        have e : (⟨x.toArray⟩ ++ ⟨y.toArray⟩ : ByteArray) = ⟨(x ++ y).toArray⟩ := by
          apply ByteArray.ext
          simp [ByteArray.data_append]
        rw [e]
        exact this
    · cases h
  · cases h

theorem yl_bin {o : Oper} {op : BinOp} {t u : Nat} {x y : Operand} {x' y' : Opd} {v : AV} (ho : o.op = .binOp op t x y u) (hx : opd x = some x') (hy : opd y = some y') (hf : FrRep g fr a)
    (h : binAV op (x'.get fr) (y'.get fr) = some v) : Yl P o a g v := by
  have h1 := opd_rep hf hx
  have h2 := opd_rep hf hy
  generalize x'.get fr = X at *
  generalize y'.get fr = Y at *
  unfold binAV at h
  split at h
  · rename_i k m k' n
    have e1 := rep_int h1
    have e2 := rep_int h2
    split at h
    · obtain ⟨v', hr, hv⟩ := run_binOp_shift (P := P) (g := g) (t := t) (k' := k') h g.w
      exact ⟨v', by simp only [execOp, ho, e1, e2, eqGuard_int]; simp [hr], hv⟩
    · rename_i hs
      split at h
      · rename_i hk
        subst hk
        obtain ⟨v', hr, hv⟩ := run_binOp_int (P := P) (g := g) (t := t) (by simpa using hs) h g.w
        exact ⟨v', by simp only [execOp, ho, e1, e2, eqGuard_int]; simp [hr], hv⟩
      · cases h
  · have e1 := rep_str h1
    have e2 := rep_str h2
    obtain ⟨v', hr, hv⟩ := run_binOp_str (P := P) (g := g) (t := t) h g.w
    exact ⟨v', by simp only [execOp, ho, e1, e2, eqGuard_str]; simp [hr], hv⟩
  · cases h

theorem yl_eqB {o : Oper} {op : BinOp} {t u : Nat} {x y : Operand} {x' y' : Opd} {b c n : Bool} (ho : o.op = .binOp op t x y u) (hx : opd x = some x') (hy : opd y = some y') (hf : FrRep g fr a)
    (hn : isEq op = some n) (ht : isBoolT P t = true) (h1 : x'.get fr = .bool b) (h2 : y'.get fr = .bool c) : Yl P o a g (.bool (if n then !(b == c) else b == c)) := by
  have e1 := opd_rep hf hx
  have e2 := opd_rep hf hy
  rw [h1] at e1
  rw [h2] at e2
  have e1 := rep_bool e1
  have e2 := rep_bool e2
  have hu : P.underlying t = some .bool := by
    unfold isBoolT at ht
    split at ht
    · assumption
    · cases ht
  refine ⟨_, ?_, .bool _⟩
  unfold isEq at hn
  split at hn <;> cases hn
  · simp only [execOp, ho, e1, e2, eqGuard_bool]
    simp [run_eql_bool, hu]
  · simp only [execOp, ho, e1, e2, eqGuard_bool]
    simp [run_neq_bool, hu]

theorem yl_un {o : Oper} {op : UnOp} {t : Nat} {x : Operand} {x' : Opd} {v : AV} (ho : o.op = .unOp op t x) (hx : opd x = some x') (hf : FrRep g fr a) (h : unAV op (x'.get fr) = some v) : Yl P o a g v := by
  have h1 := opd_rep hf hx
  generalize x'.get fr = X at *
  unfold unAV at h
  split at h <;> cases h
  · have e1 := rep_bool h1
    exact ⟨_, by simp [execOp, ho, e1, Op.unary], .bool _⟩
  · have e1 := rep_int h1
    exact ⟨_, by simp [execOp, ho, e1, Op.unary, Op.intArith], .int _ _⟩
  · have e1 := rep_int h1
    exact ⟨_, by simp [execOp, ho, e1, Op.unary, Op.intBits], .int _ _⟩

theorem yl_conv {o : Oper} {s d : Nat} {x : Operand} {x' : Opd} {k k' ks : IntKind} {n : Int} (ho : o.op = .convert s d x) (hx : opd x = some x') (hf : FrRep g fr a) (hs : P.underlying s = some (.int ks)) (hd : P.underlying d = some (.int k))
    (h : x'.get fr = .int k' n) : Yl P o a g (.int k (k.wrap n)) := by
  have h1 := opd_rep hf hx
  rw [h] at h1
  have e1 := rep_int h1
  refine ⟨.int k (k.wrap n), ?_, .int _ _⟩
  simp only [execOp, ho, e1, convert]
  simp only [Sem.run_bind, und_run hs, und_run hd, Result.andThen_ok]
  simp [Conv.intToInt]

theorem nat_of {x : AV} {n : Nat} {v : Value} (h : natArg x = some n) (hr : Rep g x v) : ∃ k, v = .int k (n : Int) := by
  unfold natArg at h
  split at h
  · split at h
    · rename_i k m hm
      cases h
      exact ⟨k, by rw [rep_int hr, Int.toNat_of_nonneg hm]⟩
    · cases h
  · cases h

theorem slLen_of {x : AV} {n : Nat} {v : Value} (h : slLen x = some n) (hr : Rep g x v) : ∃ A cap, v = .slice A n cap ∧ n ≤ cap := by
  cases hr <;> simp [slLen] at h
  · subst h; exact ⟨_, _, rfl, Nat.le_refl _⟩
  · subst h; exact ⟨_, _, rfl, Nat.zero_le _⟩
  · subst h; rename_i h3 _ _; exact ⟨_, _, rfl, by assumption⟩
  · subst h; exact ⟨_, _, rfl, by assumption⟩

theorem yl_lenSl {o : Oper} {x : Operand} {x' : Opd} {t n : Nat} {e : Nat} (ho : o.op = .call { callee := .builtin .len, args := #[x], argTypes := #[t] }) (hx : opd x = some x') (hf : FrRep g fr a) (ht : elemTy P t = some e)
    (h : slLen (x'.get fr) = some n) : Yl P o a g (.int .i64 n) := by
  obtain ⟨A, cap, e1, _⟩ := slLen_of h (opd_rep hf hx)
  have hu : P.underlying t = some (.slice e) := by
    unfold elemTy at ht
    split at ht
    · cases ht; assumption
    · cases ht
  refine ⟨.int .i64 n, ?_, .int _ _⟩
  simp [execOp, ho, resolve, invoke, builtin, Builtin.len_, e1, und_run hu, goInt]

theorem isStrT_eq {t : Nat} (h : isStrT P t = true) : P.underlying t = some .string := by
  unfold isStrT at h
  split at h
  · assumption
  · cases h
theorem elemTy_eq {t e : Nat} (h : elemTy P t = some e) : P.underlying t = some (.slice e) := by
  unfold elemTy at h
  split at h
  · cases h; assumption
  · cases h

theorem yl_lenStr {o : Oper} {x : Operand} {x' : Opd} {t : Nat} {s : List UInt8} (ho : o.op = .call { callee := .builtin .len, args := #[x], argTypes := #[t] }) (hx : opd x = some x') (hf : FrRep g fr a) (ht : isStrT P t = true)
    (h : x'.get fr = .str s) : Yl P o a g (.int .i64 s.length) := by
  have h1 := opd_rep hf hx
  rw [h] at h1
  have e1 := rep_str h1
  refine ⟨.int .i64 s.length, ?_, .int _ _⟩
  have hb : (Builtin.len_ #[t] o.type #[.string ⟨s.toArray⟩]).run P g.w = .ok (.int .i64 s.length) g.w := by
    simp only [Builtin.len_, List.getElem?_toArray, List.getElem?_cons_zero, Sem.run_bind, und_run (isStrT_eq ht), Result.andThen_ok]
    rfl
  simp [execOp, ho, resolve, invoke, builtin, e1, hb]

theorem yl_nilChk {o : Oper} {x : Operand} {x' : Opd} (ho : o.op = .nilCheck x) (hx : opd x = some x') (hf : FrRep g fr a) (h : (∃ b n i o, x'.get fr = .ptr b n i o) ∨ ∃ s e o, x'.get fr = .rp s e o) : Yl P o a g (x'.get fr) := by
  have h1 := opd_rep hf hx
  refine ⟨a.eval x, ?_, h1⟩
  have : ∃ ad, a.eval x = .pointer (some ad) := by
    generalize a.eval x = V at h1
    rcases h with ⟨b, n, i, o', h⟩ | ⟨s, e, o', h⟩
    · rw [h] at h1
      cases h1
      exact ⟨_, rfl⟩
    · rw [h] at h1
      cases h1
      exact ⟨_, rfl⟩
  obtain ⟨ad, had⟩ := this
  simp [execOp, ho, had]

theorem yl_faddr {o : Oper} {s f off n : Nat} {b : Bool} {x : Operand} {x' : Opd} {v : AV} (ho : o.op = .fieldAddr s x f) (hx : opd x = some x') (hf : FrRep g fr a) (hfl : fieldOf P s f = some (off, n, b)) (hn : n ≠ 0)
    (h : faddrAV off (x'.get fr) = some v) : Yl P o a g v := by
  have h1 := opd_rep hf hx
  unfold fieldOf at hfl
  split at hfl
  · rename_i fs hu
    split at hfl
    · rename_i fd hfd
      split at hfl
      · rename_i n' a' hsz hag
        cases hfl
        have key : ∀ ad : Addr, a.eval x = .pointer (some ad) → (execOp a.eval o).run P g.w = .ok (.value (.pointer (some (ad.add fd.offset)))) g.w := by
          intro ad he
          simp only [execOp, ho, he]
          refine run_vv ?_
          have hfd' : (fs : Array Field)[f]? = some fd := hfd
          simp only [Instr.fieldAt, Sem.run_bind, und_run hu, Result.andThen_ok, hfd', Instr.sureAddr, Sem.run_pure, fieldPlace, size_run hsz]
          simp [hn]
        have add_eq : ∀ c o' : Nat, (⟨c, o', none⟩ : Addr).add fd.offset = ⟨c, o' + fd.offset, none⟩ := by
          intro c o'
          unfold Addr.add
          split
          · rename_i h0; rw [h0]; rfl
          · rfl
        generalize x'.get fr = X at *
        unfold faddrAV at h
        split at h <;> cases h
        · generalize hv : a.eval x = V at h1
          cases h1
          rename_i ad hk hd
          refine ⟨_, key ad hv, .ptr hk fun B c hg hc => ?_⟩
          rw [hd B c hg hc, add_eq, Nat.add_assoc]
        · generalize hv : a.eval x = V at h1
          cases h1 with
          | rp r1 r2 r3 r4 =>
            refine ⟨_, key _ hv, ?_⟩
            rw [add_eq, Nat.add_assoc]
            exact .rp r1 r2 r3 r4
      · cases hfl
    · cases hfl
  · cases hfl

theorem add_off (c o n : Nat) : (⟨c, o, none⟩ : Addr).add n = ⟨c, o + n, none⟩ := by
  unfold Addr.add
  split
  · rename_i h0; rw [h0]; rfl
  · rfl

theorem yl_iaddr {o : Oper} {t e : Nat} {x i : Operand} {x' i' : Opd} {v : AV} {sz : Nat} (ho : o.op = .indexAddr t x i) (hx : opd x = some x') (hi : opd i = some i') (hf : FrRep g fr a) (ht : elemTy P t = some e)
    (hsz : tySize P e = some sz) (h : iaddrAV sz (x'.get fr) (i'.get fr) = some v) : Yl P o a g v := by
  have h1 := opd_rep hf hx
  have h2 := opd_rep hf hi
  have hu := elemTy_eq ht
  generalize x'.get fr = X at *
  generalize i'.get fr = I at *
  unfold iaddrAV at h
  split at h
  · cases h
  · rename_i j hj
    obtain ⟨k, e2⟩ := nat_of hj h2
    have key : ∀ ad len cap, a.eval x = .slice (some ad) len cap → j < len → (execOp a.eval o).run P g.w = .ok (.value (.pointer (some (ad.add (j * sz))))) g.w := by
      intro ad len cap he hl
      simp only [execOp, ho, he, e2]
      refine run_vv ?_
      have h3 : (0 : Int) ≤ (j : Int) ∧ (j : Int) < (len : Int) := by omega
      simp only [Instr.indexAt, asIntOf, Sem.run_bind, Sem.run_pure, und_run hu, Result.andThen_ok]
      simp [h3, size_run hsz]
    split at h
    · rename_i s xs
      split at h
      · rename_i el hel
        split at h
        · rename_i hs
          cases h
          subst hs
          generalize hv : a.eval x = V at h1
          cases h1 with
          | ro vf r1 r2 r3 r4 =>
            have hl : j < xs.length := (List.getElem?_eq_some_iff.1 hel).1
            obtain ⟨c, off, hA, hS, hc⟩ := r4 (by intro h; subst h; simp at hl)
            subst hA
            refine ⟨_, key _ _ _ hv hl, ?_⟩
            rw [add_off]
            exact .rp (off := off + j * s) (r1 j el hel) hS (fun q y hy => hc j q y hl hy) (r2 j hl)
        · cases h
      · cases h
    · rename_i s b n of len
      split at h
      · rename_i hl
        obtain ⟨hl, hs⟩ := hl
        cases h
        subst hs
        generalize hv : a.eval x = V at h1
        cases h1 with
        | sl r1 r2 r3 r6 r7 r4 r5 =>
          obtain ⟨ad, rfl⟩ := r7 (by omega)
          refine ⟨_, key _ _ _ hv hl, .ptr r1 fun B c hg hc => ?_⟩
          have := r4 (by omega) B c hg hc
          cases this
          rw [add_off, r6 B hg, Nat.add_mul, Nat.add_zero]
      · cases h
    · cases h

theorem yl_aaddr {o : Oper} {t e len sz j : Nat} {x i : Operand} {x' i' : Opd} {v : AV} (ho : o.op = .indexAddr t x i) (hx : opd x = some x') (hi : opd i = some i') (hf : FrRep g fr a) (ht : P.underlying t = some (.array len e)) (hsz : tySize P e = some sz)
    (hj : natArg (i'.get fr) = some j) (hl : j < len) (_ : 1 < len) (h : faddrAV (j * sz) (x'.get fr) = some v) : Yl P o a g v := by
  have h1 := opd_rep hf hx
  obtain ⟨k, e2⟩ := nat_of hj (opd_rep hf hi)
  have key : ∀ ad : Addr, a.eval x = .pointer (some ad) → (execOp a.eval o).run P g.w = .ok (.value (.pointer (some (ad.add (j * sz))))) g.w := by
    intro ad he
    simp only [execOp, ho, he, e2]
    refine run_vv ?_
    have h3 : (0 : Int) ≤ (j : Int) ∧ (j : Int) < (len : Int) := by omega
    simp only [Instr.indexAt, asIntOf, Sem.run_bind, Sem.run_pure, und_run ht, Result.andThen_ok, Instr.sureAddr]
    simp [h3, size_run hsz]
  generalize x'.get fr = X at *
  unfold faddrAV at h
  split at h <;> cases h
  · generalize hv : a.eval x = V at h1
    cases h1
    rename_i ad hk hd
    refine ⟨_, key ad hv, .ptr hk fun B c hg hc => ?_⟩
    rw [hd B c hg hc, add_off, Nat.add_assoc]
  · generalize hv : a.eval x = V at h1
    cases h1 with
    | rp r1 r2 r3 r4 =>
      refine ⟨_, key _ hv, ?_⟩
      rw [add_off, Nat.add_assoc]
      exact .rp r1 r2 r3 r4

theorem opd_emp {y : Operand} {y' : Opd} (hy : opd y = some y') (he : y'.isEmp = true) : y = .const (.slice none 0 0) := by
  cases y with
  | tmp t => simp [opd] at hy; subst hy; cases he
  | func f => simp [opd] at hy; subst hy; cases he
  | global q => simp [opd] at hy
  | const c =>
    simp only [opd, Option.map_eq_some_iff] at hy
    obtain ⟨z, hz, rfl⟩ := hy
    cases z <;> first | (cases he; done) | skip
    unfold constAV at hz
    split at hz
    · cases hm : mapO constAV1 (_ : Array Value).toList with
      | none => rw [hm] at hz; cases hz
      | some ys => rw [hm] at hz; cases hz
    · unfold constAV1 at hz
      split at hz <;> cases hz
      rfl

theorem equal_nil {t e : Nat} (hu : P.underlying t = some (.slice e)) (ad : Addr) (n c : Nat) (w : World) : (Op.equal t (.slice (some ad) n c) (.slice none 0 0)).run P w = .ok false w := by
  have key : ∀ d : Nat, (Op.equalIn (d + 1) t (.slice (some ad) n c) (.slice none 0 0)).run P w = .ok false w := fun d => by
    simp only [Op.equalIn, Sem.run_bind, und_run hu, Result.andThen_ok]
    rfl
  exact key 9999
theorem equal_nil2 {t e : Nat} (hu : P.underlying t = some (.slice e)) (A : Option Addr) (n c : Nat) (w : World) : (Op.equal t (.slice A n c) (.slice none 0 0)).run P w = .ok A.isNone w := by
  cases A with
  | some ad => exact equal_nil hu ad n c w
  | none =>
    have key : ∀ d : Nat, (Op.equalIn (d + 1) t (.slice none n c) (.slice none 0 0)).run P w = .ok true w := fun d => by
      simp only [Op.equalIn, Sem.run_bind, und_run hu, Result.andThen_ok]
      rfl
    exact key 9999
theorem yl_isNil_nn {o : Oper} {op : BinOp} {t u e : Nat} {x y : Operand} {x' y' : Opd} {q b : Bool} (ho : o.op = .binOp op t x y u) (hx : opd x = some x') (hy : opd y = some y') (he : y'.isEmp = true) (hf : FrRep g fr a)
    (hn : isEq op = some q) (ht : elemTy P t = some e) (h : x'.get fr = .nn b) : Yl P o a g (.bool (b != q)) := by
  have h1 := opd_rep hf hx
  have hyv := opd_emp hy he
  subst hyv
  rw [h] at h1
  have hA : ∃ A cap, a.eval x = .slice A 0 cap ∧ b = A.isNone := by
    generalize a.eval x = V at *
    cases h1 with
    | nn => exact ⟨_, _, rfl, rfl⟩
  obtain ⟨A, cap, hA, hb⟩ := hA
  have hu := elemTy_eq ht
  refine ⟨.bool (b != q), ?_, .bool _⟩
  simp only [execOp, ho, hA]
  refine run_vv ?_
  cases op <;> simp only [isEq] at hn <;> cases hn <;> cases A <;> simp [eqGuard, Act.eval, binOp, equal_nil2 hu, hb]
theorem yl_isNil {o : Oper} {op : BinOp} {t u n e : Nat} {x y : Operand} {x' y' : Opd} {q : Bool} (ho : o.op = .binOp op t x y u) (hx : opd x = some x') (hy : opd y = some y') (he : y'.isEmp = true) (hf : FrRep g fr a)
    (hn : isEq op = some q) (ht : elemTy P t = some e) (h : slLen (x'.get fr) = some n) (h0 : n ≠ 0) : Yl P o a g (.bool q) := by
  have h1 := opd_rep hf hx
  have hyv := opd_emp hy he
  subst hyv
  have hA : ∃ ad len cap, a.eval x = .slice (some ad) len cap := by
    generalize x'.get fr = X at *
    generalize a.eval x = V at *
    cases h1 with
    | emp => simp [slLen] at h; omega
    | nn => simp [slLen] at h; omega
    | ro vf r1 r2 r3 r4 =>
      simp [slLen] at h
      obtain ⟨c, off, hA, _⟩ := r4 (by intro hh; subst hh; simp at h; omega)
      exact ⟨_, _, _, by rw [hA]⟩
    | sl r1 r2 r3 r6 r7 r4 r5 =>
      simp [slLen] at h
      obtain ⟨ad, hA⟩ := r7 (by omega)
      exact ⟨ad, _, _, by rw [hA]⟩
    | _ => simp [slLen] at h
  obtain ⟨ad, len, cap, hA⟩ := hA
  have hu := elemTy_eq ht
  refine ⟨.bool q, ?_, .bool _⟩
  simp only [execOp, ho, hA]
  refine run_vv ?_
  cases op <;> simp only [isEq] at hn <;> cases hn <;> simp [eqGuard, Act.eval, binOp, equal_nil hu]

end
end Go.Abs

/- Reading operations: loads, fields, strings, slices, results of several values. -/
namespace Go.Abs

section
variable {P : Program} {g : G} {fr : Frame} {a : Act}

theorem rep_cells {e : AV} {v : Value} (h : Rep g e v) : e.cells.length = v.cells.size ∧ ∀ (j : Nat) (x : AV) (y : Value), e.cells[j]? = some x → v.cells[j]? = some y → Rep g x y := by
  have one : ∀ {e : AV} {v : Value}, Rep g e v → [e].length = (#[v] : Array Value).size ∧ ∀ (j : Nat) (x : AV) (y : Value), [e][j]? = some x → (#[v] : Array Value)[j]? = some y → Rep g x y := by
    intro e v h
    refine ⟨rfl, fun j x y hx hy => ?_⟩
    cases j with
    | zero => simp at hx hy; subst hx; subst hy; exact h
    | succ j => simp at hx
  cases h with
  | agg h1 h2 h3 => exact ⟨h1, h2⟩
  | undef => exact one .undef
  | int k n => exact one (.int k n)
  | bool b => exact one (.bool b)
  | str s => exact one (.str s)
  | nilp => exact one .nilp
  | ptr h1 h2 => exact one (.ptr h1 h2)
  | rp h1 h2 h3 h4 => exact one (.rp h1 h2 h3 h4)
  | emp => exact one .emp
  | nn => exact one .nn
  | ro vf h1 h2 h3 h4 => exact one (.ro vf h1 h2 h3 h4)
  | sl h1 h2 h3 h6 h7 h4 h5 => exact one (.sl h1 h2 h3 h6 h7 h4 h5)
  | tup h1 h2 => exact one (.tup h1 h2)
  | fn h1 h2 h3 h4 => exact one (.fn h1 h2 h3 h4)

theorem rep_agg {e : AV} {v : Value} (h : Rep g e v) (ha : e.isAgg = true) : ∃ vs, v = .agg vs ∧ ∀ (j : Nat) (x : Value), vs[j]? = some x → x.oneCell' = true := by
  cases h with
  | agg h1 h2 h3 => exact ⟨_, rfl, h3⟩
  | _ => simp [AV.isAgg] at ha
theorem rep_notAgg {e : AV} {v : Value} (h : Rep g e v) (ha : e.isAgg = false) : v.cells = #[v] := by
  cases h with
  | agg h1 h2 h3 => simp [AV.isAgg] at ha
  | _ => rfl

theorem loadVar_run {t n c o : Nat} {ag : Bool} (hag : tyAgg P t = some ag) (hn : tySize P t = some n) (w : World) (vs : List Value)
    (hl : ag = true → vs.length = n) (h1 : ag = false → 0 < vs.length) (hc : ∀ (j : Nat) (x : Value), vs[j]? = some x → w.cell? ⟨c, o + j, none⟩ = some x) :
    (loadVar t ⟨c, o, none⟩).run P w = .ok (if ag then .agg vs.toArray else vs.getD 0 undef) w := by
  cases ag with
  | true =>
    have := run_loadCells_list (P := P) w ⟨c, o, none⟩ vs (fun j x hx => by rw [add_off]; exact hc j x hx)
    simp only [loadVar, Sem.run_bind, agg_run hag, Result.andThen_ok, if_true, size_run hn, ← hl rfl, this, Sem.run_pure]
  | false =>
    have h0 := h1 rfl
    have := hc 0 (vs[0]) (List.getElem?_eq_getElem h0)
    simp only [Nat.add_zero] at this
    simp only [loadVar, Sem.run_bind, agg_run hag, Result.andThen_ok]
    simp [this, List.getD, List.getElem?_eq_getElem h0]

/-- A part of an element that lies in memory. -/
theorem part_run {t n c base o sz : Nat} {ag : Bool} {e v : AV} {ve : Value} (hag : tyAgg P t = some ag) (hn : tySize P t = some n) (hr : Rep g e ve) (hsz : ve.cells.size = sz)
    (hc : ∀ (j : Nat) (x : Value), ve.cells[j]? = some x → g.w.cell? ⟨c, base + j, none⟩ = some x) (h : part ag n sz o e = some v) :
    ∃ v', (loadVar t ⟨c, base + o, none⟩).run P g.w = .ok v' g.w ∧ Rep g v v' := by
  obtain ⟨hl, hp⟩ := rep_cells hr
  unfold part at h
  cases ag with
  | true =>
    simp only [if_true] at h
    split at h
    · rename_i hw
      simp only [Bool.and_eq_true, beq_iff_eq] at hw
      obtain ⟨⟨ho, hns⟩, ha⟩ := hw
      cases h
      subst ho
      obtain ⟨vs, rfl, _⟩ := rep_agg hr ha
      have := loadVar_run (P := P) (c := c) (o := base) hag hn g.w vs.toList (fun _ => by simpa [Value.cells, hns] using hsz) (by simp) (fun j x hx => hc j x (by simpa [Value.cells] using hx))
      exact ⟨.agg vs, by simpa using this, hr⟩
    · split at h
      · rename_i hw
        simp only [Bool.and_eq_true, decide_eq_true_eq] at hw
        obtain ⟨ha, hle⟩ := hw
        cases h
        obtain ⟨vs, rfl, h3⟩ := rep_agg hr ha
        have hlen : ((vs.toList.drop o).take n).length = n := by
          simp only [Value.cells] at hl
          simp only [List.length_take, List.length_drop, Array.length_toList]
          omega
        have hget : ∀ (j : Nat) (x : Value), ((vs.toList.drop o).take n)[j]? = some x → vs[o + j]? = some x := by
          intro j x hx
          rw [List.getElem?_take] at hx
          split at hx
          · simpa using hx
          · cases hx
        have := loadVar_run (P := P) (c := c) (o := base + o) hag hn g.w ((vs.toList.drop o).take n) (fun _ => hlen) (by simp) (fun j x hx => by rw [Nat.add_assoc]; exact hc (o + j) x (hget j x hx))
        refine ⟨.agg ((vs.toList.drop o).take n).toArray, by simpa using this, .agg ?_ (fun j x y hx hy => ?_) (fun j y hy => ?_)⟩
        · simp only [Value.cells] at hl
          simp only [List.length_take, List.length_drop, List.size_toArray, hl, Array.length_toList]
        · rw [List.getElem?_take] at hx
          split at hx
          · exact hp (o + j) x y (by simpa using hx) (hget j y (by simpa using hy))
          · cases hx
        · exact h3 (o + j) y (hget j y (by simpa using hy))
      · cases h
  | false =>
    simp only [Bool.false_eq_true, if_false] at h
    have hlt : o < ve.cells.size := hl ▸ (List.getElem?_eq_some_iff.1 h).1
    have := loadVar_run (P := P) (c := c) (o := base + o) hag hn g.w [ve.cells[o]] (by simp) (by simp) (fun j x hx => by
      cases j with
      | zero => simp at hx; subst hx; exact hc o _ (Array.getElem?_eq_getElem hlt)
      | succ j => simp at hx)
    exact ⟨ve.cells[o], by simpa using this, hp o v _ h (Array.getElem?_eq_getElem hlt)⟩

theorem cell_at {w : World} {c : Nat} {cells : Array Value} {ty : TypeId} {fz : Nat × Nat} (h : w.heap[c]? = some (.cells cells ty fz)) (j : Nat) : w.cell? ⟨c, j, none⟩ = cells[j]? := by
  simp [World.cell?, h]

theorem load_rep {t n lo : Nat} {ag : Bool} {X v : AV} {V : Value} (hr : HRep lo g) (h1 : Rep g X V) (hag : tyAgg P t = some ag) (hn : tySize P t = some n) (h : loadAV g.h ag n X = some v) :
    ∃ ad, V = .pointer (some ad) ∧ ∃ v', (loadVar t ad).run P g.w = .ok v' g.w ∧ Rep g v v' := by
  unfold loadAV at h
  split at h
  · rename_i b n' i o'
    split at h
    · rename_i B hB
      split at h
      · rename_i e he
        cases h1 with
        | ptr r1 r2 =>
          obtain ⟨hn1, hn2⟩ := hr.blks b B (vblk_of (good_eq.1 hB).1)
          cases hc : g.r b with
          | none => rw [hn1 hc] at he; simp at he
          | some c =>
            obtain ⟨cells, hh, _, hes⟩ := hn2 c hc
            obtain ⟨ve, hre, hsz, hcell⟩ := hes i e he
            have := r2 B c (vgood_of hB) hc
            subst this
            exact ⟨_, rfl, part_run hag hn hre hsz (fun j y hy => by rw [cell_at hh]; exact hcell j y hy) h⟩
      · cases h
    · cases h
  · cases h1 with
    | rp r1 r2 r3 r4 => exact ⟨_, rfl, part_run hag hn r1 r4 r3 h⟩
  · cases h

theorem yl_load {o : Oper} {t n lo : Nat} {ag : Bool} {x : Operand} {x' : Opd} {v : AV} (ho : o.op = .load t x) (hx : opd x = some x') (hf : FrRep g fr a) (hr : HRep lo g) (hag : tyAgg P t = some ag) (hn : tySize P t = some n)
    (h : loadAV g.h ag n (x'.get fr) = some v) : Yl P o a g v := by
  obtain ⟨ad, he, v', hv, hrep⟩ := load_rep hr (opd_rep hf hx) hag hn h
  refine ⟨v', ?_, hrep⟩
  simp only [execOp, ho, he]
  exact run_vv (by simp [Instr.loadAt, Instr.sureAddr, hv])

theorem yl_extract {o : Oper} {i : Nat} {x : Operand} {x' : Opd} {vs : List AV} {v : AV} (ho : o.op = .extract x i) (hx : opd x = some x') (hf : FrRep g fr a) (h : x'.get fr = .tup vs) (hv : vs[i]? = some v) : Yl P o a g v := by
  have h1 := opd_rep hf hx
  rw [h] at h1
  generalize he : a.eval x = V at h1
  cases h1 with
  | tup r1 r2 =>
    rename_i us
    have hlt : i < us.size := r1 ▸ (List.getElem?_eq_some_iff.1 hv).1
    refine ⟨us[i], ?_, r2 i v _ hv (Array.getElem?_eq_getElem hlt)⟩
    simp only [execOp, ho, he]
    exact run_vv (by simp [Instr.extract, Array.getElem?_eq_getElem hlt])

theorem yl_istr {o : Oper} {t : Nat} {x i : Operand} {x' i' : Opd} {v : AV} (ho : o.op = .index t x i) (hx : opd x = some x') (hi : opd i = some i') (hf : FrRep g fr a) (ht : isStrT P t = true)
    (h : istrAV (x'.get fr) (i'.get fr) = some v) : Yl P o a g v := by
  have h1 := opd_rep hf hx
  have h2 := opd_rep hf hi
  generalize x'.get fr = X at *
  generalize i'.get fr = I at *
  unfold istrAV at h
  split at h
  · rename_i j s hj
    obtain ⟨k, e2⟩ := nat_of hj h2
    have e1 := rep_str h1
    split at h
    · rename_i ch hch
      cases h
      refine ⟨.int .u8 ch.toNat, ?_, .int _ _⟩
      simp only [execOp, ho, e1, e2]
      refine run_vv ?_
      have hlt : j < s.length := (List.getElem?_eq_some_iff.1 hch).1
      have hb : (⟨s.toArray⟩ : ByteArray)[j]? = some ch := by
        have hs : (⟨s.toArray⟩ : ByteArray).size = s.length := rfl
        have : j < (⟨s.toArray⟩ : ByteArray).size := by rw [hs]; exact hlt
        rw [getElem?_pos (⟨s.toArray⟩ : ByteArray) j this]
        have : s[j] = ch := (List.getElem?_eq_some_iff.1 hch).2
        rw [← this]
        rfl
      simp only [Instr.index, asIntOf, Sem.run_bind, Sem.run_pure, und_run (isStrT_eq ht), Result.andThen_ok]
      simp [hb]
    · cases h
  · cases h

theorem str_extract (s : List UInt8) (l r : Nat) : (⟨s.toArray⟩ : ByteArray).extract l r = ⟨((s.take r).drop l).toArray⟩ := by
  apply ByteArray.ext
  rw [ByteArray.data_extract]
  simp [List.drop_take]

theorem bound_run {x : Value} {k : IntKind} {n y : Nat} {code : BoundsCode} (hx : x = .int k (n : Int)) (h : n ≤ y) (w : World) : (Instr.sliceBound x y code).run P w = .ok n w := by
  subst hx
  have : (0 : Int) ≤ (n : Int) ∧ (n : Int) ≤ (y : Int) := by omega
  simp [Instr.sliceBound, asIntOf, this]

theorem natOpt_of {d n : Nat} {x : Option Operand} {x' : Option Opd} (hx : opdO x = some x') (hf : FrRep g fr a) (h : natOpt fr d x' = some n) :
    (x = none ∧ n = d) ∨ ∃ y k, x = some y ∧ a.eval y = .int k (n : Int) := by
  unfold opdO at hx
  split at hx
  · cases hx
    simp only [natOpt, Option.some.injEq] at h
    exact .inl ⟨rfl, h.symm⟩
  · rename_i y
    simp only [Option.map_eq_some_iff] at hx
    obtain ⟨y', hy, rfl⟩ := hx
    simp only [natOpt] at h
    obtain ⟨k, hk⟩ := nat_of h (opd_rep hf hy)
    exact .inr ⟨y, k, rfl, hk⟩

theorem bounds_run {isS : Bool} {len cap l r : Nat} {lo hi : Option Value} (w : World) (hlo : (lo = none ∧ l = 0) ∨ ∃ k, lo = some (.int k (l : Int))) (hhi : (hi = none ∧ r = len) ∨ ∃ k, hi = some (.int k (r : Int)))
    (h1 : l ≤ r) (h2 : r ≤ cap) : (Instr.sliceBounds isS len cap lo hi none).run P w = .ok (l, r, cap) w := by
  rcases hlo with ⟨rfl, rfl⟩ | ⟨k, rfl⟩ <;> rcases hhi with ⟨rfl, rfl⟩ | ⟨k', rfl⟩ <;> simp [Instr.sliceBounds, bound_run rfl h1, bound_run rfl h2]

theorem yl_slStr {o : Oper} {t l r : Nat} {x : Operand} {x' : Opd} {lo hi : Option Operand} {lo' hi' : Option Opd} {s : List UInt8} (ho : o.op = .slice t x lo hi none) (hx : opd x = some x') (hlo : opdO lo = some lo') (hhi : opdO hi = some hi')
    (hf : FrRep g fr a) (ht : isStrT P t = true) (h : x'.get fr = .str s) (hl : natOpt fr 0 lo' = some l) (hr : natOpt fr s.length hi' = some r) (h1 : l ≤ r) (h2 : r ≤ s.length) : Yl P o a g (.str ((s.take r).drop l)) := by
  have e1 := opd_rep hf hx
  rw [h] at e1
  have e1 := rep_str e1
  refine ⟨.string ((⟨s.toArray⟩ : ByteArray).extract l r), ?_, by rw [str_extract]; exact .str _⟩
  have hb := bounds_run (P := P) (isS := false) (len := s.length) (cap := s.length) (l := l) (r := r) (lo := lo.map a.eval) (hi := hi.map a.eval) g.w
    (by rcases natOpt_of hlo hf hl with ⟨h, h'⟩ | ⟨y, k, h, h'⟩
        · exact .inl ⟨by simp [h], h'⟩
        · exact .inr ⟨k, by simp [h, h']⟩)
    (by rcases natOpt_of hhi hf hr with ⟨h, h'⟩ | ⟨y, k, h, h'⟩
        · exact .inl ⟨by simp [h], h'⟩
        · exact .inr ⟨k, by simp [h, h']⟩) h1 h2
  simp only [execOp, ho, e1]
  refine run_vv ?_
  have hs : (⟨s.toArray⟩ : ByteArray).size = s.length := rfl
  simp only [Option.map_none, Instr.sliceAt, Sem.run_bind, und_run (isStrT_eq ht), Result.andThen_ok, Instr.slice, hs]
  simp [hb]

theorem yl_slSl {o : Oper} {t e sz l r n : Nat} {x : Operand} {x' : Opd} {lo hi : Option Operand} {lo' hi' : Option Opd} {v : AV} (ho : o.op = .slice t x lo hi none) (hx : opd x = some x') (hlo : opdO lo = some lo') (hhi : opdO hi = some hi')
    (hf : FrRep g fr a) (ht : elemTy P t = some e) (hsz : tySize P e = some sz) (hn : slLen (x'.get fr) = some n) (hl : natOpt fr 0 lo' = some l) (hr : natOpt fr n hi' = some r)
    (h : sliceAV sz (x'.get fr) l r none = some v) : Yl P o a g v := by
  have h1 := opd_rep hf hx
  obtain ⟨A, cap, e1, hcap⟩ := slLen_of hn h1
  have hu := elemTy_eq ht
  simp only [sliceAV, hn] at h
  split at h
  · rename_i hlr
    obtain ⟨hl1, hr1⟩ := hlr
    have hb := bounds_run (P := P) (isS := true) (len := n) (cap := cap) (l := l) (r := r) (lo := lo.map a.eval) (hi := hi.map a.eval) g.w
      (by rcases natOpt_of hlo hf hl with ⟨h, h'⟩ | ⟨y, k, h, h'⟩
          · exact .inl ⟨by simp [h], h'⟩
          · exact .inr ⟨k, by simp [h, h']⟩)
      (by rcases natOpt_of hhi hf hr with ⟨h, h'⟩ | ⟨y, k, h, h'⟩
          · exact .inl ⟨by simp [h], h'⟩
          · exact .inr ⟨k, by simp [h, h']⟩) hl1 (by omega)
    have run : (execOp a.eval o).run P g.w = .ok (.value (.slice (if cap = l then A else A.map (·.add (l * sz))) (r - l) (cap - l))) g.w := by
      simp only [execOp, ho, e1]
      refine run_vv ?_
      simp only [Option.map_none, Instr.sliceAt, Sem.run_bind, und_run hu, Result.andThen_ok, Instr.slice]
      simp [hb, size_run hsz]
    refine ⟨_, run, ?_⟩
    unfold cut at h
    rw [e1] at h1
    split at h
    · cases h
      rename_i hX
      rw [hX] at h1
      cases h1
      have : l = 0 := by omega
      have : r = 0 := by omega
      subst l
      subst r
      exact .emp
    · rename_i s xs hX
      split at h
      · rename_i hs
        cases h
        rw [hX] at h1
        have hs' : s = sz ∨ (s ≠ sz ∧ xs = []) := by
          rcases hs with hs | hs
          · exact .inl hs
          · by_cases h' : s = sz
            · exact .inl h'
            · exact .inr ⟨h', List.isEmpty_iff.1 hs⟩
        rcases hs' with hs | ⟨_, hs⟩
        · subst hs
          refine Rep.mkRo ?_
          cases h1 with
          | ro vf r1 r2 r3 r4 =>
           have hlen : ((xs.take r).drop l).length = r - l := by simp; omega
           have hget : ∀ (i : Nat) (y : AV), ((xs.take r).drop l)[i]? = some y → xs[l + i]? = some y := by
             intro i y hy
             rw [List.getElem?_drop, List.getElem?_take] at hy
             split at hy
             · exact hy
             · cases hy
           rw [← hlen]
           refine .ro (fun i => vf (l + i)) (fun i y hy => r1 _ _ (hget i y hy)) (fun i hi => r2 _ (by rw [hlen] at hi; omega)) (by rw [hlen]; omega) fun hne => ?_
           have hpos : 0 < r - l := by rw [← hlen]; exact List.length_pos_iff.2 hne
           obtain ⟨c, off, rfl, hS, hc⟩ := r4 (by intro h; subst h; simp at hlen; omega)
           refine ⟨c, off + l * s, by rw [if_neg (by omega)]; simp [add_off], hS, fun i j y hi hy => ?_⟩
           rw [hlen] at hi
           have := hc (l + i) j y (by omega) hy
           rwa [Nat.add_mul, ← Nat.add_assoc] at this
        · subst hs
          cases h1 with
          | ro vf r1 r2 r3 r4 =>
            simp only [List.length_nil] at hr1
            rw [show r - l = ([] : List AV).length by simp; omega]
            simp only [List.take_nil, List.drop_nil]
            refine Rep.mkRo (.ro vf (by simp) (by simp) (by simp) (by simp))
      · cases h
    · rename_i s b k of m hX
      split at h
      · rename_i hs
        cases h
        subst hs
        rw [hX] at h1
        cases h1 with
        | sl r1 r2 r3 r6 r7 r4 r5 =>
          refine .sl r1 (by omega) (by omega) r6 (fun hp => ?_) (fun hp B c hg hc => ?_) (fun h0 B hg => ?_)
          · obtain ⟨ad, rfl⟩ := r7 (by omega)
            rw [if_neg (by omega)]
            exact ⟨_, rfl⟩
          · have := r4 (by omega) B c hg hc
            subst this
            rw [if_neg (by omega)]
            simp [add_off, r6 B hg, Nat.add_mul]
          · have h0' : of = 0 := by omega
            have hl0 : l = 0 := by omega
            obtain ⟨ha, hb'⟩ := r5 h0' B hg
            subst hl0
            refine ⟨fun hn => by rw [ha hn], fun c hc => ?_⟩
            obtain ⟨hA, m', hm', hle⟩ := hb' c hc
            refine ⟨fun hp => ?_, m', hm', by simpa using hle⟩
            rw [if_neg (by omega), hA (by omega)]
            simp [add_off]
      · cases h
    · cases h
  · cases h

end
end Go.Abs

/- Values built out of parts; function values; least and greatest; bytes to a text. -/
namespace Go.Abs

section
variable {P : Program} {g : G} {fr : Frame} {a : Act}

theorem foldl_put (off : Nat) : ∀ (vs : List Value) (k : Nat) (cs : Array Value),
    ((vs.zipIdx k).foldl (fun cs x => cs.setIfInBounds (off + x.2) x.1) cs).size = cs.size ∧
    ∀ i, ((vs.zipIdx k).foldl (fun cs x => cs.setIfInBounds (off + x.2) x.1) cs)[i]? = if off + k ≤ i ∧ i < off + k + vs.length ∧ i < cs.size then vs[i - (off + k)]? else cs[i]?
  | [], k, cs => by
    refine ⟨rfl, fun i => ?_⟩
    simp only [List.zipIdx_nil, List.foldl_nil, List.length_nil, Nat.add_zero]
    rw [if_neg (by omega)]
  | v :: vs, k, cs => by
    obtain ⟨h1, h2⟩ := foldl_put off vs (k + 1) (cs.setIfInBounds (off + k) v)
    simp only [List.zipIdx_cons, List.foldl_cons]
    refine ⟨by rw [h1]; simp, fun i => ?_⟩
    rw [h2 i]
    simp only [Array.size_setIfInBounds, List.length_cons, Array.getElem?_setIfInBounds]
    by_cases hi : off + k = i
    · subst hi
      have hc : ¬ (off + (k + 1) ≤ off + k ∧ off + k < off + (k + 1) + vs.length ∧ off + k < cs.size) := by omega
      rw [if_neg hc]
      by_cases hs : off + k < cs.size
      · have hd : off + k ≤ off + k ∧ off + k < off + k + (vs.length + 1) ∧ off + k < cs.size := by omega
        rw [if_pos rfl, if_pos hd, if_pos hs]
        simp
      · have hd : ¬ (off + k ≤ off + k ∧ off + k < off + k + (vs.length + 1) ∧ off + k < cs.size) := by omega
        rw [if_pos rfl, if_neg hd, if_neg hs, Array.getElem?_eq_none (Nat.not_lt.1 hs)]
    · rw [if_neg hi]
      by_cases hc : off + (k + 1) ≤ i ∧ i < off + (k + 1) + vs.length ∧ i < cs.size
      · have hd : off + k ≤ i ∧ i < off + k + (vs.length + 1) ∧ i < cs.size := by omega
        rw [if_pos hc, if_pos hd]
        have : i - (off + k) = (i - (off + (k + 1))) + 1 := by omega
        rw [this]
        simp
      · have hd : ¬ (off + k ≤ i ∧ i < off + k + (vs.length + 1) ∧ i < cs.size) := by omega
        rw [if_neg hc, if_neg hd]

theorem arr_foldl_put (off : Nat) (vs cs : Array Value) :
    (vs.zipIdx.foldl (fun cs (x : Value × Nat) => cs.setIfInBounds (off + x.2) x.1) cs).size = cs.size ∧
    ∀ i, (vs.zipIdx.foldl (fun cs (x : Value × Nat) => cs.setIfInBounds (off + x.2) x.1) cs)[i]? = if off ≤ i ∧ i < off + vs.size ∧ i < cs.size then vs[i - off]? else cs[i]? := by
  have h := foldl_put off vs.toList 0 cs
  rw [← Array.foldl_toList, Array.toList_zipIdx]
  refine ⟨h.1, fun i => ?_⟩
  rw [h.2 i]
  simp

/-- Cells that stand for cells. -/
def CR (g : G) (cs : List AV) (vs : Array Value) : Prop :=
  cs.length = vs.size ∧ (∀ (j : Nat) (x : AV) (y : Value), cs[j]? = some x → vs[j]? = some y → Rep g x y) ∧ ∀ (j : Nat) (y : Value), vs[j]? = some y → y.oneCell' = true

theorem splice_get (cs : List AV) (o : Nat) (vs : List AV) (h : o + vs.length ≤ cs.length) (i : Nat) :
    (splice cs o vs)[i]? = if o ≤ i ∧ i < o + vs.length then vs[i - o]? else cs[i]? := by
  unfold splice
  by_cases h1 : i < o
  · rw [if_neg (by omega), List.append_assoc, List.getElem?_append_left (by simp; omega), List.getElem?_take, if_pos h1]
  · by_cases h2 : i < o + vs.length
    · rw [if_pos (by omega), List.append_assoc, List.getElem?_append_right (by simp; omega), List.getElem?_append_left (by simp; omega)]
      congr 1
      simp
      omega
    · rw [if_neg (by omega), List.append_assoc, List.getElem?_append_right (by simp; omega), List.getElem?_append_right (by simp; omega), List.getElem?_drop]
      congr 1
      simp
      omega
theorem splice_length (cs : List AV) (o : Nat) (vs : List AV) (h : o + vs.length ≤ cs.length) : (splice cs o vs).length = cs.length := by
  simp [splice]
  omega

theorem ok_one {x : AV} {v : Value} (h : Rep g x v) (hk : x.ok = true) : ∀ (j : Nat) (y : Value), v.cells[j]? = some y → y.oneCell' = true := by
  cases h with
  | agg h1 h2 h3 => exact h3
  | undef => simp [AV.ok] at hk
  | tup => simp [AV.ok] at hk
  | _ =>
    intro j y hy
    cases j with
    | zero => simp [Value.cells] at hy; subst hy; rfl
    | succ j => simp [Value.cells] at hy

theorem CR.put {cs : List AV} {vs : Array Value} (h : CR g cs vs) {x : AV} {v : Value} (hx : Rep g x v) (hk : x.ok = true) {off : Nat} (hl : off + x.cells.length ≤ cs.length) :
    CR g (splice cs off x.cells) (v.cells.zipIdx.foldl (fun cs (x : Value × Nat) => cs.setIfInBounds (off + x.2) x.1) vs) := by
  obtain ⟨h1, h2, h3⟩ := h
  obtain ⟨hc, hr⟩ := rep_cells hx
  obtain ⟨s1, s2⟩ := arr_foldl_put off v.cells vs
  refine ⟨by rw [s1, splice_length _ _ _ hl, h1], fun j y z hy hz => ?_, fun j z hz => ?_⟩
  · rw [splice_get _ _ _ hl] at hy
    rw [s2] at hz
    split at hy
    · rename_i hj
      rw [if_pos (by omega)] at hz
      exact hr _ _ _ hy hz
    · rename_i hj
      rw [if_neg (by omega)] at hz
      exact h2 _ _ _ hy hz
  · rw [s2] at hz
    split at hz
    · exact ok_one hx hk _ _ hz
    · exact h3 _ _ hz

theorem zeroAV_run {t : Nat} {z : AV} (h : zeroAV P t = some z) (w : World) : ∃ v, (zeroValue t).run P w = .ok v w ∧ constAV v = some z ∧ ∃ i, P.info? t = some i ∧ i.zero = some v := by
  unfold zeroAV at h
  split at h
  · rename_i i hi
    split at h
    · rename_i v hv
      exact ⟨v, by simp [zeroValue, typeInfo, program, Sem.run, hi, hv], h, i, hi, hv⟩
    · cases h
  · cases h

theorem constAV_CR {v : Value} {z : AV} (h : constAV v = some z) (ha : z.isAgg = true) : CR g z.cells v.cells := by
  obtain ⟨vs, rfl, h3⟩ := rep_agg (constAV_rep (g := g) h) ha
  obtain ⟨h1, h2⟩ := rep_cells (constAV_rep (g := g) h)
  exact ⟨h1, h2, h3⟩

theorem mapM_run {α β : Type} (f : α → Sem β) (fl : α → β) (w : World) (xs : List α) (h : ∀ x ∈ xs, (f x).run P w = .ok (fl x) w) : (xs.mapM f).run P w = .ok (xs.map fl) w := by
  induction xs with
  | nil => simp
  | cons x xs ih =>
    simp only [List.mapM_cons, Sem.run_bind, h x (by simp), Result.andThen_ok, ih (fun y hy => h y (by simp [hy]))]
    simp

theorem fill_run {t : Nat} {fs : Array Field} (hu : P.underlying t = some (.struct fs)) (place : Nat → Option (Nat × Nat))
    (hplace : ∀ i f n b, fieldOf P t i = some (f, n, b) → place i = some (f, n)) (hf : FrRep g fr a) :
    ∀ (ps : List (Nat × Operand)) (ps' : List (Nat × Nat × Opd)) (cs cs' : List AV) (vs : Array Value), mapO (buildPart P t) ps = some ps' → buildCells cs fr ps' = some cs' → CR g cs vs →
      ∃ vs', Instr.fill place vs (ps.map fun p => (p.1, a.eval p.2)) = some vs' ∧ CR g cs' vs'
  | [], ps', cs, cs', vs, hp, hb, hr => by
    simp only [mapO, Option.some.injEq] at hp
    subst hp
    simp only [buildCells, Option.some.injEq] at hb
    subst hb
    exact ⟨vs, rfl, hr⟩
  | (i, x) :: ps, ps', cs, cs', vs, hp, hb, hr => by
    simp only [mapO] at hp
    split at hp
    · rename_i y ys hy hys
      cases hp
      unfold buildPart at hy
      split at hy
      · rename_i off n b x' hfl hx
        cases hy
        simp only [buildCells] at hb
        split at hb
        · rename_i hc
          obtain ⟨hc1, hc2, hc3⟩ := hc
          have hx' : Rep g (x'.get fr) (a.eval x) := opd_rep hf hx
          have hl := (rep_cells hx').1
          have h' := hr.put hx' hc3 (off := off) (by omega)
          obtain ⟨vs', hv, hr'⟩ := fill_run hu place hplace hf ps ys _ cs' _ hys hb h'
          refine ⟨vs', ?_, hr'⟩
          simp only [List.map_cons, Instr.fill, hplace i off n b hfl]
          rw [if_neg, hv]
          have := hr.1
          simp only [Bool.or_eq_true, decide_eq_true_eq, not_or, Decidable.not_not, Nat.not_lt, ne_eq]
          omega
        · cases hb
      · cases hy
    · cases hp

theorem yl_build {o : Oper} {t : Nat} {z : List AV} {ps : Array (Nat × Operand)} {ps' : List (Nat × Nat × Opd)} {cs : List AV} (ho : o.op = .build t ps) (hz : zeroAV P t = some (.agg z)) (hp : mapO (buildPart P t) ps.toList = some ps')
    (hk : fieldsOk P t = true) (hf : FrRep g fr a) (h : buildCells z fr ps' = some cs) : Yl P o a g (.agg cs) := by
  obtain ⟨zv, hzr, hzc, _⟩ := zeroAV_run hz g.w
  have hcr : CR g z zv.cells := constAV_CR hzc rfl
  unfold fieldsOk at hk
  split at hk
  · rename_i fs hu
    have hsz : ∀ f ∈ fs.toList, ∃ n, tySize P f.type = some n := fun f hfm => Option.isSome_iff_exists.1 (List.all_eq_true.1 hk f hfm)
    have hm := mapM_run (P := P) (fun f : Field => (do pure (f.offset, ← sizeOf f.type) : Sem (Nat × Nat))) (fun f => (f.offset, (tySize P f.type).getD 0)) g.w fs.toList (fun f hfm => by
      obtain ⟨n, hn⟩ := hsz f hfm
      simp [size_run hn, hn])
    obtain ⟨vs, hv, hr⟩ := fill_run hu (fun i => ((fs.toList.map fun f => (f.offset, (tySize P f.type).getD 0)).toArray)[i]?) (fun i off n b hfl => by
      unfold fieldOf at hfl
      simp only [hu] at hfl
      split at hfl
      · rename_i fd hfd
        split at hfl
        · rename_i n' a' h1 h2
          cases hfl
          simp [hfd, h1]
        · cases hfl
      · cases hfl) hf ps.toList ps' z cs zv.cells hp h hcr
    refine ⟨.agg vs, ?_, .agg hr.1 hr.2.1 hr.2.2⟩
    simp only [execOp, ho]
    refine run_vv ?_
    simp only [Instr.build, Sem.run_bind, hzr, Result.andThen_ok, und_run hu]
    rw [Array.mapM_eq_mapM_toList]
    simp only [Sem.run_map, hm, Result.andThen_ok, Array.toList_map, hv, Sem.run_pure]
  · cases hk

theorem mapOpd_rep (hf : FrRep g fr a) {xs : List Operand} {ys : List Opd} (h : mapO opd xs = some ys) : ys.length = xs.length ∧ ∀ (j : Nat) (x : AV) (v : Value), (ys.map (Opd.get fr))[j]? = some x → (xs.map a.eval)[j]? = some v → Rep g x v := by
  obtain ⟨hl, hi⟩ := mapO_some h
  refine ⟨hl, fun j x v hx hv => ?_⟩
  simp only [List.getElem?_map, Option.map_eq_some_iff] at hx hv
  obtain ⟨y, hy, rfl⟩ := hx
  obtain ⟨z, hz, rfl⟩ := hv
  obtain ⟨y', hy', he⟩ := hi j z hz
  rw [hy] at hy'
  cases hy'
  exact opd_rep hf he

theorem yl_mkfn {o : Oper} {f : Nat} {xs cs : Array Operand} {xs' cs' : List Opd} (ho : o.op = .makeFunc (.func f) xs cs) (hx : mapO opd xs.toList = some xs') (hc : mapO opd cs.toList = some cs') (hf : FrRep g fr a) :
    Yl P o a g (.fn f (xs'.map (Opd.get fr)) (cs'.map (Opd.get fr))) := by
  obtain ⟨l1, r1⟩ := mapOpd_rep hf hx
  obtain ⟨l2, r2⟩ := mapOpd_rep hf hc
  refine ⟨.func (.func f) (xs.map a.eval) (cs.map a.eval), by simp [execOp, ho, Instr.makeFunc], .fn (by simpa using l1) (fun j x v hx hv => r1 j x v hx (by simpa [← Array.getElem?_toList] using hv)) (by simpa using l2) (fun j x v hx hv => r2 j x v hx (by simpa [← Array.getElem?_toList] using hv))⟩

theorem fold_run {f : AV → AV → Option AV} {F : Value → Value → Sem Value} (hF : ∀ {x y z : AV} {v u : Value}, f x y = some z → Rep g x v → Rep g y u → ∃ r, (F v u).run P g.w = .ok r g.w ∧ Rep g z r) :
    ∀ (ys : List AV) (us : List Value) (x z : AV) (v : Value), foldO f x ys = some z → Rep g x v → ys.length = us.length → (∀ (j : Nat) (y : AV) (u : Value), ys[j]? = some y → us[j]? = some u → Rep g y u) →
      ∃ r, (us.foldlM F v).run P g.w = .ok r g.w ∧ Rep g z r
  | [], us, x, z, v, h, hx, hl, _ => by
    simp only [foldO, Option.some.injEq] at h
    subst h
    have : us = [] := List.length_eq_zero_iff.1 hl.symm
    subst this
    exact ⟨v, rfl, hx⟩
  | y :: ys, us, x, z, v, h, hx, hl, hr => by
    cases us with
    | nil => simp at hl
    | cons u us =>
      simp only [foldO] at h
      split at h
      · rename_i z' hz
        obtain ⟨r, hr1, hr2⟩ := hF hz hx (hr 0 y u rfl rfl)
        obtain ⟨r', h1, h2⟩ := fold_run hF ys us z' z r h hr2 (by simpa using hl) (fun j y' u' hy hu => hr (j + 1) y' u' (by simpa using hy) (by simpa using hu))
        exact ⟨r', by simp [hr1, h1], h2⟩
      · cases h

theorem yl_mx {o : Oper} {x : Opd} {xs : List Opd} {as : Array Operand} {ts : Array TypeId} {v : AV} (ho : o.op = .call { callee := .builtin .max, args := as, argTypes := ts }) (hx : mapO opd as.toList = some (x :: xs)) (hf : FrRep g fr a)
    (h : foldO max2 (x.get fr) (xs.map (Opd.get fr)) = some v) : Yl P o a g v := by
  obtain ⟨l1, r1⟩ := mapOpd_rep hf hx
  have hal : as.toList.length = xs.length + 1 := by simpa using l1.symm
  cases hA : as.toList with
  | nil => rw [hA] at hal; simp at hal
  | cons b bs =>
    rw [hA] at r1 hal
    obtain ⟨r, h1, h2⟩ := fold_run (P := P) (g := g) (f := max2) (F := Builtin.max2) (fun {x y z v u} hz hx hy => by
      unfold max2 at hz
      split at hz
      · split at hz
        · cases hz
          rw [rep_int hx, rep_int hy]
          exact ⟨_, by simp [Builtin.max2], .int _ _⟩
        · cases hz
      · cases hz) (xs.map (Opd.get fr)) (bs.map a.eval) (x.get fr) v (a.eval b) h (r1 0 _ _ rfl rfl) (by simpa using hal.symm) (fun j y u hy hu => r1 (j + 1) y u (by simpa using hy) (by simpa using hu))
    refine ⟨r, ?_, h2⟩
    have e : (as.map a.eval).toList = a.eval b :: bs.map a.eval := by simp [hA]
    simp only [execOp, ho, resolve, invoke, builtin, Sem.run_bind, Sem.run_pure, Result.andThen_ok, Builtin.max_, e]
    simp [h1]

theorem yl_mn {o : Oper} {x : Opd} {xs : List Opd} {as : Array Operand} {ts : Array TypeId} {v : AV} (ho : o.op = .call { callee := .builtin .min, args := as, argTypes := ts }) (hx : mapO opd as.toList = some (x :: xs)) (hf : FrRep g fr a)
    (h : foldO min2 (x.get fr) (xs.map (Opd.get fr)) = some v) : Yl P o a g v := by
  obtain ⟨l1, r1⟩ := mapOpd_rep hf hx
  have hal : as.toList.length = xs.length + 1 := by simpa using l1.symm
  cases hA : as.toList with
  | nil => rw [hA] at hal; simp at hal
  | cons b bs =>
    rw [hA] at r1 hal
    obtain ⟨r, h1, h2⟩ := fold_run (P := P) (g := g) (f := min2) (F := Builtin.min2) (fun {x y z v u} hz hx hy => by
      unfold min2 at hz
      split at hz
      · split at hz
        · cases hz
          rw [rep_int hx, rep_int hy]
          exact ⟨_, by simp [Builtin.min2], .int _ _⟩
        · cases hz
      · cases hz) (xs.map (Opd.get fr)) (bs.map a.eval) (x.get fr) v (a.eval b) h (r1 0 _ _ rfl rfl) (by simpa using hal.symm) (fun j y u hy hu => r1 (j + 1) y u (by simpa using hy) (by simpa using hu))
    refine ⟨r, ?_, h2⟩
    have e : (as.map a.eval).toList = a.eval b :: bs.map a.eval := by simp [hA]
    simp only [execOp, ho, resolve, invoke, builtin, Sem.run_bind, Sem.run_pure, Result.andThen_ok, Builtin.min_, e]
    simp [h1]

/-- The elements of a slice that is read, and its cells. -/
theorem readSl_of {lo sz : Nat} {x : AV} {xs : List AV} {v : Value} (hr : HRep lo g) (h : readSl g.h sz x = some xs) (hx : Rep g x v) :
    ∃ A cap, v = .slice A xs.length cap ∧ xs.length ≤ cap ∧ ∃ vf : Nat → Value, (∀ (i : Nat) (e : AV), xs[i]? = some e → Rep g e (vf i)) ∧ (∀ i, i < xs.length → (vf i).cells.size = sz) ∧
      (xs ≠ [] → ∃ c off, A = some ⟨c, off, none⟩ ∧ ∀ (i j : Nat) (y : Value), i < xs.length → (vf i).cells[j]? = some y → g.w.cell? ⟨c, off + i * sz + j, none⟩ = some y) := by
  unfold readSl at h
  split at h
  · cases h
    cases hx
    exact ⟨_, _, rfl, Nat.le_refl _, fun _ => undef, by simp, by simp, by simp⟩
  · cases h
    cases hx
    exact ⟨_, _, rfl, Nat.zero_le _, fun _ => undef, by simp, by simp, by simp⟩
  · rename_i sz' ys
    split at h
    · rename_i hs
      cases h
      rcases hs with hs | hs
      · subst hs
        cases hx with
        | ro vf r1 r2 r3 r4 =>
          refine ⟨_, _, rfl, r3, vf, r1, r2, fun hn => ?_⟩
          obtain ⟨c, off, hA, _, hc⟩ := r4 hn
          exact ⟨c, off, hA, hc⟩
      · rw [List.isEmpty_iff] at hs
        subst hs
        cases hx with
        | ro vf r1 r2 r3 r4 => exact ⟨_, _, rfl, r3, vf, by simp, by simp, by simp⟩
    · cases h
  · rename_i s b n off len
    split at h
    · rename_i B hB
      split at h
      · rename_i hc
        obtain ⟨hs, hle⟩ := hc
        cases h
        cases hx with
        | sl r1 r2 r3 r6 r7 r4 r5 =>
          have hBl := (good_eq.1 hB).2
          have hlen : ((B.es.drop off).take len).length = len := by simp; omega
          have hget : ∀ (i : Nat) (e : AV), ((B.es.drop off).take len)[i]? = some e → B.es[off + i]? = some e := by
            intro i e he
            rw [List.getElem?_take] at he
            split at he
            · simpa using he
            · cases he
          obtain ⟨hn1, hn2⟩ := hr.blks b B (vblk_of (good_eq.1 hB).1)
          cases hcb : g.r b with
          | none =>
            have := hn1 hcb
            have hb0 : n = 0 := by rw [← hBl, this]; rfl
            have hl0 : len = 0 := by omega
            subst hl0
            refine ⟨_, _, by rw [hlen], by rw [hlen]; exact r2, fun _ => undef, ?_, ?_, ?_⟩ <;> simp
          | some c =>
            obtain ⟨cells, hh, _, hes⟩ := hn2 c hcb
            have hex : ∀ i, ∃ v : Value, ∀ e, B.es[i]? = some e → Rep g e v ∧ v.cells.size = B.sz ∧ ∀ (j : Nat) (x : Value), v.cells[j]? = some x → cells[i * B.sz + j]? = some x := by
              intro i
              cases he : B.es[i]? with
              | none => exact ⟨undef, fun e h => by cases h⟩
              | some e =>
                obtain ⟨v, h1, h2, h3⟩ := hes i e he
                exact ⟨v, fun e' h => by cases h; exact ⟨h1, h2, h3⟩⟩
            have hvf : ∃ vf : Nat → Value, ∀ i e, B.es[i]? = some e → Rep g e (vf i) ∧ (vf i).cells.size = B.sz ∧ ∀ (j : Nat) (x : Value), (vf i).cells[j]? = some x → cells[i * B.sz + j]? = some x :=
              ⟨fun i => Classical.choose (hex i), fun i => Classical.choose_spec (hex i)⟩
            obtain ⟨vf, hvf⟩ := hvf
            refine ⟨_, _, by rw [hlen], by rw [hlen]; exact r2, fun i => vf (off + i), fun i e he => (hvf _ _ (hget i e he)).1, fun i hi => ?_, fun hne => ?_⟩
            · rw [hlen] at hi
              have he := List.getElem?_eq_getElem (l := B.es) (i := off + i) (by omega)
              rw [(hvf _ _ he).2.1, hs]
            · have hp : 0 < len := by rw [← hlen]; exact List.length_pos_iff.2 hne
              refine ⟨c, off * sz, by rw [r4 hp B c (vgood_of hB) hcb, hs], fun i j y hi hy => ?_⟩
              rw [hlen] at hi
              have he := List.getElem?_eq_getElem (l := B.es) (i := off + i) (by omega)
              have := (hvf _ _ he).2.2 j y hy
              rw [cell_at hh, ← this, hs]
              congr 1
              rw [Nat.add_mul]
      · cases h
    · cases h
  · cases h

end
end Go.Abs

/- How the state goes on where memory is made or written. -/
namespace Go.Abs

/-- The operation comes to its abstract answer. -/
def Ok (P : Program) (o : Oper) (a : Act) (lo base : Nat) (g : G) (v : AV) (h' : Heap) : Prop :=
  ∃ n v' w' r' St', (execOp a.eval o).run P g.w = .ok n w' ∧ (n = .value v' ∨ n = .skip ∧ v' = undef) ∧ Rep ⟨h', r', w', St'⟩ v v' ∧ HRep lo ⟨h', r', w', St'⟩ ∧ Step lo base g ⟨h', r', w', St'⟩

theorem Yl.ok {P : Program} {o : Oper} {a : Act} {lo base : Nat} {g : G} {v : AV} (h : Yl P o a g v) (hr : HRep lo g) : Ok P o a lo base g v g.h := by
  obtain ⟨v', h1, h2⟩ := h
  exact ⟨_, v', g.w, g.r, g.St, h1, .inl rfl, h2, hr, Step.refl lo base g⟩

section
variable {P : Program} {g : G} {fr : Frame} {a : Act} {lo base : Nat}

theorem fill_spec : ∀ {bs : List Blk} {h h' : Heap} {t : Nat}, fill h t bs = some h' → h'.length = h.length ∧ (∀ b : Nat, b < t ∨ t + bs.length ≤ b → h'[b]? = h[b]?) ∧
    (∀ (j : Nat) (B : Blk), bs[j]? = some B → h'[t + j]? = some (.live B)) ∧ ∀ b : Nat, t ≤ b → b < t + bs.length → h[b]? = some .free
  | [], h, h', t, he => by
    simp only [fill, Option.some.injEq] at he
    subst he
    exact ⟨rfl, fun _ _ => rfl, by simp, fun b h1 h2 => by simp at h2; omega⟩
  | B :: bs, h, h', t, he => by
    simp only [fill] at he
    split at he
    · rename_i hf
      obtain ⟨h1, h2, h3, h4⟩ := fill_spec he
      have ht : t < h.length := (List.getElem?_eq_some_iff.1 hf).1
      refine ⟨by simpa using h1, fun b hb => ?_, fun j C hj => ?_, fun b h5 h6 => ?_⟩
      · simp only [List.length_cons] at hb
        rw [h2 b (by omega), List.getElem?_set_ne (by omega)]
      · cases j with
        | zero =>
          simp at hj
          subst hj
          rw [Nat.add_zero, h2 t (by omega), List.getElem?_set_self ht]
        | succ j =>
          have := h3 j C (by simpa using hj)
          rwa [show t + (j + 1) = t + 1 + j by omega]
      · by_cases hb : b = t
        · subst hb; exact hf
        · simp only [List.length_cons] at h6
          have := h4 b (by omega) (by omega)
          rwa [List.getElem?_set_ne (by omega)] at this
    · cases he

theorem place_spec {bs : List Blk} {h h' : Heap} {t : Nat} (he : place h t bs = some h') : h.length ≤ h'.length ∧ (∀ b : Nat, b < t ∨ t + bs.length ≤ b → h'[b]? = h[b]?) ∧
    (∀ (j : Nat) (B : Blk), bs[j]? = some B → h'[t + j]? = some (.live B)) ∧ ∀ b : Nat, t ≤ b → b < t + bs.length → h[b]? = some .free ∨ h[b]? = none := by
  unfold place at he
  split at he
  · rename_i ht
    cases he
    subst ht
    refine ⟨by simp, fun b hb => ?_, fun j B hj => ?_, fun b h1 _ => .inr (List.getElem?_eq_none h1)⟩
    · rcases hb with hb | hb
      · exact List.getElem?_append_left hb
      · rw [List.getElem?_eq_none (by simpa using hb), List.getElem?_eq_none (by omega)]
    · rw [List.getElem?_append_right (by omega)]
      simp [hj]
  · obtain ⟨h1, h2, h3, h4⟩ := fill_spec he
    exact ⟨by omega, h2, h3, fun b h5 h6 => .inl (h4 b h5 h6)⟩

/-- The old blocks of a world are what they were. -/
structure Grows (w w' : World) : Prop where
  size : w.heap.size ≤ w'.heap.size
  old : ∀ c, c < w.heap.size → w'.heap[c]? = w.heap[c]?
  os : w'.os = w.os
  tape : w'.tape = w.tape
  output : w'.output = w.output

theorem Grows.refl (w : World) : Grows w w := ⟨Nat.le_refl _, fun _ _ => rfl, rfl, rfl, rfl⟩
theorem Grows.alloc (w : World) (o : Obj) : Grows w (w.alloc o) :=
  ⟨by simp, fun c hc => by simp [World.alloc, -World.alloc_eq, Array.getElem?_push, Nat.ne_of_lt hc], rfl, rfl, rfl⟩
theorem Grows.drewAlloc (w : World) (o : Obj) : Grows w (w.drew.alloc o) :=
  ⟨by simp, fun c hc => by simp [World.alloc, World.drew, -World.alloc_eq, -World.drew_eq, Array.getElem?_push, Nat.ne_of_lt hc], rfl, rfl, rfl⟩

theorem shape_of_heap {w w' : World} {c : Nat} (h : w'.heap[c]? = w.heap[c]?) : w'.shape? c = w.shape? c := by simp [World.shape?, h]

/-- New blocks, old ones as they were. -/
theorem grow_step {h' : Heap} {r' : RM} {w' : World} {St' : Nat → Prop} (hw : Grows g.w w') (hlen : g.h.length ≤ h'.length) (hhb : r'.hb = g.r.hb)
    (hent : ∀ b : Nat, (h'[b]? = g.h[b]? ∧ (∀ B, vblk g.h g.r b = some B → r' b = g.r b)) ∨ ((g.h[b]? = none ∨ g.h[b]? = some .free) ∧ base ≤ b))
    (hnew : ∀ (b : Nat) (B : Blk) (c : Nat), (g.h[b]? = none ∨ g.h[b]? = some .free) → vblk h' r' b = some B → r' b = some c → g.w.heap.size ≤ c)
    (hst : ∀ c, g.St c → St' c) (hst' : ∀ c, c < g.w.heap.size → St' c → g.St c) : Step lo base g ⟨h', r', w', St'⟩ := by
  have old : ∀ {b : Nat} {B : Blk}, vblk g.h g.r b = some B → vblk h' r' b = some B ∧ r' b = g.r b := by
    intro b B hB
    rcases hent b with ⟨h1, h2⟩ | ⟨h1, _⟩
    · exact ⟨(vblk_congr (r := g.r) (r' := r') h1 (fun _ => by rw [hhb])).trans hB, h2 B hB⟩
    · rw [vblk_none h1] at hB
      cases hB
  exact {
    len := hlen
    hid := fun b hb => by
      rcases hent b with ⟨h1, _⟩ | ⟨h1, _⟩
      · exact ⟨h1.trans hb, by simp only [hhb]⟩
      · rcases h1 with h1 | h1 <;> rw [h1] at hb <;> cases hb
    free := fun b hb hf => by
      rcases hent b with ⟨h1, _⟩ | ⟨_, h1⟩
      · exact h1.trans hf
      · omega
    live := fun b B hB => ⟨B, (old hB).1, rfl, rfl, id, Nat.le_refl _, fun _ => (old hB).2⟩
    keep := fun b B hB _ => old hB
    scp := fun b B B' _ hB hB' n hn => by
      have := (old hB).1
      rw [show vblk h' r' b = some B' from hB'] at this
      cases this
      exact hn
    size := hw.size
    old := fun c hc _ => hw.old c hc
    shp := fun c hc => shape_of_heap (hw.old c hc)
    img := fun b B c hB hc hlt => by
      rcases hent b with ⟨h1, h2⟩ | ⟨h1, _⟩
      · have hB0 : vblk g.h g.r b = some B := (vblk_congr (r := g.r) (r' := r') h1 (fun _ => by rw [hhb])) ▸ hB
        exact ⟨⟨B, hB0⟩, by rw [← h2 B hB0]; exact hc⟩
      · have := hnew b B c h1 hB hc
        omega
    st := hst
    stNew := fun c hc hs => .inl (hst' c hc hs)
    os := hw.os
    tape := hw.tape
    output := hw.output }

theorem BlkRep.step {g' : G} (s : Step lo base g g') (hr : HRep lo g) {b : Nat} {B : Blk} (h : BlkRep g b B) (hc : g'.r b = g.r b) (hh : ∀ c, g.r b = some c → g'.w.heap[c]? = g.w.heap[c]?) : BlkRep g' b B := by
  obtain ⟨h1, h2⟩ := h
  refine ⟨fun hn => h1 (hc ▸ hn), fun c hcc => ?_⟩
  obtain ⟨cells, k1, k2, k3⟩ := h2 c (hc ▸ hcc)
  refine ⟨cells, (hh c (hc ▸ hcc)).trans k1, k2, fun i e he => ?_⟩
  obtain ⟨v, m1, m2, m3⟩ := k3 i e he
  exact ⟨v, m1.step s hr, m2, m3⟩

theorem grow_hrep {h' : Heap} {r' : RM} {w' : World} {St' : Nat → Prop} (hr : HRep lo g) (hw : Grows g.w w') (s : Step lo base g ⟨h', r', w', St'⟩) (hhb : r'.hb = g.r.hb)
    (hent : ∀ b : Nat, (h'[b]? = g.h[b]? ∧ (∀ B, vblk g.h g.r b = some B → r' b = g.r b)) ∨ ((g.h[b]? = none ∨ g.h[b]? = some .free) ∧ base ≤ b))
    (hnew : ∀ (b : Nat) (B : Blk) (c : Nat), (g.h[b]? = none ∨ g.h[b]? = some .free) → vblk h' r' b = some B → r' b = some c → g.w.heap.size ≤ c)
    (hrep : ∀ (b : Nat) (B : Blk), (g.h[b]? = none ∨ g.h[b]? = some .free) → vblk h' r' b = some B → BlkRep ⟨h', r', w', St'⟩ b B)
    (hinj : ∀ (b b' : Nat) (B B' : Blk) (c : Nat), (g.h[b]? = none ∨ g.h[b]? = some .free) → (g.h[b']? = none ∨ g.h[b']? = some .free) → vblk h' r' b = some B → vblk h' r' b' = some B' → r' b = some c → r' b' = some c → b = b')
    (hst' : ∀ c, c < g.w.heap.size → St' c → g.St c) (hstn : ∀ c, St' c → c < w'.heap.size ∧ ∀ (b : Nat) (B : Blk), (g.h[b]? = none ∨ g.h[b]? = some .free) → vblk h' r' b = some B → r' b ≠ some c)
    (hfz : ∀ (b : Nat) (B : Blk), (g.h[b]? = none ∨ g.h[b]? = some .free) → vblk h' r' b = some B → B.frz = false) : HRep lo ⟨h', r', w', St'⟩ := by
  have imgOld : ∀ {b : Nat} {B : Blk} {c : Nat}, vblk g.h g.r b = some B → g.r b = some c → c < g.w.heap.size := by
    intro b B c hB hc
    obtain ⟨cells, h1, _⟩ := (hr.blks b B hB).2 c hc
    exact (Array.getElem?_eq_some_iff.1 h1).1
  have cls : ∀ {b : Nat} {B : Blk}, vblk h' r' b = some B → (vblk g.h g.r b = some B ∧ r' b = g.r b) ∨ (g.h[b]? = none ∨ g.h[b]? = some .free) := by
    intro b B hB
    rcases hent b with ⟨h1, h2⟩ | ⟨h1, _⟩
    · have hB0 : vblk g.h g.r b = some B := (vblk_congr (r := g.r) (r' := r') h1 (fun _ => by rw [hhb])) ▸ hB
      exact .inl ⟨hB0, h2 B hB0⟩
    · exact .inr h1
  refine ⟨fun b B hB => ?_, fun b b' B B' c hB hB' hc hc' => ?_, fun b B c hlo hB hf hc hS => ?_, fun c hc => (hstn c hc).1, fun b B c hB hf hc => ?_⟩
  · rcases cls hB with ⟨h1, h2⟩ | h1
    · exact (hr.blks b B h1).step s hr h2 fun c hc => hw.old c (imgOld h1 hc)
    · exact hrep b B h1 hB
  · have hc : r' b = some c := hc
    have hc' : r' b' = some c := hc'
    rcases cls hB with ⟨h1, h2⟩ | h1 <;> rcases cls hB' with ⟨h3, h4⟩ | h3
    · exact hr.inj b b' B B' c h1 h3 (h2 ▸ hc) (h4 ▸ hc')
    · have := imgOld h1 (h2 ▸ hc)
      have := hnew b' B' c h3 hB' hc'
      omega
    · have := imgOld h3 (h4 ▸ hc')
      have := hnew b B c h1 hB hc
      omega
    · exact hinj b b' B B' c h1 h3 hB hB' hc hc'
  · have hc : r' b = some c := hc
    rcases cls hB with ⟨h1, h2⟩ | h1
    · have hlt := imgOld h1 (h2 ▸ hc)
      exact hr.nost b B c hlo h1 hf (h2 ▸ hc) (hst' c hlt hS)
    · exact (hstn c hS).2 b B h1 hB hc
  · have hc : r' b = some c := hc
    rcases cls hB with ⟨h1, h2⟩ | h1
    · exact s.st c (hr.frst b B c h1 hf (h2 ▸ hc))
    · rw [hfz b B h1 hB] at hf
      cases hf

def rNew (g : G) (tgt n : Nat) (c0 : Option Nat) : RM := ⟨fun b => if b = tgt then c0 else if tgt < b ∧ b < tgt + n then none else g.r b, g.r.hb⟩

theorem place_new {B : Blk} {gs : List Blk} {h' : Heap} {tgt : Nat} {w' : World} (hr : HRep lo g) (hp : place g.h tgt (B :: gs) = some h') (hgs : ∀ C ∈ gs, C.es = []) (hfz : ∀ C ∈ B :: gs, C.frz = false) (hb : base ≤ tgt) (hw : Grows g.w w')
    (c0 : Option Nat) (hc0 : ∀ c, c0 = some c → g.w.heap.size ≤ c ∧ c < w'.heap.size) (St' : Nat → Prop) (hS1 : ∀ c, g.St c → St' c) (hS2 : ∀ c, St' c → g.St c ∨ (g.w.heap.size ≤ c ∧ c < w'.heap.size ∧ c0 ≠ some c)) :
    Step lo base g ⟨h', rNew g tgt (gs.length + 1) c0, w', St'⟩ ∧ (BlkRep ⟨h', rNew g tgt (gs.length + 1) c0, w', St'⟩ tgt B → HRep lo ⟨h', rNew g tgt (gs.length + 1) c0, w', St'⟩) := by
  obtain ⟨p1, p2, p3, p4⟩ := place_spec hp
  simp only [List.length_cons] at p2 p4
  have hent : ∀ b : Nat, (h'[b]? = g.h[b]? ∧ (∀ C, vblk g.h g.r b = some C → rNew g tgt (gs.length + 1) c0 b = g.r b)) ∨ ((g.h[b]? = none ∨ g.h[b]? = some .free) ∧ base ≤ b) := by
    intro b
    by_cases h : b < tgt ∨ tgt + (gs.length + 1) ≤ b
    · refine .inl ⟨p2 b h, fun C _ => ?_⟩
      simp only [rNew]
      rw [if_neg (by omega), if_neg (by omega)]
    · exact .inr ⟨(p4 b (by omega) (by omega)).symm, by omega⟩
  have inNew : ∀ {b : Nat} {C : Blk}, (g.h[b]? = none ∨ g.h[b]? = some .free) → vblk h' (rNew g tgt (gs.length + 1) c0) b = some C → tgt ≤ b ∧ b < tgt + (gs.length + 1) := by
    intro b C h1 h2
    by_cases h : b < tgt ∨ tgt + (gs.length + 1) ≤ b
    · rw [vblk_congr (r := g.r) (r' := rNew g tgt (gs.length + 1) c0) (p2 b h) (fun _ => rfl), vblk_none h1] at h2
      cases h2
    · omega
  have rt : ∀ {b c : Nat}, tgt ≤ b → b < tgt + (gs.length + 1) → rNew g tgt (gs.length + 1) c0 b = some c → b = tgt ∧ c0 = some c := by
    intro b c h1 h2 h3
    simp only [rNew] at h3
    split at h3
    · rename_i he; exact ⟨he, h3⟩
    · rw [if_pos (by omega)] at h3; cases h3
  have hnew : ∀ (b : Nat) (C : Blk) (c : Nat), (g.h[b]? = none ∨ g.h[b]? = some .free) → vblk h' (rNew g tgt (gs.length + 1) c0) b = some C → rNew g tgt (gs.length + 1) c0 b = some c → g.w.heap.size ≤ c := by
    intro b C c h1 h2 h3
    obtain ⟨h4, h5⟩ := inNew h1 h2
    exact (hc0 c (rt h4 h5 h3).2).1
  have hs2 : ∀ c, c < g.w.heap.size → St' c → g.St c := fun c hc hs => by
    rcases hS2 c hs with h | h
    · exact h
    · omega
  have s : Step lo base g ⟨h', rNew g tgt (gs.length + 1) c0, w', St'⟩ := grow_step hw p1 rfl hent hnew hS1 hs2
  refine ⟨s, fun hB => grow_hrep hr hw s rfl hent hnew (fun b C h1 h2 => ?_) (fun b b' C C' c h1 h2 h3 h4 h5 h6 => ?_) hs2 (fun c hc => ?_) fun b C h1 h2 => ?_⟩
  · obtain ⟨h4, h5⟩ := inNew h1 h2
    by_cases hbt : b = tgt
    · subst hbt
      have := vblk_live (r := rNew g b (gs.length + 1) c0) (p3 0 B rfl)
      simp only [Nat.add_zero] at this
      rw [h2] at this
      cases this
      exact hB
    · have hj : (B :: gs)[b - tgt]? = some C := by
        have hlt : b - tgt < (B :: gs).length := by simp; omega
        have := vblk_live (r := rNew g tgt (gs.length + 1) c0) (p3 (b - tgt) _ (List.getElem?_eq_getElem hlt))
        rw [show tgt + (b - tgt) = b by omega, h2] at this
        cases this
        exact List.getElem?_eq_getElem hlt
      have hC : C ∈ gs := by
        obtain ⟨k, hk⟩ : ∃ k, b - tgt = k + 1 := ⟨b - tgt - 1, by omega⟩
        rw [hk] at hj
        exact List.mem_of_getElem? (by simpa using hj)
      have hrn : rNew g tgt (gs.length + 1) c0 b = none := by
        simp only [rNew]
        rw [if_neg hbt, if_pos (by omega)]
      refine ⟨fun _ => hgs C hC, fun c hc => ?_⟩
      rw [show rNew g tgt (gs.length + 1) c0 b = some c from hc] at hrn
      cases hrn
  · obtain ⟨k1, k2⟩ := inNew h1 h3
    obtain ⟨k3, k4⟩ := inNew h2 h4
    rw [(rt k1 k2 h5).1, (rt k3 k4 h6).1]
  · rcases hS2 c hc with h | h
    · refine ⟨Nat.lt_of_lt_of_le (hr.stlt c h) hw.size, fun b C h1 h2 h3 => ?_⟩
      have := hnew b C c h1 h2 h3
      have := hr.stlt c h
      omega
    · refine ⟨h.2.1, fun b C h1 h2 h3 => ?_⟩
      obtain ⟨h4, h5⟩ := inNew h1 h2
      exact h.2.2 (rt h4 h5 h3).2
  · obtain ⟨h4, h5⟩ := inNew h1 h2
    have hlt : b - tgt < (B :: gs).length := by simp; omega
    have := vblk_live (r := rNew g tgt (gs.length + 1) c0) (p3 (b - tgt) _ (List.getElem?_eq_getElem hlt))
    rw [show tgt + (b - tgt) = b by omega, h2] at this
    cases this
    exact hfz _ (List.getElem_mem hlt)

theorem refOk_new {h' : Heap} {tgt : Nat} {bs : List Blk} {r' : RM} {w' : World} {St' : Nat → Prop} {h : Heap} (hp : place h tgt bs = some h') {j : Nat} {B : Blk} (hj : bs[j]? = some B) : refOk ⟨h', r', w', St'⟩ (tgt + j) B.es.length :=
  ⟨B, vblk_live ((place_spec hp).2.2.1 j B hj), Nat.le_refl _⟩
theorem good_new {h' h : Heap} {r' : RM} {tgt : Nat} {bs : List Blk} (hp : place h tgt bs = some h') {j : Nat} {B : Blk} (hj : bs[j]? = some B) : vgood h' r' (tgt + j) B.es.length = some B :=
  vgood_eq.2 ⟨vblk_live ((place_spec hp).2.2.1 j B hj), rfl⟩

end
end Go.Abs

/- Operations that make memory: boxes, slices. -/
namespace Go.Abs

section
variable {P : Program} {g : G} {fr : Frame} {a : Act} {lo base : Nat}

theorem ghosts_spec (x : AV) : ∀ (gh : List (Nat × Nat × Nat)) (t : Nat), (ghosts x t gh).2.length = gh.length ∧ ((∀ C ∈ (ghosts x t gh).2, C.es = []) ∧ ∀ C ∈ (ghosts x t gh).2, C.frz = false) ∧ (ghosts x t gh).1.length = x.cells.length ∧
    ∀ (j : Nat) (y : AV), (ghosts x t gh).1[j]? = some y → x.cells[j]? = some y ∨ (x.cells[j]? = some .emp ∧ ∃ k C, y = .sl C.sz (t + k) 0 0 0 ∧ (ghosts x t gh).2[k]? = some C)
  | [], t => by simp [ghosts]
  | (q, ty, sz) :: gh, t => by
    obtain ⟨h1, ⟨h2, h2'⟩, h3, h4⟩ := ghosts_spec x gh (t + 1)
    have lift : ∀ (j : Nat) (y : AV) (B : Blk), (ghosts x (t + 1) gh).1[j]? = some y → x.cells[j]? = some y ∨ (x.cells[j]? = some .emp ∧ ∃ k C, y = .sl C.sz (t + k) 0 0 0 ∧ (B :: (ghosts x (t + 1) gh).2)[k]? = some C) := by
      intro j y B hy
      rcases h4 j y hy with h | ⟨h, k, C, hk, hC⟩
      · exact .inl h
      · exact .inr ⟨h, k + 1, C, by rw [hk]; congr 1; omega, by simpa using hC⟩
    simp only [ghosts]
    split
    · rename_i hq
      refine ⟨by simp [h1], ⟨fun C hC => ?_, fun C hC => ?_⟩, by simp [h3], fun j y hy => ?_⟩
      · rcases List.mem_cons.1 hC with rfl | hC
        · rfl
        · exact h2 C hC
      · rcases List.mem_cons.1 hC with rfl | hC
        · rfl
        · exact h2' C hC
      · by_cases hj : q = j
        · subst hj
          have hlt : q < (ghosts x (t + 1) gh).1.length := by rw [h3]; exact (List.getElem?_eq_some_iff.1 hq).1
          rw [List.getElem?_set_self hlt] at hy
          cases hy
          exact .inr ⟨hq, 0, _, by simp, rfl⟩
        · rw [List.getElem?_set_ne hj] at hy
          exact lift j y _ hy
    · refine ⟨by simp [h1], ⟨fun C hC => ?_, fun C hC => ?_⟩, h3, fun j y hy => lift j y _ hy⟩
      · rcases List.mem_cons.1 hC with rfl | hC
        · rfl
        · exact h2 C hC
      · rcases List.mem_cons.1 hC with rfl | hC
        · rfl
        · exact h2' C hC

theorem alloc_at (w : World) (o : Obj) : (w.alloc o).heap[w.heap.size]? = some o := by simp [World.alloc, -World.alloc_eq]

theorem rNew_tgt (g : G) (tgt n : Nat) (c0 : Option Nat) : rNew g tgt n c0 tgt = c0 := by simp [rNew]

/-- A variable's block. -/
theorem box_ok {tgt ty sz : Nat} {gh : List (Nat × Nat × Nat)} {x v : AV} {xv : Value} {h' : Heap} (hr : HRep lo g) (hx : Rep g x xv) (hb : base ≤ tgt) (h : boxAV g.h tgt ty sz gh x = some (v, h')) :
    ∃ r' St', Rep ⟨h', r', g.w.alloc (.cells xv.cells ty), St'⟩ v (.pointer (some ⟨g.w.heap.size, 0, none⟩)) ∧ HRep lo ⟨h', r', g.w.alloc (.cells xv.cells ty), St'⟩ ∧ Step lo base g ⟨h', r', g.w.alloc (.cells xv.cells ty), St'⟩ := by
  have hcl := (rep_cells hx).1
  unfold boxAV at h
  split at h
  · rename_i hsz
    have fin : ∀ (y : AV) (gs : List Blk), place g.h tgt ({ ty, sz, frz := false, es := [y] } :: gs) = some h' → (∀ C ∈ gs, C.es = []) → (∀ C ∈ gs, C.frz = false) →
        (∀ g', Step lo base g g' → g'.h = h' → (∀ k C, gs[k]? = some C → g'.r (tgt + 1 + k) = none) → Rep g' y xv) →
        ∃ r' St', Rep ⟨h', r', g.w.alloc (.cells xv.cells ty), St'⟩ (.ptr tgt 1 0 0) (.pointer (some ⟨g.w.heap.size, 0, none⟩)) ∧ HRep lo ⟨h', r', g.w.alloc (.cells xv.cells ty), St'⟩ ∧ Step lo base g ⟨h', r', g.w.alloc (.cells xv.cells ty), St'⟩ := by
      intro y gs hp hgs hgf hy
      obtain ⟨s, hh⟩ := place_new (lo := lo) (base := base) hr hp hgs (fun C hC => by rcases List.mem_cons.1 hC with rfl | hC; exact rfl; exact hgf C hC) hb (Grows.alloc g.w (.cells xv.cells ty)) (some g.w.heap.size) (fun c hc => by cases hc; simp) g.St (fun _ h => h) (fun _ h => .inl h)
      refine ⟨_, g.St, .ptr ?_ ?_, hh ⟨fun hn => ?_, fun c hc => ?_⟩, s⟩
      · simpa using refOk_new (r' := rNew g tgt (gs.length + 1) (some g.w.heap.size)) (w' := g.w.alloc (.cells xv.cells ty)) (St' := g.St) hp (j := 0) rfl
      · intro B c hg hc
        simp only [rNew_tgt, Option.some.injEq] at hc
        subst hc
        simp
      · simp only [rNew_tgt] at hn; cases hn
      · simp only [rNew_tgt, Option.some.injEq] at hc
        subst hc
        refine ⟨xv.cells, alloc_at _ _, by simp [← hcl, hsz], fun i e he => ?_⟩
        cases i with
        | succ i => simp at he
        | zero =>
          simp at he
          subst he
          refine ⟨xv, hy _ s rfl (fun k C hk => ?_), by rw [← hcl, hsz], fun j z hz => by simpa using hz⟩
          have hlt := (List.getElem?_eq_some_iff.1 hk).1
          simp only [rNew]
          rw [if_neg (by omega), if_pos (by omega)]
    split at h
    · split at h
      · rename_i h1 hp
        cases h
        exact fin x [] hp (by simp) (by simp) fun g' s _ _ => hx.step s hr
      · cases h
    · simp only at h
      split at h
      · rename_i h1 hp
        split at h
        · rename_i ha
          cases h
          obtain ⟨k1, ⟨k2, k5⟩, k3, k4⟩ := ghosts_spec x gh (tgt + 1)
          refine fin _ _ hp k2 k5 fun g' s hg' hn => ?_
          obtain ⟨vs, rfl, h3⟩ := rep_agg hx ha
          obtain ⟨hl, hp2⟩ := rep_cells hx
          refine .agg (by rw [k3]; exact hl) (fun j y z hy hz => ?_) h3
          rcases k4 j y hy with h | ⟨he, k, C, rfl, hC⟩
          · exact (hp2 j y z h hz).step s hr
          · have h5 := hp2 j .emp z he hz
            cases h5
            have hj : ({ ty, sz, frz := false, es := [.agg (ghosts x (tgt + 1) gh).1] } :: (ghosts x (tgt + 1) gh).2)[k + 1]? = some C := by simpa using hC
            have hes := k2 C (List.mem_of_getElem? hC)
            have ok := refOk_new (r' := g'.r) (w' := g'.w) (St' := g'.St) hp hj
            have gd := good_new (r' := g'.r) hp hj
            rw [show tgt + (k + 1) = tgt + 1 + k by omega, hes] at ok gd
            have ok' : refOk g' (tgt + 1 + k) 0 := by rw [← hg'] at ok; exact ok
            refine .sl ok' (Nat.le_refl _) (Nat.le_refl _) (fun B hB => ?_) (by simp) (by simp) (fun _ B hB => ?_)
            · rw [hg'] at hB
              rw [show ([] : List AV).length = 0 from rfl, hB] at gd
              cases gd
              rfl
            · exact ⟨fun _ => rfl, fun c hc => by rw [hn k C hC] at hc; cases hc⟩
        · cases h
      · cases h
  · cases h

theorem ok_box {o : Oper} {t n tgt : Nat} {gh : List (Nat × Nat × Nat)} {x : Operand} {x' : Opd} {v : AV} {h' : Heap} (ho : o.op = .box t x) (hx : opd x = some x') (hf : FrRep g fr a) (hr : HRep lo g) (hb : base ≤ tgt)
    (h : boxAV g.h tgt t n gh (x'.get fr) = some (v, h')) : Ok P o a lo base g v h' := by
  obtain ⟨r', St', h1, h2, h3⟩ := box_ok hr (opd_rep hf hx) hb h
  refine ⟨_, _, _, r', St', ?_, .inl rfl, h1, h2, h3⟩
  simp [execOp, ho, Instr.box, newVar, newRow]

theorem ok_alloc {o : Oper} {t n tgt : Nat} {gh : List (Nat × Nat × Nat)} {z v : AV} {h' : Heap} (ho : o.op = .alloc t) (hz : zeroAV P t = some z) (hr : HRep lo g) (hb : base ≤ tgt)
    (h : boxAV g.h tgt t n gh z = some (v, h')) : Ok P o a lo base g v h' := by
  obtain ⟨zv, hzr, hzc, _⟩ := zeroAV_run hz g.w
  obtain ⟨r', St', h1, h2, h3⟩ := box_ok hr (constAV_rep hzc) hb h
  refine ⟨_, _, _, r', St', ?_, .inl rfl, h1, h2, h3⟩
  simp [execOp, ho, Instr.alloc, hzr, newVar, newRow]

end
end Go.Abs

/- Operations that make slices. -/
set_option linter.unusedSimpArgs false
set_option linter.unusedVariables false
namespace Go.Abs

section
variable {P : Program} {g : G} {fr : Frame} {a : Act} {lo base : Nat}

/-- Elements one behind the other in a row of cells. -/
def ER (g : G) (sz : Nat) (es : List AV) (cells : Array Value) : Prop :=
  ∀ (i : Nat) (e : AV), es[i]? = some e → ∃ v : Value, Rep g e v ∧ v.cells.size = sz ∧ ∀ (j : Nat) (x : Value), v.cells[j]? = some x → cells[i * sz + j]? = some x

theorem apart_at {i k sz j : Nat} (h : k ≠ i) (hj : j < sz) : ¬ (i * sz ≤ k * sz + j ∧ k * sz + j < i * sz + sz) := by
  intro ⟨h1, h2⟩
  rcases Nat.lt_or_gt_of_ne h with hk | hk
  · have : (k + 1) * sz ≤ i * sz := Nat.mul_le_mul_right _ hk
    rw [Nat.add_mul] at this
    omega
  · have : (i + 1) * sz ≤ k * sz := Nat.mul_le_mul_right _ hk
    rw [Nat.add_mul] at this
    omega
theorem row_lt {i n sz j m : Nat} (hi : i < n) (hj : j < sz) (hm : n * sz ≤ m) : i * sz + j < m := by
  have : (i + 1) * sz ≤ n * sz := Nat.mul_le_mul_right _ hi
  rw [Nat.add_mul] at this
  omega

theorem ER.put {sz : Nat} {es : List AV} {cells : Array Value} (h : ER g sz es cells) {x : AV} {v : Value} (hx : Rep g x v) (hs : v.cells.size = sz) {i : Nat} (hi : i < es.length) (hl : es.length * sz ≤ cells.size) :
    ER g sz (es.set i x) (v.cells.zipIdx.foldl (fun cs (x : Value × Nat) => cs.setIfInBounds (i * sz + x.2) x.1) cells) := by
  obtain ⟨s1, s2⟩ := arr_foldl_put (i * sz) v.cells cells
  intro k e he
  by_cases hk : i = k
  · subst hk
    rw [List.getElem?_set_self hi] at he
    cases he
    refine ⟨v, hx, hs, fun j y hy => ?_⟩
    have hj : j < sz := hs ▸ (Array.getElem?_eq_some_iff.1 hy).1
    rw [s2, if_pos ⟨by omega, by omega, row_lt hi hj hl⟩]
    simpa using hy
  · rw [List.getElem?_set_ne hk] at he
    obtain ⟨u, h1, h2, h3⟩ := h k e he
    refine ⟨u, h1, h2, fun j y hy => ?_⟩
    have hj : j < sz := h2 ▸ (Array.getElem?_eq_some_iff.1 hy).1
    have := apart_at (i := i) (k := k) (sz := sz) (j := j) (fun h => hk h.symm) hj
    rw [s2, if_neg (by omega)]
    exact h3 j y hy

theorem ER.step {g' : G} {sz : Nat} {es : List AV} {cells : Array Value} (h : ER g sz es cells) (s : Step lo base g g') (hr : HRep lo g) : ER g' sz es cells := fun i e he => by
  obtain ⟨v, h1, h2, h3⟩ := h i e he
  exact ⟨v, h1.step s hr, h2, h3⟩

theorem made_get (z : Array Value) (n i j : Nat) (x : Value) (hi : i < n) (hx : z[j]? = some x) : (madeCells z (n * z.size))[i * z.size + j]? = some x := by
  have hj : j < z.size := (Array.getElem?_eq_some_iff.1 hx).1
  have hlt : i * z.size + j < n * z.size := row_lt hi hj (Nat.le_refl _)
  simp only [madeCells, Array.getElem?_map, Array.getElem?_range]
  rw [if_pos hlt]
  simp only [Option.map_some, Option.some.injEq]
  have : (i * z.size + j) % z.size = j := by rw [Nat.mul_comm, Nat.mul_add_mod]; exact Nat.mod_eq_of_lt hj
  rw [this]
  simp only [getElem!_def, hx]

theorem ER.made {zv : Value} {z : AV} (hz : constAV zv = some z) (n : Nat) : ER g zv.cells.size (List.replicate n z) (madeCells zv.cells (n * zv.cells.size)) := by
  intro i e he
  have hi : i < n := by simpa using (List.getElem?_eq_some_iff.1 he).1
  rw [List.getElem?_replicate_of_lt hi] at he
  cases he
  exact ⟨zv, constAV_rep hz, rfl, fun j x hx => made_get _ _ _ _ _ hi hx⟩

theorem els_run (hf : FrRep g fr a) (sz : Nat) : ∀ (ps : List (Nat × Operand)) (ps' : List (Nat × Opd)) (es es' : List AV) (cells : Array Value), mapO elPart ps = some ps' → buildEls sz es fr ps' = some es' → ER g sz es cells → es.length * sz = cells.size →
      ∃ cells', Instr.fill (fun i => some (i * sz, sz)) cells (ps.map fun p => (p.1, a.eval p.2)) = some cells' ∧ ER g sz es' cells' ∧ es'.length = es.length ∧ cells'.size = cells.size
  | [], ps', es, es', cells, hp, hb, hr, hl => by
    simp only [mapO, Option.some.injEq] at hp
    subst hp
    simp only [buildEls, Option.some.injEq] at hb
    subst hb
    exact ⟨cells, rfl, hr, rfl, rfl⟩
  | (i, x) :: ps, ps', es, es', cells, hp, hb, hr, hl => by
    simp only [mapO] at hp
    split at hp
    · rename_i y ys hy hys
      cases hp
      unfold elPart at hy
      split at hy
      · rename_i x' hx
        cases hy
        simp only [buildEls] at hb
        split at hb
        · rename_i hc
          obtain ⟨hc1, hc2, hc3⟩ := hc
          have hx' : Rep g (x'.get fr) (a.eval x) := opd_rep hf hx
          have hvs : (a.eval x).cells.size = sz := by rw [← (rep_cells hx').1]; exact hc1
          have h' := hr.put hx' hvs hc2 (by omega)
          obtain ⟨s1, s2⟩ := arr_foldl_put (i * sz) (a.eval x).cells cells
          obtain ⟨cells', k1, k2, k3, k4⟩ := els_run hf sz ps ys _ es' _ hys hb h' (by rw [s1]; simpa using hl)
          refine ⟨cells', ?_, k2, by simpa using k3, by rw [k4, s1]⟩
          simp only [List.map_cons, Instr.fill]
          rw [if_neg, k1]
          have : (i + 1) * sz ≤ es.length * sz := Nat.mul_le_mul_right _ hc2
          rw [Nat.add_mul] at this
          simp only [Bool.or_eq_true, decide_eq_true_eq, not_or, Decidable.not_not, Nat.not_lt, ne_eq]
          omega
        · cases hb
      · cases hy
    · cases hp

/-- A new row that stays as it is: only the world and the list of what stays go on. -/
theorem stable_new {w' : World} (hr : HRep lo g) (hw : Grows g.w w') (St' : Nat → Prop) (h1 : ∀ c, g.St c → St' c) (h2 : ∀ c, St' c → g.St c ∨ (g.w.heap.size ≤ c ∧ c < w'.heap.size)) :
    Step lo base g ⟨g.h, g.r, w', St'⟩ ∧ HRep lo ⟨g.h, g.r, w', St'⟩ := by
  have no : ∀ {b : Nat} {B : Blk}, (g.h[b]? = none ∨ g.h[b]? = some .free) → vblk g.h g.r b = some B → False := by
    intro b B h3 h4
    rw [vblk_none h3] at h4
    cases h4
  have hs2 : ∀ c, c < g.w.heap.size → St' c → g.St c := fun c hc hs => by
    rcases h2 c hs with h | h
    · exact h
    · omega
  have s : Step lo base g ⟨g.h, g.r, w', St'⟩ := grow_step hw (Nat.le_refl _) rfl (fun b => .inl ⟨rfl, fun _ _ => rfl⟩) (fun b B c h3 h4 _ => (no h3 h4).elim) h1 hs2
  refine ⟨s, grow_hrep hr hw s rfl (fun b => .inl ⟨rfl, fun _ _ => rfl⟩) (fun b B c h3 h4 _ => (no h3 h4).elim) (fun b B h3 h4 => (no h3 h4).elim) (fun b b' B B' c h3 _ h4 _ _ _ => (no h3 h4).elim) hs2 (fun c hc => ⟨?_, fun b B h3 h4 => (no h3 h4).elim⟩) fun b B h3 h4 => (no h3 h4).elim⟩
  rcases h2 c hc with h | h
  · exact Nat.lt_of_lt_of_le (hr.stlt c h) hw.size
  · exact h.2

/-- A new slice: its row is a block of the abstract heap. -/
theorem slice_new {tgt ty sz n cap : Nat} {es : List AV} {cells : Array Value} {h' : Heap} {w' : World} (hr : HRep lo g) (hb : base ≤ tgt) (hw : Grows g.w w') (hc : w'.heap[g.w.heap.size]? = some (.cells cells ty (0, 0)))
    (hp : place g.h tgt [{ ty, sz, frz := false, es }] = some h') (hn : es.length = n) (hcap : cap * sz = cells.size) (hle : n ≤ cap) (he : ER g sz es cells) :
    ∃ r' St', Rep ⟨h', r', w', St'⟩ (.sl sz tgt n 0 n) (.slice (some ⟨g.w.heap.size, 0, none⟩) n cap) ∧ HRep lo ⟨h', r', w', St'⟩ ∧ Step lo base g ⟨h', r', w', St'⟩ := by
  subst hn
  have hlt : g.w.heap.size < w'.heap.size := (Array.getElem?_eq_some_iff.1 hc).1
  obtain ⟨s, hh⟩ := place_new (lo := lo) (base := base) hr hp (by simp) (by simp) hb hw (some g.w.heap.size) (fun c hc => by cases hc; exact ⟨Nat.le_refl _, hlt⟩) g.St (fun _ h => h) (fun _ h => .inl h)
  have ok := refOk_new (r' := rNew g tgt (([] : List Blk).length + 1) (some g.w.heap.size)) (w' := w') (St' := g.St) hp (j := 0) rfl
  have gd := good_new (r' := rNew g tgt (([] : List Blk).length + 1) (some g.w.heap.size)) hp (j := 0) rfl
  simp only [Nat.add_zero] at ok gd
  refine ⟨_, g.St, .sl ok hle (by simp) (fun B hB => ?_) (fun _ => ⟨_, rfl⟩) (fun hp2 B c hB hcb => ?_) (fun _ B hB => ?_), hh ⟨fun hn => ?_, fun c hcb => ?_⟩, s⟩
  · rw [gd] at hB
    cases hB
    rfl
  · simp only [rNew_tgt, Option.some.injEq] at hcb
    subst hcb
    simp
  · rw [gd] at hB
    cases hB
    refine ⟨fun hn => by (simp only [rNew_tgt] at hn; cases hn), fun c hcb => ?_⟩
    simp only [rNew_tgt, Option.some.injEq] at hcb
    subst hcb
    exact ⟨fun _ => rfl, cells.size, by simp [World.shape?, hc], Nat.le_of_eq hcap⟩
  · simp only [rNew_tgt] at hn; cases hn
  · simp only [rNew_tgt, Option.some.injEq] at hcb
    subst hcb
    have : es.length * sz ≤ cap * sz := Nat.mul_le_mul_right _ hle
    exact ⟨cells, hc, by simp only; omega, fun i e h => (he.step s hr) i e h⟩

/-- A new slice that stays as it is. -/
theorem slice_ro {sz n cap : Nat} {es : List AV} {cells : Array Value} {ty : TypeId} {fz : Nat × Nat} {w' : World} (hr : HRep lo g) (hw : Grows g.w w') (hc : w'.heap[g.w.heap.size]? = some (.cells cells ty fz))
    (hn : es.length = n) (hle : n ≤ cap) (he : ER g sz es cells) :
    ∃ r' St', Rep ⟨g.h, r', w', St'⟩ (.ro sz es) (.slice (some ⟨g.w.heap.size, 0, none⟩) n cap) ∧ HRep lo ⟨g.h, r', w', St'⟩ ∧ Step lo base g ⟨g.h, r', w', St'⟩ := by
  subst hn
  have hlt : g.w.heap.size < w'.heap.size := (Array.getElem?_eq_some_iff.1 hc).1
  obtain ⟨s, hh⟩ := stable_new (lo := lo) (base := base) (w' := w') hr hw (fun c => g.St c ∨ c = g.w.heap.size) (fun c h => .inl h) (fun c h => h.imp id fun h => by subst h; exact ⟨Nat.le_refl _, hlt⟩)
  have hex : ∀ i, ∃ v : Value, ∀ e, es[i]? = some e → Rep g e v ∧ v.cells.size = sz ∧ ∀ (j : Nat) (x : Value), v.cells[j]? = some x → cells[i * sz + j]? = some x := by
    intro i
    cases h : es[i]? with
    | none => exact ⟨undef, fun e h => by cases h⟩
    | some e =>
      obtain ⟨v, h1, h2, h3⟩ := he i e h
      exact ⟨v, fun e' h => by cases h; exact ⟨h1, h2, h3⟩⟩
  refine ⟨g.r, _, .ro (fun i => Classical.choose (hex i)) (fun i x hx => ((Classical.choose_spec (hex i)) x hx).1.step s hr) (fun i hi => ((Classical.choose_spec (hex i)) _ (List.getElem?_eq_getElem hi)).2.1) hle fun _ => ⟨g.w.heap.size, 0, rfl, .inr rfl, fun i j x hi hx => ?_⟩, hh, s⟩
  have := ((Classical.choose_spec (hex i)) _ (List.getElem?_eq_getElem hi)).2.2 j x hx
  rw [cell_at hc, Nat.zero_add]
  exact this

theorem ok_mksl {o : Oper} {t e sz bs tgt n m : Nat} {z v : AV} {l c : Operand} {l' c' : Opd} {h' : Heap} (ho : o.op = .makeSlice t l c) (ht : elemTy P t = some e) (hsz : tySize P e = some sz) (hbs : tyBytes P e = some bs) (hz : zeroAV P e = some z)
    (hb1 : bs ≤ 4096) (hl : opd l = some l') (hc : opd c = some c') (hf : FrRep g fr a) (hr : HRep lo g) (hb : base ≤ tgt) (hn : natArg (l'.get fr) = some n) (hm : natArg (c'.get fr) = some m) (hnm : n = m) (hmost : n ≤ most) (hzs : z.cells.length = sz)
    (hp : place g.h tgt [{ ty := e, sz, frz := false, es := List.replicate n z }] = some h') (hv : v = .sl sz tgt n 0 n) : Ok P o a lo base g v h' := by
  subst hnm
  subst hv
  obtain ⟨kl, el⟩ := nat_of hn (opd_rep hf hl)
  obtain ⟨kc, ec⟩ := nat_of hm (opd_rep hf hc)
  obtain ⟨zv, _, hzc, i, hi, hiz⟩ := zeroAV_run hz g.w
  have hzv : zv.cells.size = sz := by rw [← (rep_cells (constAV_rep (g := g) hzc)).1]; exact hzs
  have hsi : i.size = sz := by simpa [tySize, hi] using hsz
  have hbi : i.bytes = bs := by simpa [tyBytes, hi] using hbs
  have hmo : n ≤ 1073741824 := hmost
  have hbn : i.bytes * n ≤ 4096 * 1073741824 := Nat.mul_le_mul (by omega) hmo
  have run := run_make (P := P) g.w t e i zv (elemTy_eq ht) hi hiz kl kc n n (by omega) (by omega) (by have : ((i.bytes * n : Nat) : Int) ≤ (4096 * 1073741824 : Nat) := by exact_mod_cast hbn
                                                                                                       simp only [Int.natCast_mul] at this
                                                                                                       omega) (by omega)
  simp only [Int.toNat_natCast] at run
  rw [hsi, ← hzv] at run
  subst hzv
  obtain ⟨r', St', h1, h2, h3⟩ := slice_new (lo := lo) (base := base) (cap := n) hr hb (Grows.alloc g.w (.cells (madeCells zv.cells (n * zv.cells.size)) e)) (alloc_at _ _) hp (by simp) (by simp [size_madeCells]) (Nat.le_refl _) (ER.made hzc n)
  refine ⟨_, _, _, r', St', ?_, .inl rfl, h1, h2, h3⟩
  simp only [execOp, ho, el, ec]
  exact run_vv run

theorem ok_buildSl {o : Oper} {t e sz len tgt : Nat} {ps : Array (Nat × Operand)} {ps' : List (Nat × Opd)} {z v : AV} {es : List AV} {h' : Heap} {asRo : Bool} (ho : o.op = .buildSlice t len ps) (ht : elemTy P t = some e) (hsz : tySize P e = some sz) (hz : zeroAV P e = some z)
    (hp : mapO elPart ps.toList = some ps') (hlim : len * sz ≤ 16777216) (hpos : 0 < sz) (hzs : z.cells.length = sz) (hf : FrRep g fr a) (hr : HRep lo g) (hb : base ≤ tgt) (he : buildEls sz (List.replicate len z) fr ps' = some es)
    (h : (if len = 0 then some (AV.emp, g.h) else if asRo then some (AV.ro sz es, g.h) else match place g.h tgt [{ ty := e, sz, frz := false, es }] with
          | some h' => some (.sl sz tgt len 0 len, h')
          | none => none) = some (v, h')) : Ok P o a lo base g v h' := by
  obtain ⟨zv, hzr, hzc, _⟩ := zeroAV_run hz g.w
  have hzv : zv.cells.size = sz := by rw [← (rep_cells (constAV_rep (g := g) hzc)).1]; exact hzs
  have hm := ER.made (g := g) hzc len
  rw [hzv] at hm
  obtain ⟨cells, k1, k2, k3, k4⟩ := els_run hf sz ps.toList ps' _ es _ hp he hm (by simp [size_madeCells])
  simp only [List.length_replicate] at k3
  rw [size_madeCells] at k4
  have run : (execOp a.eval o).run P g.w = .ok (.value (.slice (some ⟨g.w.heap.size, 0, none⟩) len len)) (g.w.alloc (.cells cells e)) := by
    simp only [execOp, ho]
    refine run_vv ?_
    have hn : ¬ (len * sz > 2 ^ 24) := by omega
    by_cases h0 : len * sz = 0
    · have hmade : ∀ f : Nat → Value, (Array.range (len * sz)).map f = madeCells zv.cells (len * sz) := by
        intro f
        rw [h0]
        simp [madeCells]
      simp only [Instr.buildSlice, Sem.run_bind, und_run (elemTy_eq ht), Result.andThen_ok, size_run hsz, if_neg hn]
      simp only [if_pos h0, hmade, Array.toList_map, k1, Sem.run_pure, Result.andThen_ok]
      simp [hmade, k1, newRow]
    · have hmade : (Array.range (len * sz)).map (zv.cells[· % zv.cells.size]!) = madeCells zv.cells (len * sz) := rfl
      simp only [Instr.buildSlice, Sem.run_bind, und_run (elemTy_eq ht), Result.andThen_ok, size_run hsz, if_neg hn, Sem.run_pure]
      simp only [if_neg h0, Sem.run_bind, hzr, Sem.run_pure, Result.andThen_ok, hmade, Array.toList_map, k1]
      simp [newRow]
  split at h
  · rename_i h0
    cases h
    subst h0
    obtain ⟨s, hh⟩ := stable_new (lo := lo) (base := base) hr (Grows.alloc g.w (.cells cells e)) g.St (fun _ h => h) (fun _ h => .inl h)
    exact ⟨_, _, _, g.r, g.St, run, .inl rfl, .emp, hh, s⟩
  · split at h
    · cases h
      obtain ⟨r', St', h1, h2, h3⟩ := slice_ro (lo := lo) (base := base) hr (Grows.alloc g.w (.cells cells e)) (alloc_at _ _) k3 (Nat.le_refl _) k2
      exact ⟨_, _, _, r', St', run, .inl rfl, h1, h2, h3⟩
    · split at h
      · rename_i hp2
        cases h
        obtain ⟨r', St', h1, h2, h3⟩ := slice_new (lo := lo) (base := base) hr hb (Grows.alloc g.w (.cells cells e)) (alloc_at _ _) hp2 k3 k4.symm (Nat.le_refl _) k2
        exact ⟨_, _, _, r', St', run, .inl rfl, h1, h2, h3⟩
      · cases h

theorem isU8T_eq {t : Nat} (h : isU8T P t = true) : P.underlying t = some (.int .u8) := by
  unfold isU8T at h
  split at h
  · assumption
  · cases h

theorem ok_s2b {o : Oper} {s d e : Nat} {x : Operand} {x' : Opd} {l : List UInt8} (ho : o.op = .convert s d x) (hx : opd x = some x') (hf : FrRep g fr a) (hr : HRep lo g) (hs : P.underlying s = some .string) (hd : P.underlying d = some (.slice e)) (he : isU8T P e = true)
    (h : x'.get fr = .str l) : Ok P o a lo base g (.ro 1 (l.map fun c => .int .u8 c.toNat)) g.h := by
  have e1 := opd_rep hf hx
  rw [h] at e1
  have e1 := rep_str e1
  have run := Lib.run_convert_string_bytes (P := P) g.w s d e ⟨l.toArray⟩ hs hd (isU8T_eq he)
  have hlen : (⟨l.toArray⟩ : ByteArray).size = l.length := rfl
  rw [hlen] at run
  have hw : Grows g.w (Lib.bytesWorld g.w e ⟨l.toArray⟩) := ⟨by rw [Lib.bytesWorld_size]; omega, fun c hc => Lib.bytesWorld_at_old _ _ _ c hc, rfl, rfl, rfl⟩
  obtain ⟨r', St', h1, h2, h3⟩ := slice_ro (lo := lo) (base := base) (sz := 1) (n := l.length) (cap := grownCap g.w l.length 0 e) (es := l.map fun c => .int .u8 c.toNat) hr hw (Lib.bytesWorld_at_new _ _ _) (by simp) (grownCap_ge _ _ _ _) (fun i x hx => by
    simp only [List.getElem?_map, Option.map_eq_some_iff] at hx
    obtain ⟨c, hc, rfl⟩ := hx
    refine ⟨.int .u8 c.toNat, .int _ _, rfl, fun j y hy => ?_⟩
    cases j with
    | succ j => simp [Value.cells] at hy
    | zero =>
      simp [Value.cells] at hy
      subst hy
      have hi := (List.getElem?_eq_some_iff.1 hc).1
      have hg := (List.getElem?_eq_some_iff.1 hc).2
      simp [Lib.bytesCells, Array.getElem?_append, hi, hg])
  refine ⟨_, _, _, r', St', ?_, .inl rfl, h1, h2, h3⟩
  simp only [execOp, ho, e1]
  exact run_vv run

theorem bytesOf_spec : ∀ (xs : List AV) (l : List UInt8), bytesOf xs = some l → ∃ ns : List Int, ns.length = xs.length ∧ (∀ (i : Nat) (n : Int), ns[i]? = some n → xs[i]? = some (.int .u8 n)) ∧ l = ns.map fun n => UInt8.ofNat n.toNat
  | [], l, h => by
    simp only [bytesOf, Option.some.injEq] at h
    subst h
    exact ⟨[], rfl, by simp, rfl⟩
  | x :: xs, l, h => by
    cases x with
    | int k n =>
      cases k <;> simp only [bytesOf] at h <;> try (cases h; done)
      split at h
      · rename_i l' hl
        cases h
        obtain ⟨ns, h1, h2, h3⟩ := bytesOf_spec xs l' hl
        refine ⟨n :: ns, by simp [h1], fun i m hm => ?_, by simp [h3]⟩
        cases i with
        | zero => simp at hm; subst hm; rfl
        | succ i => simpa using h2 i m (by simpa using hm)
      · cases h
    | _ => simp [bytesOf] at h

theorem foldl_push (ns : List Int) : ∀ (s : ByteArray), ns.foldl (fun r n => r.push (UInt8.ofNat n.toNat)) s = ⟨(s.data.toList ++ ns.map fun n => UInt8.ofNat n.toNat).toArray⟩ := by
  induction ns with
  | nil => intro s; simp
  | cons n ns ih =>
    intro s
    rw [List.foldl_cons, ih]
    simp [ByteArray.push]

theorem yl_b2s {o : Oper} {s d e : Nat} {x : Operand} {x' : Opd} {l : List UInt8} {xs : List AV} (ho : o.op = .convert s d x) (hx : opd x = some x') (hf : FrRep g fr a) (hr : HRep lo g) (hs : P.underlying s = some (.slice e)) (he : isU8T P e = true) (hd : P.underlying d = some .string)
    (h : readSl g.h 1 (x'.get fr) = some xs) (hl : bytesOf xs = some l) : Yl P o a g (.str l) := by
  obtain ⟨A, cap, e1, _, vf, k1, k2, k3⟩ := readSl_of hr h (opd_rep hf hx)
  obtain ⟨ns, n1, n2, n3⟩ := bytesOf_spec xs l hl
  have run := run_convert_bytes_string (P := P) g.w s d e A xs.length cap hs (isU8T_eq he) hd
  subst n3
  have key : (Conv.bytesToString (.slice A xs.length cap)).run P g.w = .ok (.string ⟨(ns.map fun n => UInt8.ofNat n.toNat).toArray⟩) g.w := by
    by_cases hn : xs = []
    · subst hn
      have : ns = [] := List.length_eq_zero_iff.1 n1
      subst this
      cases A with
      | none => rfl
      | some ad =>
        rw [run_bytesToString (P := P) g.w ad _ cap [] (by simp [loadCells, loadCellsFrom])]
        rfl
    · obtain ⟨c, off, rfl, hc⟩ := k3 hn
      have hload : (loadCells ⟨c, off, none⟩ xs.length).run P g.w = .ok (ns.map (Value.int .u8)).toArray g.w := by
        have := run_loadCells_list (P := P) g.w ⟨c, off, none⟩ (ns.map (Value.int .u8)) (fun j y hy => by
          simp only [List.getElem?_map, Option.map_eq_some_iff] at hy
          obtain ⟨n, hn1, rfl⟩ := hy
          have hxj := n2 j n hn1
          have hv := k1 j _ hxj
          have hv := rep_int hv
          have hlt := (List.getElem?_eq_some_iff.1 hxj).1
          have := hc j 0 (.int .u8 n) hlt (by rw [hv]; rfl)
          rw [add_off]
          simpa using this)
        simpa [n1] using this
      rw [run_bytesToString (P := P) g.w _ _ cap ns hload, foldl_push]
      simp
  refine ⟨.string ⟨(ns.map fun n => UInt8.ofNat n.toNat).toArray⟩, ?_, .str _⟩
  simp only [execOp, ho, e1]
  exact run_vv (run.trans key)

end
end Go.Abs
