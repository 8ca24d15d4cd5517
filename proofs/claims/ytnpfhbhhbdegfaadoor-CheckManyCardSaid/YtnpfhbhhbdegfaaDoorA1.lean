/- The abstract interpreter: values, heap, operations, code, the evaluator and the translation of loaded code into it. Definitions alone. -/
import Derived.Orders
import Derived.LoopN
import Derived.Tactics
namespace Go.Abs

/-- Abstract values. 'ro': a slice whose content will not change; 'sl sz b g off len': a window into the abstract block b (elements of sz cells), good while that block has g elements; 'rp': a pointer into an element of such content. -/
inductive AV where
  | undef
  | int (k : IntKind) (n : Int)
  | bool (b : Bool)
  | str (s : List UInt8)
  | nilp
  | ptr (b g i o : Nat)
  | rp (sz : Nat) (e : AV) (o : Nat)
  | emp
  | nn (b : Bool)
  | ro (sz : Nat) (xs : List AV)
  | sl (sz b g off len : Nat)
  | agg (cs : List AV)
  | tup (vs : List AV)
  | fn (f : Nat) (first cap : List AV)
  deriving Inhabited

/-- Content of a row that is read; of an empty one nothing is told. -/
def mkRo (sz : Nat) (xs : List AV) : AV :=
  match xs with
  | [] => .ro 0 []
  | x :: xs => .ro sz (x :: xs)

mutual
def AV.scopd (n : Nat) : AV → Bool
  | .ptr b .. => decide (b < n)
  | .sl _ b .. => decide (b < n)
  | .rp _ e _ => e.scopd n
  | .ro _ xs => AV.scopdL n xs
  | .agg cs => AV.scopdL n cs
  | .tup vs => AV.scopdL n vs
  | .fn _ a b => AV.scopdL n a && AV.scopdL n b
  | _ => true
def AV.scopdL (n : Nat) : List AV → Bool
  | [] => true
  | x :: xs => x.scopd n && AV.scopdL n xs
end

mutual
/-- One spelling for each: an empty row is 'ro 0 []'. -/
def AV.canon : AV → AV
  | .emp => .ro 0 []
  | .ro sz xs => mkRo sz (AV.canonL xs)
  | .agg cs => .agg (AV.canonL cs)
  | .tup vs => .tup (AV.canonL vs)
  | .fn f a c => .fn f (AV.canonL a) (AV.canonL c)
  | v => v
def AV.canonL : List AV → List AV
  | [] => []
  | x :: xs => x.canon :: AV.canonL xs
end
/-- The same of a result that may be kept. -/
def AV.canonK : AV → AV
  | .emp => .emp
  | v => v.canon
def canonR (keep : Bool) (v : AV) : AV :=
  match keep, v with
  | true, .tup vs => .tup (vs.map AV.canonK)
  | true, v => v.canonK
  | false, v => v.canon

structure Blk where
  ty : Nat
  sz : Nat
  frz : Bool
  es : List AV

inductive Ent where
  | free
  | hid
  | live (B : Blk)

abbrev Heap := List Ent
abbrev Frame := Nat → AV

def upd (fr : Frame) (d : Nat) (v : AV) : Frame := fun t => if t = d then v else fr t
def updO (fr : Frame) : Option Nat → AV → Frame
  | some d, v => upd fr d v
  | none, _ => fr

def AV.cells : AV → List AV
  | .agg cs => cs
  | v => [v]
def AV.isAgg : AV → Bool
  | .agg _ => true
  | _ => false
/-- May it be stored into a variable? -/
def AV.ok : AV → Bool
  | .undef => false
  | .tup _ => false
  | _ => true

mutual
/-- No reference to an abstract block in it. -/
def AV.closed : AV → Bool
  | .ptr .. => false
  | .sl .. => false
  | .rp _ e _ => e.closed
  | .ro _ xs => AV.closedL xs
  | .agg cs => AV.closedL cs
  | .tup vs => AV.closedL vs
  | .fn _ a b => AV.closedL a && AV.closedL b
  | _ => true
def AV.closedL : List AV → Bool
  | [] => true
  | x :: xs => x.closed && AV.closedL xs
end

mutual
/-- Nothing in it that leads to memory. -/
def AV.flat : AV → Bool
  | .int .. => true
  | .bool _ => true
  | .str _ => true
  | .undef => true
  | .emp => true
  | .nilp => true
  | .ro _ xs => xs.isEmpty
  | .agg cs => AV.flatL cs
  | .tup vs => AV.flatL vs
  | _ => false
def AV.flatL : List AV → Bool
  | [] => true
  | x :: xs => x.flat && AV.flatL xs
end

def blk (h : Heap) (b : Nat) : Option Blk :=
  match h[b]? with
  | some (.live B) => some B
  | _ => none

/-- A block that still has g elements. -/
def good (h : Heap) (b g : Nat) : Option Blk :=
  match blk h b with
  | some B => if B.es.length = g then some B else none
  | none => none

/-! ### Parts of an element -/
def part (agg : Bool) (n sz o : Nat) (e : AV) : Option AV :=
  if agg then
    (if (o == 0 && n == sz && e.isAgg) = true then some e
     else if (e.isAgg && decide (o + n ≤ e.cells.length)) = true then some (.agg ((e.cells.drop o).take n)) else none)
  else e.cells[o]?

def splice (cs : List AV) (o : Nat) (vs : List AV) : List AV := cs.take o ++ vs ++ cs.drop (o + vs.length)

def putPart (n sz o : Nat) (e v : AV) : Option AV :=
  if v.cells.length = n ∧ v.ok = true then
    (if (o == 0 && n == sz && e.isAgg && v.isAgg) = true then some v
     else if o + n ≤ e.cells.length then
       (if e.isAgg = true then some (.agg (splice e.cells o v.cells))
        else if v.isAgg = true then none else some v)
     else none)
  else none

/-! ### Sealing: own slices as content -/
def mapO {α β : Type} (f : α → Option β) : List α → Option (List β)
  | [] => some []
  | x :: xs => match f x, mapO f xs with
    | some y, some ys => some (y :: ys)
    | _, _ => none

/-- Slices of blocks from ns on, and what pointers into them lead to, become content. -/
def embed (h : Heap) (ns np : Nat) : Nat → AV → Option AV
  | 0, v => if v.closed then some v else none
  | d + 1, v => if v.closed then some v else match v with
    | .sl sz b g off len =>
      if b < ns then some (.sl sz b g off len) else
      match good h b g with
      | some B => if off + len ≤ g then
          (if AV.closedL B.es then some (.ro B.sz ((B.es.drop off).take len)) else (mapO (embed h ns np d) ((B.es.drop off).take len)).map (.ro B.sz)) else none
      | none => none
    | .ptr b g i o => if b < ns then some (.ptr b g i o) else
      match good h b g with
      | some B => match B.es[i]? with
        | some e => if e.closed then some (.rp B.sz e o) else (embed h ns np d e).map (.rp B.sz · o)
        | none => none
      | none => none
    | .agg cs => (mapO (embed h ns np d) cs).map .agg
    | .tup vs => (mapO (embed h ns np d) vs).map .tup
    | .ro sz xs => (mapO (embed h ns np d) xs).map (.ro sz)
    | .fn f a c => match mapO (embed h ns np d) a, mapO (embed h ns np d) c with
      | some a', some c' => some (.fn f a' c')
      | _, _ => none
    | _ => none

/-- The blocks from ns on whose content 'embed' takes. -/
def slIds (h : Heap) (ns : Nat) : Nat → AV → List Nat
  | 0, _ => []
  | d + 1, v => if v.closed then [] else match v with
    | .sl _ b g off len =>
      if b < ns then [] else
      match good h b g with
      | some B => if AV.closedL B.es then [b] else b :: ((B.es.drop off).take len).flatMap (slIds h ns d)
      | none => []
    | .ptr b g i _ =>
      if b < ns then [] else
      match good h b g with
      | some B => match B.es[i]? with
        | some e => if e.closed then [b] else b :: slIds h ns d e
        | none => []
      | none => []
    | .agg cs => cs.flatMap (slIds h ns d)
    | .tup vs => vs.flatMap (slIds h ns d)
    | .ro _ xs => xs.flatMap (slIds h ns d)
    | .fn _ a c => a.flatMap (slIds h ns d) ++ c.flatMap (slIds h ns d)
    | _ => []

def depth : Nat := 8

/-- Blocks that from now on stay as they are. -/
def freeze1 (lo : Nat) (h : Heap) (b : Nat) : Option Heap :=
  match blk h b with
  | some B => if B.frz then some h else if lo ≤ b then some (h.set b (.live { B with frz := true })) else none
  | none => none
def freeze (lo : Nat) : Heap → List Nat → Option Heap
  | h, [] => some h
  | h, b :: bs => match freeze1 lo h b with
    | some h' => freeze lo h' bs
    | none => none

/-- New blocks: behind the last one, or in places that were kept free. -/
def fill (h : Heap) (t : Nat) : List Blk → Option Heap
  | [] => some h
  | B :: bs => match h[t]? with
    | some .free => fill (h.set t (.live B)) (t + 1) bs
    | _ => none
def place (h : Heap) (tgt : Nat) (bs : List Blk) : Option Heap :=
  if tgt = h.length then some (h ++ bs.map .live) else fill h tgt bs

/-! ### Operations -/
inductive Opd where
  | tmp (t : Nat)
  | val (v : AV)
  deriving Inhabited

def Opd.get (fr : Frame) : Opd → AV
  | .tmp t => fr t
  | .val v => v

inductive AOp where
  | move (x : Opd)
  | pick (c a b : Opd)
  | bin (op : BinOp) (x y : Opd)
  | eqB (neg : Bool) (x y : Opd)
  | eqAgg (neg : Bool) (x y : Opd)
  | un (op : UnOp) (x : Opd)
  | conv (k : IntKind) (x : Opd)
  | b2s (x : Opd)
  | s2b (ty : Nat) (x : Opd)
  | box (ty sz : Nat) (gh : List (Nat × Nat × Nat)) (x : Opd)
  | alloc (ty sz : Nat) (gh : List (Nat × Nat × Nat)) (zero : AV)
  | build (zero : List AV) (parts : List (Nat × Nat × Opd))
  | buildSl (asRo : Bool) (ty sz len : Nat) (zero : AV) (parts : List (Nat × Opd))
  | load (agg : Bool) (n : Nat) (a : Opd)
  | store (n : Nat) (a x : Opd)
  | nilChk (x : Opd)
  | mkfn (f : Nat) (first cap : List Opd)
  | mksl (ty sz bytes : Nat) (zero : AV) (len cap : Opd)
  | slStr (x : Opd) (lo hi : Option Opd)
  | slSl (sz : Nat) (x : Opd) (lo hi mx : Option Opd)
  | faddr (off : Nat) (x : Opd)
  | field (agg : Bool) (off n sz : Nat) (x : Opd)
  | iaddr (sz : Nat) (x i : Opd)
  | aaddr (len sz : Nat) (x i : Opd)
  | isNil (neg : Bool) (x : Opd)
  | istr (x i : Opd)
  | extract (x : Opd) (i : Nat)
  | call (f : Opd) (args : List Opd)
  | append (ty sz bytes : Nat) (x y : Opd)
  | clear (zero : AV) (x : Opd)
  | lenSl (x : Opd)
  | lenStr (x : Opd)
  | mx (x : Opd) (xs : List Opd)
  | mn (x : Opd) (xs : List Opd)
  deriving Inhabited

structure AOper where
  dst : Option Nat
  op : AOp
  guard : Option (Nat × Bool)
  deriving Inhabited

inductive Cls where
  | P | L | A | W | C
  deriving DecidableEq, Inhabited

structure DOper where
  o : AOper
  cls : Cls
  slot : Nat
  hidS : List Nat
  lk : List Nat
  vOnly : Bool
  root : Option Nat
  uo : List Nat
  deriving Inhabited

inductive ACode where
  | skip
  | region (ops : List AOper)
  | draw (total : Nat) (ops : List DOper)
  | seq (a b : ACode)
  | cond (c : Opd) (a b : ACode)
  | block (id : Nat) (a : ACode)
  | loop (a : ACode)
  | exit (id : Nat)
  | ret
  deriving Inhabited

inductive ARes where
  | tmp (t : Nat)
  | cell (t : Nat) (agg : Bool) (n : Nat)
  deriving Inhabited

structure AFn where
  res : List ARes
  code : ACode
  deriving Inhabited

/-! ### What operations do -/
def intBin (op : BinOp) (k : IntKind) (x y : Int) : Option AV :=
  match op with
  | .add => some (.int k (k.wrap (x + y)))
  | .sub => some (.int k (k.wrap (x - y)))
  | .mul => some (.int k (k.wrap (x * y)))
  | .quo => if y = 0 then none else some (.int k (k.wrap (x.tdiv y)))
  | .rem => if y = 0 then none else some (.int k (x.tmod y))
  | .and => some (.int k (k.wrap (BitVec.ofInt k.bits x &&& BitVec.ofInt k.bits y).toNat))
  | .or => some (.int k (k.wrap (BitVec.ofInt k.bits x ||| BitVec.ofInt k.bits y).toNat))
  | .xor => some (.int k (k.wrap (BitVec.ofInt k.bits x ^^^ BitVec.ofInt k.bits y).toNat))
  | .andNot => some (.int k (k.wrap (BitVec.ofInt k.bits x &&& ~~~BitVec.ofInt k.bits y).toNat))
  | .eql => some (.bool (x == y))
  | .neq => some (.bool (x != y))
  | .lss => some (.bool (decide (x < y)))
  | .leq => some (.bool (decide (x ≤ y)))
  | .gtr => some (.bool (decide (x > y)))
  | .geq => some (.bool (decide (x ≥ y)))
  | _ => none

def shiftBin (op : BinOp) (k : IntKind) (x y : Int) : Option AV :=
  if y < 0 then none else
  match op with
  | .shl => some (.int k (k.wrap (x * 2 ^ (min y.toNat k.bits))))
  | .shr => some (.int k (x.fdiv (2 ^ (min y.toNat k.bits))))
  | _ => none

def strBin (op : BinOp) (s t : List UInt8) : Option AV :=
  match op with
  | .eql => some (.bool (s == t))
  | .neq => some (.bool (!(s == t)))
  | .add => if s.length + t.length < 4611686018427387904 then some (.str (s ++ t)) else none
  | _ => none

def isShift : BinOp → Bool
  | .shl => true
  | .shr => true
  | _ => false

def binAV (op : BinOp) (x y : AV) : Option AV :=
  match x, y with
  | .int k a, .int k' b => if isShift op then shiftBin op k a b else if k = k' then intBin op k a b else none
  | .str s, .str t => strBin op s t
  | _, _ => none

def eqBasic : AV → AV → Option Bool
  | .int k a, .int k' b => if k = k' then some (a == b) else none
  | .bool a, .bool b => some (a == b)
  | .str a, .str b => some (a == b)
  | _, _ => none
def eqCells : List AV → List AV → Option Bool
  | [], [] => some true
  | x :: xs, y :: ys => match eqBasic x y, eqCells xs ys with
    | some a, some b => some (a && b)
    | _, _ => none
  | _, _ => none

def unAV (op : UnOp) (x : AV) : Option AV :=
  match op, x with
  | .not, .bool b => some (.bool !b)
  | .neg, .int k n => some (.int k (k.wrap (0 - n)))
  | .xor, .int k n => some (.int k (k.wrap (BitVec.ofInt k.bits (if k.signed then -1 else k.max) ^^^ BitVec.ofInt k.bits n).toNat))
  | _, _ => none

def natArg : AV → Option Nat
  | .int _ n => if 0 ≤ n then some n.toNat else none
  | _ => none
def natOpt (fr : Frame) (dflt : Nat) : Option Opd → Option Nat
  | none => some dflt
  | some x => natArg (x.get fr)

def slLen : AV → Option Nat
  | .emp => some 0
  | .nn _ => some 0
  | .ro _ xs => some xs.length
  | .sl _ _ _ _ len => some len
  | _ => none

/-- A slice's elements and their size. -/
def readSl (h : Heap) (sz : Nat) : AV → Option (List AV)
  | .emp => some []
  | .nn _ => some []
  | .ro sz' xs => if sz' = sz ∨ xs.isEmpty = true then some xs else none
  | .sl _ b g off len => match good h b g with
    | some B => if B.sz = sz ∧ off + len ≤ g then some ((B.es.drop off).take len) else none
    | none => none
  | _ => none

def cut (szT : Nat) (x : AV) (l r : Nat) : Option AV :=
  match x with
  | .emp => some .emp
  | .ro sz xs => if sz = szT ∨ xs.isEmpty = true then some (mkRo szT ((xs.take r).drop l)) else none
  | .sl sz b g off _ => if sz = szT then some (.sl sz b g (off + l) (r - l)) else none
  | _ => none

def sliceAV (szT : Nat) (x : AV) (l r : Nat) (mx : Option Nat) : Option AV :=
  match slLen x with
  | none => none
  | some n =>
    match mx with
    | none => if l ≤ r ∧ r ≤ n then cut szT x l r else none
    | some m => if l = r ∧ r = m ∧ m ≤ n then some .emp else none

def faddrAV (off : Nat) : AV → Option AV
  | .ptr b g i o => some (.ptr b g i (o + off))
  | .rp sz e o => some (.rp sz e (o + off))
  | _ => none

def iaddrAV (szT : Nat) (x i : AV) : Option AV :=
  match natArg i with
  | none => none
  | some j =>
    match x with
    | .ro sz xs => match xs[j]? with
      | some e => if sz = szT then some (.rp sz e 0) else none
      | none => none
    | .sl sz b g off len => if j < len ∧ sz = szT then some (.ptr b g (off + j) 0) else none
    | _ => none

def istrAV (x i : AV) : Option AV :=
  match natArg i, x with
  | some j, .str s => match s[j]? with
    | some c => some (.int .u8 c.toNat)
    | none => none
  | _, _ => none

def max2 (x y : AV) : Option AV :=
  match x, y with
  | .int k a, .int k' b => if k = k' then some (.int k (if b > a then b else a)) else none
  | _, _ => none
def min2 (x y : AV) : Option AV :=
  match x, y with
  | .int k a, .int k' b => if k = k' then some (.int k (if b < a then b else a)) else none
  | _, _ => none
def foldO (f : AV → AV → Option AV) : AV → List AV → Option AV
  | x, [] => some x
  | x, y :: ys => match f x y with
    | some z => foldO f z ys
    | none => none

def loadAV (h : Heap) (agg : Bool) (n : Nat) (a : AV) : Option AV :=
  match a with
  | .ptr b g i o => match good h b g with
    | some B => match B.es[i]? with
      | some e => part agg n B.sz o e
      | none => none
    | none => none
  | .rp sz e o => part agg n sz o e
  | _ => none

/-- What may be put in an old cell's place: no reference, or the same block's. -/
def okCell (new old : AV) : Bool :=
  new.closed || match new, old with
    | .sl _ a .., .sl _ b .. => a == b
    | _, _ => false
def okCells : List AV → List AV → Bool
  | [], _ => true
  | x :: xs, y :: ys => okCell x y && okCells xs ys
  | _ :: _, [] => false

def storeAV (h : Heap) (lo base : Nat) (n : Nat) (a v : AV) : Option Heap :=
  match a with
  | .ptr b g i o =>
    if lo ≤ b then
      match good h b g with
      | some B => if B.frz then none else
        match B.es[i]? with
        | some e =>
          if base ≤ b then
            match putPart n B.sz o e v with
            | some e' => some (h.set b (.live { B with es := B.es.set i e' }))
            | none => none
          else
            match embed h base base depth v with
            | some v' =>
              match freeze lo h (slIds h base depth v), putPart n B.sz o e v' with
              | some h', some e' => if okCells e'.cells e.cells then some (h'.set b (.live { B with es := B.es.set i e' })) else none
              | _, _ => none
            | none => none
        | none => none
      | none => none
    else none
  | _ => none

/-- Cells that begin as nil and are appended to by others get a block of their own from the first. -/
def ghosts (x : AV) (t : Nat) : List (Nat × Nat × Nat) → List AV × List Blk
  | [] => (x.cells, [])
  | (q, ty, sz) :: gs =>
    let r := ghosts x (t + 1) gs
    match x.cells[q]? with
    | some .emp => (r.1.set q (.sl sz t 0 0 0), { ty, sz, frz := false, es := [] } :: r.2)
    | _ => (r.1, { ty, sz, frz := false, es := [] } :: r.2)

def boxAV (h : Heap) (tgt ty sz : Nat) (gh : List (Nat × Nat × Nat)) (x : AV) : Option (AV × Heap) :=
  if x.cells.length = sz then
    match gh with
    | [] => match place h tgt [{ ty, sz, frz := false, es := [x] }] with
      | some h' => some (.ptr tgt 1 0 0, h')
      | none => none
    | _ =>
      let r := ghosts x (tgt + 1) gh
      match place h tgt ({ ty, sz, frz := false, es := [.agg r.1] } :: r.2) with
      | some h' => if x.isAgg then some (.ptr tgt 1 0 0, h') else none
      | none => none
  else none

def most : Nat := 1073741824

def appendAV (h : Heap) (lo base tgt ty sz : Nat) (x : AV) (ys : List AV) : Option (AV × Heap) :=
  match x with
  | .emp =>
    if ys.isEmpty = true then some (.emp, h) else
    if ys.length ≤ most then
      match place h tgt [{ ty, sz, frz := false, es := ys }] with
      | some h' => some (.sl sz tgt ys.length 0 ys.length, h')
      | none => none
    else none
  | .sl _ b g off len =>
    if lo ≤ b then
      match good h b g with
      | some B =>
        if (B.frz || !(off == 0) || !(len == g) || !(B.sz == sz) || !(B.ty == ty) || !(decide (g + ys.length ≤ most)) || !(ys.all AV.ok)) = true then none else
        if base ≤ b then
          some (.sl sz b (g + ys.length) 0 (g + ys.length), h.set b (.live { B with es := B.es ++ ys }))
        else
          match mapO (embed h base base depth) ys with
          | some ys' =>
            match freeze lo h (ys.flatMap (slIds h base depth)) with
            | some h' => if AV.closedL ys' then some (.sl sz b (g + ys.length) 0 (g + ys.length), h'.set b (.live { B with es := B.es ++ ys' })) else none
            | none => none
          | none => none
      | none => none
    else none
  | _ => none

def clearAV (h : Heap) (lo : Nat) (zero : AV) (x : AV) : Option Heap :=
  match x with
  | .emp => some h
  | .sl _ b g off len =>
    if lo ≤ b then
      match good h b g with
      | some B => if B.frz then none else if zero.closed ∧ zero.cells.length = B.sz ∧ off + len ≤ g then
          some (h.set b (.live { B with es := B.es.take off ++ List.replicate len zero ++ B.es.drop (off + len) })) else none
      | none => none
    else none
  | _ => none

def bytesOf : List AV → Option (List UInt8)
  | [] => some []
  | .int .u8 n :: xs => match bytesOf xs with
    | some l => some (UInt8.ofNat n.toNat :: l)
    | none => none
  | _ :: _ => none

def buildCells (cs : List AV) (fr : Frame) : List (Nat × Nat × Opd) → Option (List AV)
  | [] => some cs
  | (off, n, x) :: ps =>
    let v := x.get fr
    if v.cells.length = n ∧ off + n ≤ cs.length ∧ v.ok = true then buildCells (splice cs off v.cells) fr ps else none
def buildEls (sz : Nat) (es : List AV) (fr : Frame) : List (Nat × Opd) → Option (List AV)
  | [] => some es
  | (i, x) :: ps =>
    let v := x.get fr
    if v.cells.length = sz ∧ i < es.length ∧ v.ok = true then buildEls sz (es.set i v) fr ps else none

/-- A call: the function, the least block that may be written, where the frame that calls begins, where kept results go, the arguments. -/
abbrev CallF := Nat → Nat → Nat → Nat → List AV → Heap → Option (AV × Heap)

def put1 (h : Heap) (v : Option AV) : Option (AV × Heap) :=
  match v with
  | some x => some (x, h)
  | none => none
def putU (h : Option Heap) : Option (AV × Heap) :=
  match h with
  | some x => some (.undef, x)
  | none => none

def stepOp (cf : CallF) (lo base tgt : Nat) (op : AOp) (fr : Frame) (h : Heap) : Option (AV × Heap) :=
  match op with
  | .move x => some (x.get fr, h)
  | .pick c a b => match c.get fr with
    | .bool t => some (if t then a.get fr else b.get fr, h)
    | _ => none
  | .bin op x y => put1 h (binAV op (x.get fr) (y.get fr))
  | .eqB neg x y => match x.get fr, y.get fr with
    | .bool a, .bool b => some (.bool (if neg then !(a == b) else a == b), h)
    | _, _ => none
  | .eqAgg neg x y => match eqCells (x.get fr).cells (y.get fr).cells with
    | some b => if ((x.get fr).isAgg && (y.get fr).isAgg) = true then some (.bool (if neg then !b else b), h) else none
    | none => none
  | .un op x => put1 h (unAV op (x.get fr))
  | .conv k x => match x.get fr with
    | .int _ n => some (.int k (k.wrap n), h)
    | _ => none
  | .b2s x => match readSl h 1 (x.get fr) with
    | some xs => match bytesOf xs with
      | some l => some (.str l, h)
      | none => none
    | none => none
  | .s2b _ x => match x.get fr with
    | .str s => if s.length ≤ most then some (.ro 1 (s.map fun c => .int .u8 c.toNat), h) else none
    | _ => none
  | .box ty sz gh x => boxAV h tgt ty sz gh (x.get fr)
  | .alloc ty sz gh zero => boxAV h tgt ty sz gh zero
  | .build zero parts => match buildCells zero fr parts with
    | some cs => some (.agg cs, h)
    | none => none
  | .buildSl asRo ty sz len zero parts => match buildEls sz (List.replicate len zero) fr parts with
    | some es => if zero.cells.length = sz then
        (if len = 0 then some (.emp, h)
         else if asRo then some (.ro sz es, h)
         else match place h tgt [{ ty, sz, frz := false, es }] with
          | some h' => some (.sl sz tgt len 0 len, h')
          | none => none) else none
    | none => none
  | .load agg n a => put1 h (loadAV h agg n (a.get fr))
  | .store n a x => putU (storeAV h lo base n (a.get fr) (x.get fr))
  | .nilChk x => match x.get fr with
    | .ptr b g i o => some (.ptr b g i o, h)
    | .rp sz e o => some (.rp sz e o, h)
    | _ => none
  | .mkfn f a c => some (.fn f (a.map (Opd.get fr)) (c.map (Opd.get fr)), h)
  | .mksl ty sz _ zero len cap => match natArg (len.get fr), natArg (cap.get fr) with
    | some n, some m => if n = m ∧ n ≤ most ∧ zero.cells.length = sz then
        (match place h tgt [{ ty, sz, frz := false, es := List.replicate n zero }] with
         | some h' => some (.sl sz tgt n 0 n, h')
         | none => none) else none
    | _, _ => none
  | .slStr x lo' hi => match x.get fr with
    | .str s => match natOpt fr 0 lo', natOpt fr s.length hi with
      | some l, some r => if l ≤ r ∧ r ≤ s.length then some (.str ((s.take r).drop l), h) else none
      | _, _ => none
    | _ => none
  | .slSl sz x lo' hi mx => match slLen (x.get fr) with
    | some n => match natOpt fr 0 lo', natOpt fr n hi with
      | some l, some r => match mx with
        | none => put1 h (sliceAV sz (x.get fr) l r none)
        | some m => match natArg (m.get fr) with
          | some m' => put1 h (sliceAV sz (x.get fr) l r (some m'))
          | none => none
      | _, _ => none
    | none => none
  | .faddr off x => put1 h (faddrAV off (x.get fr))
  | .field agg off n sz x => if (x.get fr).isAgg then put1 h (part agg n sz off (x.get fr)) else none
  | .iaddr sz x i => put1 h (iaddrAV sz (x.get fr) (i.get fr))
  | .aaddr len sz x i => match natArg (i.get fr) with
    | some j => if j < len then put1 h (faddrAV (j * sz) (x.get fr)) else none
    | none => none
  | .isNil neg x => match x.get fr with
    | .nn b => some (.bool (b != neg), h)
    | v => match slLen v with
      | some n => if n = 0 then none else some (.bool neg, h)
      | none => none
  | .istr x i => put1 h (istrAV (x.get fr) (i.get fr))
  | .extract x i => match x.get fr with
    | .tup vs => put1 h vs[i]?
    | _ => none
  | .call f args => match f.get fr with
    | .fn g a c => cf g lo base tgt (a ++ args.map (Opd.get fr) ++ c) h
    | _ => none
  | .append ty sz _ x y => match readSl h sz (y.get fr) with
    | some ys => appendAV h lo base tgt ty sz (x.get fr) ys
    | none => none
  | .clear zero x => putU (clearAV h lo zero (x.get fr))
  | .lenSl x => match slLen (x.get fr) with
    | some n => some (.int .i64 n, h)
    | none => none
  | .lenStr x => match x.get fr with
    | .str s => some (.int .i64 s.length, h)
    | _ => none
  | .mx x xs => put1 h (foldO max2 (x.get fr) (xs.map (Opd.get fr)))
  | .mn x xs => put1 h (foldO min2 (x.get fr) (xs.map (Opd.get fr)))

def wants (fr : Frame) : Option (Nat × Bool) → Bool
  | none => true
  | some (t, w) => match fr t with
    | .bool b => b == w
    | _ => false

def runOps (cf : CallF) (lo base : Nat) : List AOper → Frame → Heap → Option (Frame × Heap)
  | [], fr, h => some (fr, h)
  | o :: os, fr, h =>
    if wants fr o.guard then
      match stepOp cf lo base h.length o.op fr h with
      | some (v, h') => runOps cf lo base os (updO fr o.dst v) h'
      | none => none
    else runOps cf lo base os (updO fr o.dst .undef) h

/-! ### Regions whose order is open -/
def ptrBlk : AV → Option Nat
  | .ptr b _ _ _ => some b
  | .sl _ b _ _ _ => some b
  | _ => none
def touch (fr : Frame) : AOp → Option Nat
  | .load _ _ a => ptrBlk (a.get fr)
  | .b2s x => ptrBlk (x.get fr)
  | .store _ a _ => ptrBlk (a.get fr)
  | .append _ _ _ x _ => ptrBlk (x.get fr)
  | .clear _ x => ptrBlk (x.get fr)
  | _ => none

def hide : List Nat → Heap → Heap
  | [], h => h
  | b :: bs, h => hide bs (h.set b .hid)
def restore : List Nat → Heap → Heap → Heap
  | [], _, h' => h'
  | b :: bs, h, h' => match h[b]? with
    | some e => restore bs h (h'.set b e)
    | none => restore bs h h'
def Ent.isFree : Ent → Bool
  | .free => true
  | _ => false
/-- Free places at the end, behind the first n, are given back. -/
def trim (n : Nat) (h : Heap) : Heap := h.take n ++ ((h.drop n).reverse.dropWhile Ent.isFree).reverse

structure DSt where
  fr : Frame
  h : Heap
  log : Nat → Option Nat

def offLog (log : Nat → Option Nat) (b : Option Nat) (uo : List Nat) : Bool :=
  match b with
  | none => true
  | some b => uo.all fun k => !(log k == some b)
def rootOk (fr0 fr : Frame) (o : DOper) : Bool :=
  match o.root with
  | none => true
  | some t => match touch fr o.o.op with
    | none => true
    | some b => ptrBlk (fr0 t) == some b

/-- The places that an operation may not see. -/
def dIds (n0 : Nat) (fr0 : Frame) (o : DOper) : List Nat :=
  match o.cls with
  | .P => []
  | .A => []
  | .C => o.hidS.map (n0 + ·) ++ o.lk.filterMap fun t => ptrBlk (fr0 t)
  | _ => o.hidS.map (n0 + ·)
def callsV (stOf : Nat → Bool) (fr : Frame) : AOp → Bool
  | .call f _ => match f.get fr with
    | .fn g _ _ => !(stOf g)
    | _ => false
  | _ => false
def dCond (stOf : Nat → Bool) (fr0 : Frame) (o : DOper) (fr : Frame) (log : Nat → Option Nat) : Bool :=
  match o.cls with
  | .L => offLog log (touch fr o.o.op) o.uo && rootOk fr0 fr o
  | .W => offLog log (touch fr o.o.op) o.uo
  | .C => !o.vOnly || callsV stOf fr o.o.op
  | _ => true
def dLog (i : Nat) (o : DOper) (fr : Frame) (log : Nat → Option Nat) : Nat → Option Nat :=
  match o.cls with
  | .L => fun k => if k = i then touch fr o.o.op else log k
  | .W => fun k => if k = i then touch fr o.o.op else log k
  | _ => log

def stepD (cf : CallF) (stOf : Nat → Bool) (lo base n0 : Nat) (fr0 : Frame) (i : Nat) (o : DOper) (s : DSt) : Option DSt :=
  if wants s.fr o.o.guard then
    if dCond stOf fr0 o s.fr s.log = true then
      if o.cls = .P then
        match stepOp cf lo base (n0 + o.slot) o.o.op s.fr [] with
        | some (v, _) => some { s with fr := updO s.fr o.o.dst v }
        | none => none
      else
        match stepOp cf lo base (n0 + o.slot) o.o.op s.fr (hide (dIds n0 fr0 o) s.h) with
        | some (v, h') => if h'.length = s.h.length then some { fr := updO s.fr o.o.dst v, h := restore (dIds n0 fr0 o) s.h h', log := dLog i o s.fr s.log } else none
        | none => none
    else none
  else some { s with fr := updO s.fr o.o.dst .undef }

def runD (cf : CallF) (stOf : Nat → Bool) (lo base n0 : Nat) (fr0 : Frame) : Nat → List DOper → DSt → Option DSt
  | _, [], s => some s
  | i, o :: os, s => match stepD cf stOf lo base n0 fr0 i o s with
    | some s' => runD cf stOf lo base n0 fr0 (i + 1) os s'
    | none => none

/-! ### Code -/
inductive Out where
  | normal
  | exit (id : Nat)
  | ret
  deriving DecidableEq

abbrev R := Out × Frame × Heap
abbrev Body := Frame → Heap → Option R

def andThen (r : Option R) (k : Body) : Option R :=
  match r with
  | some (.normal, fr, h) => k fr h
  | r => r
def inBlk (id : Nat) (r : Option R) : Option R :=
  match r with
  | some (.exit j, fr, h) => if j = id then some (.normal, fr, h) else some (.exit j, fr, h)
  | r => r

structure Ctx where
  cf : CallF
  it : Body → Body
  stOf : Nat → Bool

def exec (c : Ctx) (lo base : Nat) : ACode → Body
  | .skip, fr, h => some (.normal, fr, h)
  | .region ops, fr, h => match runOps c.cf lo base ops fr h with
    | some (fr', h') => some (.normal, fr', h')
    | none => none
  | .draw total ops, fr, h => match runD c.cf c.stOf lo base h.length fr 0 ops { fr, h := h ++ List.replicate total .free, log := fun _ => none } with
    | some s => some (.normal, s.fr, trim h.length s.h)
    | none => none
  | .seq a b, fr, h => andThen (exec c lo base a fr h) (exec c lo base b)
  | .cond t a b, fr, h => match t.get fr with
    | .bool t => if t then exec c lo base a fr h else exec c lo base b fr h
    | _ => none
  | .block id a, fr, h => inBlk id (exec c lo base a fr h)
  | .loop a, fr, h => c.it (exec c lo base a) fr h
  | .exit id, fr, h => some (.exit id, fr, h)
  | .ret, fr, h => some (.ret, fr, h)

def iter (n : Nat) (b : Body) (fr : Frame) (h : Heap) : Option R :=
  match n with
  | 0 => none
  | n + 1 => andThen (b fr h) (iter n b)

/-! ### Calls -/
structure Pol where
  st : Bool
  keep : Bool
  raw : Bool
  top : Nat
  deriving Inhabited

def initFr (args : List AV) : Frame := fun t => args.getD t .undef

def resAV (h : Heap) (fr : Frame) : ARes → Option AV
  | .tmp t => some (fr t)
  | .cell t agg n => loadAV h agg n (fr t)
def resultAV (h : Heap) (fr : Frame) (rs : List ARes) : Option AV :=
  match mapO (resAV h fr) rs with
  | some [v] => some v
  | some vs => some (.tup vs)
  | none => none

def bodyAV (c : Ctx) (fn : AFn) (lo base : Nat) (args : List AV) (h : Heap) : Option (AV × Heap) :=
  match exec c lo base fn.code (initFr args) h with
  | some (.normal, fr, h') => put1 h' (resultAV h' fr fn.res)
  | some (.ret, fr, h') => put1 h' (resultAV h' fr fn.res)
  | _ => none

/-- A result behind the call: fresh slices are kept as blocks (from 'tgt' on), all else is sealed. -/
def seal1 (keep : Bool) (h : Heap) (base tgt : Nat) (v : AV) : Option (AV × List Blk) :=
  match keep, v with
  | true, .sl _ b g off len =>
    if base ≤ b then
      match good h b g with
      | some B => if (B.frz || !(off == 0) || !(decide (len ≤ g))) = true then none else
        match (if AV.closedL B.es then some (B.es.take len) else mapO (embed h base base depth) (B.es.take len)) with
        | some es => some (.sl B.sz tgt len 0 len, [{ B with es }])
        | none => none
      | none => none
    else some (v, [])
  | _, v => match embed h base base depth v with
    | some v' => some (v', [])
    | none => none
def sealL (keep : Bool) (h : Heap) (base tgt : Nat) : List AV → Option (List AV × List Blk)
  | [] => some ([], [])
  | v :: vs => match seal1 keep h base tgt v with
    | some (x, bs) => match sealL keep h base (tgt + bs.length) vs with
      | some (xs, bs') => some (x :: xs, bs ++ bs')
      | none => none
    | none => none
def sealAV (keep : Bool) (h : Heap) (base tgt : Nat) (v : AV) : Option (AV × List Blk) :=
  match keep, v with
  | true, .tup vs => match sealL keep h base tgt vs with
    | some (xs, bs) => some (.tup xs, bs)
    | none => none
  | _, v => seal1 keep h base tgt v

def keptOf (base : Nat) : AV → List Nat
  | .sl _ b _ _ _ => if base ≤ b then [b] else []
  | _ => []
def keptIds (keep : Bool) (base : Nat) (v : AV) : List Nat :=
  match keep, v with
  | true, .tup vs => vs.flatMap (keptOf base)
  | true, v => keptOf base v
  | false, _ => []
def embIds1 (keep : Bool) (h : Heap) (base : Nat) (v : AV) : List Nat :=
  match keep, v with
  | true, .sl _ b g _ len =>
    if base ≤ b then
      match good h b g with
      | some B => if AV.closedL B.es then [] else (B.es.take len).flatMap (slIds h base depth)
      | none => []
    else []
  | _, v => slIds h base depth v
def embIds (keep : Bool) (h : Heap) (base : Nat) (v : AV) : List Nat :=
  match keep, v with
  | true, .tup vs => vs.flatMap (embIds1 true h base)
  | _, v => embIds1 keep h base v
/-- No kept block is kept twice, nor is one content of another result. -/
def keepsOk (keep : Bool) (h : Heap) (base : Nat) (v : AV) : Bool :=
  decide ((keptIds keep base v).Nodup) && (keptIds keep base v).all fun k => !((embIds keep h base v).contains k)

def AV.isSl : AV → Bool
  | .sl .. => true
  | _ => false
/-- Results that lead to no old memory. -/
def flatRes (r : AV) (bs : List Blk) : Bool := (r.flat || r.isSl) && bs.all fun B => AV.flatL B.es

/-- What a call that may write sees of memory: all up to the blocks that it is led to by its pointers (or by its first argument, a slice), and 'top' blocks more. -/
def topPtr : AV → Nat
  | .ptr b .. => b + 1
  | _ => 0
def topOf (top : Nat) (args : List AV) : Nat :=
  match args with
  | .sl _ b .. :: _ => b + 1 + top
  | _ => match (args.map topPtr).foldl max 0 with
    | 0 => 0
    | n + 1 => n + 1 + top
/-- The blocks below k are there, or free, and lead to none from k on. -/
def lowOk (k : Nat) (h : Heap) : Bool := decide (k ≤ h.length) && (h.take k).all fun e => match e with
  | .live B => AV.scopdL k B.es
  | .free => true
  | .hid => false

def callPol (p : Pol) (body : Nat → Nat → List AV → Heap → Option (AV × Heap)) (lo base tgt : Nat) (args : List AV) (h : Heap) : Option (AV × Heap) :=
  if p.raw then body lo base args h
  else if p.st then
    match freeze lo h (args.flatMap (slIds h (topOf p.top args) depth)), mapO (embed h (topOf p.top args) (topOf p.top args) depth) args with
    | some h2, some args' =>
      if (lowOk (topOf p.top args) h2 && decide (lo ≤ topOf p.top args)) = true then
        match body lo (topOf p.top args) (args'.map AV.canon) (h2.take (topOf p.top args)) with
        | some (v, h1) =>
          match sealAV p.keep h1 (topOf p.top args) tgt v with
          | some (r, bs) => if (keepsOk p.keep h1 (topOf p.top args) v && decide (bs.length ≤ 2)) = true then put1' (canonR p.keep r) (place (h1.take (topOf p.top args) ++ h2.drop (topOf p.top args)) tgt bs) else none
          | none => none
        | none => none
      else none
    | _, _ => none
  else
    match mapO (embed h 0 0 depth) args with
    | some args' =>
      match body 0 0 (args'.map AV.canon) [] with
      | some (v, h1) =>
        match sealAV p.keep h1 0 tgt v with
        | some (r, bs) =>
          if (keepsOk p.keep h1 0 v && decide (bs.length ≤ 2)) = true then
            (if flatRes r bs = true then put1' (canonR p.keep r) (place h tgt bs)
             else match freeze lo h (args.flatMap (slIds h 0 depth)) with
              | some h2 => put1' (canonR p.keep r) (place h2 tgt bs)
              | none => none)
          else none
        | none => none
      | none => none
    | none => none
where put1' (r : AV) (h : Option Heap) : Option (AV × Heap) :=
  match h with
  | some h => some (r, h)
  | none => none

/-- A program: its functions, how each is called, and those that are told by themselves. -/
structure Prg where
  fns : Nat → Option AFn
  pol : Nat → Pol
  ext : Nat → Option (Nat → Nat → Nat → List AV → Heap → Option (AV × Heap))

def callN (P : Prg) : Nat → CallF
  | 0, _, _, _, _, _, _ => none
  | k + 1, f, lo, base, tgt, args, h =>
    match P.ext f with
    | some e => e lo base tgt args h
    | none => match P.fns f with
      | some fn => callPol (P.pol f) (bodyAV { cf := callN P k, it := iter k, stOf := fun g => (P.pol g).st || (P.pol g).raw } fn) lo base tgt args h
      | none => none

end Go.Abs
