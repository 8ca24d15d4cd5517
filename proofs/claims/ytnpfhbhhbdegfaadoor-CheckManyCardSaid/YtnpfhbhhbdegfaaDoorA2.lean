/- The translation of loaded code into the abstract interpreter's code: a plain function. Definitions alone. -/
import Derived.Test.YtnpfhbhhbdegfaaDoorA1
namespace Go.Abs

section
variable (P : Program) (gh : Nat → List (Nat × Nat × Nat))

def tySize (t : Nat) : Option Nat := (P.info? t).map (·.size)
def tyBytes (t : Nat) : Option Nat := (P.info? t).map (·.bytes)
def tyAgg (t : Nat) : Option Bool :=
  match P.underlying t with
  | some (.struct _) => some true
  | some (.array _ _) => some true
  | some _ => some false
  | none => none
def elemTy (t : Nat) : Option Nat :=
  match P.underlying t with
  | some (.slice e) => some e
  | _ => none

def constAV1 : Value → Option AV
  | .int k n => some (.int k n)
  | .bool b => some (.bool b)
  | .string s => some (.str s.data.toList)
  | .pointer none => some .nilp
  | .slice none 0 0 => some .emp
  | _ => none
def constAV : Value → Option AV
  | .agg cs => (mapO constAV1 cs.toList).map .agg
  | v => constAV1 v
def zeroAV (t : Nat) : Option AV :=
  match P.info? t with
  | some i => match i.zero with
    | some v => constAV v
    | none => none
  | none => none

def opd : Operand → Option Opd
  | .tmp t => some (.tmp t)
  | .const v => (constAV v).map .val
  | .func f => some (.val (.fn f [] []))
  | .global _ => none
def opdO : Option Operand → Option (Option Opd)
  | none => some none
  | some x => (opd x).map some

def fieldOf (s f : Nat) : Option (Nat × Nat × Bool) :=
  match P.underlying s with
  | some (.struct fs) => match fs[f]? with
    | some fd => match tySize P fd.type, tyAgg P fd.type with
      | some n, some a => some (fd.offset, n, a)
      | _, _ => none
    | none => none
  | _ => none

def fieldsOk (t : Nat) : Bool :=
  match P.underlying t with
  | some (.struct fs) => fs.toList.all fun f => (tySize P f.type).isSome
  | _ => false
def buildPart (t : Nat) (p : Nat × Operand) : Option (Nat × Nat × Opd) :=
  match fieldOf P t p.1, opd p.2 with
  | some (off, n, _), some x => some (off, n, x)
  | _, _ => none
def elPart (p : Nat × Operand) : Option (Nat × Opd) :=
  match opd p.2 with
  | some x => some (p.1, x)
  | none => none

def isIntT (t : Nat) : Bool :=
  match P.underlying t with
  | some (.int _) => true
  | _ => false
def isStrT (t : Nat) : Bool :=
  match P.underlying t with
  | some .string => true
  | _ => false
def isBoolT (t : Nat) : Bool :=
  match P.underlying t with
  | some .bool => true
  | _ => false
def isU8T (t : Nat) : Bool :=
  match P.underlying t with
  | some (.int .u8) => true
  | _ => false

def isEq : BinOp → Option Bool
  | .eql => some false
  | .neq => some true
  | _ => none

def Opd.isEmp : Opd → Bool
  | .val .emp => true
  | _ => false
def cBin (op : BinOp) (t : Nat) (x y : Opd) : Option AOp :=
  if isIntT P t || isStrT P t then some (.bin op x y)
  else if isBoolT P t then (isEq op).map fun n => .eqB n x y
  else if (elemTy P t).isSome && y.isEmp then (isEq op).map fun n => .isNil n x
  else none

def cConv (src dst : Nat) (x : Opd) : Option AOp :=
  match P.underlying src, P.underlying dst with
  | some (.int _), some (.int k) => some (.conv k x)
  | some (.slice e), some .string => if isU8T P e then some (.b2s x) else none
  | some .string, some (.slice e) => if isU8T P e then some (.s2b e x) else none
  | _, _ => none

def cCall (c : Call) : Option AOp :=
  match c.callee, mapO opd c.args.toList with
  | .value f, some as => match opd f with
    | some g => some (.call g as)
    | none => none
  | .builtin b, some as =>
    match b, as, c.argTypes.toList with
    | .len, [x], [t] => if isStrT P t then some (.lenStr x) else match elemTy P t with
      | some _ => some (.lenSl x)
      | none => none
    | .append, [x, y], [t, u] => match elemTy P t with
      | some e => match tySize P e, tyBytes P e, zeroAV P e with
        | some sz, some bs, some z => if u = t ∧ bs ≤ 4096 ∧ 0 < sz ∧ z.cells.length = sz then some (.append e sz bs x y) else none
        | _, _, _ => none
      | none => none
    | .clear, [x], [t] => match elemTy P t with
      | some e => match tySize P e, zeroAV P e with
        | some sz, some z => if 0 < sz ∧ z.cells.length = sz then some (.clear z x) else none
        | _, _ => none
      | none => none
    | .max, x :: xs, _ => some (.mx x xs)
    | .min, x :: xs, _ => some (.mn x xs)
    | _, _, _ => none
  | _, _ => none

def compileOp (draw : Bool) (o : Op) : Option AOp :=
  match o with
  | .move x => (opd x).map .move
  | .assign x => (opd x).map .move
  | .pick c a b => match opd c, opd a, opd b with
    | some c, some a, some b => some (.pick c a b)
    | _, _, _ => none
  | .box t x => match tySize P t, opd x with
    | some n, some x => some (.box t n (gh t) x)
    | _, _ => none
  | .alloc t => match tySize P t, zeroAV P t with
    | some n, some z => some (.alloc t n (gh t) z)
    | _, _ => none
  | .build t ps => match zeroAV P t, mapO (buildPart P t) ps.toList with
    | some (.agg z), some ps => if fieldsOk P t then some (.build z ps) else none
    | _, _ => none
  | .buildSlice t len ps => match elemTy P t with
    | some e => match tySize P e, zeroAV P e, mapO elPart ps.toList with
      | some sz, some z, some ps => if len * sz ≤ 16777216 ∧ 0 < sz ∧ z.cells.length = sz then some (.buildSl draw e sz len z ps) else none
      | _, _, _ => none
    | none => none
  | .load t a => match tyAgg P t, tySize P t, opd a with
    | some g, some n, some a => some (.load g n a)
    | _, _, _ => none
  | .store t a x => match tySize P t, opd a, opd x with
    | some n, some a, some x => some (.store n a x)
    | _, _, _ => none
  | .nilCheck x => (opd x).map .nilChk
  | .binOp op t x y _ => match opd x, opd y with
    | some x, some y => cBin P op t x y
    | _, _ => none
  | .unOp op _ x => (opd x).map (.un op)
  | .convert s d x => match opd x with
    | some x => cConv P s d x
    | none => none
  | .makeFunc (.func f) a c => match mapO opd a.toList, mapO opd c.toList with
    | some a, some c => some (.mkfn f a c)
    | _, _ => none
  | .makeSlice t l c => match elemTy P t with
    | some e => match tySize P e, tyBytes P e, zeroAV P e, opd l, opd c with
      | some sz, some bs, some z, some l, some c => if bs ≤ 4096 ∧ 0 < sz ∧ z.cells.length = sz then some (.mksl e sz bs z l c) else none
      | _, _, _, _, _ => none
    | none => none
  | .slice t x lo hi mx => match opd x, opdO lo, opdO hi, opdO mx with
    | some x, some lo, some hi, some mx =>
      if isStrT P t then (match mx with
        | none => some (.slStr x lo hi)
        | some _ => none)
      else match elemTy P t with
        | some e => match tySize P e with
          | some sz => if (mx.isSome && hi.isNone) = true then none else some (.slSl sz x lo hi mx)
          | none => none
        | none => none
    | _, _, _, _ => none
  | .fieldAddr s x f => match fieldOf P s f, opd x with
    | some (off, n, _), some x => if n = 0 then none else some (.faddr off x)
    | _, _ => none
  | .indexAddr t x i => match elemTy P t, opd x, opd i with
    | some e, some x, some i => match tySize P e with
      | some sz => some (.iaddr sz x i)
      | none => none
    | none, some x, some i => match P.underlying t with
      | some (.array len e) => match tySize P e with
        | some sz => if 1 < len then some (.aaddr len sz x i) else none
        | none => none
      | _ => none
    | _, _, _ => none
  | .index t x i => match opd x, opd i with
    | some x, some i => if isStrT P t then some (.istr x i) else none
    | _, _ => none
  | .extract x i => (opd x).map (.extract · i)
  | .call c => cCall P c
  | _ => none

def guardOf (ops : Array Oper) : Option (Nat × Bool) → Option (Option (Nat × Bool))
  | none => some none
  | some (j, w) => match (ops[j]?).bind (·.dst) with
    | some t => some (some (t, w))
    | none => none

def compileOper (draw : Bool) (ops : Array Oper) (o : Oper) : Option AOper :=
  match compileOp P gh draw o.op, guardOf ops o.guard with
  | some op, some g => some { dst := o.dst, op, guard := g }
  | _, _ => none

def clsOf : AOp → Cls
  | .load .. => .L
  | .b2s _ => .L
  | .store .. => .W
  | .append .. => .W
  | .clear .. => .W
  | .call .. => .C
  | .box .. => .A
  | .alloc .. => .A
  | .mksl .. => .A
  | .buildSl false .. => .A
  | _ => .P
def nslot : AOp → Nat
  | .box _ _ g _ => 1 + g.length
  | .alloc _ _ g _ => 1 + g.length
  | .mksl .. => 1
  | .append .. => 1
  | .call .. => 2
  | .buildSl false .. => 1
  | _ => 0
def unord (bef : Array Nat) (i j : Nat) : Bool :=
  if i < j then !((bef.getD j 0).testBit i) else if j < i then !((bef.getD i 0).testBit j) else false

def Opd.reads : Opd → List Nat
  | .tmp t => [t]
  | .val _ => []
def readsO : Option Opd → List Nat
  | none => []
  | some x => x.reads
def AOp.reads : AOp → List Nat
  | .move x => x.reads
  | .pick c a b => c.reads ++ a.reads ++ b.reads
  | .bin _ x y => x.reads ++ y.reads
  | .eqB _ x y => x.reads ++ y.reads
  | .eqAgg _ x y => x.reads ++ y.reads
  | .un _ x => x.reads
  | .conv _ x => x.reads
  | .b2s x => x.reads
  | .s2b _ x => x.reads
  | .box _ _ _ x => x.reads
  | .alloc .. => []
  | .build _ ps => ps.flatMap fun p => p.2.2.reads
  | .buildSl _ _ _ _ _ ps => ps.flatMap fun p => p.2.reads
  | .load _ _ a => a.reads
  | .store _ a x => a.reads ++ x.reads
  | .nilChk x => x.reads
  | .mkfn _ a c => a.flatMap Opd.reads ++ c.flatMap Opd.reads
  | .mksl _ _ _ _ l c => l.reads ++ c.reads
  | .slStr x l h => x.reads ++ readsO l ++ readsO h
  | .slSl _ x l h m => x.reads ++ readsO l ++ readsO h ++ readsO m
  | .faddr _ x => x.reads
  | .field _ _ _ _ x => x.reads
  | .iaddr _ x i => x.reads ++ i.reads
  | .aaddr _ _ x i => x.reads ++ i.reads
  | .isNil _ x => x.reads
  | .istr x i => x.reads ++ i.reads
  | .extract x _ => x.reads
  | .call f as => f.reads ++ as.flatMap Opd.reads
  | .append _ _ _ x y => x.reads ++ y.reads
  | .clear _ x => x.reads
  | .lenSl x => x.reads
  | .lenStr x => x.reads
  | .mx x xs => x.reads ++ xs.flatMap Opd.reads
  | .mn x xs => x.reads ++ xs.flatMap Opd.reads
def AOper.reads (o : AOper) : List Nat :=
  (match o.guard with
   | some (t, _) => [t]
   | none => []) ++ o.op.reads
def writesInto (x y : AOper) : Bool :=
  match x.dst with
  | some d => y.reads.contains d || y.dst == some d
  | none => false
def apartA (x y : AOper) : Bool := !(writesInto x y) && !(writesInto y x)

def slotsOf (o : DOper) : List Nat := (List.range (nslot o.o.op)).map (o.slot + ·)
def subL (xs ys : List Nat) : Bool := xs.all fun x => ys.contains x
def rootIn (x y : DOper) : Bool :=
  (match x.root with
   | some t => y.lk.contains t
   | none => false) || y.vOnly
/-- May the two be done in either order? -/
def heapOk (i : Nat) (x : DOper) (j : Nat) (y : DOper) : Bool :=
  match x.cls, y.cls with
  | .P, _ => true
  | _, .P => true
  | .A, .A => (slotsOf x).all fun k => !((slotsOf y).contains k)
  | .A, _ => subL (slotsOf x) y.hidS
  | _, .A => subL (slotsOf y) x.hidS
  | .L, .L => !(x.uo.contains j) && !(y.uo.contains i)
  | .L, .W => x.uo.contains j && y.uo.contains i && subL (slotsOf y) x.hidS
  | .W, .L => x.uo.contains j && y.uo.contains i && subL (slotsOf x) y.hidS
  | .L, .C => subL (slotsOf y) x.hidS && rootIn x y
  | .C, .L => subL (slotsOf x) y.hidS && rootIn y x
  | _, _ => false

def trace (ops : List AOper) : Nat → Opd → Option Nat
  | 0, _ => none
  | n + 1, x => match x with
    | .val _ => none
    | .tmp t => match ops.find? (fun o => o.dst == some t) with
      | none => some t
      | some o => match o.op with
        | .faddr _ y => trace ops n y
        | .nilChk y => trace ops n y
        | .move y => trace ops n y
        | _ => none
def rootOf (ops : List AOper) : AOp → Option Nat
  | .load _ _ a => trace ops 20 a
  | _ => none

def slotAt (ops : List AOper) (i : Nat) : Nat := ((ops.take i).map (fun o => nslot o.op)).foldl (· + ·) 0

def metaOf (bef : Array Nat) (ops : List AOper) (i : Nat) (o : AOper) : DOper :=
  let n := ops.length
  let un := (List.range n).filter (unord bef i)
  let opAt := fun k => (ops.getD k default).op
  let c := clsOf o.op
  { o, cls := c, slot := slotAt ops i
    hidS := if c == .P || c == .A then [] else un.flatMap fun k => (List.range (nslot (opAt k))).map (slotAt ops k + ·)
    lk := if c == .C then (un.filter fun k => clsOf (opAt k) == .L).filterMap fun k => rootOf ops (opAt k) else []
    vOnly := c == .C && un.any fun k => clsOf (opAt k) == .L && (rootOf ops (opAt k)).isNone
    root := if c == .L && un.any fun k => clsOf (opAt k) == .C then rootOf ops o.op else none
    uo := if c == .L then un.filter fun k => clsOf (opAt k) == .W
      else if c == .W then un.filter fun k => clsOf (opAt k) == .L || clsOf (opAt k) == .W
      else [] }

def preOf (bef : Array Nat) (n j : Nat) : List Nat := (List.range n).filter fun i => (bef.getD j 0).testBit i
/-- The lists of what comes before are closed under the edges. -/
def preOk (ops : Array Oper) (pre : List (List Nat)) : Bool :=
  (List.range ops.size).all fun j => match ops[j]? with
    | some o => (pre.getD j []).all fun i => o.after.any fun e => Region.binds .any e && decide (e.on < j) && (e.on == i || (pre.getD e.on []).contains i)
    | none => true
def backOk (ops : Array Oper) : Bool :=
  (List.range ops.size).all fun j => match ops[j]? with
    | some o => o.after.all fun e => decide (e.on < j)
    | none => true
def pairsOk (pre : List (List Nat)) (ds : List DOper) : Bool :=
  (List.range ds.length).all fun j => (List.range j).all fun i => (pre.getD j []).contains i || (match ds[i]?, ds[j]? with
      | some x, some y => apartA x.o y.o && heapOk i x j y
      | _, _ => true)
def wfD (total : Nat) (x : DOper) : Bool := x.cls == clsOf x.o.op && (slotsOf x).all (fun k => decide (k < total))

def zipIdx' {α β : Type} (f : Nat → α → β) : Nat → List α → List β
  | _, [] => []
  | i, x :: xs => f i x :: zipIdx' f (i + 1) xs

def compileRegion (draw : Bool) (ops : Array Oper) : Option ACode :=
  match mapO (compileOper P gh draw ops) ops.toList with
  | none => none
  | some as =>
    if draw then
      let bef := Region.before ops
      let pre := (List.range ops.size).map (preOf bef ops.size)
      let ds := zipIdx' (metaOf bef as) 0 as
      let total := slotAt as as.length
      if (backOk ops && preOk ops pre && pairsOk pre ds && ds.all (wfD total)) = true then some (.draw total ds)
      else none
    else some (.region as)

def compileCode : Code → Option ACode
  | .skip => some .skip
  | .region _ ops draw => compileRegion P gh draw ops
  | .seq a b => match compileCode a, compileCode b with
    | some x, some y => some (.seq x y)
    | _, _ => none
  | .cond c a b => match opd c, compileCode a, compileCode b with
    | some c, some x, some y => some (.cond c x y)
    | _, _, _ => none
  | .block id a => (compileCode a).map (.block id)
  | .loop a => (compileCode a).map .loop
  | .exit id => some (.exit id)
  | .ret => some .ret
  | _ => none

def compileRes : ResultVar → Option ARes
  | .tmp t => some (.tmp t)
  | .cell a t => match tyAgg P t, tySize P t with
    | some g, some n => some (.cell a g n)
    | _, _ => none

/-- All places that the code writes lie in the frame. -/
def dstsOk (n : Nat) : Code → Bool
  | .region _ ops _ => ops.all fun o => match o.dst with
    | some d => decide (d < n)
    | none => true
  | .seq a b => dstsOk n a && dstsOk n b
  | .cond _ a b => dstsOk n a && dstsOk n b
  | .block _ a => dstsOk n a
  | .loop a => dstsOk n a
  | _ => true

def compileFn (fn : Func) : Option AFn :=
  match fn.body with
  | none => none
  | some c =>
    if dstsOk fn.ntmps c && !(fn.name == "runtime.NumGoroutine") then
      match mapO (compileRes P) fn.results.toList, compileCode P gh c with
      | some res, some code => some { res, code }
      | _, _ => none
    else none

end
end Go.Abs
