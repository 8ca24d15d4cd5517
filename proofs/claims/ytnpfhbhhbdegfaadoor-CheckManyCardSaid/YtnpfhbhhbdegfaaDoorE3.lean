/- Evaluation by rewriting: each step of the abstract interpreter as an equation of its own. -/
import Derived.Test.YtnpfhbhhbdegfaaDoorE1
set_option linter.unusedSimpArgs false
set_option linter.unusedVariables false
namespace Go.Abs

universe u
/-- An equation that is used as a step of a proof, not by unfolding. -/
theorem nr {α : Sort u} {a b : α} (h : a = b) : a = b := h.symm.symm

def toR (r : Option (Frame × Heap)) : Option R := r.map fun x => (.normal, x.1, x.2)
def runK (cf : CallF) (lo base : Nat) (os : List AOper) (d : Option Nat) (r : Option (AV × Heap)) (fr : Frame) : Option (Frame × Heap) :=
  match r with
  | some (v, h') => runOps cf lo base os (updO fr d v) h'
  | none => none
def runG (g : AV) (w : Bool) (x y : Option (Frame × Heap)) : Option (Frame × Heap) :=
  match g with
  | .bool b => if b = w then x else y
  | _ => y
def condB (g : AV) (x y : Option R) : Option R :=
  match g with
  | .bool b => if b = true then x else y
  | _ => none
@[congr] theorem condB_congr {g g' : AV} (h : g = g') (x y : Option R) : condB g x y = condB g' x y := by rw [h]
@[congr] theorem runG_congr {g g' : AV} (h : g = g') (w : Bool) (x y : Option (Frame × Heap)) : runG g w x y = runG g' w x y := by rw [h]

section
variable {c : Ctx} {cf : CallF} {lo base tgt : Nat} {fr : Frame} {h : Heap}
@[simp] theorem ex_seq (a b : ACode) : exec c lo base (.seq a b) fr h = andThen (exec c lo base a fr h) (exec c lo base b) := nr (by simp only [exec])
@[simp] theorem ex_region (ops : List AOper) : exec c lo base (.region ops) fr h = toR (runOps c.cf lo base ops fr h) := nr (by simp only [exec]; cases runOps c.cf lo base ops fr h <;> rfl)
@[simp] theorem ex_cond (t : Opd) (a b : ACode) : exec c lo base (.cond t a b) fr h = condB (t.get fr) (exec c lo base a fr h) (exec c lo base b fr h) := nr (by
  simp only [exec, condB]; cases t.get fr <;> rfl)
@[simp] theorem ex_block (id : Nat) (a : ACode) : exec c lo base (.block id a) fr h = inBlk id (exec c lo base a fr h) := nr (by simp only [exec])
@[simp] theorem ex_loop (a : ACode) : exec c lo base (.loop a) fr h = c.it (exec c lo base a) fr h := nr (by simp only [exec])
@[simp] theorem ex_exit (id : Nat) : exec c lo base (.exit id) fr h = some (.exit id, fr, h) := nr (by simp only [exec])
@[simp] theorem ex_ret : exec c lo base .ret fr h = some (.ret, fr, h) := nr (by simp only [exec])
@[simp] theorem ex_skip : exec c lo base .skip fr h = some (.normal, fr, h) := nr (by simp only [exec])
@[simp] theorem condB_true (x y : Option R) : condB (.bool true) x y = x := nr (by simp [condB])
@[simp] theorem condB_false (x y : Option R) : condB (.bool false) x y = y := nr (by simp [condB])
@[simp] theorem runG_tt (x y : Option (Frame × Heap)) : runG (.bool true) true x y = x := nr (by simp [runG])
@[simp] theorem runG_tf (x y : Option (Frame × Heap)) : runG (.bool true) false x y = y := nr (by simp [runG])
@[simp] theorem runG_ft (x y : Option (Frame × Heap)) : runG (.bool false) true x y = y := nr (by simp [runG])
@[simp] theorem runG_ff (x y : Option (Frame × Heap)) : runG (.bool false) false x y = x := nr (by simp [runG])
@[simp] theorem runG_undef (w : Bool) (x y : Option (Frame × Heap)) : runG .undef w x y = y := nr rfl
@[simp] theorem toR_some (x : Frame) (y : Heap) : toR (some (x, y)) = some (.normal, x, y) := nr rfl
@[simp] theorem at_normal (k : Body) : andThen (some (.normal, fr, h)) k = k fr h := nr rfl
@[simp] theorem at_exit (k : Body) (i : Nat) : andThen (some (.exit i, fr, h)) k = some (.exit i, fr, h) := nr rfl
@[simp] theorem at_ret (k : Body) : andThen (some (.ret, fr, h)) k = some (.ret, fr, h) := nr rfl
@[simp] theorem ib_normal (i : Nat) : inBlk i (some (.normal, fr, h)) = some (.normal, fr, h) := nr rfl
@[simp] theorem ib_ret (i : Nat) : inBlk i (some (.ret, fr, h)) = some (.ret, fr, h) := nr rfl
@[simp] theorem ib_exit (i j : Nat) : inBlk i (some (.exit j, fr, h)) = if j = i then some (.normal, fr, h) else some (.exit j, fr, h) := nr rfl
@[simp] theorem ro_nil : runOps cf lo base [] fr h = some (fr, h) := nr (by simp only [runOps])
@[simp] theorem ro_cons (d : Option Nat) (op : AOp) (os : List AOper) : runOps cf lo base (⟨d, op, none⟩ :: os) fr h = runK cf lo base os d (stepOp cf lo base h.length op fr h) fr := nr (by
  simp only [runOps, wants, if_true]; cases stepOp cf lo base h.length op fr h <;> rfl)
@[simp] theorem ro_g (d : Option Nat) (op : AOp) (t : Nat) (w : Bool) (os : List AOper) : runOps cf lo base (⟨d, op, some (t, w)⟩ :: os) fr h =
    runG (fr t) w (runK cf lo base os d (stepOp cf lo base h.length op fr h) fr) (runOps cf lo base os (updO fr d .undef) h) := nr (by
  cases hx : fr t with
  | bool b =>
    by_cases hb : b = w
    · subst hb
      cases hs : stepOp cf lo base h.length op fr h <;> simp [runOps, wants, runG, runK, hx, hs]
    · simp [runOps, wants, runG, hx, hb]
  | _ => simp [runOps, wants, runG, hx])
@[simp] theorem rk_some (os : List AOper) (d : Option Nat) (v : AV) (h' : Heap) : runK cf lo base os d (some (v, h')) fr = runOps cf lo base os (updO fr d v) h' := nr rfl
@[simp] theorem updO_some (d : Nat) (v : AV) : updO fr (some d) v = upd fr d v := nr rfl
@[simp] theorem updO_none (v : AV) : updO fr none v = fr := nr rfl
@[simp] theorem upd_same (d : Nat) (v : AV) : upd fr d v d = v := nr (by simp [upd])
@[simp] theorem upd_ne {d t : Nat} {v : AV} (h : t ≠ d) : upd fr d v t = fr t := nr (by simp [upd, h])
@[simp] theorem initFr_zero (a : AV) (as : List AV) : initFr (a :: as) 0 = a := nr rfl
@[simp] theorem initFr_succ (a : AV) (as : List AV) (n : Nat) : initFr (a :: as) (n + 1) = initFr as n := nr (by simp [initFr])
@[simp] theorem get_tmp (t : Nat) : Opd.get fr (.tmp t) = fr t := nr rfl
@[simp] theorem get_val (v : AV) : Opd.get fr (.val v) = v := nr rfl

/-! ### Operations -/
@[simp] theorem so_move (x : Opd) : stepOp cf lo base tgt (.move x) fr h = some (x.get fr, h) := nr rfl
def pickAV (c a b : AV) (h : Heap) : Option (AV × Heap) :=
  match c with
  | .bool t => some (if t then a else b, h)
  | _ => none
@[simp] theorem pick_true (a b : AV) (h : Heap) : pickAV (.bool true) a b h = some (a, h) := nr rfl
@[simp] theorem pick_false (a b : AV) (h : Heap) : pickAV (.bool false) a b h = some (b, h) := nr rfl
theorem pick_bool (t x y : Bool) (h : Heap) : pickAV (.bool t) (.bool x) (.bool y) h = some (.bool (bif t then x else y), h) := nr (by cases t <;> rfl)
@[simp] theorem so_pick (x a b : Opd) : stepOp cf lo base tgt (.pick x a b) fr h = pickAV (x.get fr) (a.get fr) (b.get fr) h := nr rfl
@[simp] theorem so_bin (op : BinOp) (x y : Opd) : stepOp cf lo base tgt (.bin op x y) fr h = put1 h (binAV op (x.get fr) (y.get fr)) := nr rfl
@[simp] theorem put1_some (v : AV) : put1 h (some v) = some (v, h) := nr rfl
@[simp] theorem putU_some (h' : Heap) : putU (some h') = some (.undef, h') := nr rfl
def eqBAV (neg : Bool) (x y : AV) (h : Heap) : Option (AV × Heap) :=
  match x, y with
  | .bool a, .bool b => some (.bool (if neg then !(a == b) else a == b), h)
  | _, _ => none
@[simp] theorem so_eqB (neg : Bool) (x y : Opd) : stepOp cf lo base tgt (.eqB neg x y) fr h = eqBAV neg (x.get fr) (y.get fr) h := nr (by
  simp only [stepOp, eqBAV]
  split <;> split <;> simp_all)
@[simp] theorem eqB_f (a b : Bool) : eqBAV false (.bool a) (.bool b) h = some (.bool (a == b), h) := nr rfl
@[simp] theorem eqB_t (a b : Bool) : eqBAV true (.bool a) (.bool b) h = some (.bool (!(a == b)), h) := nr rfl
@[simp] theorem so_un (op : UnOp) (x : Opd) : stepOp cf lo base tgt (.un op x) fr h = put1 h (unAV op (x.get fr)) := nr rfl
@[simp] theorem un_not (b : Bool) : unAV .not (.bool b) = some (.bool (!b)) := nr rfl
@[simp] theorem un_neg (n : Int) : unAV .neg (.int .i64 n) = some (.int .i64 (IntKind.wrap .i64 (0 - n))) := nr rfl
@[simp] theorem so_load (agg : Bool) (n : Nat) (a : Opd) : stepOp cf lo base tgt (.load agg n a) fr h = put1 h (loadAV h agg n (a.get fr)) := nr rfl
@[simp] theorem so_store (n : Nat) (a x : Opd) : stepOp cf lo base tgt (.store n a x) fr h = putU (storeAV h lo base n (a.get fr) (x.get fr)) := nr rfl
@[simp] theorem so_alloc (ty sz : Nat) (gh : List (Nat × Nat × Nat)) (z : AV) : stepOp cf lo base tgt (.alloc ty sz gh z) fr h = boxAV h tgt ty sz gh z := nr rfl
@[simp] theorem so_box (ty sz : Nat) (gh : List (Nat × Nat × Nat)) (x : Opd) : stepOp cf lo base tgt (.box ty sz gh x) fr h = boxAV h tgt ty sz gh (x.get fr) := nr rfl
@[simp] theorem so_mkfn (f : Nat) (a k : List Opd) : stepOp cf lo base tgt (.mkfn f a k) fr h = some (.fn f (a.map (Opd.get fr)) (k.map (Opd.get fr)), h) := nr rfl
def callAV (cf : CallF) (lo base tgt : Nat) (f : AV) (args : List AV) (h : Heap) : Option (AV × Heap) :=
  match f with
  | .fn g a k => cf g lo base tgt (a ++ args ++ k) h
  | _ => none
@[simp] theorem callAV_fn (g : Nat) (a k args : List AV) : callAV cf lo base tgt (.fn g a k) args h = cf g lo base tgt (a ++ args ++ k) h := nr rfl
@[simp] theorem so_call (f : Opd) (args : List Opd) : stepOp cf lo base tgt (.call f args) fr h = callAV cf lo base tgt (f.get fr) (args.map (Opd.get fr)) h := nr rfl
def putLen (o : Option Nat) (h : Heap) : Option (AV × Heap) :=
  match o with
  | some n => some (.int .i64 n, h)
  | none => none
@[simp] theorem putLen_some (n : Nat) : putLen (some n) h = some (.int .i64 n, h) := nr rfl
@[simp] theorem so_lenSl (x : Opd) : stepOp cf lo base tgt (.lenSl x) fr h = putLen (slLen (x.get fr)) h := nr rfl
def strLen : AV → Option Nat
  | .str s => some s.length
  | _ => none
@[simp] theorem strLen_str (s : List UInt8) : strLen (.str s) = some s.length := nr rfl
@[simp] theorem so_lenStr (x : Opd) : stepOp cf lo base tgt (.lenStr x) fr h = putLen (strLen (x.get fr)) h := nr (by
  simp only [stepOp]; cases x.get fr <;> rfl)
@[simp] theorem so_iaddr (sz : Nat) (x i : Opd) : stepOp cf lo base tgt (.iaddr sz x i) fr h = put1 h (iaddrAV sz (x.get fr) (i.get fr)) := nr rfl
@[simp] theorem so_faddr (off : Nat) (x : Opd) : stepOp cf lo base tgt (.faddr off x) fr h = put1 h (faddrAV off (x.get fr)) := nr rfl
@[simp] theorem faddr_ptr (off b g i o : Nat) : faddrAV off (.ptr b g i o) = some (.ptr b g i (o + off)) := nr rfl
@[simp] theorem faddr_rp (off sz o : Nat) (e : AV) : faddrAV off (.rp sz e o) = some (.rp sz e (o + off)) := nr rfl
@[simp] theorem so_istr (x i : Opd) : stepOp cf lo base tgt (.istr x i) fr h = put1 h (istrAV (x.get fr) (i.get fr)) := nr rfl
def nilChkAV (x : AV) (h : Heap) : Option (AV × Heap) :=
  match x with
  | .ptr b g i o => some (.ptr b g i o, h)
  | .rp sz e o => some (.rp sz e o, h)
  | _ => none
@[simp] theorem nilChk_ptr (b g i o : Nat) : nilChkAV (.ptr b g i o) h = some (.ptr b g i o, h) := nr rfl
@[simp] theorem nilChk_rp (sz o : Nat) (e : AV) : nilChkAV (.rp sz e o) h = some (.rp sz e o, h) := nr rfl
@[simp] theorem so_nilChk (x : Opd) : stepOp cf lo base tgt (.nilChk x) fr h = nilChkAV (x.get fr) h := nr (by
  simp only [stepOp]; cases x.get fr <;> rfl)
def extractAV (x : AV) (i : Nat) (h : Heap) : Option (AV × Heap) :=
  match x with
  | .tup vs => put1 h vs[i]?
  | _ => none
@[simp] theorem extract_tup (vs : List AV) (i : Nat) : extractAV (.tup vs) i h = put1 h vs[i]? := nr rfl
@[simp] theorem so_extract (x : Opd) (i : Nat) : stepOp cf lo base tgt (.extract x i) fr h = extractAV (x.get fr) i h := nr (by
  simp only [stepOp]; cases x.get fr <;> rfl)
def fieldAV (agg : Bool) (off n sz : Nat) (x : AV) (h : Heap) : Option (AV × Heap) := if x.isAgg then put1 h (part agg n sz off x) else none
@[simp] theorem so_field (agg : Bool) (off n sz : Nat) (x : Opd) : stepOp cf lo base tgt (.field agg off n sz x) fr h = fieldAV agg off n sz (x.get fr) h := nr rfl
def buildR (r : Option (List AV)) (h : Heap) : Option (AV × Heap) :=
  match r with
  | some cs => some (.agg cs, h)
  | none => none
@[simp] theorem buildR_some (cs : List AV) : buildR (some cs) h = some (.agg cs, h) := nr rfl
@[simp] theorem so_build (z : List AV) (ps : List (Nat × Nat × Opd)) : stepOp cf lo base tgt (.build z ps) fr h = buildR (buildCells z fr ps) h := nr (by
  simp only [stepOp]; cases buildCells z fr ps <;> rfl)
@[simp] theorem bc_nil (cs : List AV) : buildCells cs fr [] = some cs := nr rfl
@[simp] theorem bc_cons (cs : List AV) (off n : Nat) (x : Opd) (ps : List (Nat × Nat × Opd)) : buildCells cs fr ((off, n, x) :: ps) =
    if (x.get fr).cells.length = n ∧ off + n ≤ cs.length ∧ (x.get fr).ok = true then buildCells (splice cs off (x.get fr).cells) fr ps else none := nr rfl
def buildSlR (asRo : Bool) (ty sz len tgt : Nat) (zl : Nat) (r : Option (List AV)) (h : Heap) : Option (AV × Heap) :=
  match r with
  | some es => if zl = sz then
      (if len = 0 then some (.emp, h)
       else if asRo then some (.ro sz es, h)
       else match place h tgt [{ ty, sz, frz := false, es }] with
        | some h' => some (.sl sz tgt len 0 len, h')
        | none => none) else none
  | none => none
@[simp] theorem so_buildSl (asRo : Bool) (ty sz len : Nat) (z : AV) (ps : List (Nat × Opd)) : stepOp cf lo base tgt (.buildSl asRo ty sz len z ps) fr h = buildSlR asRo ty sz len tgt z.cells.length (buildEls sz (List.replicate len z) fr ps) h := nr (by
  simp only [stepOp, buildSlR]
  cases buildEls sz (List.replicate len z) fr ps with
  | none => rfl
  | some es =>
    simp only
    split
    · split
      · rfl
      · split
        · rfl
        · cases place h tgt [{ ty, sz, frz := false, es }] <;> rfl
    · rfl)
@[simp] theorem be_nil (sz : Nat) (es : List AV) : buildEls sz es fr [] = some es := nr rfl
@[simp] theorem be_cons (sz : Nat) (es : List AV) (i : Nat) (x : Opd) (ps : List (Nat × Opd)) : buildEls sz es fr ((i, x) :: ps) =
    if (x.get fr).cells.length = sz ∧ i < es.length ∧ (x.get fr).ok = true then buildEls sz (es.set i (x.get fr)) fr ps else none := nr rfl
def appR (ys : Option (List AV)) (lo base tgt ty sz : Nat) (x : AV) (h : Heap) : Option (AV × Heap) :=
  match ys with
  | some ys => appendAV h lo base tgt ty sz x ys
  | none => none
@[simp] theorem appR_some (ys : List AV) (ty sz : Nat) (x : AV) : appR (some ys) lo base tgt ty sz x h = appendAV h lo base tgt ty sz x ys := nr rfl
@[simp] theorem so_append (ty sz bs : Nat) (x y : Opd) : stepOp cf lo base tgt (.append ty sz bs x y) fr h = appR (readSl h sz (y.get fr)) lo base tgt ty sz (x.get fr) h := nr (by
  simp only [stepOp]; cases readSl h sz (y.get fr) <;> rfl)
def convAV (k : IntKind) (x : AV) (h : Heap) : Option (AV × Heap) :=
  match x with
  | .int _ n => some (.int k (k.wrap n), h)
  | _ => none
@[simp] theorem conv_int (k k' : IntKind) (n : Int) : convAV k (.int k' n) h = some (.int k (k.wrap n), h) := nr rfl
@[simp] theorem so_conv (k : IntKind) (x : Opd) : stepOp cf lo base tgt (.conv k x) fr h = convAV k (x.get fr) h := nr (by
  simp only [stepOp]; cases x.get fr <;> rfl)
def slStrAV (x : AV) (l r : Option Nat) (n : Nat) (h : Heap) : Option (AV × Heap) :=
  match x with
  | .str s => match l, r with
    | some l, some r => if l ≤ r ∧ r ≤ s.length then some (.str ((s.take r).drop l), h) else none
    | _, _ => none
  | _ => none
def strN : AV → Nat
  | .str s => s.length
  | _ => 0
@[simp] theorem strN_str (s : List UInt8) : strN (.str s) = s.length := nr rfl
@[simp] theorem slStr_str (s : List UInt8) (l r n : Nat) : slStrAV (.str s) (some l) (some r) n h = if l ≤ r ∧ r ≤ s.length then some (.str ((s.take r).drop l), h) else none := nr rfl
@[simp] theorem so_slStr (x : Opd) (lo' hi : Option Opd) : stepOp cf lo base tgt (.slStr x lo' hi) fr h = slStrAV (x.get fr) (natOpt fr 0 lo') (natOpt fr (strN (x.get fr)) hi) 0 h := nr (by
  simp only [stepOp, slStrAV]
  cases x.get fr with
  | str s => cases natOpt fr 0 lo' <;> cases natOpt fr s.length hi <;> rfl
  | _ => rfl)
def slSlAV (sz : Nat) (x : AV) (l r : Option Nat) (h : Heap) : Option (AV × Heap) :=
  match slLen x, l, r with
  | some _, some l, some r => put1 h (sliceAV sz x l r none)
  | _, _, _ => none
def slN (x : AV) : Nat := (slLen x).getD 0
@[simp] theorem so_slSl (sz : Nat) (x : Opd) (lo' hi : Option Opd) : stepOp cf lo base tgt (.slSl sz x lo' hi none) fr h = slSlAV sz (x.get fr) (natOpt fr 0 lo') (natOpt fr (slN (x.get fr)) hi) h := nr (by
  simp only [stepOp, slSlAV, slN]
  cases hs : slLen (x.get fr) with
  | none => rfl
  | some n => cases natOpt fr 0 lo' <;> simp only [Option.getD] <;> cases natOpt fr n hi <;> rfl)
@[simp] theorem natOpt_none (d : Nat) : natOpt fr d none = some d := nr rfl
@[simp] theorem natOpt_some (d : Nat) (x : Opd) : natOpt fr d (some x) = natArg (x.get fr) := nr rfl
@[simp] theorem natArg_int (k : IntKind) (n : Int) : natArg (.int k n) = if 0 ≤ n then some n.toNat else none := nr rfl
def mkslR (ty sz tgt zl : Nat) (z : AV) (n m : Option Nat) (h : Heap) : Option (AV × Heap) :=
  match n, m with
  | some n, some m => if n = m ∧ n ≤ most ∧ zl = sz then
      (match place h tgt [{ ty, sz, frz := false, es := List.replicate n z }] with
       | some h' => some (.sl sz tgt n 0 n, h')
       | none => none) else none
  | _, _ => none
@[simp] theorem so_mksl (ty sz bs : Nat) (z : AV) (l k : Opd) : stepOp cf lo base tgt (.mksl ty sz bs z l k) fr h = mkslR ty sz tgt z.cells.length z (natArg (l.get fr)) (natArg (k.get fr)) h := nr (by
  simp only [stepOp, mkslR]
  cases natArg (l.get fr) <;> cases natArg (k.get fr) <;> simp only
  split
  · split <;> split <;> simp_all
  · rfl)
def eqAggAV (neg : Bool) (x y : AV) (h : Heap) : Option (AV × Heap) :=
  match eqCells x.cells y.cells with
  | some b => if (x.isAgg && y.isAgg) = true then some (.bool (if neg then !b else b), h) else none
  | none => none
@[simp] theorem so_eqAgg (neg : Bool) (x y : Opd) : stepOp cf lo base tgt (.eqAgg neg x y) fr h = eqAggAV neg (x.get fr) (y.get fr) h := nr (by
  simp only [stepOp, eqAggAV]; cases eqCells (x.get fr).cells (y.get fr).cells <;> rfl)
@[simp] theorem so_mx (x : Opd) (xs : List Opd) : stepOp cf lo base tgt (.mx x xs) fr h = put1 h (foldO max2 (x.get fr) (xs.map (Opd.get fr))) := nr rfl
@[simp] theorem so_mn (x : Opd) (xs : List Opd) : stepOp cf lo base tgt (.mn x xs) fr h = put1 h (foldO min2 (x.get fr) (xs.map (Opd.get fr))) := nr rfl
@[simp] theorem foldO_nil (f : AV → AV → Option AV) (x : AV) : foldO f x [] = some x := nr rfl
def foldK (f : AV → AV → Option AV) (r : Option AV) (ys : List AV) : Option AV :=
  match r with
  | some z => foldO f z ys
  | none => none
@[simp] theorem foldK_some (f : AV → AV → Option AV) (x : AV) (ys : List AV) : foldK f (some x) ys = foldO f x ys := nr rfl
@[simp] theorem foldO_cons (f : AV → AV → Option AV) (x y : AV) (ys : List AV) : foldO f x (y :: ys) = foldK f (f x y) ys := nr (by
  simp only [foldO]; cases f x y <;> rfl)
@[simp] theorem max2_int (k : IntKind) (a b : Int) : max2 (.int k a) (.int k b) = some (.int k (max a b)) := nr (by
  simp only [max2, if_true]; congr 2; split <;> omega)
@[simp] theorem min2_int (k : IntKind) (a b : Int) : min2 (.int k a) (.int k b) = some (.int k (min a b)) := nr (by
  simp only [min2, if_true]; congr 2; split <;> omega)

/-! ### Numbers and strings -/
@[simp] theorem bin_add (k : IntKind) (a b : Int) : binAV .add (.int k a) (.int k b) = some (.int k (k.wrap (a + b))) := nr (by simp [binAV, isShift, intBin])
@[simp] theorem bin_sub (k : IntKind) (a b : Int) : binAV .sub (.int k a) (.int k b) = some (.int k (k.wrap (a - b))) := nr (by simp [binAV, isShift, intBin])
@[simp] theorem bin_mul (k : IntKind) (a b : Int) : binAV .mul (.int k a) (.int k b) = some (.int k (k.wrap (a * b))) := nr (by simp [binAV, isShift, intBin])
@[simp] theorem bin_quo (k : IntKind) (a b : Int) : binAV .quo (.int k a) (.int k b) = if b = 0 then none else some (.int k (k.wrap (a.tdiv b))) := nr (by simp [binAV, isShift, intBin])
@[simp] theorem bin_rem (k : IntKind) (a b : Int) : binAV .rem (.int k a) (.int k b) = if b = 0 then none else some (.int k (a.tmod b)) := nr (by simp [binAV, isShift, intBin])
@[simp] theorem bin_and (k : IntKind) (a b : Int) : binAV .and (.int k a) (.int k b) = some (.int k (k.wrap (BitVec.ofInt k.bits a &&& BitVec.ofInt k.bits b).toNat)) := nr (by simp [binAV, isShift, intBin])
@[simp] theorem bin_or (k : IntKind) (a b : Int) : binAV .or (.int k a) (.int k b) = some (.int k (k.wrap (BitVec.ofInt k.bits a ||| BitVec.ofInt k.bits b).toNat)) := nr (by simp [binAV, isShift, intBin])
@[simp] theorem bin_andNot (k : IntKind) (a b : Int) : binAV .andNot (.int k a) (.int k b) = some (.int k (k.wrap (BitVec.ofInt k.bits a &&& ~~~BitVec.ofInt k.bits b).toNat)) := nr (by simp [binAV, isShift, intBin])
@[simp] theorem bin_shl (k k' : IntKind) (a b : Int) : binAV .shl (.int k a) (.int k' b) = shiftBin .shl k a b := nr (by simp [binAV, isShift])
@[simp] theorem bin_shr (k k' : IntKind) (a b : Int) : binAV .shr (.int k a) (.int k' b) = shiftBin .shr k a b := nr (by simp [binAV, isShift])
@[simp] theorem bin_eql (k : IntKind) (a b : Int) : binAV .eql (.int k a) (.int k b) = some (.bool (decide (a = b))) := nr (by simp only [binAV, isShift, intBin, if_true, Bool.false_eq_true, if_false]; rfl)
@[simp] theorem bin_neq (k : IntKind) (a b : Int) : binAV .neq (.int k a) (.int k b) = some (.bool (!decide (a = b))) := nr (by simp only [binAV, isShift, intBin, if_true, Bool.false_eq_true, if_false]; rfl)
@[simp] theorem bin_lss (k : IntKind) (a b : Int) : binAV .lss (.int k a) (.int k b) = some (.bool (decide (a < b))) := nr (by simp [binAV, isShift, intBin])
@[simp] theorem bin_leq (k : IntKind) (a b : Int) : binAV .leq (.int k a) (.int k b) = some (.bool (decide (a ≤ b))) := nr (by simp [binAV, isShift, intBin])
@[simp] theorem bin_gtr (k : IntKind) (a b : Int) : binAV .gtr (.int k a) (.int k b) = some (.bool (decide (b < a))) := nr (by simp [binAV, isShift, intBin])
@[simp] theorem bin_geq (k : IntKind) (a b : Int) : binAV .geq (.int k a) (.int k b) = some (.bool (decide (b ≤ a))) := nr (by simp [binAV, isShift, intBin])
@[simp] theorem bin_seql (s t : List UInt8) : binAV .eql (.str s) (.str t) = some (.bool (decide (s = t))) := nr (by by_cases hst : s = t <;> simp [binAV, strBin, hst])
@[simp] theorem bin_sneq (s t : List UInt8) : binAV .neq (.str s) (.str t) = some (.bool (!decide (s = t))) := nr (by by_cases hst : s = t <;> simp [binAV, strBin, hst])
@[simp] theorem bin_sadd (s t : List UInt8) : binAV .add (.str s) (.str t) = if s.length + t.length < 4611686018427387904 then some (.str (s ++ t)) else none := nr (by simp [binAV, strBin])
theorem wrap64 {n : Int} (h1 : -9223372036854775808 ≤ n) (h2 : n ≤ 9223372036854775807) : IntKind.wrap .i64 n = n := nr (by
  simp [IntKind.wrap, IntKind.bits, IntKind.signed]
  omega)

/-! ### Rows -/
@[simp] theorem slLen_mkRo (sz : Nat) (xs : List AV) : slLen (mkRo sz xs) = some xs.length := nr (by cases xs <;> rfl)
@[simp] theorem slLen_emp : slLen .emp = some 0 := nr rfl
@[simp] theorem slLen_sl (sz b g off len : Nat) : slLen (.sl sz b g off len) = some len := nr rfl
@[simp] theorem slLen_ro (sz : Nat) (xs : List AV) : slLen (.ro sz xs) = some xs.length := nr rfl
@[simp] theorem readSl_mkRo (h : Heap) (sz : Nat) (xs : List AV) : readSl h sz (mkRo sz xs) = some xs := nr (by cases xs <;> simp [mkRo, readSl])
@[simp] theorem readSl_emp (h : Heap) (sz : Nat) : readSl h sz .emp = some [] := nr rfl
@[simp] theorem readSl_ro (h : Heap) (sz : Nat) (xs : List AV) : readSl h sz (.ro sz xs) = some xs := nr (by simp [readSl])
@[simp] theorem slN_mkRo (sz : Nat) (xs : List AV) : slN (mkRo sz xs) = xs.length := nr (by simp [slN])
@[simp] theorem slN_sl (sz b g off len : Nat) : slN (.sl sz b g off len) = len := nr rfl
@[simp] theorem slN_emp : slN .emp = 0 := nr rfl
theorem iaddr_mkRo {sz j : Nat} {xs : List AV} {e : AV} (k : IntKind) {i : Int} (hi : i = (j : Int)) (hj : xs[j]? = some e) : iaddrAV sz (mkRo sz xs) (.int k i) = some (.rp sz e 0) := nr (by
  subst hi
  cases xs with
  | nil => simp at hj
  | cons x xs => simp [iaddrAV, mkRo, natArg, hj])
@[simp] theorem isRo_mkRo (sz : Nat) (xs : List AV) : (mkRo sz xs).cells = [mkRo sz xs] ∧ (mkRo sz xs).isAgg = false ∧ (mkRo sz xs).ok = true := by cases xs <;> exact ⟨rfl, rfl, rfl⟩
@[simp] theorem cells_mkRo (sz : Nat) (xs : List AV) : (mkRo sz xs).cells = [mkRo sz xs] := nr (by cases xs <;> rfl)
@[simp] theorem isAgg_mkRo (sz : Nat) (xs : List AV) : (mkRo sz xs).isAgg = false := nr (by cases xs <;> rfl)
@[simp] theorem ok_mkRo (sz : Nat) (xs : List AV) : (mkRo sz xs).ok = true := nr (by cases xs <;> rfl)
@[simp] theorem closed_mkRo (sz : Nat) (xs : List AV) : (mkRo sz xs).closed = AV.closedL xs := nr (by cases xs <;> rfl)
@[simp] theorem canon_mkRo (sz : Nat) (xs : List AV) : (mkRo sz xs).canon = mkRo sz (xs.map AV.canon) := nr (by
  cases xs with
  | nil => rfl
  | cons x xs => simp [mkRo, AV.canon, canonL_eq])
@[simp] theorem canon_ro (sz : Nat) (xs : List AV) : (AV.ro sz xs).canon = mkRo sz (xs.map AV.canon) := nr (by simp [AV.canon, canonL_eq])
@[simp] theorem flat_mkRo_nil (sz : Nat) : (mkRo sz []).flat = true := nr rfl
theorem cut_mkRo (sz l r : Nat) (xs : List AV) : cut sz (mkRo sz xs) l r = some (mkRo sz ((xs.take r).drop l)) := nr (by cases xs <;> simp [mkRo, cut])
theorem slice_mkRo {sz l r : Nat} {xs : List AV} (h1 : l ≤ r) (h2 : r ≤ xs.length) : sliceAV sz (mkRo sz xs) l r none = some (mkRo sz ((xs.take r).drop l)) := nr (by
  simp [sliceAV, h1, h2, cut_mkRo])
theorem slSl_mkRo {sz l r : Nat} {xs : List AV} (h1 : l ≤ r) (h2 : r ≤ xs.length) : slSlAV sz (mkRo sz xs) (some l) (some r) h = some (mkRo sz ((xs.take r).drop l), h) := nr (by
  simp [slSlAV, slice_mkRo h1 h2])

/-! ### Plain values -/
@[simp] theorem closed_int (k : IntKind) (n : Int) : (AV.int k n).closed = true := nr rfl
@[simp] theorem closed_bool (b : Bool) : (AV.bool b).closed = true := nr rfl
@[simp] theorem closed_str (s : List UInt8) : (AV.str s).closed = true := nr rfl
@[simp] theorem closed_emp : AV.emp.closed = true := nr rfl
@[simp] theorem closed_agg (cs : List AV) : (AV.agg cs).closed = AV.closedL cs := nr (by simp [AV.closed])
@[simp] theorem closed_tup (cs : List AV) : (AV.tup cs).closed = AV.closedL cs := nr (by simp [AV.closed])
@[simp] theorem closed_ro (sz : Nat) (cs : List AV) : (AV.ro sz cs).closed = AV.closedL cs := nr (by simp [AV.closed])
@[simp] theorem closed_rp (sz o : Nat) (e : AV) : (AV.rp sz e o).closed = e.closed := nr (by simp [AV.closed])
@[simp] theorem closed_fn (f : Nat) (a k : List AV) : (AV.fn f a k).closed = (AV.closedL a && AV.closedL k) := nr (by simp [AV.closed])
@[simp] theorem closed_sl (sz b g off len : Nat) : (AV.sl sz b g off len).closed = false := nr rfl
@[simp] theorem closed_ptr (b g i o : Nat) : (AV.ptr b g i o).closed = false := nr rfl
@[simp] theorem closedL_nil : AV.closedL [] = true := nr rfl
@[simp] theorem closedL_cons (x : AV) (xs : List AV) : AV.closedL (x :: xs) = (x.closed && AV.closedL xs) := nr (by simp [AV.closedL])
theorem closedL_map {α : Type} {f : α → AV} (hf : ∀ x, (f x).closed = true) (xs : List α) : AV.closedL (xs.map f) = true := nr (by
  induction xs with
  | nil => rfl
  | cons x xs ih => simp [hf, ih])
@[simp] theorem closedL_append (xs ys : List AV) : AV.closedL (xs ++ ys) = (AV.closedL xs && AV.closedL ys) := nr (by
  induction xs with
  | nil => simp
  | cons x xs ih => simp [ih, Bool.and_assoc])
@[simp] theorem canon_int (k : IntKind) (n : Int) : (AV.int k n).canon = .int k n := nr rfl
@[simp] theorem canon_bool (b : Bool) : (AV.bool b).canon = .bool b := nr rfl
@[simp] theorem canon_str (s : List UInt8) : (AV.str s).canon = .str s := nr rfl
@[simp] theorem canon_ptr (b g i o : Nat) : (AV.ptr b g i o).canon = .ptr b g i o := nr rfl
@[simp] theorem canon_rp (sz o : Nat) (e : AV) : (AV.rp sz e o).canon = .rp sz e o := nr rfl
@[simp] theorem canon_sl (sz b g off len : Nat) : (AV.sl sz b g off len).canon = .sl sz b g off len := nr rfl
@[simp] theorem canon_emp : AV.emp.canon = mkRo 0 [] := nr rfl
@[simp] theorem canon_undef : AV.undef.canon = .undef := nr rfl
@[simp] theorem canon_agg (cs : List AV) : (AV.agg cs).canon = .agg (cs.map AV.canon) := nr (by simp [AV.canon, canonL_eq])
@[simp] theorem canon_tup (cs : List AV) : (AV.tup cs).canon = .tup (cs.map AV.canon) := nr (by simp [AV.canon, canonL_eq])
@[simp] theorem canon_fn (f : Nat) (a k : List AV) : (AV.fn f a k).canon = .fn f (a.map AV.canon) (k.map AV.canon) := nr (by simp [AV.canon, canonL_eq])
theorem mkRo_nil (sz sz' : Nat) : mkRo sz [] = mkRo sz' [] := nr rfl
@[simp] theorem cells_int (k : IntKind) (n : Int) : (AV.int k n).cells = [.int k n] := nr rfl
@[simp] theorem cells_bool (b : Bool) : (AV.bool b).cells = [.bool b] := nr rfl
@[simp] theorem cells_str (s : List UInt8) : (AV.str s).cells = [.str s] := nr rfl
@[simp] theorem cells_emp : AV.emp.cells = [.emp] := nr rfl
@[simp] theorem cells_agg (cs : List AV) : (AV.agg cs).cells = cs := nr rfl
@[simp] theorem cells_sl (sz b g off len : Nat) : (AV.sl sz b g off len).cells = [.sl sz b g off len] := nr rfl
@[simp] theorem cells_ro (sz : Nat) (xs : List AV) : (AV.ro sz xs).cells = [.ro sz xs] := nr rfl
@[simp] theorem cells_fn (f : Nat) (a k : List AV) : (AV.fn f a k).cells = [.fn f a k] := nr rfl
@[simp] theorem cells_ptr (b g i o : Nat) : (AV.ptr b g i o).cells = [.ptr b g i o] := nr rfl
@[simp] theorem cells_rp (sz o : Nat) (e : AV) : (AV.rp sz e o).cells = [.rp sz e o] := nr rfl
@[simp] theorem ok_int (k : IntKind) (n : Int) : (AV.int k n).ok = true := nr rfl
@[simp] theorem ok_bool (b : Bool) : (AV.bool b).ok = true := nr rfl
@[simp] theorem ok_str (s : List UInt8) : (AV.str s).ok = true := nr rfl
@[simp] theorem ok_emp : AV.emp.ok = true := nr rfl
@[simp] theorem ok_agg (cs : List AV) : (AV.agg cs).ok = true := nr rfl
@[simp] theorem ok_sl (sz b g off len : Nat) : (AV.sl sz b g off len).ok = true := nr rfl
@[simp] theorem ok_ro (sz : Nat) (xs : List AV) : (AV.ro sz xs).ok = true := nr rfl
@[simp] theorem ok_fn (f : Nat) (a k : List AV) : (AV.fn f a k).ok = true := nr rfl
@[simp] theorem ok_ptr (b g i o : Nat) : (AV.ptr b g i o).ok = true := nr rfl
@[simp] theorem ok_rp (sz o : Nat) (e : AV) : (AV.rp sz e o).ok = true := nr rfl
@[simp] theorem isAgg_agg (cs : List AV) : (AV.agg cs).isAgg = true := nr rfl
@[simp] theorem isAgg_int (k : IntKind) (n : Int) : (AV.int k n).isAgg = false := nr rfl
@[simp] theorem isAgg_bool (b : Bool) : (AV.bool b).isAgg = false := nr rfl
@[simp] theorem isAgg_str (s : List UInt8) : (AV.str s).isAgg = false := nr rfl
@[simp] theorem isAgg_emp : AV.emp.isAgg = false := nr rfl
@[simp] theorem isAgg_sl (sz b g off len : Nat) : (AV.sl sz b g off len).isAgg = false := nr rfl
@[simp] theorem isAgg_fn (f : Nat) (a k : List AV) : (AV.fn f a k).isAgg = false := nr rfl
@[simp] theorem isAgg_ptr (b g i o : Nat) : (AV.ptr b g i o).isAgg = false := nr rfl
@[simp] theorem isAgg_rp (sz o : Nat) (e : AV) : (AV.rp sz e o).isAgg = false := nr rfl

/-! ### Parts -/
@[simp] theorem part_false (n sz o : Nat) (e : AV) : part false n sz o e = e.cells[o]? := nr (by simp [part])
theorem part_whole {n : Nat} {cs : List AV} : part true n n 0 (.agg cs) = some (.agg cs) := nr (by simp [part])
theorem part_true {n sz o : Nat} {cs : List AV} (h : o + n ≤ cs.length) (hw : (o == 0 && n == sz) = false) : part true n sz o (.agg cs) = some (.agg ((cs.drop o).take n)) := nr (by
  simp [part, h]; intro h1 h2; simp [h1, h2] at hw)
@[simp] theorem load_rp (h : Heap) (agg : Bool) (n sz o : Nat) (e : AV) : loadAV h agg n (.rp sz e o) = part agg n sz o e := nr rfl
def loadK (agg : Bool) (n i o : Nat) (B : Option Blk) : Option AV :=
  match B with
  | some B => match B.es[i]? with
    | some e => part agg n B.sz o e
    | none => none
  | none => none
@[simp] theorem loadK_some (agg : Bool) (n i o ty sz : Nat) (frz : Bool) (es : List AV) : loadK agg n i o (some ⟨ty, sz, frz, es⟩) = (es[i]?).bind (part agg n sz o) := nr (by
  simp only [loadK]; cases es[i]? <;> rfl)
@[simp] theorem load_ptr (h : Heap) (agg : Bool) (n b g i o : Nat) : loadAV h agg n (.ptr b g i o) = loadK agg n i o (good h b g) := nr (by
  simp only [loadAV, loadK]; cases good h b g <;> rfl)
def goodE (e : Option Ent) (g : Nat) : Option Blk :=
  match e with
  | some (.live B) => if B.es.length = g then some B else none
  | _ => none
@[simp] theorem goodE_live (ty sz : Nat) (frz : Bool) (es : List AV) (g : Nat) : goodE (some (.live ⟨ty, sz, frz, es⟩)) g = if es.length = g then some ⟨ty, sz, frz, es⟩ else none := nr rfl
@[simp] theorem good_e (h : Heap) (b g : Nat) : good h b g = goodE h[b]? g := nr (by
  simp only [good, blk, goodE]
  cases h[b]? with
  | none => rfl
  | some e => cases e <;> rfl)
def readK (sz off len g : Nat) (B : Option Blk) : Option (List AV) :=
  match B with
  | some B => if B.sz = sz ∧ off + len ≤ g then some ((B.es.drop off).take len) else none
  | none => none
@[simp] theorem readK_some (sz off len g ty sz' : Nat) (frz : Bool) (es : List AV) : readK sz off len g (some ⟨ty, sz', frz, es⟩) = if sz' = sz ∧ off + len ≤ g then some ((es.drop off).take len) else none := nr rfl
@[simp] theorem readSl_sl (h : Heap) (sz sz' b g off len : Nat) : readSl h sz (.sl sz' b g off len) = readK sz off len g (good h b g) := nr (by
  simp only [readSl, readK]; cases good h b g <;> rfl)
def natK (f : Nat → Option AV) (j : Option Nat) : Option AV :=
  match j with
  | some j => f j
  | none => none
@[simp] theorem iaddr_sl (sz b g off len : Nat) (k : IntKind) (i : Int) : iaddrAV sz (.sl sz b g off len) (.int k i) = if 0 ≤ i ∧ i.toNat < len then some (.ptr b g (off + i.toNat) 0) else none := nr (by
  simp only [iaddrAV, natArg]
  by_cases h1 : 0 ≤ i
  · simp [h1]
  · simp [h1])
theorem istr_str {s : List UInt8} {j : Nat} {c : UInt8} (k : IntKind) {i : Int} (hi : i = (j : Int)) (hj : s[j]? = some c) : istrAV (.str s) (.int k i) = some (.int .u8 c.toNat) := nr (by
  subst hi; simp [istrAV, natArg, hj])
@[simp] theorem istr_zero (c : UInt8) (s : List UInt8) (k : IntKind) : istrAV (.str (c :: s)) (.int k 0) = some (.int .u8 c.toNat) := istr_str k (j := 0) rfl rfl

/-! ### New blocks -/
@[simp] theorem place_end (h : Heap) (bs : List Blk) : place h h.length bs = some (h ++ bs.map .live) := nr (by simp [place])
@[simp] theorem place_at_end {h : Heap} {t : Nat} (ht : t = h.length) (bs : List Blk) : place h t bs = some (h ++ bs.map .live) := nr (by simp [place, ht])
@[simp] theorem place_in {h : Heap} {t : Nat} (ht : t ≠ h.length) (bs : List Blk) : place h t bs = fill h t bs := nr (by simp [place, ht])
@[simp] theorem fill_nil (h : Heap) (t : Nat) : fill h t [] = some h := nr rfl
def fillK (h : Heap) (t : Nat) (B : Blk) (bs : List Blk) (e : Option Ent) : Option Heap :=
  match e with
  | some .free => fill (h.set t (.live B)) (t + 1) bs
  | _ => none
@[simp] theorem fillK_free (h : Heap) (t : Nat) (B : Blk) (bs : List Blk) : fillK h t B bs (some .free) = fill (h.set t (.live B)) (t + 1) bs := nr rfl
@[simp] theorem fill_cons (h : Heap) (t : Nat) (B : Blk) (bs : List Blk) : fill h t (B :: bs) = fillK h t B bs h[t]? := nr (by
  simp only [fill, fillK]
  cases h[t]? with
  | none => rfl
  | some e => cases e <;> rfl)
theorem place_nil (h : Heap) (tgt : Nat) : place h tgt [] = some h := nr (by
  unfold place
  split
  · simp
  · rfl)
def boxK (r : Option Heap) (tgt : Nat) : Option (AV × Heap) :=
  match r with
  | some h' => some (.ptr tgt 1 0 0, h')
  | none => none
@[simp] theorem boxK_some (h' : Heap) (tgt : Nat) : boxK (some h') tgt = some (.ptr tgt 1 0 0, h') := nr rfl
@[simp] theorem box_plain (h : Heap) (tgt ty sz : Nat) (x : AV) : boxAV h tgt ty sz [] x = if x.cells.length = sz then boxK (place h tgt [⟨ty, sz, false, [x]⟩]) tgt else none := nr (by
  simp only [boxAV, boxK]
  split
  · cases place h tgt [⟨ty, sz, false, [x]⟩] <;> rfl
  · rfl)
def slK (r : Option Heap) (sz tgt n : Nat) : Option (AV × Heap) :=
  match r with
  | some h' => some (.sl sz tgt n 0 n, h')
  | none => none
@[simp] theorem slK_some (h' : Heap) (sz tgt n : Nat) : slK (some h') sz tgt n = some (.sl sz tgt n 0 n, h') := nr rfl
@[simp] theorem buildSlR_some (asRo : Bool) (ty sz len zl : Nat) (es : List AV) : buildSlR asRo ty sz len tgt zl (some es) h =
    if zl = sz then (if len = 0 then some (.emp, h) else if asRo = true then some (.ro sz es, h) else slK (place h tgt [⟨ty, sz, false, es⟩]) sz tgt len) else none := nr (by
  simp only [buildSlR, slK])
@[simp] theorem mkslR_some (ty sz zl : Nat) (z : AV) (n m : Nat) : mkslR ty sz tgt zl z (some n) (some m) h = if n = m ∧ n ≤ most ∧ zl = sz then slK (place h tgt [⟨ty, sz, false, List.replicate n z⟩]) sz tgt n else none := nr (by
  simp only [mkslR, slK])
@[simp] theorem app_emp (ty sz : Nat) (ys : List AV) : appendAV h lo base tgt ty sz .emp ys = if ys = [] then some (.emp, h) else if ys.length ≤ most then slK (place h tgt [⟨ty, sz, false, ys⟩]) sz tgt ys.length else none := nr (by
  simp only [appendAV, slK, List.isEmpty_iff]
  split
  · rfl
  · split
    · cases place h tgt [⟨ty, sz, false, ys⟩] <;> rfl
    · rfl)
/-- Appended to a block of the frame's own. -/
theorem app_own {ty sz sz' b g len : Nat} {ys es : List AV} (hB : h[b]? = some (.live ⟨ty, sz, false, es⟩)) (hg : es.length = g) (hl : len = g) (hlo : lo ≤ b) (hb : base ≤ b) (hm : g + ys.length ≤ most) (hok : ys.all AV.ok = true) :
    appendAV h lo base tgt ty sz (.sl sz' b g 0 len) ys = some (.sl sz b (g + ys.length) 0 (g + ys.length), h.set b (.live ⟨ty, sz, false, es ++ ys⟩)) := nr (by
  have hgd : good h b g = some ⟨ty, sz, false, es⟩ := by rw [good_e, hB, goodE_live, if_pos hg]
  have h1 : (!(len == g)) = false := by simp [hl]
  simp only [appendAV, if_pos hlo, hgd, if_pos hb]
  simp [hl, hm, hok])
def stK (lo base n i o : Nat) (b : Nat) (v : AV) (h : Heap) (B : Option Blk) : Option Heap :=
  match B with
  | some B => if B.frz then none else
    match B.es[i]? with
    | some e => match putPart n B.sz o e v with
      | some e' => some (h.set b (.live { B with es := B.es.set i e' }))
      | none => none
    | none => none
  | none => none
theorem store_own {n b g i o : Nat} {v : AV} (hlo : lo ≤ b) (hb : base ≤ b) : storeAV h lo base n (.ptr b g i o) v = stK lo base n i o b v h (good h b g) := nr (by
  simp only [storeAV, if_pos hlo, if_pos hb, stK]
  cases good h b g with
  | none => rfl
  | some B =>
    simp only
    split
    · rfl
    · cases B.es[i]? with
      | none => rfl
      | some e => simp only; cases putPart n B.sz o e v <;> rfl)
@[simp] theorem store_00 {n b g i o : Nat} {v : AV} : storeAV h 0 0 n (.ptr b g i o) v = stK 0 0 n i o b v h (good h b g) := store_own (Nat.zero_le _) (Nat.zero_le _)
def setK (h : Heap) (b ty sz i : Nat) (es : List AV) (e : Option AV) : Option Heap :=
  match e with
  | some e' => some (h.set b (.live ⟨ty, sz, false, es.set i e'⟩))
  | none => none
@[simp] theorem setK_some (h : Heap) (b ty sz i : Nat) (es : List AV) (e : AV) : setK h b ty sz i es (some e) = some (h.set b (.live ⟨ty, sz, false, es.set i e⟩)) := nr rfl
@[simp] theorem stK_some (n i o b ty sz : Nat) (v : AV) (es : List AV) : stK lo base n i o b v h (some ⟨ty, sz, false, es⟩) = setK h b ty sz i es ((es[i]?).bind fun e => putPart n sz o e v) := nr (by
  simp only [stK, setK, Bool.false_eq_true, if_false]
  cases es[i]? with
  | none => rfl
  | some e => simp only [Option.bind_some])
@[simp] theorem putPart_1 (sz o : Nat) (e v : AV) (he : e.isAgg = false) (hv : v.isAgg = false) (hc : v.cells.length = 1) (ho : v.ok = true) (hl : o + 1 ≤ e.cells.length) : putPart 1 sz o e v = some v := nr (by
  simp [putPart, hc, ho, he, hv, hl])
@[simp] theorem putPart_cell (sz o : Nat) (cs : List AV) (v : AV) (hv : v.isAgg = false) (hc : v.cells.length = 1) (ho : v.ok = true) (hl : o + 1 ≤ cs.length) : putPart 1 sz o (.agg cs) v = some (.agg (splice cs o v.cells)) := nr (by
  simp [putPart, hc, ho, hv, hl])
@[simp] theorem putPart_whole (n : Nat) (cs vs : List AV) (hl : vs.length = n) : putPart n n 0 (.agg cs) (.agg vs) = some (.agg vs) := nr (by
  simp [putPart, hl])
theorem putPart_agg (n sz o : Nat) (cs vs : List AV) (hl : vs.length = n) (hw : (o == 0 && n == sz) = false) (ho : o + n ≤ cs.length) : putPart n sz o (.agg cs) (.agg vs) = some (.agg (splice cs o vs)) := nr (by
  simp [putPart, hl, ho]; intro h1 h2; simp [h1, h2] at hw)
@[simp] theorem splice_def (cs : List AV) (o : Nat) (vs : List AV) : splice cs o vs = cs.take o ++ vs ++ cs.drop (o + vs.length) := nr rfl
end

/-! ### Results -/
@[simp] theorem mapO_nil {α β : Type} (f : α → Option β) : mapO f [] = some [] := nr rfl
def consO {β : Type} (y : Option β) (ys : Option (List β)) : Option (List β) :=
  match y, ys with
  | some y, some ys => some (y :: ys)
  | _, _ => none
@[simp] theorem consO_some {β : Type} (y : β) (ys : List β) : consO (some y) (some ys) = some (y :: ys) := nr rfl
@[simp] theorem mapO_cons {α β : Type} (f : α → Option β) (x : α) (xs : List α) : mapO f (x :: xs) = consO (f x) (mapO f xs) := nr (by
  simp only [mapO, consO]; cases f x <;> cases mapO f xs <;> rfl)
def resK (r : Option (List AV)) : Option AV :=
  match r with
  | some [v] => some v
  | some vs => some (.tup vs)
  | none => none
@[simp] theorem resK_one (v : AV) : resK (some [v]) = some v := nr rfl
@[simp] theorem resK_nil : resK (some []) = some (.tup []) := nr rfl
@[simp] theorem resK_two (v w : AV) (vs : List AV) : resK (some (v :: w :: vs)) = some (.tup (v :: w :: vs)) := nr rfl
@[simp] theorem resultAV_k (h : Heap) (fr : Frame) (rs : List ARes) : resultAV h fr rs = resK (mapO (resAV h fr) rs) := nr (by
  simp only [resultAV, resK]
  cases mapO (resAV h fr) rs with
  | none => rfl
  | some vs => cases vs with
    | nil => rfl
    | cons v vs => cases vs <;> rfl)
@[simp] theorem resAV_tmp (h : Heap) (fr : Frame) (t : Nat) : resAV h fr (.tmp t) = some (fr t) := nr rfl
@[simp] theorem resAV_cell (h : Heap) (fr : Frame) (t n : Nat) (agg : Bool) : resAV h fr (.cell t agg n) = loadAV h agg n (fr t) := nr rfl

/-! ### What a run comes to -/
def Sat (r : Option R) (Q : Out → Frame → Heap → Prop) : Prop := ∃ o fr h, r = some (o, fr, h) ∧ Q o fr h
@[simp] theorem sat_some (o : Out) (fr : Frame) (h : Heap) (Q : Out → Frame → Heap → Prop) : Sat (some (o, fr, h)) Q = Q o fr h := by
  apply propext
  constructor
  · rintro ⟨o', fr', h', e, hq⟩; cases e; exact hq
  · intro hq; exact ⟨_, _, _, rfl, hq⟩
theorem Sat.mono {r : Option R} {Q Q' : Out → Frame → Heap → Prop} (h : Sat r Q) (hm : ∀ o fr h, Q o fr h → Q' o fr h) : Sat r Q' := by
  obtain ⟨o, fr, hp, e, hq⟩ := h
  exact ⟨o, fr, hp, e, hm _ _ _ hq⟩
def thenQ (k : Body) (Q : Out → Frame → Heap → Prop) : Out → Frame → Heap → Prop
  | .normal, fr, h => Sat (k fr h) Q
  | o, fr, h => Q o fr h
@[simp] theorem thenQ_normal (k : Body) (Q : Out → Frame → Heap → Prop) (fr : Frame) (h : Heap) : thenQ k Q .normal fr h = Sat (k fr h) Q := rfl
@[simp] theorem thenQ_exit (k : Body) (Q : Out → Frame → Heap → Prop) (i : Nat) (fr : Frame) (h : Heap) : thenQ k Q (.exit i) fr h = Q (.exit i) fr h := rfl
@[simp] theorem thenQ_ret (k : Body) (Q : Out → Frame → Heap → Prop) (fr : Frame) (h : Heap) : thenQ k Q .ret fr h = Q .ret fr h := rfl
theorem sat_then {r : Option R} {k : Body} {Q : Out → Frame → Heap → Prop} (h : Sat r (thenQ k Q)) : Sat (andThen r k) Q := by
  obtain ⟨o, fr, hp, rfl, hq⟩ := h
  cases o with
  | normal => exact hq
  | exit i => exact ⟨_, _, _, rfl, hq⟩
  | ret => exact ⟨_, _, _, rfl, hq⟩
def blkQ (id : Nat) (Q : Out → Frame → Heap → Prop) : Out → Frame → Heap → Prop
  | .exit j, fr, h => if j = id then Q .normal fr h else Q (.exit j) fr h
  | o, fr, h => Q o fr h
@[simp] theorem blkQ_normal (id : Nat) (Q : Out → Frame → Heap → Prop) (fr : Frame) (h : Heap) : blkQ id Q .normal fr h = Q .normal fr h := rfl
@[simp] theorem blkQ_ret (id : Nat) (Q : Out → Frame → Heap → Prop) (fr : Frame) (h : Heap) : blkQ id Q .ret fr h = Q .ret fr h := rfl
@[simp] theorem blkQ_exit (id j : Nat) (Q : Out → Frame → Heap → Prop) (fr : Frame) (h : Heap) : blkQ id Q (.exit j) fr h = if j = id then Q .normal fr h else Q (.exit j) fr h := rfl
theorem sat_blk {r : Option R} {id : Nat} {Q : Out → Frame → Heap → Prop} (h : Sat r (blkQ id Q)) : Sat (inBlk id r) Q := by
  obtain ⟨o, fr, hp, rfl, hq⟩ := h
  cases o with
  | normal => exact ⟨_, _, _, rfl, hq⟩
  | ret => exact ⟨_, _, _, rfl, hq⟩
  | exit j =>
    simp only [blkQ_exit] at hq
    split at hq
    · rename_i e; subst e; exact ⟨.normal, fr, hp, by simp, hq⟩
    · rename_i e; exact ⟨.exit j, fr, hp, by simp [e], hq⟩
theorem sat_it {b : Body} {fr : Frame} {h : Heap} {Q : Out → Frame → Heap → Prop} (hs : Sat (b fr h) (thenQ (itW b) Q)) : Sat (itW b fr h) Q := by
  rw [itW_eq]
  exact sat_then hs
@[simp] theorem ctxW_cf (Q : Prg) : (ctxW Q).cf = callW Q := nr rfl
@[simp] theorem ctxW_it (Q : Prg) : (ctxW Q).it = itW := nr rfl

end Go.Abs
