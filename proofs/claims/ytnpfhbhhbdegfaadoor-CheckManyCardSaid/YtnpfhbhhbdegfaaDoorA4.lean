/- Operations that leave the world as it is: what they yield is what the abstract operation says. -/
import Derived.Test.YtnpfhbhhbdegfaaDoorA3
import Derived.WalkKit
import Derived.Laws.CopyRow
namespace Go.Abs

theorem mapO_some {α β : Type} {f : α → Option β} : ∀ {xs : List α} {ys : List β}, mapO f xs = some ys →
    ys.length = xs.length ∧ ∀ (i : Nat) (x : α), xs[i]? = some x → ∃ y, ys[i]? = some y ∧ f x = some y
  | [], ys, h => by simp [mapO] at h; subst h; simp
  | x :: xs, ys, h => by
    simp only [mapO] at h
    split at h
    · rename_i y ys' hy hys
      cases h
      obtain ⟨hl, hi⟩ := mapO_some hys
      refine ⟨by simp [hl], fun i z hz => ?_⟩
      cases i with
      | zero => simp at hz; subst hz; exact ⟨y, rfl, hy⟩
      | succ i => simpa using hi i z (by simpa using hz)
    · cases h

def FrRep (g : G) (fr : Frame) (a : Act) : Prop := ∀ t, Rep g (fr t) (a.tmps.getD t undef)

theorem constAV1_rep {g : G} {v : Value} {x : AV} (h : constAV1 v = some x) : Rep g x v := by
  unfold constAV1 at h
  split at h <;> cases h
  · exact .int _ _
  · exact .bool _
  · rename_i s
    have : Rep g (.str s.data.toList) (.string ⟨s.data.toList.toArray⟩) := .str _
    simpa using this
  · exact .nilp
  · exact .emp
theorem constAV1_one {v : Value} {x : AV} (h : constAV1 v = some x) : v.oneCell' = true := by
  unfold constAV1 at h
  split at h <;> first | cases h; done | rfl
theorem constAV_rep {g : G} {v : Value} {x : AV} (h : constAV v = some x) : Rep g x v := by
  unfold constAV at h
  split at h
  · rename_i cs
    cases hm : mapO constAV1 cs.toList with
    | none => rw [hm] at h; cases h
    | some ys =>
      rw [hm] at h
      cases h
      obtain ⟨hl, hi⟩ := mapO_some hm
      refine .agg (by simpa using hl) (fun j c v hc hv => ?_) (fun j v hv => ?_)
      · obtain ⟨y, hy, he⟩ := hi j v (by simpa using hv)
        rw [hc] at hy
        cases hy
        exact constAV1_rep he
      · obtain ⟨y, _, he⟩ := hi j v (by simpa using hv)
        exact constAV1_one he
  · exact constAV1_rep h

theorem opd_rep {g : G} {fr : Frame} {a : Act} (hf : FrRep g fr a) {x : Operand} {y : Opd} (h : opd x = some y) : Rep g (y.get fr) (a.eval x) := by
  cases x with
  | tmp t => simp [opd] at h; subst h; exact hf t
  | const v =>
    simp only [opd, Option.map_eq_some_iff] at h
    obtain ⟨z, hz, rfl⟩ := h
    exact constAV_rep hz
  | global => simp [opd] at h
  | func f =>
    simp [opd] at h
    subst h
    exact .fn rfl (by simp) rfl (by simp)

/-- The operation yields a value and leaves the world. -/
def Yl (P : Program) (o : Oper) (a : Act) (g : G) (v : AV) : Prop := ∃ v', (execOp a.eval o).run P g.w = .ok (.value v') g.w ∧ Rep g v v'

section
variable {P : Program} {g : G} {fr : Frame} {a : Act}

theorem run_vv {s : Sem Value} {w w' : World} {v : Value} (h : s.run P w = .ok v w') : (do pure (Next.value (← s)) : Sem Next).run P w = .ok (.value v) w' := by
  simp [h]

theorem und_run {t : Nat} {d : TypeDesc} (h : P.underlying t = some d) (w : World) : (underlying t).run P w = .ok d w := by simp [underlying, program, Sem.run, h]
theorem size_run {t n : Nat} (h : tySize P t = some n) (w : World) : (sizeOf t).run P w = .ok n w := by
  unfold tySize at h
  cases hi : P.info? t with
  | none => rw [hi] at h; cases h
  | some i => rw [hi] at h; cases h; simp [sizeOf, typeInfo, program, Sem.run, hi]
theorem agg_run {t : Nat} {b : Bool} (h : tyAgg P t = some b) (w : World) : (isAgg t).run P w = .ok b w := by
  unfold tyAgg at h
  cases hu : P.underlying t with
  | none => rw [hu] at h; cases h
  | some d =>
    rw [hu] at h
    simp only [isAgg, Sem.run_bind, und_run hu, Result.andThen_ok]
    cases d <;> cases h <;> simp

theorem yl_move {o : Oper} {x : Operand} {y : Opd} (ho : o.op = .move x ∨ o.op = .assign x) (hx : opd x = some y) (hf : FrRep g fr a) : Yl P o a g (y.get fr) :=
  ⟨a.eval x, by rcases ho with ho | ho <;> simp [execOp, ho], opd_rep hf hx⟩

theorem rep_bool {b : Bool} {v : Value} (h : Rep g (.bool b) v) : v = .bool b := by cases h; rfl
theorem rep_int {k : IntKind} {n : Int} {v : Value} (h : Rep g (.int k n) v) : v = .int k n := by cases h; rfl
theorem rep_str {s : List UInt8} {v : Value} (h : Rep g (.str s) v) : v = .string ⟨s.toArray⟩ := by cases h; rfl

theorem yl_pick {o : Oper} {c x y : Operand} {c' x' y' : Opd} {t : Bool} (ho : o.op = .pick c x y) (hc : opd c = some c') (hx : opd x = some x') (hy : opd y = some y') (hf : FrRep g fr a)
    (ht : c'.get fr = .bool t) : Yl P o a g (if t then x'.get fr else y'.get fr) := by
  have h1 := opd_rep hf hc
  rw [ht] at h1
  have h1 := rep_bool h1
  refine ⟨if t then a.eval x else a.eval y, by simp [execOp, ho, h1, asBool], ?_⟩
  cases t
  · exact opd_rep hf hy
  · exact opd_rep hf hx

theorem eqGuard_int (op : BinOp) (t : Nat) (x y : Operand) (k : IntKind) (n : Int) (v : Value) : eqGuard op t x y (.int k n) v = pure () := by cases op <;> rfl
theorem eqGuard_str (op : BinOp) (t : Nat) (x y : Operand) (s : ByteArray) (v : Value) : eqGuard op t x y (.string s) v = pure () := by cases op <;> rfl
theorem eqGuard_bool (op : BinOp) (t : Nat) (x y : Operand) (b : Bool) (v : Value) : eqGuard op t x y (.bool b) v = pure () := by cases op <;> rfl

theorem byteArray_toList (l : List UInt8) : (⟨l.toArray⟩ : ByteArray).toList = l := by
  rw [ByteArray.toList_eq]

theorem run_binOp_int {op : BinOp} {t : Nat} {k : IntKind} {x y : Int} {v : AV} (hs : isShift op = false) (h : intBin op k x y = some v) (w : World) : ∃ v', (binOp op t (.int k x) (.int k y)).run P w = .ok v' w ∧ Rep g v v' := by
  unfold intBin at h
  split at h <;> (try cases h) <;> (try (simp [isShift] at hs; done))
  · exact ⟨_, by simp [binOp, Op.intArith], .int _ _⟩
  · exact ⟨_, by simp [binOp, Op.intArith], .int _ _⟩
  · exact ⟨_, by simp [binOp, Op.intArith], .int _ _⟩
  · split at h
    · cases h
    · rename_i hy
      cases h
      exact ⟨_, by simp [binOp, Op.intDiv, hy], .int _ _⟩
  · split at h
    · cases h
    · rename_i hy
      cases h
      exact ⟨_, by simp [binOp, Op.intDiv, hy], .int _ _⟩
  · exact ⟨_, by simp [binOp, Op.intBits], .int _ _⟩
  · exact ⟨_, by simp [binOp, Op.intBits], .int _ _⟩
  · exact ⟨_, by simp [binOp, Op.intBits], .int _ _⟩
  · exact ⟨_, by simp [binOp, Op.intBits], .int _ _⟩
  · exact ⟨_, by simp [binOp, Op.intCmp], .bool _⟩
  · exact ⟨_, by simp [binOp, Op.intCmp], .bool _⟩
  · exact ⟨_, by simp [binOp, Op.intCmp], .bool _⟩
  · exact ⟨_, by simp [binOp, Op.intCmp], .bool _⟩
  · exact ⟨_, by simp [binOp, Op.intCmp], .bool _⟩
  · exact ⟨_, by simp [binOp, Op.intCmp], .bool _⟩

theorem run_binOp_shift {op : BinOp} {t : Nat} {k k' : IntKind} {x y : Int} {v : AV} (h : shiftBin op k x y = some v) (w : World) : ∃ v', (binOp op t (.int k x) (.int k' y)).run P w = .ok v' w ∧ Rep g v v' := by
  unfold shiftBin at h
  split at h
  · cases h
  · rename_i hy
    split at h <;> cases h
    · exact ⟨_, by simp [binOp, Op.shift, hy], .int _ _⟩
    · exact ⟨_, by simp [binOp, Op.shift, hy], .int _ _⟩

theorem run_binOp_str {op : BinOp} {t : Nat} {x y : List UInt8} {v : AV} (h : strBin op x y = some v) (w : World) : ∃ v', (binOp op t (.string ⟨x.toArray⟩) (.string ⟨y.toArray⟩)).run P w = .ok v' w ∧ Rep g v v' := by
  unfold strBin at h
  split at h
  · cases h
    exact ⟨_, by simp [binOp, Op.stringOp], .bool _⟩
  · cases h
    exact ⟨_, by simp [binOp, Op.stringOp], .bool _⟩
  · split at h
    · rename_i hl
      cases h
      refine ⟨.string (⟨x.toArray⟩ ++ ⟨y.toArray⟩), ?_, ?_⟩
      · have hx : (⟨x.toArray⟩ : ByteArray).size = x.length := rfl
        have hy : (⟨y.toArray⟩ : ByteArray).size = y.length := rfl
        have : ¬ (((x.length : Int) + (y.length : Int)) > IntKind.i64.max) := by
          have : IntKind.i64.max = 9223372036854775807 := by decide
          omega
        simp only [binOp, Op.stringOp, hx, hy]
        simp only [Int.natCast_add, this, if_false]
        rfl
      · have : Rep g (.str (x ++ y)) (.string ⟨(x ++ y).toArray⟩) := .str _
        have e : (⟨x.toArray⟩ ++ ⟨y.toArray⟩ : ByteArray) = ⟨(x ++ y).toArray⟩ := by
          apply ByteArray.ext
          simp [ByteArray.data_append]
        rw [e]
        exact this
    · cases h
  · cases h

theorem yl_bin {o : Oper} {op : BinOp} {t u : Nat} {x y : Operand} {x' y' : Opd} {v : AV} (ho : o.op = .binOp op t x y u) (hx : opd x = some x') (hy : opd y = some y') (hf : FrRep g fr a)
    (h : binAV op (x'.get fr) (y'.get fr) = some v) : Yl P o a g v := by
  have h1 := opd_rep hf hx
  have h2 := opd_rep hf hy
  generalize x'.get fr = X at *
  generalize y'.get fr = Y at *
  unfold binAV at h
  split at h
  · rename_i k m k' n
    have e1 := rep_int h1
    have e2 := rep_int h2
    split at h
    · obtain ⟨v', hr, hv⟩ := run_binOp_shift (P := P) (g := g) (t := t) (k' := k') h g.w
      exact ⟨v', by simp only [execOp, ho, e1, e2, eqGuard_int]; simp [hr], hv⟩
    · rename_i hs
      split at h
      · rename_i hk
        subst hk
        obtain ⟨v', hr, hv⟩ := run_binOp_int (P := P) (g := g) (t := t) (by simpa using hs) h g.w
        exact ⟨v', by simp only [execOp, ho, e1, e2, eqGuard_int]; simp [hr], hv⟩
      · cases h
  · have e1 := rep_str h1
    have e2 := rep_str h2
    obtain ⟨v', hr, hv⟩ := run_binOp_str (P := P) (g := g) (t := t) h g.w
    exact ⟨v', by simp only [execOp, ho, e1, e2, eqGuard_str]; simp [hr], hv⟩
  · cases h

theorem yl_eqB {o : Oper} {op : BinOp} {t u : Nat} {x y : Operand} {x' y' : Opd} {b c n : Bool} (ho : o.op = .binOp op t x y u) (hx : opd x = some x') (hy : opd y = some y') (hf : FrRep g fr a)
    (hn : isEq op = some n) (ht : isBoolT P t = true) (h1 : x'.get fr = .bool b) (h2 : y'.get fr = .bool c) : Yl P o a g (.bool (if n then !(b == c) else b == c)) := by
  have e1 := opd_rep hf hx
  have e2 := opd_rep hf hy
  rw [h1] at e1
  rw [h2] at e2
  have e1 := rep_bool e1
  have e2 := rep_bool e2
  have hu : P.underlying t = some .bool := by
    unfold isBoolT at ht
    split at ht
    · assumption
    · cases ht
  refine ⟨_, ?_, .bool _⟩
  unfold isEq at hn
  split at hn <;> cases hn
  · simp only [execOp, ho, e1, e2, eqGuard_bool]
    simp [run_eql_bool, hu]
  · simp only [execOp, ho, e1, e2, eqGuard_bool]
    simp [run_neq_bool, hu]

theorem yl_un {o : Oper} {op : UnOp} {t : Nat} {x : Operand} {x' : Opd} {v : AV} (ho : o.op = .unOp op t x) (hx : opd x = some x') (hf : FrRep g fr a) (h : unAV op (x'.get fr) = some v) : Yl P o a g v := by
  have h1 := opd_rep hf hx
  generalize x'.get fr = X at *
  unfold unAV at h
  split at h <;> cases h
  · have e1 := rep_bool h1
    exact ⟨_, by simp [execOp, ho, e1, Op.unary], .bool _⟩
  · have e1 := rep_int h1
    exact ⟨_, by simp [execOp, ho, e1, Op.unary, Op.intArith], .int _ _⟩
  · have e1 := rep_int h1
    exact ⟨_, by simp [execOp, ho, e1, Op.unary, Op.intBits], .int _ _⟩

theorem yl_conv {o : Oper} {s d : Nat} {x : Operand} {x' : Opd} {k k' ks : IntKind} {n : Int} (ho : o.op = .convert s d x) (hx : opd x = some x') (hf : FrRep g fr a) (hs : P.underlying s = some (.int ks)) (hd : P.underlying d = some (.int k))
    (h : x'.get fr = .int k' n) : Yl P o a g (.int k (k.wrap n)) := by
  have h1 := opd_rep hf hx
  rw [h] at h1
  have e1 := rep_int h1
  refine ⟨.int k (k.wrap n), ?_, .int _ _⟩
  simp only [execOp, ho, e1, convert]
  simp only [Sem.run_bind, und_run hs, und_run hd, Result.andThen_ok]
  simp [Conv.intToInt]

theorem nat_of {x : AV} {n : Nat} {v : Value} (h : natArg x = some n) (hr : Rep g x v) : ∃ k, v = .int k (n : Int) := by
  unfold natArg at h
  split at h
  · split at h
    · rename_i k m hm
      cases h
      exact ⟨k, by rw [rep_int hr, Int.toNat_of_nonneg hm]⟩
    · cases h
  · cases h

theorem slLen_of {x : AV} {n : Nat} {v : Value} (h : slLen x = some n) (hr : Rep g x v) : ∃ A cap, v = .slice A n cap ∧ n ≤ cap := by
  cases hr <;> simp [slLen] at h
  · subst h; exact ⟨_, _, rfl, Nat.le_refl _⟩
  · subst h; exact ⟨_, _, rfl, Nat.zero_le _⟩
  · subst h; rename_i h3 _ _; exact ⟨_, _, rfl, by assumption⟩
  · subst h; exact ⟨_, _, rfl, by assumption⟩

theorem yl_lenSl {o : Oper} {x : Operand} {x' : Opd} {t n : Nat} {e : Nat} (ho : o.op = .call { callee := .builtin .len, args := #[x], argTypes := #[t] }) (hx : opd x = some x') (hf : FrRep g fr a) (ht : elemTy P t = some e)
    (h : slLen (x'.get fr) = some n) : Yl P o a g (.int .i64 n) := by
  obtain ⟨A, cap, e1, _⟩ := slLen_of h (opd_rep hf hx)
  have hu : P.underlying t = some (.slice e) := by
    unfold elemTy at ht
    split at ht
    · cases ht; assumption
    · cases ht
  refine ⟨.int .i64 n, ?_, .int _ _⟩
  simp [execOp, ho, resolve, invoke, builtin, Builtin.len_, e1, und_run hu, goInt]

theorem isStrT_eq {t : Nat} (h : isStrT P t = true) : P.underlying t = some .string := by
  unfold isStrT at h
  split at h
  · assumption
  · cases h
theorem elemTy_eq {t e : Nat} (h : elemTy P t = some e) : P.underlying t = some (.slice e) := by
  unfold elemTy at h
  split at h
  · cases h; assumption
  · cases h

theorem yl_lenStr {o : Oper} {x : Operand} {x' : Opd} {t : Nat} {s : List UInt8} (ho : o.op = .call { callee := .builtin .len, args := #[x], argTypes := #[t] }) (hx : opd x = some x') (hf : FrRep g fr a) (ht : isStrT P t = true)
    (h : x'.get fr = .str s) : Yl P o a g (.int .i64 s.length) := by
  have h1 := opd_rep hf hx
  rw [h] at h1
  have e1 := rep_str h1
  refine ⟨.int .i64 s.length, ?_, .int _ _⟩
  have hb : (Builtin.len_ #[t] o.type #[.string ⟨s.toArray⟩]).run P g.w = .ok (.int .i64 s.length) g.w := by
    simp only [Builtin.len_, List.getElem?_toArray, List.getElem?_cons_zero, Sem.run_bind, und_run (isStrT_eq ht), Result.andThen_ok]
    rfl
  simp [execOp, ho, resolve, invoke, builtin, e1, hb]

theorem yl_nilChk {o : Oper} {x : Operand} {x' : Opd} (ho : o.op = .nilCheck x) (hx : opd x = some x') (hf : FrRep g fr a) (h : (∃ b n i o, x'.get fr = .ptr b n i o) ∨ ∃ s e o, x'.get fr = .rp s e o) : Yl P o a g (x'.get fr) := by
  have h1 := opd_rep hf hx
  refine ⟨a.eval x, ?_, h1⟩
  have : ∃ ad, a.eval x = .pointer (some ad) := by
    generalize a.eval x = V at h1
    rcases h with ⟨b, n, i, o', h⟩ | ⟨s, e, o', h⟩
    · rw [h] at h1
      cases h1
      exact ⟨_, rfl⟩
    · rw [h] at h1
      cases h1
      exact ⟨_, rfl⟩
  obtain ⟨ad, had⟩ := this
  simp [execOp, ho, had]

theorem yl_faddr {o : Oper} {s f off n : Nat} {b : Bool} {x : Operand} {x' : Opd} {v : AV} (ho : o.op = .fieldAddr s x f) (hx : opd x = some x') (hf : FrRep g fr a) (hfl : fieldOf P s f = some (off, n, b)) (hn : n ≠ 0)
    (h : faddrAV off (x'.get fr) = some v) : Yl P o a g v := by
  have h1 := opd_rep hf hx
  unfold fieldOf at hfl
  split at hfl
  · rename_i fs hu
    split at hfl
    · rename_i fd hfd
      split at hfl
      · rename_i n' a' hsz hag
        cases hfl
        have key : ∀ ad : Addr, a.eval x = .pointer (some ad) → (execOp a.eval o).run P g.w = .ok (.value (.pointer (some (ad.add fd.offset)))) g.w := by
          intro ad he
          simp only [execOp, ho, he]
          refine run_vv ?_
          have hfd' : (fs : Array Field)[f]? = some fd := hfd
          simp only [Instr.fieldAt, Sem.run_bind, und_run hu, Result.andThen_ok, hfd', Instr.sureAddr, Sem.run_pure, fieldPlace, size_run hsz]
          simp [hn]
        have add_eq : ∀ c o' : Nat, (⟨c, o', none⟩ : Addr).add fd.offset = ⟨c, o' + fd.offset, none⟩ := by
          intro c o'
          unfold Addr.add
          split
          · rename_i h0; rw [h0]; rfl
          · rfl
        generalize x'.get fr = X at *
        unfold faddrAV at h
        split at h <;> cases h
        · generalize hv : a.eval x = V at h1
          cases h1
          rename_i ad hk hd
          refine ⟨_, key ad hv, .ptr hk fun B c hg hc => ?_⟩
          rw [hd B c hg hc, add_eq, Nat.add_assoc]
        · generalize hv : a.eval x = V at h1
          cases h1 with
          | rp r1 r2 r3 r4 =>
            refine ⟨_, key _ hv, ?_⟩
            rw [add_eq, Nat.add_assoc]
            exact .rp r1 r2 r3 r4
      · cases hfl
    · cases hfl
  · cases hfl

theorem add_off (c o n : Nat) : (⟨c, o, none⟩ : Addr).add n = ⟨c, o + n, none⟩ := by
  unfold Addr.add
  split
  · rename_i h0; rw [h0]; rfl
  · rfl

theorem yl_iaddr {o : Oper} {t e : Nat} {x i : Operand} {x' i' : Opd} {v : AV} {sz : Nat} (ho : o.op = .indexAddr t x i) (hx : opd x = some x') (hi : opd i = some i') (hf : FrRep g fr a) (ht : elemTy P t = some e)
    (hsz : tySize P e = some sz) (h : iaddrAV sz (x'.get fr) (i'.get fr) = some v) : Yl P o a g v := by
  have h1 := opd_rep hf hx
  have h2 := opd_rep hf hi
  have hu := elemTy_eq ht
  generalize x'.get fr = X at *
  generalize i'.get fr = I at *
  unfold iaddrAV at h
  split at h
  · cases h
  · rename_i j hj
    obtain ⟨k, e2⟩ := nat_of hj h2
    have key : ∀ ad len cap, a.eval x = .slice (some ad) len cap → j < len → (execOp a.eval o).run P g.w = .ok (.value (.pointer (some (ad.add (j * sz))))) g.w := by
      intro ad len cap he hl
      simp only [execOp, ho, he, e2]
      refine run_vv ?_
      have h3 : (0 : Int) ≤ (j : Int) ∧ (j : Int) < (len : Int) := by omega
      simp only [Instr.indexAt, asIntOf, Sem.run_bind, Sem.run_pure, und_run hu, Result.andThen_ok]
      simp [h3, size_run hsz]
    split at h
    · rename_i s xs
      split at h
      · rename_i el hel
        split at h
        · rename_i hs
          cases h
          subst hs
          generalize hv : a.eval x = V at h1
          cases h1 with
          | ro vf r1 r2 r3 r4 =>
            have hl : j < xs.length := (List.getElem?_eq_some_iff.1 hel).1
            obtain ⟨c, off, hA, hS, hc⟩ := r4 (by intro h; subst h; simp at hl)
            subst hA
            refine ⟨_, key _ _ _ hv hl, ?_⟩
            rw [add_off]
            exact .rp (off := off + j * s) (r1 j el hel) hS (fun q y hy => hc j q y hl hy) (r2 j hl)
        · cases h
      · cases h
    · rename_i s b n of len
      split at h
      · rename_i hl
        obtain ⟨hl, hs⟩ := hl
        cases h
        subst hs
        generalize hv : a.eval x = V at h1
        cases h1 with
        | sl r1 r2 r3 r6 r7 r4 r5 =>
          obtain ⟨ad, rfl⟩ := r7 (by omega)
          refine ⟨_, key _ _ _ hv hl, .ptr r1 fun B c hg hc => ?_⟩
          have := r4 (by omega) B c hg hc
          cases this
          rw [add_off, r6 B hg, Nat.add_mul, Nat.add_zero]
      · cases h
    · cases h

theorem yl_aaddr {o : Oper} {t e len sz j : Nat} {x i : Operand} {x' i' : Opd} {v : AV} (ho : o.op = .indexAddr t x i) (hx : opd x = some x') (hi : opd i = some i') (hf : FrRep g fr a) (ht : P.underlying t = some (.array len e)) (hsz : tySize P e = some sz)
    (hj : natArg (i'.get fr) = some j) (hl : j < len) (h1l : 1 < len) (h : faddrAV (j * sz) (x'.get fr) = some v) : Yl P o a g v := by
  have h1 := opd_rep hf hx
  obtain ⟨k, e2⟩ := nat_of hj (opd_rep hf hi)
  have key : ∀ ad : Addr, a.eval x = .pointer (some ad) → (execOp a.eval o).run P g.w = .ok (.value (.pointer (some (ad.add (j * sz))))) g.w := by
    intro ad he
    simp only [execOp, ho, he, e2]
    refine run_vv ?_
    have h3 : (0 : Int) ≤ (j : Int) ∧ (j : Int) < (len : Int) := by omega
    simp only [Instr.indexAt, asIntOf, Sem.run_bind, Sem.run_pure, und_run ht, Result.andThen_ok, Instr.sureAddr]
    simp [h3, size_run hsz]
  generalize x'.get fr = X at *
  unfold faddrAV at h
  split at h <;> cases h
  · generalize hv : a.eval x = V at h1
    cases h1
    rename_i ad hk hd
    refine ⟨_, key ad hv, .ptr hk fun B c hg hc => ?_⟩
    rw [hd B c hg hc, add_off, Nat.add_assoc]
  · generalize hv : a.eval x = V at h1
    cases h1 with
    | rp r1 r2 r3 r4 =>
      refine ⟨_, key _ hv, ?_⟩
      rw [add_off, Nat.add_assoc]
      exact .rp r1 r2 r3 r4

theorem opd_emp {y : Operand} {y' : Opd} (hy : opd y = some y') (he : y'.isEmp = true) : y = .const (.slice none 0 0) := by
  cases y with
  | tmp t => simp [opd] at hy; subst hy; cases he
  | func f => simp [opd] at hy; subst hy; cases he
  | global q => simp [opd] at hy
  | const c =>
    simp only [opd, Option.map_eq_some_iff] at hy
    obtain ⟨z, hz, rfl⟩ := hy
    cases z <;> first | (cases he; done) | skip
    unfold constAV at hz
    split at hz
    · cases hm : mapO constAV1 (_ : Array Value).toList with
      | none => rw [hm] at hz; cases hz
      | some ys => rw [hm] at hz; cases hz
    · unfold constAV1 at hz
      split at hz <;> cases hz
      rfl

theorem equal_nil {t e : Nat} (hu : P.underlying t = some (.slice e)) (ad : Addr) (n c : Nat) (w : World) : (Op.equal t (.slice (some ad) n c) (.slice none 0 0)).run P w = .ok false w := by
  have key : ∀ d : Nat, (Op.equalIn (d + 1) t (.slice (some ad) n c) (.slice none 0 0)).run P w = .ok false w := fun d => by
    simp only [Op.equalIn, Sem.run_bind, und_run hu, Result.andThen_ok]
    rfl
  exact key 9999
theorem equal_nil2 {t e : Nat} (hu : P.underlying t = some (.slice e)) (A : Option Addr) (n c : Nat) (w : World) : (Op.equal t (.slice A n c) (.slice none 0 0)).run P w = .ok A.isNone w := by
  cases A with
  | some ad => exact equal_nil hu ad n c w
  | none =>
    have key : ∀ d : Nat, (Op.equalIn (d + 1) t (.slice none n c) (.slice none 0 0)).run P w = .ok true w := fun d => by
      simp only [Op.equalIn, Sem.run_bind, und_run hu, Result.andThen_ok]
      rfl
    exact key 9999
theorem yl_isNil_nn {o : Oper} {op : BinOp} {t u e : Nat} {x y : Operand} {x' y' : Opd} {q b : Bool} (ho : o.op = .binOp op t x y u) (hx : opd x = some x') (hy : opd y = some y') (he : y'.isEmp = true) (hf : FrRep g fr a)
    (hn : isEq op = some q) (ht : elemTy P t = some e) (h : x'.get fr = .nn b) : Yl P o a g (.bool (b != q)) := by
  have h1 := opd_rep hf hx
  have hyv := opd_emp hy he
  subst hyv
  rw [h] at h1
  have hA : ∃ A cap, a.eval x = .slice A 0 cap ∧ b = A.isNone := by
    generalize a.eval x = V at *
    cases h1 with
    | nn => exact ⟨_, _, rfl, rfl⟩
  obtain ⟨A, cap, hA, hb⟩ := hA
  have hu := elemTy_eq ht
  refine ⟨.bool (b != q), ?_, .bool _⟩
  simp only [execOp, ho, hA]
  refine run_vv ?_
  cases op <;> simp only [isEq] at hn <;> cases hn <;> cases A <;> simp [eqGuard, Act.eval, binOp, equal_nil2 hu, hb]
theorem yl_isNil {o : Oper} {op : BinOp} {t u n e : Nat} {x y : Operand} {x' y' : Opd} {q : Bool} (ho : o.op = .binOp op t x y u) (hx : opd x = some x') (hy : opd y = some y') (he : y'.isEmp = true) (hf : FrRep g fr a)
    (hn : isEq op = some q) (ht : elemTy P t = some e) (h : slLen (x'.get fr) = some n) (h0 : n ≠ 0) : Yl P o a g (.bool q) := by
  have h1 := opd_rep hf hx
  have hyv := opd_emp hy he
  subst hyv
  have hA : ∃ ad len cap, a.eval x = .slice (some ad) len cap := by
    generalize x'.get fr = X at *
    generalize a.eval x = V at *
    cases h1 with
    | emp => simp [slLen] at h; omega
    | nn => simp [slLen] at h; omega
    | ro vf r1 r2 r3 r4 =>
      simp [slLen] at h
      obtain ⟨c, off, hA, _⟩ := r4 (by intro hh; subst hh; simp at h; omega)
      exact ⟨_, _, _, by rw [hA]⟩
    | sl r1 r2 r3 r6 r7 r4 r5 =>
      simp [slLen] at h
      obtain ⟨ad, hA⟩ := r7 (by omega)
      exact ⟨ad, _, _, by rw [hA]⟩
    | _ => simp [slLen] at h
  obtain ⟨ad, len, cap, hA⟩ := hA
  have hu := elemTy_eq ht
  refine ⟨.bool q, ?_, .bool _⟩
  simp only [execOp, ho, hA]
  refine run_vv ?_
  cases op <;> simp only [isEq] at hn <;> cases hn <;> simp [eqGuard, Act.eval, binOp, equal_nil hu]

end
end Go.Abs
