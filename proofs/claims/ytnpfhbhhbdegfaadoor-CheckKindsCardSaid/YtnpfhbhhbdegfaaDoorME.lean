/- The top: a law's call from its row. Functions that are told by themselves. -/
import Derived.Test.YtnpfhbhhbdegfaaDoorMD
import Derived.ProofKit
import Derived.Lib.Bytealg
import Derived.Laws.Externs
import Derived.Handed
import Derived.JoinedOf
import Derived.LaidLaws
import Derived.Lay
import Derived.SevenTiedAt
set_option linter.unusedSimpArgs false
set_option linter.unusedVariables false
namespace Go.Abs
open Go.ChangeShapes Go.WideShapes Go.ChangeAt Go.RowKit

/-! ### A copy of a slice, nil or not -/
def ctx0 : Ctx := { cf := fun _ _ _ _ _ _ => none, it := iter 0, stOf := fun _ => false }
def polK : Pol := { st := false, keep := true, raw := false, top := 0 }
def cloneX (fn : AFn) (lo base tgt : Nat) (args : List AV) (h : Heap) : Option (AV × Heap) :=
  match args with
  | [x] => match slLen x with
    | some 0 => some (.emp, h)
    | some (_ + 1) => callPol polK (bodyAV ctx0 fn) lo base tgt [x] h
    | none => none
  | _ => none
def CloneOk (fn : AFn) : Prop := ∀ (b : Bool) (lo base tgt : Nat) (h : Heap), callPol polK (bodyAV ctx0 fn) lo base tgt [.nn b] h = some (.emp, h)

section
variable {P : Program} {gh : Nat → List (Nat × Nat × Nat)}

theorem ctx0_sound : CallSound P ctx0.cf := by
  intro f lo base tgt args h v h' e
  cases e

theorem clone_sound (hmix : P.follows .mixedOrders = true) {f : Nat} {fn : Func} {af : AFn} (hfn : P.funcs[f]? = some fn) (hcf : compileFn P gh fn = some af) (hc : CloneOk af)
    {lo base tgt : Nat} {args : List AV} {g : G} {vals : Array Value} {v : AV} {h' : Heap} (h : cloneX af lo base tgt args g.h = some (v, h')) (hlb : lo ≤ base) (hbt : base ≤ tgt) (hbl : base ≤ g.h.length)
    (hr : HRep lo g) (ha : RepL g args vals) : Does P (Post lo base g v h') ((callFunc f vals).run P g.w) := by
  have hbody : BodySound P f (bodyAV ctx0 af) := fun lo base args g vals v h1 h2 h3 h4 h5 h6 =>
    (body_sound (gh := gh) hmix (c := ctx0) ctx0_sound h2 (fun f lo base tgt args h v h' _ e => by cases e) rfl hfn hcf h4 h5 h3 h6).1
  have hname : (fn.name == "runtime.NumGoroutine") = false ∧ fn.body.isNone = false := by
    unfold compileFn at hcf
    split at hcf
    · cases hcf
    · rename_i code hbd
      split at hcf
      · rename_i hd
        simp only [Bool.and_eq_true, Bool.not_eq_true'] at hd
        exact ⟨hd.2, by rw [hbd]; rfl⟩
      · cases hcf
  have run : (callFunc f vals).run P g.w = .ok (.enter f vals) g.w := by
    simp only [callFunc, program, Sem.run_bind, Sem.run, Result.andThen_ok, hfn, hname.1, hname.2, Bool.false_eq_true, if_false]
    rfl
  rw [run]
  unfold cloneX at h
  split at h
  · rename_i x
    split at h
    · rename_i hx
      cases h
      obtain ⟨hl, ha⟩ := ha
      have hsz : vals.size = 1 := by simpa using hl.symm
      have hv : Rep g x vals[0] := ha 0 x vals[0] rfl (by rw [Array.getElem?_eq_getElem])
      obtain ⟨A, cap, he, _⟩ := slLen_of hx hv
      have hn : RepL g [.nn A.isNone] vals := by
        refine ⟨by simp [hsz], fun j y u hy hu => ?_⟩
        cases j with
        | succ j => simp at hy
        | zero =>
          simp only [List.getElem?_cons_zero, Option.some.injEq] at hy
          subst hy
          rw [Array.getElem?_eq_getElem (by omega)] at hu
          cases hu
          rw [he]
          exact .nn
      exact callPol_sound hbody hlb hbt hbl hr hn (hc _ lo base tgt g.h)
    · exact callPol_sound hbody hlb hbt hbl hr ha h
    · cases h
  · cases h

theorem clone_V {af : AFn} {lo base tgt : Nat} {args : List AV} {h h' : Heap} {v : AV} (e : cloneX af lo base tgt args h = some (v, h')) (ht : tgt < h.length) : ∀ b : Nat, b < tgt ∨ tgt + 2 ≤ b → sameC h[b]? h'[b]? := by
  unfold cloneX at e
  split at e
  · split at e
    · cases e
      exact fun _ _ => .refl _
    · exact callPol_V rfl rfl e ht
    · cases e
  · cases e

/-! ### The first place of a byte -/
def indexX (_ _ _ : Nat) (args : List AV) (h : Heap) : Option (AV × Heap) :=
  match args with
  | [.str s, .int .u8 c] => some (.int .i64 (Lib.indexByte s c.toNat.toUInt8), h)
  | _ => none
theorem index_sound {f : Nat} {fn : Func} (hf : P.funcs[f]? = some fn) (hname : (fn.name == "runtime.NumGoroutine") = false)
    (hb : fn.body.isNone = true) (hn : Extern.findNext fn = none) (he : Extern.find fn = some Extern.BytealgIndexByte.indexByte)
    {lo base tgt : Nat} {args : List AV} {g : G} {vals : Array Value} {v : AV} {h' : Heap} (h : indexX lo base tgt args g.h = some (v, h')) (hr : HRep lo g) (ha : RepL g args vals) : Does P (Post lo base g v h') ((callFunc f vals).run P g.w) := by
  unfold indexX at h
  split at h
  · rename_i s c
    cases h
    obtain ⟨hl, ha⟩ := ha
    have hsz : vals.size = 2 := by simpa using hl.symm
    have h0 : Rep g (.str s) vals[0] := ha 0 _ vals[0] rfl (by rw [Array.getElem?_eq_getElem])
    have h1 : Rep g (.int .u8 c) vals[1] := ha 1 _ vals[1] rfl (by rw [Array.getElem?_eq_getElem])
    have hv : vals = #[vals[0], vals[1]] := by
      apply Array.ext
      · simp [hsz]
      · intro i h1 h2
        have : i < 2 := by omega
        match i, this with
        | 0, _ => rfl
        | 1, _ => rfl
    rw [hv, rep_str h0, rep_int h1, run_callFunc_extern hf hname hb hn he, Lib.run_indexByteString]
    exact ⟨g.r, g.St, .int _ _, hr, Step.refl lo base g⟩
  · cases h

theorem index_V {lo base tgt : Nat} {args : List AV} {h h' : Heap} {v : AV} (e : indexX lo base tgt args h = some (v, h')) : h' = h := by
  unfold indexX at e
  split at e
  · cases e; rfl
  · cases e

/-! ### From the row's reading -/
/-- The state at the top: nothing abstract, all memory stays. -/
def gTop (W : World) : G := ⟨[], ⟨fun _ => none, fun _ => none⟩, W, fun c => c < W.heap.size⟩

theorem below_of_grows {W W' : World} (h : Grows W W') : Below W.heap.size W W' := ⟨h.os, h.tape, h.output, h.size, fun k hk => h.old k hk⟩

theorem kept_of_grows {W W' : World} {may : MemPlace → Prop} (h : Grows W W') : W.keptBut W' may := by
  refine ⟨h.os, h.output, fun i hi => ?_⟩
  rw [h.old i hi]
  cases hx : W.heap[i]? with
  | none => trivial
  | some o =>
    cases o with
    | cells c t fr => exact ⟨rfl, rfl, rfl, fun _ _ => rfl⟩
    | map es clock => exact .inr ⟨rfl, rfl⟩
    | _ => rfl

variable {H : Type} {enc : TypeId × Value → H}

theorem trodAll_below (hl : laidOutB P = true) {W W' : World} (hb : Below W.heap.size W W') : ∀ (ts : List TypeId) (vs : List Value) (ds : List (DataW H)) (ps : List MemPlace),
    (∀ t ∈ ts, P.readableRec t = true ∧ t < P.types.size) → DataW.TrodAll enc P W 0 (fun _ => true) true ts vs ds ps → (∀ x ∈ ps, x.block < W.heap.size) →
    DataW.TrodAll enc P W' 0 (fun b => decide (b < W.heap.size)) true ts vs ds ps
  | [], [], [], ps, _, h, _ => h
  | t :: ts, v :: vs, d :: ds, ps, ht, h, hp => by
    obtain ⟨p, q, h1, h2, rfl⟩ := h
    refine ⟨p, q, Below.trod hl (ht t (by simp)).1 (ht t (by simp)).2 h1 hb fun x hx => hp x (List.mem_append_left _ hx), trodAll_below hl hb ts vs ds q (fun t h => ht t (List.mem_cons_of_mem _ h)) h2 fun x hx => hp x (List.mem_append_right _ hx), rfl⟩
  | [], _ :: _, _, _, _, h, _ => by cases h
  | [], [], _ :: _, _, _, h, _ => by cases h
  | _ :: _, [], _, _, _, h, _ => by cases h
  | _ :: _, _ :: _, [], _, _, h, _ => by cases h

theorem law_post {f : Func} {s : ChangeSpec} {apart fresh handsOn : Bool} {W W' : World} {args : Array Value} {ds gs : List (DataW H)} {before : List MemPlace} {tb : TypeId} (hl : laidOutB P = true)
    (hps : f.params.toList.all (fun t => P.readableRec t && decide (t < P.types.size)) = true) (hrt : f.resultTypes = #[tb]) (htb : P.underlying tb = some .bool) (hW : DataW.Whole enc P f.params.toList s.vars apart W args.toList ds gs before) (hv : s.vars = [])
    (hs : s.fn H ds = { results := [.lit (.bool true)], args := ds }) (hb : Grows W W') : s.post enc P f apart fresh handsOn false W args (.bool true) W' := by
  have hW' := hW
  obtain ⟨p, q, h1, h2, h3, h4, h5⟩ := hW'
  rw [hv] at h2
  have hgs : gs = [] ∧ q = [] := by
    cases gs with
    | nil => exact ⟨rfl, h2⟩
    | cons g r => exact absurd h2 (by intro h; cases h)
  obtain ⟨rfl, rfl⟩ := hgs
  rw [List.append_nil] at h3
  subst h3
  have hlt : ∀ x ∈ before, x.block < W.heap.size := fun x hx => hW.lt x hx
  refine ⟨ds, [], before, [], before, [], hW, ?_, ?_, ?_, kept_of_grows hb, fun h => by cases h⟩
  · rw [List.append_nil, hs, hrt]
    exact trodAll_mk1 (shut_bool htb true)
  · rw [List.append_nil, hs]
    exact trodAll_below hl (below_of_grows hb) _ _ _ _ (fun t ht => by simpa using List.all_eq_true.1 hps t ht) h1 hlt
  · rw [hv, List.append_nil, hs]
    rfl

/-- ████ A law, from its call's abstract answer. -/
theorem law_lifted {C : Checked} {gh : Nat → List (Nat × Nat × Nat)} {Q : Prg} (hQ : PrgOk C.prog gh Q) {os : Os} (started : os.Started) {f : FuncId} {fn : Func} {af : AFn} {s : ChangeSpec} {conds : List PathCond} {apart fresh handsOn : Bool} {X : World → Array Value → Prop} {a : Assume} {tb : TypeId}
    (hX : ∀ (w w' : World) (args : Array Value), w.heap = w'.heap → X w args → X w' args) (own : ownKnob C.prog.godebug = none) (noInit : C.prog.inits.idxOf? f = none) (hfn : C.prog.funcs[f]? = some fn)
    (witness : ∃ (w : World) (tape : Tape) (i : Input), w.os = os ∧ (w.forCall tape i).Shaped C.prog ∧ i.vars = [] ∧ Input.okWide C.prog (w.forCall tape i) .any w.heap.size f i ∧
      ((s.pre enc C.prog fn conds apart (w.forCall tape i).memory i.args ∧ X (w.forCall tape i).memory i.args) ∧ sizedMet enc C.prog fn (OpenSpec.ofChange s) apart (w.forCall tape i).memory i.args) ∧ a.holds C.prog (lone (Frame.enter C.prog f i.args .normal) [] (w.forCall tape i)))
    (hl : laidOutB C.prog = true) (hps : fn.params.toList.all (fun t => C.prog.readableRec t && decide (t < C.prog.types.size)) = true) (hrt : fn.resultTypes = #[tb]) (htb : C.prog.underlying tb = some .bool) (hv : s.vars = [])
    (hs : ∀ ds : List (DataW H), ds.length = fn.params.size → s.fn H ds = { results := [.lit (.bool true)], args := ds })
    (hex : Q.ext f = none) (haf : Q.fns f = some af)
    (core : ∀ (W : World) (base : Nat) (args : Array Value) (ds : List (DataW H)) (ps : List MemPlace),
      (∀ (j : Nat) t v, fn.params[j]? = some t → args[j]? = some v → Value.okWide C.prog W .any base t v) → DataW.TrodAll enc C.prog W 0 (fun _ => true) true fn.params.toList args.toList ds ps →
      ∃ (avs : List AV) (h' : Heap), RepL (gTop W) avs args ∧ callW Q f 0 0 0 avs [] = some (.bool true, h')) :
    ReturnsInHanded a C os f .any (fun w args => (s.pre enc C.prog fn conds apart w args ∧ X w args) ∧ sizedMet enc C.prog fn (OpenSpec.ofChange s) apart w args) (s.post enc C.prog fn apart fresh handsOn false) := by
  refine returnsInHanded_of_change_and hX own started noInit hfn witness ?_
  intro W base args ds gs before hval hW _ _ _ _
  have hW' := hW
  obtain ⟨p, q, h1, h2, h3, h4, h5⟩ := hW'
  obtain ⟨avs, h', hr, hc⟩ := core W base args ds p hval h1
  obtain ⟨k, hk⟩ := callW_iff.1 hc
  have hlen : ∀ (ts : List TypeId) (vs : List Value) (ds : List (DataW H)) (ps : List MemPlace), DataW.TrodAll enc C.prog W 0 (fun _ => true) true ts vs ds ps → ds.length = ts.length := by
    intro ts
    induction ts with
    | nil => intro vs ds ps h; cases vs <;> cases ds <;> first | rfl | cases h
    | cons t ts ih =>
      intro vs ds ps h
      cases vs with
      | nil => cases h
      | cons v vs =>
        cases ds with
        | nil => cases h
        | cons d ds =>
          obtain ⟨p, q, _, h2, _⟩ := h
          simp [ih vs ds q h2]
  cases k with
  | zero => simp [callN] at hk
  | succ k =>
    refine (top_sound hQ (St := fun c => c < W.heap.size) hex haf (fun _ h => h) hr hk).mono fun e w' he => ?_
    cases e with
    | returned v =>
      obtain ⟨⟨g', hv'⟩, hg⟩ := he
      rw [rep_bool hv']
      exact ⟨_, rfl, law_post hl hps hrt htb hW hv (hs ds (by rw [hlen _ _ _ _ h1]; simp)) hg⟩
    | _ => cases he

end
end Go.Abs

/- Evaluation by rewriting: each step of the abstract interpreter as an equation of its own. -/
set_option linter.unusedSimpArgs false
set_option linter.unusedVariables false
namespace Go.Abs

universe u
/-- An equation that is used as a step of a proof, not by unfolding. -/
theorem nr {α : Sort u} {a b : α} (h : a = b) : a = b := h.symm.symm

def toR (r : Option (Frame × Heap)) : Option R := r.map fun x => (.normal, x.1, x.2)
def runK (cf : CallF) (lo base : Nat) (os : List AOper) (d : Option Nat) (r : Option (AV × Heap)) (fr : Frame) : Option (Frame × Heap) :=
  match r with
  | some (v, h') => runOps cf lo base os (updO fr d v) h'
  | none => none
def runG (g : AV) (w : Bool) (x y : Option (Frame × Heap)) : Option (Frame × Heap) :=
  match g with
  | .bool b => if b = w then x else y
  | _ => y
def condB (g : AV) (x y : Option R) : Option R :=
  match g with
  | .bool b => if b = true then x else y
  | _ => none
@[congr] theorem condB_congr {g g' : AV} (h : g = g') (x y : Option R) : condB g x y = condB g' x y := by rw [h]
@[congr] theorem runG_congr {g g' : AV} (h : g = g') (w : Bool) (x y : Option (Frame × Heap)) : runG g w x y = runG g' w x y := by rw [h]

section
variable {c : Ctx} {cf : CallF} {lo base tgt : Nat} {fr : Frame} {h : Heap}
@[simp] theorem ex_seq (a b : ACode) : exec c lo base (.seq a b) fr h = andThen (exec c lo base a fr h) (exec c lo base b) := nr (by simp only [exec])
@[simp] theorem ex_region (ops : List AOper) : exec c lo base (.region ops) fr h = toR (runOps c.cf lo base ops fr h) := nr (by simp only [exec]; cases runOps c.cf lo base ops fr h <;> rfl)
@[simp] theorem ex_cond (t : Opd) (a b : ACode) : exec c lo base (.cond t a b) fr h = condB (t.get fr) (exec c lo base a fr h) (exec c lo base b fr h) := nr (by
  simp only [exec, condB]; cases t.get fr <;> rfl)
@[simp] theorem ex_block (id : Nat) (a : ACode) : exec c lo base (.block id a) fr h = inBlk id (exec c lo base a fr h) := nr (by simp only [exec])
@[simp] theorem ex_loop (a : ACode) : exec c lo base (.loop a) fr h = c.it (exec c lo base a) fr h := nr (by simp only [exec])
@[simp] theorem ex_exit (id : Nat) : exec c lo base (.exit id) fr h = some (.exit id, fr, h) := nr (by simp only [exec])
@[simp] theorem ex_ret : exec c lo base .ret fr h = some (.ret, fr, h) := nr (by simp only [exec])
@[simp] theorem ex_skip : exec c lo base .skip fr h = some (.normal, fr, h) := nr (by simp only [exec])
@[simp] theorem condB_true (x y : Option R) : condB (.bool true) x y = x := nr (by simp [condB])
@[simp] theorem condB_false (x y : Option R) : condB (.bool false) x y = y := nr (by simp [condB])
@[simp] theorem runG_tt (x y : Option (Frame × Heap)) : runG (.bool true) true x y = x := nr (by simp [runG])
@[simp] theorem runG_tf (x y : Option (Frame × Heap)) : runG (.bool true) false x y = y := nr (by simp [runG])
@[simp] theorem runG_ft (x y : Option (Frame × Heap)) : runG (.bool false) true x y = y := nr (by simp [runG])
@[simp] theorem runG_ff (x y : Option (Frame × Heap)) : runG (.bool false) false x y = x := nr (by simp [runG])
@[simp] theorem runG_undef (w : Bool) (x y : Option (Frame × Heap)) : runG .undef w x y = y := nr rfl
@[simp] theorem toR_some (x : Frame) (y : Heap) : toR (some (x, y)) = some (.normal, x, y) := nr rfl
@[simp] theorem at_normal (k : Body) : andThen (some (.normal, fr, h)) k = k fr h := nr rfl
@[simp] theorem at_exit (k : Body) (i : Nat) : andThen (some (.exit i, fr, h)) k = some (.exit i, fr, h) := nr rfl
@[simp] theorem at_ret (k : Body) : andThen (some (.ret, fr, h)) k = some (.ret, fr, h) := nr rfl
@[simp] theorem ib_normal (i : Nat) : inBlk i (some (.normal, fr, h)) = some (.normal, fr, h) := nr rfl
@[simp] theorem ib_ret (i : Nat) : inBlk i (some (.ret, fr, h)) = some (.ret, fr, h) := nr rfl
@[simp] theorem ib_exit (i j : Nat) : inBlk i (some (.exit j, fr, h)) = if j = i then some (.normal, fr, h) else some (.exit j, fr, h) := nr rfl
@[simp] theorem ro_nil : runOps cf lo base [] fr h = some (fr, h) := nr (by simp only [runOps])
@[simp] theorem ro_cons (d : Option Nat) (op : AOp) (os : List AOper) : runOps cf lo base (⟨d, op, none⟩ :: os) fr h = runK cf lo base os d (stepOp cf lo base h.length op fr h) fr := nr (by
  simp only [runOps, wants, if_true]; cases stepOp cf lo base h.length op fr h <;> rfl)
@[simp] theorem ro_g (d : Option Nat) (op : AOp) (t : Nat) (w : Bool) (os : List AOper) : runOps cf lo base (⟨d, op, some (t, w)⟩ :: os) fr h =
    runG (fr t) w (runK cf lo base os d (stepOp cf lo base h.length op fr h) fr) (runOps cf lo base os (updO fr d .undef) h) := nr (by
  cases hx : fr t with
  | bool b =>
    by_cases hb : b = w
    · subst hb
      cases hs : stepOp cf lo base h.length op fr h <;> simp [runOps, wants, runG, runK, hx, hs]
    · simp [runOps, wants, runG, hx, hb]
  | _ => simp [runOps, wants, runG, hx])
@[simp] theorem rk_some (os : List AOper) (d : Option Nat) (v : AV) (h' : Heap) : runK cf lo base os d (some (v, h')) fr = runOps cf lo base os (updO fr d v) h' := nr rfl
@[simp] theorem updO_some (d : Nat) (v : AV) : updO fr (some d) v = upd fr d v := nr rfl
@[simp] theorem updO_none (v : AV) : updO fr none v = fr := nr rfl
@[simp] theorem upd_same (d : Nat) (v : AV) : upd fr d v d = v := nr (by simp [upd])
@[simp] theorem upd_ne {d t : Nat} {v : AV} (h : t ≠ d) : upd fr d v t = fr t := nr (by simp [upd, h])
@[simp] theorem initFr_zero (a : AV) (as : List AV) : initFr (a :: as) 0 = a := nr rfl
@[simp] theorem initFr_succ (a : AV) (as : List AV) (n : Nat) : initFr (a :: as) (n + 1) = initFr as n := nr (by simp [initFr])
@[simp] theorem get_tmp (t : Nat) : Opd.get fr (.tmp t) = fr t := nr rfl
@[simp] theorem get_val (v : AV) : Opd.get fr (.val v) = v := nr rfl

/-! ### Operations -/
@[simp] theorem so_move (x : Opd) : stepOp cf lo base tgt (.move x) fr h = some (x.get fr, h) := nr rfl
def pickAV (c a b : AV) (h : Heap) : Option (AV × Heap) :=
  match c with
  | .bool t => some (if t then a else b, h)
  | _ => none
@[simp] theorem pick_true (a b : AV) (h : Heap) : pickAV (.bool true) a b h = some (a, h) := nr rfl
@[simp] theorem pick_false (a b : AV) (h : Heap) : pickAV (.bool false) a b h = some (b, h) := nr rfl
theorem pick_bool (t x y : Bool) (h : Heap) : pickAV (.bool t) (.bool x) (.bool y) h = some (.bool (bif t then x else y), h) := nr (by cases t <;> rfl)
@[simp] theorem so_pick (x a b : Opd) : stepOp cf lo base tgt (.pick x a b) fr h = pickAV (x.get fr) (a.get fr) (b.get fr) h := nr rfl
@[simp] theorem so_bin (op : BinOp) (x y : Opd) : stepOp cf lo base tgt (.bin op x y) fr h = put1 h (binAV op (x.get fr) (y.get fr)) := nr rfl
@[simp] theorem put1_some (v : AV) : put1 h (some v) = some (v, h) := nr rfl
@[simp] theorem putU_some (h' : Heap) : putU (some h') = some (.undef, h') := nr rfl
def eqBAV (neg : Bool) (x y : AV) (h : Heap) : Option (AV × Heap) :=
  match x, y with
  | .bool a, .bool b => some (.bool (if neg then !(a == b) else a == b), h)
  | _, _ => none
@[simp] theorem so_eqB (neg : Bool) (x y : Opd) : stepOp cf lo base tgt (.eqB neg x y) fr h = eqBAV neg (x.get fr) (y.get fr) h := nr (by
  simp only [stepOp, eqBAV]
  split <;> split <;> simp_all)
@[simp] theorem eqB_f (a b : Bool) : eqBAV false (.bool a) (.bool b) h = some (.bool (a == b), h) := nr rfl
@[simp] theorem eqB_t (a b : Bool) : eqBAV true (.bool a) (.bool b) h = some (.bool (!(a == b)), h) := nr rfl
@[simp] theorem so_un (op : UnOp) (x : Opd) : stepOp cf lo base tgt (.un op x) fr h = put1 h (unAV op (x.get fr)) := nr rfl
@[simp] theorem un_not (b : Bool) : unAV .not (.bool b) = some (.bool (!b)) := nr rfl
@[simp] theorem un_neg (n : Int) : unAV .neg (.int .i64 n) = some (.int .i64 (IntKind.wrap .i64 (0 - n))) := nr rfl
@[simp] theorem so_load (agg : Bool) (n : Nat) (a : Opd) : stepOp cf lo base tgt (.load agg n a) fr h = put1 h (loadAV h agg n (a.get fr)) := nr rfl
@[simp] theorem so_store (n : Nat) (a x : Opd) : stepOp cf lo base tgt (.store n a x) fr h = putU (storeAV h lo base n (a.get fr) (x.get fr)) := nr rfl
@[simp] theorem so_alloc (ty sz : Nat) (gh : List (Nat × Nat × Nat)) (z : AV) : stepOp cf lo base tgt (.alloc ty sz gh z) fr h = boxAV h tgt ty sz gh z := nr rfl
@[simp] theorem so_box (ty sz : Nat) (gh : List (Nat × Nat × Nat)) (x : Opd) : stepOp cf lo base tgt (.box ty sz gh x) fr h = boxAV h tgt ty sz gh (x.get fr) := nr rfl
@[simp] theorem so_mkfn (f : Nat) (a k : List Opd) : stepOp cf lo base tgt (.mkfn f a k) fr h = some (.fn f (a.map (Opd.get fr)) (k.map (Opd.get fr)), h) := nr rfl
def callAV (cf : CallF) (lo base tgt : Nat) (f : AV) (args : List AV) (h : Heap) : Option (AV × Heap) :=
  match f with
  | .fn g a k => cf g lo base tgt (a ++ args ++ k) h
  | _ => none
@[simp] theorem callAV_fn (g : Nat) (a k args : List AV) : callAV cf lo base tgt (.fn g a k) args h = cf g lo base tgt (a ++ args ++ k) h := nr rfl
@[simp] theorem so_call (f : Opd) (args : List Opd) : stepOp cf lo base tgt (.call f args) fr h = callAV cf lo base tgt (f.get fr) (args.map (Opd.get fr)) h := nr rfl
def putLen (o : Option Nat) (h : Heap) : Option (AV × Heap) :=
  match o with
  | some n => some (.int .i64 n, h)
  | none => none
@[simp] theorem putLen_some (n : Nat) : putLen (some n) h = some (.int .i64 n, h) := nr rfl
@[simp] theorem so_lenSl (x : Opd) : stepOp cf lo base tgt (.lenSl x) fr h = putLen (slLen (x.get fr)) h := nr rfl
def strLen : AV → Option Nat
  | .str s => some s.length
  | _ => none
@[simp] theorem strLen_str (s : List UInt8) : strLen (.str s) = some s.length := nr rfl
@[simp] theorem so_lenStr (x : Opd) : stepOp cf lo base tgt (.lenStr x) fr h = putLen (strLen (x.get fr)) h := nr (by
  simp only [stepOp]; cases x.get fr <;> rfl)
@[simp] theorem so_iaddr (sz : Nat) (x i : Opd) : stepOp cf lo base tgt (.iaddr sz x i) fr h = put1 h (iaddrAV sz (x.get fr) (i.get fr)) := nr rfl
@[simp] theorem so_faddr (off : Nat) (x : Opd) : stepOp cf lo base tgt (.faddr off x) fr h = put1 h (faddrAV off (x.get fr)) := nr rfl
@[simp] theorem faddr_ptr (off b g i o : Nat) : faddrAV off (.ptr b g i o) = some (.ptr b g i (o + off)) := nr rfl
@[simp] theorem faddr_rp (off sz o : Nat) (e : AV) : faddrAV off (.rp sz e o) = some (.rp sz e (o + off)) := nr rfl
@[simp] theorem so_istr (x i : Opd) : stepOp cf lo base tgt (.istr x i) fr h = put1 h (istrAV (x.get fr) (i.get fr)) := nr rfl
def nilChkAV (x : AV) (h : Heap) : Option (AV × Heap) :=
  match x with
  | .ptr b g i o => some (.ptr b g i o, h)
  | .rp sz e o => some (.rp sz e o, h)
  | _ => none
@[simp] theorem nilChk_ptr (b g i o : Nat) : nilChkAV (.ptr b g i o) h = some (.ptr b g i o, h) := nr rfl
@[simp] theorem nilChk_rp (sz o : Nat) (e : AV) : nilChkAV (.rp sz e o) h = some (.rp sz e o, h) := nr rfl
@[simp] theorem so_nilChk (x : Opd) : stepOp cf lo base tgt (.nilChk x) fr h = nilChkAV (x.get fr) h := nr (by
  simp only [stepOp]; cases x.get fr <;> rfl)
def extractAV (x : AV) (i : Nat) (h : Heap) : Option (AV × Heap) :=
  match x with
  | .tup vs => put1 h vs[i]?
  | _ => none
@[simp] theorem extract_tup (vs : List AV) (i : Nat) : extractAV (.tup vs) i h = put1 h vs[i]? := nr rfl
@[simp] theorem so_extract (x : Opd) (i : Nat) : stepOp cf lo base tgt (.extract x i) fr h = extractAV (x.get fr) i h := nr (by
  simp only [stepOp]; cases x.get fr <;> rfl)
def fieldAV (agg : Bool) (off n sz : Nat) (x : AV) (h : Heap) : Option (AV × Heap) := if x.isAgg then put1 h (part agg n sz off x) else none
@[simp] theorem so_field (agg : Bool) (off n sz : Nat) (x : Opd) : stepOp cf lo base tgt (.field agg off n sz x) fr h = fieldAV agg off n sz (x.get fr) h := nr rfl
def buildR (r : Option (List AV)) (h : Heap) : Option (AV × Heap) :=
  match r with
  | some cs => some (.agg cs, h)
  | none => none
@[simp] theorem buildR_some (cs : List AV) : buildR (some cs) h = some (.agg cs, h) := nr rfl
@[simp] theorem so_build (z : List AV) (ps : List (Nat × Nat × Opd)) : stepOp cf lo base tgt (.build z ps) fr h = buildR (buildCells z fr ps) h := nr (by
  simp only [stepOp]; cases buildCells z fr ps <;> rfl)
@[simp] theorem bc_nil (cs : List AV) : buildCells cs fr [] = some cs := nr rfl
@[simp] theorem bc_cons (cs : List AV) (off n : Nat) (x : Opd) (ps : List (Nat × Nat × Opd)) : buildCells cs fr ((off, n, x) :: ps) =
    if (x.get fr).cells.length = n ∧ off + n ≤ cs.length ∧ (x.get fr).ok = true then buildCells (splice cs off (x.get fr).cells) fr ps else none := nr rfl
def buildSlR (asRo : Bool) (ty sz len tgt : Nat) (zl : Nat) (r : Option (List AV)) (h : Heap) : Option (AV × Heap) :=
  match r with
  | some es => if zl = sz then
      (if len = 0 then some (.emp, h)
       else if asRo then some (.ro sz es, h)
       else match place h tgt [{ ty, sz, frz := false, es }] with
        | some h' => some (.sl sz tgt len 0 len, h')
        | none => none) else none
  | none => none
@[simp] theorem so_buildSl (asRo : Bool) (ty sz len : Nat) (z : AV) (ps : List (Nat × Opd)) : stepOp cf lo base tgt (.buildSl asRo ty sz len z ps) fr h = buildSlR asRo ty sz len tgt z.cells.length (buildEls sz (List.replicate len z) fr ps) h := nr (by
  simp only [stepOp, buildSlR]
  cases buildEls sz (List.replicate len z) fr ps with
  | none => rfl
  | some es =>
    simp only
    split
    · split
      · rfl
      · split
        · rfl
        · cases place h tgt [{ ty, sz, frz := false, es }] <;> rfl
    · rfl)
@[simp] theorem be_nil (sz : Nat) (es : List AV) : buildEls sz es fr [] = some es := nr rfl
@[simp] theorem be_cons (sz : Nat) (es : List AV) (i : Nat) (x : Opd) (ps : List (Nat × Opd)) : buildEls sz es fr ((i, x) :: ps) =
    if (x.get fr).cells.length = sz ∧ i < es.length ∧ (x.get fr).ok = true then buildEls sz (es.set i (x.get fr)) fr ps else none := nr rfl
def appR (ys : Option (List AV)) (lo base tgt ty sz : Nat) (x : AV) (h : Heap) : Option (AV × Heap) :=
  match ys with
  | some ys => appendAV h lo base tgt ty sz x ys
  | none => none
@[simp] theorem appR_some (ys : List AV) (ty sz : Nat) (x : AV) : appR (some ys) lo base tgt ty sz x h = appendAV h lo base tgt ty sz x ys := nr rfl
@[simp] theorem so_append (ty sz bs : Nat) (x y : Opd) : stepOp cf lo base tgt (.append ty sz bs x y) fr h = appR (readSl h sz (y.get fr)) lo base tgt ty sz (x.get fr) h := nr (by
  simp only [stepOp]; cases readSl h sz (y.get fr) <;> rfl)
def convAV (k : IntKind) (x : AV) (h : Heap) : Option (AV × Heap) :=
  match x with
  | .int _ n => some (.int k (k.wrap n), h)
  | _ => none
@[simp] theorem conv_int (k k' : IntKind) (n : Int) : convAV k (.int k' n) h = some (.int k (k.wrap n), h) := nr rfl
@[simp] theorem so_conv (k : IntKind) (x : Opd) : stepOp cf lo base tgt (.conv k x) fr h = convAV k (x.get fr) h := nr (by
  simp only [stepOp]; cases x.get fr <;> rfl)
def slStrAV (x : AV) (l r : Option Nat) (n : Nat) (h : Heap) : Option (AV × Heap) :=
  match x with
  | .str s => match l, r with
    | some l, some r => if l ≤ r ∧ r ≤ s.length then some (.str ((s.take r).drop l), h) else none
    | _, _ => none
  | _ => none
def strN : AV → Nat
  | .str s => s.length
  | _ => 0
@[simp] theorem strN_str (s : List UInt8) : strN (.str s) = s.length := nr rfl
@[simp] theorem slStr_str (s : List UInt8) (l r n : Nat) : slStrAV (.str s) (some l) (some r) n h = if l ≤ r ∧ r ≤ s.length then some (.str ((s.take r).drop l), h) else none := nr rfl
@[simp] theorem so_slStr (x : Opd) (lo' hi : Option Opd) : stepOp cf lo base tgt (.slStr x lo' hi) fr h = slStrAV (x.get fr) (natOpt fr 0 lo') (natOpt fr (strN (x.get fr)) hi) 0 h := nr (by
  simp only [stepOp, slStrAV]
  cases x.get fr with
  | str s => cases natOpt fr 0 lo' <;> cases natOpt fr s.length hi <;> rfl
  | _ => rfl)
def slSlAV (sz : Nat) (x : AV) (l r : Option Nat) (h : Heap) : Option (AV × Heap) :=
  match slLen x, l, r with
  | some _, some l, some r => put1 h (sliceAV sz x l r none)
  | _, _, _ => none
def slN (x : AV) : Nat := (slLen x).getD 0
@[simp] theorem so_slSl (sz : Nat) (x : Opd) (lo' hi : Option Opd) : stepOp cf lo base tgt (.slSl sz x lo' hi none) fr h = slSlAV sz (x.get fr) (natOpt fr 0 lo') (natOpt fr (slN (x.get fr)) hi) h := nr (by
  simp only [stepOp, slSlAV, slN]
  cases hs : slLen (x.get fr) with
  | none => rfl
  | some n => cases natOpt fr 0 lo' <;> simp only [Option.getD] <;> cases natOpt fr n hi <;> rfl)
@[simp] theorem natOpt_none (d : Nat) : natOpt fr d none = some d := nr rfl
@[simp] theorem natOpt_some (d : Nat) (x : Opd) : natOpt fr d (some x) = natArg (x.get fr) := nr rfl
@[simp] theorem natArg_int (k : IntKind) (n : Int) : natArg (.int k n) = if 0 ≤ n then some n.toNat else none := nr rfl
def mkslR (ty sz tgt zl : Nat) (z : AV) (n m : Option Nat) (h : Heap) : Option (AV × Heap) :=
  match n, m with
  | some n, some m => if n = m ∧ n ≤ most ∧ zl = sz then
      (match place h tgt [{ ty, sz, frz := false, es := List.replicate n z }] with
       | some h' => some (.sl sz tgt n 0 n, h')
       | none => none) else none
  | _, _ => none
@[simp] theorem so_mksl (ty sz bs : Nat) (z : AV) (l k : Opd) : stepOp cf lo base tgt (.mksl ty sz bs z l k) fr h = mkslR ty sz tgt z.cells.length z (natArg (l.get fr)) (natArg (k.get fr)) h := nr (by
  simp only [stepOp, mkslR]
  cases natArg (l.get fr) <;> cases natArg (k.get fr) <;> simp only
  split
  · split <;> split <;> simp_all
  · rfl)
def eqAggAV (neg : Bool) (x y : AV) (h : Heap) : Option (AV × Heap) :=
  match eqCells x.cells y.cells with
  | some b => if (x.isAgg && y.isAgg) = true then some (.bool (if neg then !b else b), h) else none
  | none => none
@[simp] theorem so_eqAgg (neg : Bool) (x y : Opd) : stepOp cf lo base tgt (.eqAgg neg x y) fr h = eqAggAV neg (x.get fr) (y.get fr) h := nr (by
  simp only [stepOp, eqAggAV]; cases eqCells (x.get fr).cells (y.get fr).cells <;> rfl)
@[simp] theorem so_mx (x : Opd) (xs : List Opd) : stepOp cf lo base tgt (.mx x xs) fr h = put1 h (foldO max2 (x.get fr) (xs.map (Opd.get fr))) := nr rfl
@[simp] theorem so_mn (x : Opd) (xs : List Opd) : stepOp cf lo base tgt (.mn x xs) fr h = put1 h (foldO min2 (x.get fr) (xs.map (Opd.get fr))) := nr rfl
@[simp] theorem foldO_nil (f : AV → AV → Option AV) (x : AV) : foldO f x [] = some x := nr rfl
def foldK (f : AV → AV → Option AV) (r : Option AV) (ys : List AV) : Option AV :=
  match r with
  | some z => foldO f z ys
  | none => none
@[simp] theorem foldK_some (f : AV → AV → Option AV) (x : AV) (ys : List AV) : foldK f (some x) ys = foldO f x ys := nr rfl
@[simp] theorem foldO_cons (f : AV → AV → Option AV) (x y : AV) (ys : List AV) : foldO f x (y :: ys) = foldK f (f x y) ys := nr (by
  simp only [foldO]; cases f x y <;> rfl)
@[simp] theorem max2_int (k : IntKind) (a b : Int) : max2 (.int k a) (.int k b) = some (.int k (max a b)) := nr (by
  simp only [max2, if_true]; congr 2; split <;> omega)
@[simp] theorem min2_int (k : IntKind) (a b : Int) : min2 (.int k a) (.int k b) = some (.int k (min a b)) := nr (by
  simp only [min2, if_true]; congr 2; split <;> omega)

/-! ### Numbers and strings -/
@[simp] theorem bin_add (k : IntKind) (a b : Int) : binAV .add (.int k a) (.int k b) = some (.int k (k.wrap (a + b))) := nr (by simp [binAV, isShift, intBin])
@[simp] theorem bin_sub (k : IntKind) (a b : Int) : binAV .sub (.int k a) (.int k b) = some (.int k (k.wrap (a - b))) := nr (by simp [binAV, isShift, intBin])
@[simp] theorem bin_mul (k : IntKind) (a b : Int) : binAV .mul (.int k a) (.int k b) = some (.int k (k.wrap (a * b))) := nr (by simp [binAV, isShift, intBin])
@[simp] theorem bin_quo (k : IntKind) (a b : Int) : binAV .quo (.int k a) (.int k b) = if b = 0 then none else some (.int k (k.wrap (a.tdiv b))) := nr (by simp [binAV, isShift, intBin])
@[simp] theorem bin_rem (k : IntKind) (a b : Int) : binAV .rem (.int k a) (.int k b) = if b = 0 then none else some (.int k (a.tmod b)) := nr (by simp [binAV, isShift, intBin])
@[simp] theorem bin_and (k : IntKind) (a b : Int) : binAV .and (.int k a) (.int k b) = some (.int k (k.wrap (BitVec.ofInt k.bits a &&& BitVec.ofInt k.bits b).toNat)) := nr (by simp [binAV, isShift, intBin])
@[simp] theorem bin_or (k : IntKind) (a b : Int) : binAV .or (.int k a) (.int k b) = some (.int k (k.wrap (BitVec.ofInt k.bits a ||| BitVec.ofInt k.bits b).toNat)) := nr (by simp [binAV, isShift, intBin])
@[simp] theorem bin_andNot (k : IntKind) (a b : Int) : binAV .andNot (.int k a) (.int k b) = some (.int k (k.wrap (BitVec.ofInt k.bits a &&& ~~~BitVec.ofInt k.bits b).toNat)) := nr (by simp [binAV, isShift, intBin])
@[simp] theorem bin_shl (k k' : IntKind) (a b : Int) : binAV .shl (.int k a) (.int k' b) = shiftBin .shl k a b := nr (by simp [binAV, isShift])
@[simp] theorem bin_shr (k k' : IntKind) (a b : Int) : binAV .shr (.int k a) (.int k' b) = shiftBin .shr k a b := nr (by simp [binAV, isShift])
@[simp] theorem bin_eql (k : IntKind) (a b : Int) : binAV .eql (.int k a) (.int k b) = some (.bool (decide (a = b))) := nr (by simp only [binAV, isShift, intBin, if_true, Bool.false_eq_true, if_false]; rfl)
@[simp] theorem bin_neq (k : IntKind) (a b : Int) : binAV .neq (.int k a) (.int k b) = some (.bool (!decide (a = b))) := nr (by simp only [binAV, isShift, intBin, if_true, Bool.false_eq_true, if_false]; rfl)
@[simp] theorem bin_lss (k : IntKind) (a b : Int) : binAV .lss (.int k a) (.int k b) = some (.bool (decide (a < b))) := nr (by simp [binAV, isShift, intBin])
@[simp] theorem bin_leq (k : IntKind) (a b : Int) : binAV .leq (.int k a) (.int k b) = some (.bool (decide (a ≤ b))) := nr (by simp [binAV, isShift, intBin])
@[simp] theorem bin_gtr (k : IntKind) (a b : Int) : binAV .gtr (.int k a) (.int k b) = some (.bool (decide (b < a))) := nr (by simp [binAV, isShift, intBin])
@[simp] theorem bin_geq (k : IntKind) (a b : Int) : binAV .geq (.int k a) (.int k b) = some (.bool (decide (b ≤ a))) := nr (by simp [binAV, isShift, intBin])
@[simp] theorem bin_seql (s t : List UInt8) : binAV .eql (.str s) (.str t) = some (.bool (decide (s = t))) := nr (by by_cases hst : s = t <;> simp [binAV, strBin, hst])
@[simp] theorem bin_sneq (s t : List UInt8) : binAV .neq (.str s) (.str t) = some (.bool (!decide (s = t))) := nr (by by_cases hst : s = t <;> simp [binAV, strBin, hst])
@[simp] theorem bin_sadd (s t : List UInt8) : binAV .add (.str s) (.str t) = if s.length + t.length < 4611686018427387904 then some (.str (s ++ t)) else none := nr (by simp [binAV, strBin])
theorem wrap64 {n : Int} (h1 : -9223372036854775808 ≤ n) (h2 : n ≤ 9223372036854775807) : IntKind.wrap .i64 n = n := nr (by
  simp [IntKind.wrap, IntKind.bits, IntKind.signed]
  omega)

/-! ### Rows -/
@[simp] theorem slLen_mkRo (sz : Nat) (xs : List AV) : slLen (mkRo sz xs) = some xs.length := nr (by cases xs <;> rfl)
@[simp] theorem slLen_emp : slLen .emp = some 0 := nr rfl
@[simp] theorem slLen_sl (sz b g off len : Nat) : slLen (.sl sz b g off len) = some len := nr rfl
@[simp] theorem slLen_ro (sz : Nat) (xs : List AV) : slLen (.ro sz xs) = some xs.length := nr rfl
@[simp] theorem readSl_mkRo (h : Heap) (sz : Nat) (xs : List AV) : readSl h sz (mkRo sz xs) = some xs := nr (by cases xs <;> simp [mkRo, readSl])
@[simp] theorem readSl_emp (h : Heap) (sz : Nat) : readSl h sz .emp = some [] := nr rfl
@[simp] theorem readSl_ro (h : Heap) (sz : Nat) (xs : List AV) : readSl h sz (.ro sz xs) = some xs := nr (by simp [readSl])
@[simp] theorem slN_mkRo (sz : Nat) (xs : List AV) : slN (mkRo sz xs) = xs.length := nr (by simp [slN])
@[simp] theorem slN_sl (sz b g off len : Nat) : slN (.sl sz b g off len) = len := nr rfl
@[simp] theorem slN_emp : slN .emp = 0 := nr rfl
theorem iaddr_mkRo {sz j : Nat} {xs : List AV} {e : AV} (k : IntKind) {i : Int} (hi : i = (j : Int)) (hj : xs[j]? = some e) : iaddrAV sz (mkRo sz xs) (.int k i) = some (.rp sz e 0) := nr (by
  subst hi
  cases xs with
  | nil => simp at hj
  | cons x xs => simp [iaddrAV, mkRo, natArg, hj])
@[simp] theorem isRo_mkRo (sz : Nat) (xs : List AV) : (mkRo sz xs).cells = [mkRo sz xs] ∧ (mkRo sz xs).isAgg = false ∧ (mkRo sz xs).ok = true := by cases xs <;> exact ⟨rfl, rfl, rfl⟩
@[simp] theorem cells_mkRo (sz : Nat) (xs : List AV) : (mkRo sz xs).cells = [mkRo sz xs] := nr (by cases xs <;> rfl)
@[simp] theorem isAgg_mkRo (sz : Nat) (xs : List AV) : (mkRo sz xs).isAgg = false := nr (by cases xs <;> rfl)
@[simp] theorem ok_mkRo (sz : Nat) (xs : List AV) : (mkRo sz xs).ok = true := nr (by cases xs <;> rfl)
@[simp] theorem closed_mkRo (sz : Nat) (xs : List AV) : (mkRo sz xs).closed = AV.closedL xs := nr (by cases xs <;> rfl)
@[simp] theorem canon_mkRo (sz : Nat) (xs : List AV) : (mkRo sz xs).canon = mkRo sz (xs.map AV.canon) := nr (by
  cases xs with
  | nil => rfl
  | cons x xs => simp [mkRo, AV.canon, canonL_eq])
@[simp] theorem canon_ro (sz : Nat) (xs : List AV) : (AV.ro sz xs).canon = mkRo sz (xs.map AV.canon) := nr (by simp [AV.canon, canonL_eq])
@[simp] theorem flat_mkRo_nil (sz : Nat) : (mkRo sz []).flat = true := nr rfl
theorem cut_mkRo (sz l r : Nat) (xs : List AV) : cut sz (mkRo sz xs) l r = some (mkRo sz ((xs.take r).drop l)) := nr (by cases xs <;> simp [mkRo, cut])
theorem slice_mkRo {sz l r : Nat} {xs : List AV} (h1 : l ≤ r) (h2 : r ≤ xs.length) : sliceAV sz (mkRo sz xs) l r none = some (mkRo sz ((xs.take r).drop l)) := nr (by
  simp [sliceAV, h1, h2, cut_mkRo])
theorem slSl_mkRo {sz l r : Nat} {xs : List AV} (h1 : l ≤ r) (h2 : r ≤ xs.length) : slSlAV sz (mkRo sz xs) (some l) (some r) h = some (mkRo sz ((xs.take r).drop l), h) := nr (by
  simp [slSlAV, slice_mkRo h1 h2])

/-! ### Plain values -/
@[simp] theorem closed_int (k : IntKind) (n : Int) : (AV.int k n).closed = true := nr rfl
@[simp] theorem closed_bool (b : Bool) : (AV.bool b).closed = true := nr rfl
@[simp] theorem closed_str (s : List UInt8) : (AV.str s).closed = true := nr rfl
@[simp] theorem closed_emp : AV.emp.closed = true := nr rfl
@[simp] theorem closed_agg (cs : List AV) : (AV.agg cs).closed = AV.closedL cs := nr (by simp [AV.closed])
@[simp] theorem closed_tup (cs : List AV) : (AV.tup cs).closed = AV.closedL cs := nr (by simp [AV.closed])
@[simp] theorem closed_ro (sz : Nat) (cs : List AV) : (AV.ro sz cs).closed = AV.closedL cs := nr (by simp [AV.closed])
@[simp] theorem closed_rp (sz o : Nat) (e : AV) : (AV.rp sz e o).closed = e.closed := nr (by simp [AV.closed])
@[simp] theorem closed_fn (f : Nat) (a k : List AV) : (AV.fn f a k).closed = (AV.closedL a && AV.closedL k) := nr (by simp [AV.closed])
@[simp] theorem closed_sl (sz b g off len : Nat) : (AV.sl sz b g off len).closed = false := nr rfl
@[simp] theorem closed_ptr (b g i o : Nat) : (AV.ptr b g i o).closed = false := nr rfl
@[simp] theorem closedL_nil : AV.closedL [] = true := nr rfl
@[simp] theorem closedL_cons (x : AV) (xs : List AV) : AV.closedL (x :: xs) = (x.closed && AV.closedL xs) := nr (by simp [AV.closedL])
theorem closedL_map {α : Type} {f : α → AV} (hf : ∀ x, (f x).closed = true) (xs : List α) : AV.closedL (xs.map f) = true := nr (by
  induction xs with
  | nil => rfl
  | cons x xs ih => simp [hf, ih])
@[simp] theorem closedL_append (xs ys : List AV) : AV.closedL (xs ++ ys) = (AV.closedL xs && AV.closedL ys) := nr (by
  induction xs with
  | nil => simp
  | cons x xs ih => simp [ih, Bool.and_assoc])
@[simp] theorem canon_int (k : IntKind) (n : Int) : (AV.int k n).canon = .int k n := nr rfl
@[simp] theorem canon_bool (b : Bool) : (AV.bool b).canon = .bool b := nr rfl
@[simp] theorem canon_str (s : List UInt8) : (AV.str s).canon = .str s := nr rfl
@[simp] theorem canon_ptr (b g i o : Nat) : (AV.ptr b g i o).canon = .ptr b g i o := nr rfl
@[simp] theorem canon_rp (sz o : Nat) (e : AV) : (AV.rp sz e o).canon = .rp sz e o := nr rfl
@[simp] theorem canon_sl (sz b g off len : Nat) : (AV.sl sz b g off len).canon = .sl sz b g off len := nr rfl
@[simp] theorem canon_emp : AV.emp.canon = mkRo 0 [] := nr rfl
@[simp] theorem canon_undef : AV.undef.canon = .undef := nr rfl
@[simp] theorem canon_agg (cs : List AV) : (AV.agg cs).canon = .agg (cs.map AV.canon) := nr (by simp [AV.canon, canonL_eq])
@[simp] theorem canon_tup (cs : List AV) : (AV.tup cs).canon = .tup (cs.map AV.canon) := nr (by simp [AV.canon, canonL_eq])
@[simp] theorem canon_fn (f : Nat) (a k : List AV) : (AV.fn f a k).canon = .fn f (a.map AV.canon) (k.map AV.canon) := nr (by simp [AV.canon, canonL_eq])
theorem mkRo_nil (sz sz' : Nat) : mkRo sz [] = mkRo sz' [] := nr rfl
@[simp] theorem cells_int (k : IntKind) (n : Int) : (AV.int k n).cells = [.int k n] := nr rfl
@[simp] theorem cells_bool (b : Bool) : (AV.bool b).cells = [.bool b] := nr rfl
@[simp] theorem cells_str (s : List UInt8) : (AV.str s).cells = [.str s] := nr rfl
@[simp] theorem cells_emp : AV.emp.cells = [.emp] := nr rfl
@[simp] theorem cells_agg (cs : List AV) : (AV.agg cs).cells = cs := nr rfl
@[simp] theorem cells_sl (sz b g off len : Nat) : (AV.sl sz b g off len).cells = [.sl sz b g off len] := nr rfl
@[simp] theorem cells_ro (sz : Nat) (xs : List AV) : (AV.ro sz xs).cells = [.ro sz xs] := nr rfl
@[simp] theorem cells_fn (f : Nat) (a k : List AV) : (AV.fn f a k).cells = [.fn f a k] := nr rfl
@[simp] theorem cells_ptr (b g i o : Nat) : (AV.ptr b g i o).cells = [.ptr b g i o] := nr rfl
@[simp] theorem cells_rp (sz o : Nat) (e : AV) : (AV.rp sz e o).cells = [.rp sz e o] := nr rfl
@[simp] theorem ok_int (k : IntKind) (n : Int) : (AV.int k n).ok = true := nr rfl
@[simp] theorem ok_bool (b : Bool) : (AV.bool b).ok = true := nr rfl
@[simp] theorem ok_str (s : List UInt8) : (AV.str s).ok = true := nr rfl
@[simp] theorem ok_emp : AV.emp.ok = true := nr rfl
@[simp] theorem ok_agg (cs : List AV) : (AV.agg cs).ok = true := nr rfl
@[simp] theorem ok_sl (sz b g off len : Nat) : (AV.sl sz b g off len).ok = true := nr rfl
@[simp] theorem ok_ro (sz : Nat) (xs : List AV) : (AV.ro sz xs).ok = true := nr rfl
@[simp] theorem ok_fn (f : Nat) (a k : List AV) : (AV.fn f a k).ok = true := nr rfl
@[simp] theorem ok_ptr (b g i o : Nat) : (AV.ptr b g i o).ok = true := nr rfl
@[simp] theorem ok_rp (sz o : Nat) (e : AV) : (AV.rp sz e o).ok = true := nr rfl
@[simp] theorem isAgg_agg (cs : List AV) : (AV.agg cs).isAgg = true := nr rfl
@[simp] theorem isAgg_int (k : IntKind) (n : Int) : (AV.int k n).isAgg = false := nr rfl
@[simp] theorem isAgg_bool (b : Bool) : (AV.bool b).isAgg = false := nr rfl
@[simp] theorem isAgg_str (s : List UInt8) : (AV.str s).isAgg = false := nr rfl
@[simp] theorem isAgg_emp : AV.emp.isAgg = false := nr rfl
@[simp] theorem isAgg_sl (sz b g off len : Nat) : (AV.sl sz b g off len).isAgg = false := nr rfl
@[simp] theorem isAgg_fn (f : Nat) (a k : List AV) : (AV.fn f a k).isAgg = false := nr rfl
@[simp] theorem isAgg_ptr (b g i o : Nat) : (AV.ptr b g i o).isAgg = false := nr rfl
@[simp] theorem isAgg_rp (sz o : Nat) (e : AV) : (AV.rp sz e o).isAgg = false := nr rfl

/-! ### Parts -/
@[simp] theorem part_false (n sz o : Nat) (e : AV) : part false n sz o e = e.cells[o]? := nr (by simp [part])
theorem part_whole {n : Nat} {cs : List AV} : part true n n 0 (.agg cs) = some (.agg cs) := nr (by simp [part])
theorem part_true {n sz o : Nat} {cs : List AV} (h : o + n ≤ cs.length) (hw : (o == 0 && n == sz) = false) : part true n sz o (.agg cs) = some (.agg ((cs.drop o).take n)) := nr (by
  simp [part, h]; intro h1 h2; simp [h1, h2] at hw)
@[simp] theorem load_rp (h : Heap) (agg : Bool) (n sz o : Nat) (e : AV) : loadAV h agg n (.rp sz e o) = part agg n sz o e := nr rfl
def loadK (agg : Bool) (n i o : Nat) (B : Option Blk) : Option AV :=
  match B with
  | some B => match B.es[i]? with
    | some e => part agg n B.sz o e
    | none => none
  | none => none
@[simp] theorem loadK_some (agg : Bool) (n i o ty sz : Nat) (frz : Bool) (es : List AV) : loadK agg n i o (some ⟨ty, sz, frz, es⟩) = (es[i]?).bind (part agg n sz o) := nr (by
  simp only [loadK]; cases es[i]? <;> rfl)
@[simp] theorem load_ptr (h : Heap) (agg : Bool) (n b g i o : Nat) : loadAV h agg n (.ptr b g i o) = loadK agg n i o (good h b g) := nr (by
  simp only [loadAV, loadK]; cases good h b g <;> rfl)
def goodE (e : Option Ent) (g : Nat) : Option Blk :=
  match e with
  | some (.live B) => if B.es.length = g then some B else none
  | _ => none
@[simp] theorem goodE_live (ty sz : Nat) (frz : Bool) (es : List AV) (g : Nat) : goodE (some (.live ⟨ty, sz, frz, es⟩)) g = if es.length = g then some ⟨ty, sz, frz, es⟩ else none := nr rfl
@[simp] theorem good_e (h : Heap) (b g : Nat) : good h b g = goodE h[b]? g := nr (by
  simp only [good, blk, goodE]
  cases h[b]? with
  | none => rfl
  | some e => cases e <;> rfl)
def readK (sz off len g : Nat) (B : Option Blk) : Option (List AV) :=
  match B with
  | some B => if B.sz = sz ∧ off + len ≤ g then some ((B.es.drop off).take len) else none
  | none => none
@[simp] theorem readK_some (sz off len g ty sz' : Nat) (frz : Bool) (es : List AV) : readK sz off len g (some ⟨ty, sz', frz, es⟩) = if sz' = sz ∧ off + len ≤ g then some ((es.drop off).take len) else none := nr rfl
@[simp] theorem readSl_sl (h : Heap) (sz sz' b g off len : Nat) : readSl h sz (.sl sz' b g off len) = readK sz off len g (good h b g) := nr (by
  simp only [readSl, readK]; cases good h b g <;> rfl)
def natK (f : Nat → Option AV) (j : Option Nat) : Option AV :=
  match j with
  | some j => f j
  | none => none
@[simp] theorem iaddr_sl (sz b g off len : Nat) (k : IntKind) (i : Int) : iaddrAV sz (.sl sz b g off len) (.int k i) = if 0 ≤ i ∧ i.toNat < len then some (.ptr b g (off + i.toNat) 0) else none := nr (by
  simp only [iaddrAV, natArg]
  by_cases h1 : 0 ≤ i
  · simp [h1]
  · simp [h1])
theorem istr_str {s : List UInt8} {j : Nat} {c : UInt8} (k : IntKind) {i : Int} (hi : i = (j : Int)) (hj : s[j]? = some c) : istrAV (.str s) (.int k i) = some (.int .u8 c.toNat) := nr (by
  subst hi; simp [istrAV, natArg, hj])
@[simp] theorem istr_zero (c : UInt8) (s : List UInt8) (k : IntKind) : istrAV (.str (c :: s)) (.int k 0) = some (.int .u8 c.toNat) := istr_str k (j := 0) rfl rfl

/-! ### New blocks -/
@[simp] theorem place_end (h : Heap) (bs : List Blk) : place h h.length bs = some (h ++ bs.map .live) := nr (by simp [place])
@[simp] theorem place_at_end {h : Heap} {t : Nat} (ht : t = h.length) (bs : List Blk) : place h t bs = some (h ++ bs.map .live) := nr (by simp [place, ht])
@[simp] theorem place_in {h : Heap} {t : Nat} (ht : t ≠ h.length) (bs : List Blk) : place h t bs = fill h t bs := nr (by simp [place, ht])
@[simp] theorem fill_nil (h : Heap) (t : Nat) : fill h t [] = some h := nr rfl
def fillK (h : Heap) (t : Nat) (B : Blk) (bs : List Blk) (e : Option Ent) : Option Heap :=
  match e with
  | some .free => fill (h.set t (.live B)) (t + 1) bs
  | _ => none
@[simp] theorem fillK_free (h : Heap) (t : Nat) (B : Blk) (bs : List Blk) : fillK h t B bs (some .free) = fill (h.set t (.live B)) (t + 1) bs := nr rfl
@[simp] theorem fill_cons (h : Heap) (t : Nat) (B : Blk) (bs : List Blk) : fill h t (B :: bs) = fillK h t B bs h[t]? := nr (by
  simp only [fill, fillK]
  cases h[t]? with
  | none => rfl
  | some e => cases e <;> rfl)
theorem place_nil (h : Heap) (tgt : Nat) : place h tgt [] = some h := nr (by
  unfold place
  split
  · simp
  · rfl)
def boxK (r : Option Heap) (tgt : Nat) : Option (AV × Heap) :=
  match r with
  | some h' => some (.ptr tgt 1 0 0, h')
  | none => none
@[simp] theorem boxK_some (h' : Heap) (tgt : Nat) : boxK (some h') tgt = some (.ptr tgt 1 0 0, h') := nr rfl
@[simp] theorem box_plain (h : Heap) (tgt ty sz : Nat) (x : AV) : boxAV h tgt ty sz [] x = if x.cells.length = sz then boxK (place h tgt [⟨ty, sz, false, [x]⟩]) tgt else none := nr (by
  simp only [boxAV, boxK]
  split
  · cases place h tgt [⟨ty, sz, false, [x]⟩] <;> rfl
  · rfl)
def slK (r : Option Heap) (sz tgt n : Nat) : Option (AV × Heap) :=
  match r with
  | some h' => some (.sl sz tgt n 0 n, h')
  | none => none
@[simp] theorem slK_some (h' : Heap) (sz tgt n : Nat) : slK (some h') sz tgt n = some (.sl sz tgt n 0 n, h') := nr rfl
@[simp] theorem buildSlR_some (asRo : Bool) (ty sz len zl : Nat) (es : List AV) : buildSlR asRo ty sz len tgt zl (some es) h =
    if zl = sz then (if len = 0 then some (.emp, h) else if asRo = true then some (.ro sz es, h) else slK (place h tgt [⟨ty, sz, false, es⟩]) sz tgt len) else none := nr (by
  simp only [buildSlR, slK])
@[simp] theorem mkslR_some (ty sz zl : Nat) (z : AV) (n m : Nat) : mkslR ty sz tgt zl z (some n) (some m) h = if n = m ∧ n ≤ most ∧ zl = sz then slK (place h tgt [⟨ty, sz, false, List.replicate n z⟩]) sz tgt n else none := nr (by
  simp only [mkslR, slK])
@[simp] theorem app_emp (ty sz : Nat) (ys : List AV) : appendAV h lo base tgt ty sz .emp ys = if ys = [] then some (.emp, h) else if ys.length ≤ most then slK (place h tgt [⟨ty, sz, false, ys⟩]) sz tgt ys.length else none := nr (by
  simp only [appendAV, slK, List.isEmpty_iff]
  split
  · rfl
  · split
    · cases place h tgt [⟨ty, sz, false, ys⟩] <;> rfl
    · rfl)
/-- Appended to a block of the frame's own. -/
theorem app_own {ty sz sz' b g len : Nat} {ys es : List AV} (hB : h[b]? = some (.live ⟨ty, sz, false, es⟩)) (hg : es.length = g) (hl : len = g) (hlo : lo ≤ b) (hb : base ≤ b) (hm : g + ys.length ≤ most) (hok : ys.all AV.ok = true) :
    appendAV h lo base tgt ty sz (.sl sz' b g 0 len) ys = some (.sl sz b (g + ys.length) 0 (g + ys.length), h.set b (.live ⟨ty, sz, false, es ++ ys⟩)) := nr (by
  have hgd : good h b g = some ⟨ty, sz, false, es⟩ := by rw [good_e, hB, goodE_live, if_pos hg]
  have h1 : (!(len == g)) = false := by simp [hl]
  simp only [appendAV, if_pos hlo, hgd, if_pos hb]
  simp [hl, hm, hok])
def stK (lo base n i o : Nat) (b : Nat) (v : AV) (h : Heap) (B : Option Blk) : Option Heap :=
  match B with
  | some B => if B.frz then none else
    match B.es[i]? with
    | some e => match putPart n B.sz o e v with
      | some e' => some (h.set b (.live { B with es := B.es.set i e' }))
      | none => none
    | none => none
  | none => none
theorem store_own {n b g i o : Nat} {v : AV} (hlo : lo ≤ b) (hb : base ≤ b) : storeAV h lo base n (.ptr b g i o) v = stK lo base n i o b v h (good h b g) := nr (by
  simp only [storeAV, if_pos hlo, if_pos hb, stK]
  cases good h b g with
  | none => rfl
  | some B =>
    simp only
    split
    · rfl
    · cases B.es[i]? with
      | none => rfl
      | some e => simp only; cases putPart n B.sz o e v <;> rfl)
@[simp] theorem store_00 {n b g i o : Nat} {v : AV} : storeAV h 0 0 n (.ptr b g i o) v = stK 0 0 n i o b v h (good h b g) := store_own (Nat.zero_le _) (Nat.zero_le _)
def setK (h : Heap) (b ty sz i : Nat) (es : List AV) (e : Option AV) : Option Heap :=
  match e with
  | some e' => some (h.set b (.live ⟨ty, sz, false, es.set i e'⟩))
  | none => none
@[simp] theorem setK_some (h : Heap) (b ty sz i : Nat) (es : List AV) (e : AV) : setK h b ty sz i es (some e) = some (h.set b (.live ⟨ty, sz, false, es.set i e⟩)) := nr rfl
@[simp] theorem stK_some (n i o b ty sz : Nat) (v : AV) (es : List AV) : stK lo base n i o b v h (some ⟨ty, sz, false, es⟩) = setK h b ty sz i es ((es[i]?).bind fun e => putPart n sz o e v) := nr (by
  simp only [stK, setK, Bool.false_eq_true, if_false]
  cases es[i]? with
  | none => rfl
  | some e => simp only [Option.bind_some])
@[simp] theorem putPart_1 (sz o : Nat) (e v : AV) (he : e.isAgg = false) (hv : v.isAgg = false) (hc : v.cells.length = 1) (ho : v.ok = true) (hl : o + 1 ≤ e.cells.length) : putPart 1 sz o e v = some v := nr (by
  simp [putPart, hc, ho, he, hv, hl])
@[simp] theorem putPart_cell (sz o : Nat) (cs : List AV) (v : AV) (hv : v.isAgg = false) (hc : v.cells.length = 1) (ho : v.ok = true) (hl : o + 1 ≤ cs.length) : putPart 1 sz o (.agg cs) v = some (.agg (splice cs o v.cells)) := nr (by
  simp [putPart, hc, ho, hv, hl])
@[simp] theorem putPart_whole (n : Nat) (cs vs : List AV) (hl : vs.length = n) : putPart n n 0 (.agg cs) (.agg vs) = some (.agg vs) := nr (by
  simp [putPart, hl])
theorem putPart_agg (n sz o : Nat) (cs vs : List AV) (hl : vs.length = n) (hw : (o == 0 && n == sz) = false) (ho : o + n ≤ cs.length) : putPart n sz o (.agg cs) (.agg vs) = some (.agg (splice cs o vs)) := nr (by
  simp [putPart, hl, ho]; intro h1 h2; simp [h1, h2] at hw)
@[simp] theorem splice_def (cs : List AV) (o : Nat) (vs : List AV) : splice cs o vs = cs.take o ++ vs ++ cs.drop (o + vs.length) := nr rfl
end

/-! ### Results -/
@[simp] theorem mapO_nil {α β : Type} (f : α → Option β) : mapO f [] = some [] := nr rfl
def consO {β : Type} (y : Option β) (ys : Option (List β)) : Option (List β) :=
  match y, ys with
  | some y, some ys => some (y :: ys)
  | _, _ => none
@[simp] theorem consO_some {β : Type} (y : β) (ys : List β) : consO (some y) (some ys) = some (y :: ys) := nr rfl
@[simp] theorem mapO_cons {α β : Type} (f : α → Option β) (x : α) (xs : List α) : mapO f (x :: xs) = consO (f x) (mapO f xs) := nr (by
  simp only [mapO, consO]; cases f x <;> cases mapO f xs <;> rfl)
def resK (r : Option (List AV)) : Option AV :=
  match r with
  | some [v] => some v
  | some vs => some (.tup vs)
  | none => none
@[simp] theorem resK_one (v : AV) : resK (some [v]) = some v := nr rfl
@[simp] theorem resK_nil : resK (some []) = some (.tup []) := nr rfl
@[simp] theorem resK_two (v w : AV) (vs : List AV) : resK (some (v :: w :: vs)) = some (.tup (v :: w :: vs)) := nr rfl
@[simp] theorem resultAV_k (h : Heap) (fr : Frame) (rs : List ARes) : resultAV h fr rs = resK (mapO (resAV h fr) rs) := nr (by
  simp only [resultAV, resK]
  cases mapO (resAV h fr) rs with
  | none => rfl
  | some vs => cases vs with
    | nil => rfl
    | cons v vs => cases vs <;> rfl)
@[simp] theorem resAV_tmp (h : Heap) (fr : Frame) (t : Nat) : resAV h fr (.tmp t) = some (fr t) := nr rfl
@[simp] theorem resAV_cell (h : Heap) (fr : Frame) (t n : Nat) (agg : Bool) : resAV h fr (.cell t agg n) = loadAV h agg n (fr t) := nr rfl

/-! ### What a run comes to -/
def Sat (r : Option R) (Q : Out → Frame → Heap → Prop) : Prop := ∃ o fr h, r = some (o, fr, h) ∧ Q o fr h
@[simp] theorem sat_some (o : Out) (fr : Frame) (h : Heap) (Q : Out → Frame → Heap → Prop) : Sat (some (o, fr, h)) Q = Q o fr h := by
  apply propext
  constructor
  · rintro ⟨o', fr', h', e, hq⟩; cases e; exact hq
  · intro hq; exact ⟨_, _, _, rfl, hq⟩
theorem Sat.mono {r : Option R} {Q Q' : Out → Frame → Heap → Prop} (h : Sat r Q) (hm : ∀ o fr h, Q o fr h → Q' o fr h) : Sat r Q' := by
  obtain ⟨o, fr, hp, e, hq⟩ := h
  exact ⟨o, fr, hp, e, hm _ _ _ hq⟩
def thenQ (k : Body) (Q : Out → Frame → Heap → Prop) : Out → Frame → Heap → Prop
  | .normal, fr, h => Sat (k fr h) Q
  | o, fr, h => Q o fr h
@[simp] theorem thenQ_normal (k : Body) (Q : Out → Frame → Heap → Prop) (fr : Frame) (h : Heap) : thenQ k Q .normal fr h = Sat (k fr h) Q := rfl
@[simp] theorem thenQ_exit (k : Body) (Q : Out → Frame → Heap → Prop) (i : Nat) (fr : Frame) (h : Heap) : thenQ k Q (.exit i) fr h = Q (.exit i) fr h := rfl
@[simp] theorem thenQ_ret (k : Body) (Q : Out → Frame → Heap → Prop) (fr : Frame) (h : Heap) : thenQ k Q .ret fr h = Q .ret fr h := rfl
theorem sat_then {r : Option R} {k : Body} {Q : Out → Frame → Heap → Prop} (h : Sat r (thenQ k Q)) : Sat (andThen r k) Q := by
  obtain ⟨o, fr, hp, rfl, hq⟩ := h
  cases o with
  | normal => exact hq
  | exit i => exact ⟨_, _, _, rfl, hq⟩
  | ret => exact ⟨_, _, _, rfl, hq⟩
def blkQ (id : Nat) (Q : Out → Frame → Heap → Prop) : Out → Frame → Heap → Prop
  | .exit j, fr, h => if j = id then Q .normal fr h else Q (.exit j) fr h
  | o, fr, h => Q o fr h
@[simp] theorem blkQ_normal (id : Nat) (Q : Out → Frame → Heap → Prop) (fr : Frame) (h : Heap) : blkQ id Q .normal fr h = Q .normal fr h := rfl
@[simp] theorem blkQ_ret (id : Nat) (Q : Out → Frame → Heap → Prop) (fr : Frame) (h : Heap) : blkQ id Q .ret fr h = Q .ret fr h := rfl
@[simp] theorem blkQ_exit (id j : Nat) (Q : Out → Frame → Heap → Prop) (fr : Frame) (h : Heap) : blkQ id Q (.exit j) fr h = if j = id then Q .normal fr h else Q (.exit j) fr h := rfl
theorem sat_blk {r : Option R} {id : Nat} {Q : Out → Frame → Heap → Prop} (h : Sat r (blkQ id Q)) : Sat (inBlk id r) Q := by
  obtain ⟨o, fr, hp, rfl, hq⟩ := h
  cases o with
  | normal => exact ⟨_, _, _, rfl, hq⟩
  | ret => exact ⟨_, _, _, rfl, hq⟩
  | exit j =>
    simp only [blkQ_exit] at hq
    split at hq
    · rename_i e; subst e; exact ⟨.normal, fr, hp, by simp, hq⟩
    · rename_i e; exact ⟨.exit j, fr, hp, by simp [e], hq⟩
theorem sat_it {b : Body} {fr : Frame} {h : Heap} {Q : Out → Frame → Heap → Prop} (hs : Sat (b fr h) (thenQ (itW b) Q)) : Sat (itW b fr h) Q := by
  rw [itW_eq]
  exact sat_then hs
@[simp] theorem ctxW_cf (Q : Prg) : (ctxW Q).cf = callW Q := nr rfl
@[simp] theorem ctxW_it (Q : Prg) : (ctxW Q).it = itW := nr rfl

end Go.Abs

/- What a function answers: calls by their answers. -/
set_option linter.unusedSimpArgs false
set_option linter.unusedVariables false
namespace Go.Abs

mutual
theorem flat_canon : ∀ x : AV, x.canon.flat = x.flat
  | .emp => rfl
  | .ro sz xs => by
    simp only [AV.canon, canonL_eq]
    cases xs with
    | nil => rfl
    | cons x xs => rfl
  | .agg cs => by simp only [AV.canon, AV.flat]; exact flatL_canon cs
  | .tup cs => by simp only [AV.canon, AV.flat]; exact flatL_canon cs
  | .fn .. => rfl
  | .undef => rfl
  | .int .. => rfl
  | .bool _ => rfl
  | .str _ => rfl
  | .nilp => rfl
  | .nn _ => rfl
  | .ptr .. => rfl
  | .rp .. => rfl
  | .sl .. => rfl
theorem flatL_canon : ∀ xs : List AV, AV.flatL (AV.canonL xs) = AV.flatL xs
  | [] => rfl
  | x :: xs => by simp only [AV.canonL, AV.flatL, flat_canon x, flatL_canon xs]
end

@[simp] theorem flat_int (k : IntKind) (n : Int) : (AV.int k n).flat = true := nr rfl
@[simp] theorem flat_bool (b : Bool) : (AV.bool b).flat = true := nr rfl
@[simp] theorem flat_str (s : List UInt8) : (AV.str s).flat = true := nr rfl
@[simp] theorem flat_agg (cs : List AV) : (AV.agg cs).flat = AV.flatL cs := nr (by simp [AV.flat])
@[simp] theorem flat_tup (cs : List AV) : (AV.tup cs).flat = AV.flatL cs := nr (by simp [AV.flat])
@[simp] theorem flatL_nil : AV.flatL [] = true := nr rfl
@[simp] theorem flatL_cons (x : AV) (xs : List AV) : AV.flatL (x :: xs) = (x.flat && AV.flatL xs) := nr (by simp [AV.flatL])
theorem flatL_map {α : Type} {f : α → AV} (hf : ∀ x, (f x).flat = true) (xs : List α) : AV.flatL (xs.map f) = true := nr (by
  induction xs with
  | nil => rfl
  | cons x xs ih => simp [hf, ih])

theorem embed_cl {h : Heap} {ns np : Nat} {x : AV} (hc : x.closed = true) : embed h ns np depth x = some x := by simp [depth, embed, hc]
theorem slIds_cl {h : Heap} {ns : Nat} {x : AV} (hc : x.closed = true) : slIds h ns depth x = [] := by simp [depth, slIds, hc]
theorem embedL_cl {h : Heap} {ns np : Nat} : ∀ {xs : List AV}, AV.closedL xs = true → mapO (embed h ns np depth) xs = some xs
  | [], _ => rfl
  | x :: xs, hc => by
    simp only [AV.closedL, Bool.and_eq_true] at hc
    rw [mapO_cons, embed_cl hc.1, embedL_cl hc.2]; rfl
theorem slIdsL_cl {h : Heap} {ns : Nat} : ∀ {xs : List AV}, AV.closedL xs = true → xs.flatMap (slIds h ns depth) = []
  | [], _ => rfl
  | x :: xs, hc => by
    simp only [AV.closedL, Bool.and_eq_true] at hc
    rw [List.flatMap_cons, slIds_cl hc.1, slIdsL_cl hc.2]; rfl

@[simp] theorem embed_c {h : Heap} {ns np d : Nat} {x : AV} (hc : x.closed = true) : embed h ns np d x = some x := nr (by cases d <;> simp [embed, hc])
@[simp] theorem embedL_c {h : Heap} {ns np d : Nat} {xs : List AV} (hc : AV.closedL xs = true) : mapO (embed h ns np d) xs = some xs := nr (by
  induction xs with
  | nil => rfl
  | cons x xs ih =>
    simp only [AV.closedL, Bool.and_eq_true] at hc
    rw [mapO_cons, embed_c hc.1, ih hc.2]; rfl)
@[simp] theorem slIds_c {h : Heap} {ns d : Nat} {x : AV} (hc : x.closed = true) : slIds h ns d x = [] := nr (by cases d <;> simp [slIds, hc])
def embSl (h : Heap) (ns np d off len g : Nat) (B : Option Blk) : Option AV :=
  match B with
  | some B => if off + len ≤ g then
      (if AV.closedL B.es then some (.ro B.sz ((B.es.drop off).take len)) else (mapO (embed h ns np d) ((B.es.drop off).take len)).map (.ro B.sz)) else none
  | none => none
@[simp] theorem embSl_some (h : Heap) (ns np d off len g ty sz : Nat) (frz : Bool) (es : List AV) : embSl h ns np d off len g (some ⟨ty, sz, frz, es⟩) = if off + len ≤ g then
      (if AV.closedL es = true then some (.ro sz ((es.drop off).take len)) else (mapO (embed h ns np d) ((es.drop off).take len)).map (.ro sz)) else none := nr rfl
@[simp] theorem embed_sl' (h : Heap) (ns np d sz b g off len : Nat) : embed h ns np (d + 1) (.sl sz b g off len) = if b < ns then some (.sl sz b g off len) else embSl h ns np d off len g (good h b g) := nr (by
  simp only [embed, AV.closed, Bool.false_eq_true, if_false, embSl]
  cases good h b g <;> rfl)
def embPtr (h : Heap) (ns np d i o : Nat) (B : Option Blk) : Option AV :=
  match B with
  | some B => match B.es[i]? with
    | some e => if e.closed then some (.rp B.sz e o) else (embed h ns np d e).map (.rp B.sz · o)
    | none => none
  | none => none
@[simp] theorem embPtr_some (h : Heap) (ns np d i o ty sz : Nat) (frz : Bool) (es : List AV) : embPtr h ns np d i o (some ⟨ty, sz, frz, es⟩) = (es[i]?).bind fun e => if e.closed = true then some (.rp sz e o) else (embed h ns np d e).map (.rp sz · o) := nr (by
  simp only [embPtr]; cases es[i]? <;> rfl)
@[simp] theorem embed_ptr' (h : Heap) (ns np d b g i o : Nat) : embed h ns np (d + 1) (.ptr b g i o) = if b < ns then some (.ptr b g i o) else embPtr h ns np d i o (good h b g) := nr (by
  simp only [embed, AV.closed, Bool.false_eq_true, if_false, embPtr]
  cases good h b g <;> rfl)
@[simp] theorem embed_agg' (h : Heap) (ns np d : Nat) (cs : List AV) : embed h ns np (d + 1) (.agg cs) = (mapO (embed h ns np d) cs).map .agg := nr (by
  by_cases hc : AV.closedL cs = true
  · rw [embed_c (by simpa using hc), embedL_c hc]; rfl
  · simp only [embed, closed_agg, if_neg hc])
@[simp] theorem embed_tup' (h : Heap) (ns np d : Nat) (cs : List AV) : embed h ns np (d + 1) (.tup cs) = (mapO (embed h ns np d) cs).map .tup := nr (by
  by_cases hc : AV.closedL cs = true
  · rw [embed_c (by simpa using hc), embedL_c hc]; rfl
  · simp only [embed, closed_tup, if_neg hc])
@[simp] theorem embed_ro' (h : Heap) (ns np d sz : Nat) (cs : List AV) : embed h ns np (d + 1) (.ro sz cs) = (mapO (embed h ns np d) cs).map (.ro sz) := nr (by
  by_cases hc : AV.closedL cs = true
  · rw [embed_c (by simpa using hc), embedL_c hc]; rfl
  · simp only [embed, closed_ro, if_neg hc])
def fn2 (f : Nat) (a c : Option (List AV)) : Option AV :=
  match a, c with
  | some a, some c => some (.fn f a c)
  | _, _ => none
@[simp] theorem fn2_some (f : Nat) (a c : List AV) : fn2 f (some a) (some c) = some (.fn f a c) := nr rfl
@[simp] theorem embed_fn' (h : Heap) (ns np d f : Nat) (a c : List AV) : embed h ns np (d + 1) (.fn f a c) = fn2 f (mapO (embed h ns np d) a) (mapO (embed h ns np d) c) := nr (by
  by_cases hc : (AV.fn f a c).closed = true
  · rw [embed_c hc]
    simp only [closed_fn, Bool.and_eq_true] at hc
    rw [embedL_c hc.1, embedL_c hc.2]; rfl
  · simp only [embed, if_neg hc]
    cases mapO (embed h ns np d) a <;> cases mapO (embed h ns np d) c <;> rfl)
def idSl (h : Heap) (ns d b off len : Nat) (B : Option Blk) : List Nat :=
  match B with
  | some B => if AV.closedL B.es then [b] else b :: ((B.es.drop off).take len).flatMap (slIds h ns d)
  | none => []
@[simp] theorem idSl_some (h : Heap) (ns d b off len ty sz : Nat) (frz : Bool) (es : List AV) : idSl h ns d b off len (some ⟨ty, sz, frz, es⟩) = if AV.closedL es = true then [b] else b :: ((es.drop off).take len).flatMap (slIds h ns d) := nr rfl
@[simp] theorem slIds_sl' (h : Heap) (ns d sz b g off len : Nat) : slIds h ns (d + 1) (.sl sz b g off len) = if b < ns then [] else idSl h ns d b off len (good h b g) := nr (by
  simp only [slIds, AV.closed, Bool.false_eq_true, if_false, idSl]
  cases good h b g <;> rfl)
def idPtr (h : Heap) (ns d b i : Nat) (B : Option Blk) : List Nat :=
  match B with
  | some B => match B.es[i]? with
    | some e => if e.closed then [b] else b :: slIds h ns d e
    | none => []
  | none => []
@[simp] theorem idPtr_some (h : Heap) (ns d b i ty sz : Nat) (frz : Bool) (es : List AV) : idPtr h ns d b i (some ⟨ty, sz, frz, es⟩) = match es[i]? with
    | some e => if e.closed then [b] else b :: slIds h ns d e
    | none => [] := nr (by simp only [idPtr])
@[simp] theorem slIds_ptr' (h : Heap) (ns d b g i o : Nat) : slIds h ns (d + 1) (.ptr b g i o) = if b < ns then [] else idPtr h ns d b i (good h b g) := nr (by
  simp only [slIds, AV.closed, Bool.false_eq_true, if_false, idPtr]
  cases good h b g <;> rfl)
theorem flatMap_slIds_c {h : Heap} {ns d : Nat} {xs : List AV} (hc : AV.closedL xs = true) : xs.flatMap (slIds h ns d) = [] := nr (by
  induction xs with
  | nil => rfl
  | cons x xs ih =>
    simp only [AV.closedL, Bool.and_eq_true] at hc
    rw [List.flatMap_cons, slIds_c hc.1, ih hc.2]; rfl)
@[simp] theorem slIds_agg' (h : Heap) (ns d : Nat) (cs : List AV) : slIds h ns (d + 1) (.agg cs) = cs.flatMap (slIds h ns d) := nr (by
  by_cases hc : AV.closedL cs = true
  · rw [slIds_c (by simpa using hc), flatMap_slIds_c hc]
  · simp only [slIds, closed_agg, if_neg hc])
@[simp] theorem slIds_fn' (h : Heap) (ns d f : Nat) (a c : List AV) : slIds h ns (d + 1) (.fn f a c) = a.flatMap (slIds h ns d) ++ c.flatMap (slIds h ns d) := nr (by
  by_cases hc : (AV.fn f a c).closed = true
  · rw [slIds_c hc]
    simp only [closed_fn, Bool.and_eq_true] at hc
    rw [flatMap_slIds_c hc.1, flatMap_slIds_c hc.2]; rfl
  · simp only [slIds, if_neg hc])
@[simp] theorem depth_eq : depth = 8 := nr rfl

def polP : Pol := { st := false, keep := false, raw := false, top := 0 }

/-- The function f, called with the arguments 'as', answers r. -/
def Val (Q : Prg) (f : Nat) (as : List AV) (r : AV) : Prop := ∃ fn v h1 r0, Q.ext f = none ∧ Q.fns f = some fn ∧ Q.pol f = polP ∧ bodyW Q fn 0 0 as [] = some (v, h1) ∧ embed h1 0 0 depth v = some r0 ∧ r0.canon = r

section
variable {Q : Prg}

/-- With arguments that are rows of the caller's own, too. -/
theorem Val.callG {f : Nat} {as args as0 : List AV} {r : AV} (hv : Val Q f as r) {lo base tgt : Nat} {h h2 : Heap} (he : mapO (embed h 0 0 depth) args = some as0) (hc : as0.map AV.canon = as)
    (hf : (if r.flat = true then some h else freeze lo h (args.flatMap (slIds h 0 depth))) = some h2) : callW Q f lo base tgt args h = some (r, h2) := by
  obtain ⟨fn, v, h1, r0, e1, e2, e3, e4, e5, e6⟩ := hv
  refine callW_eq e1 e2 ?_
  have hs : sealAV false h1 0 tgt v = some (r0, []) := by simp [-depth_eq, sealAV, seal1, e5]
  have hk : keepsOk false h1 0 v = true := by
    simp [keepsOk, keptIds]
  rw [e3]
  unfold callPol
  simp only [polP, Bool.false_eq_true, if_false, he, hc, e4, hs, hk, List.length_nil, Nat.zero_le, decide_true, Bool.and_self, if_true]
  have hfl : flatRes r0 [] = r.flat ∨ (flatRes r0 [] = true ∧ r.flat = false ∧ r0.isSl = true) := by
    rw [← e6, flat_canon]
    cases hh : r0.flat
    · cases hs : r0.isSl
      · left; simp [flatRes, hh, hs]
      · right; simp [flatRes, hh, hs]
    · left; simp [flatRes, hh]
  rcases hfl with hfl | ⟨_, _, hsl⟩
  · rw [hfl]
    simp only [canonR, e6]
    split at hf
    · rename_i hr
      cases hf
      rw [if_pos hr, place_nil]
      rfl
    · rename_i hr
      rw [if_neg hr, hf]
      simp only [place_nil]
      rfl
  · exfalso
    cases r0 with
    | sl s b k o l => exact absurd (embed_sl e5).2 (Nat.not_lt_zero _)
    | _ => cases hsl

theorem Val.call {f : Nat} {as args : List AV} {r : AV} (hv : Val Q f as r) {lo base tgt : Nat} {h : Heap} (hc : AV.closedL args = true) (he : args.map AV.canon = as) : callW Q f lo base tgt args h = some (r, h) := by
  refine hv.callG (embedL_cl hc) he ?_
  split
  · rfl
  · rw [slIdsL_cl hc]; rfl

/-- From the run of the body. -/
theorem Val.of_sat {f : Nat} {fn : AFn} {as : List AV} {r : AV} (h1 : Q.ext f = none) (h2 : Q.fns f = some fn) (h3 : Q.pol f = polP)
    (h : Sat (exec (ctxW Q) 0 0 fn.code (initFr as) []) fun o fr hp => (o = .normal ∨ o = .ret) ∧ ((resultAV hp fr fn.res).bind (embed hp 0 0 depth)).map AV.canon = some r) : Val Q f as r := by
  obtain ⟨o, fr, hp, he, ho, hr⟩ := h
  cases hv : resultAV hp fr fn.res with
  | none => rw [hv] at hr; cases hr
  | some v =>
    rw [hv, Option.bind_some, Option.map_eq_some_iff] at hr
    obtain ⟨r0, hr0, hc⟩ := hr
    refine ⟨fn, v, hp, r0, h1, h2, h3, ?_, hr0, hc⟩
    unfold bodyW bodyAV
    rw [he]
    rcases ho with rfl | rfl <;> simp only [hv, put1]

/-- By the kernel. -/
theorem Val.of_run {f k : Nat} {fn : AFn} {as : List AV} {r : AV} {g : AV → Bool} (h1 : Q.ext f = none) (h2 : Q.fns f = some fn) (h3 : Q.pol f = polP)
    (h : ((bodyAV (ctxN Q k) fn 0 0 as []).bind fun x => (embed x.2 0 0 depth x.1).map AV.canon) = some r) : Val Q f as r := by
  cases hb : bodyAV (ctxN Q k) fn 0 0 as [] with
  | none => rw [hb] at h; cases h
  | some x =>
    obtain ⟨v, h'⟩ := x
    rw [hb, Option.bind_some, Option.map_eq_some_iff] at h
    obtain ⟨r0, hr0, hc⟩ := h
    refine ⟨fn, v, h', r0, h1, h2, h3, ?_, hr0, hc⟩
    unfold bodyW
    refine bodyAV_mono (c := ctxN Q k) (d := ctxW Q) (fun f lo base tgt args h r e => callW_iff.2 ⟨k, e⟩) ?_ rfl hb
    intro b d hbd fr h r e
    show itW d fr h = some r
    exact itW_iff.2 ⟨k, iter_mono hbd (Nat.le_refl k) fr h r e⟩

/-- A call that may write. -/
theorem st_call {f : Nat} {fn : AFn} {lo base tgt k : Nat} {args as0 as : List AV} {h h2 h1 : Heap} {v r0 r : AV} {p : Pol} (e1 : Q.ext f = none) (e2 : Q.fns f = some fn) (e3 : Q.pol f = p) (hst : p.st = true) (hraw : p.raw = false) (hkp : p.keep = false)
    (hk : topOf p.top args = k) (hfr : freeze lo h (args.flatMap (slIds h k depth)) = some h2) (he : mapO (embed h k k depth) args = some as0) (hc : as0.map AV.canon = as) (hlow : lowOk k h2 = true) (hlo : lo ≤ k)
    (hb : bodyW Q fn lo k as (h2.take k) = some (v, h1)) (hr : embed h1 k k depth v = some r0) (hn : r0.isSl = false ∨ True) (hr' : r0.canon = r) : callW Q f lo base tgt args h = some (r, h1.take k ++ h2.drop k) := by
  refine callW_eq e1 e2 ?_
  have hs : sealAV false h1 k tgt v = some (r0, []) := by simp [-depth_eq, sealAV, seal1, hr]
  have hkk : keepsOk false h1 k v = true := by simp [keepsOk, keptIds]
  rw [e3]
  unfold callPol
  simp only [hraw, hst, hkp, Bool.false_eq_true, if_false, if_true, hk, hfr, he, hlow, hlo, decide_true, Bool.and_self, hc, hb, hs, hkk, List.length_nil, Nat.zero_le, place_nil, canonR, hr', callPol.put1']
end
end Go.Abs

/- Go's library functions on slices, by their code. -/
set_option linter.unusedSimpArgs false
set_option linter.unusedVariables false
namespace Go.Abs

/-- What is small enough to be counted by an int. -/
abbrev big : Nat := 9223372036854775808

section
variable {Q : Prg}

/-- Elements of n cells. -/
def Elem (agg : Bool) (n : Nat) (e : AV) : Prop := part agg n n 0 e = some e
theorem Elem.agg {n : Nat} {cs : List AV} : Elem true n (.agg cs) := part_whole
theorem Elem.one {e : AV} (h : e.isAgg = false) : Elem false 1 e := by
  simp only [Elem, part_false]
  cases e <;> first | rfl | (simp [AV.isAgg] at h)

/-- F is a function value that answers so of the elements. -/
structure Pred (Q : Prg) (F : AV) (es : List AV) (bs : List Bool) : Prop where
  cl : F.closed = true
  can : F.canon = F
  len : bs.length = es.length
  val : ∀ (i : Nat) (e : AV) (b : Bool), es[i]? = some e → bs[i]? = some b → ∀ lo base tgt h, callAV (callW Q) lo base tgt F [e] h = some (.bool b, h)

theorem Pred.map {α : Type} {F : AV} {l : List α} {enc : α → AV} {q : α → Bool} (h1 : F.closed = true) (h2 : F.canon = F) (h : ∀ x ∈ l, ∀ lo base tgt h, callAV (callW Q) lo base tgt F [enc x] h = some (.bool (q x), h)) : Pred Q F (l.map enc) (l.map q) :=
  ⟨h1, h2, by simp, fun i e b he hb => by
    rw [List.getElem?_map, Option.map_eq_some_iff] at he hb
    obtain ⟨x, hx, rfl⟩ := he
    obtain ⟨y, hy, rfl⟩ := hb
    rw [hx] at hy
    cases hy
    exact h x (List.mem_of_getElem? hx)⟩

def optI : Option Nat → Int
  | some j => j
  | none => -1
@[simp] theorem optI_some (j : Nat) : optI (some j) = j := rfl
@[simp] theorem optI_none : optI none = -1 := rfl
def fidx (bs : List Bool) : Int := optI (bs.findIdx? id)

/-! ### slices.IndexFunc -/
def ixLoop (agg : Bool) (n : Nat) : ACode := .seq (.region [
 ⟨(some 9), .bin .lss (.tmp 8) (.tmp 7), none⟩])
 (.seq (.cond (.tmp 9)
 (.skip)
 (.exit 0))
 (.seq (.block 1
 (.seq (.region [
 ⟨(some 10), .move (.tmp 8), none⟩,
 ⟨(some 5), .move (.tmp 10), none⟩])
 (.seq (.region [
 ⟨(some 11), .move (.tmp 1), none⟩,
 ⟨(some 12), .move (.tmp 0), none⟩,
 ⟨(some 13), .move (.tmp 5), none⟩,
 ⟨(some 14), .iaddr n (.tmp 12) (.tmp 13), none⟩,
 ⟨(some 15), .load agg n (.tmp 14), none⟩,
 ⟨(some 16), .call (.tmp 11) [(.tmp 15)], none⟩])
 (.cond (.tmp 16)
 (.seq (.region [
 ⟨(some 17), .move (.tmp 5), none⟩,
 ⟨(some 4), .move (.tmp 17), none⟩])
 (.ret))
 (.skip)))))
 (.region [
 ⟨(some 18), .bin .add (.tmp 8) (.val (.int .i64 1)), none⟩,
 ⟨(some 8), .move (.tmp 18), none⟩])))
def ixFn (agg : Bool) (n : Nat) : AFn := ⟨[.tmp 4],
 .seq (.region [
 ⟨(some 4), .move (.val (.int .i64 0)), none⟩])
 (.seq (.seq (.region [
 ⟨(some 6), .move (.tmp 0), none⟩,
 ⟨(some 7), .lenSl (.tmp 6), none⟩,
 ⟨(some 8), .move (.val (.int .i64 0)), none⟩])
 (.block 0
 (.loop (ixLoop agg n))))
 (.seq (.region [
 ⟨(some 4), .move (.val (.int .i64 (-1))), none⟩])
 (.ret)))⟩

theorem ixLoop_ok {agg : Bool} {n : Nat} {F : AV} {es : List AV} {bs : List Bool} (hF : Pred Q F es bs) (hE : ∀ e ∈ es, Elem agg n e) (hb : es.length < big) :
    ∀ (m i : Nat) (fr : Frame), i + m = es.length → fr 0 = mkRo n es → fr 1 = F → fr 7 = .int .i64 es.length → fr 8 = .int .i64 i → (∀ j, j < i → ∀ e, bs[j]? = some e → e = false) →
      Sat (itW (exec (ctxW Q) 0 0 (ixLoop agg n)) fr []) fun o fr' h' => h' = [] ∧ ((o = .ret ∧ fr' 4 = .int .i64 (fidx bs)) ∨ (o = .exit 0 ∧ fidx bs = -1)) := by
  have hlen := hF.len
  intro m
  induction m with
  | zero =>
    intro i fr hi h0 h1 h7 h8 hn
    refine sat_it ?_
    have hlt : ¬ ((i : Int) < (es.length : Int)) := by omega
    simp [ixLoop, h7, h8, hlt]
    have : bs.findIdx? id = none := by
      rw [List.findIdx?_eq_none_iff]
      intro x hx
      obtain ⟨j, hj⟩ := List.getElem?_of_mem hx
      exact hn j (by have := (List.getElem?_eq_some_iff.1 hj).1; omega) x hj
    simp [fidx, this]
  | succ m ih =>
    intro i fr hi h0 h1 h7 h8 hn
    refine sat_it ?_
    have hlt : ((i : Int) < (es.length : Int)) := by omega
    have hil : i < es.length := by omega
    obtain ⟨e, he⟩ : ∃ e, es[i]? = some e := ⟨_, List.getElem?_eq_getElem hil⟩
    obtain ⟨b, hbi⟩ : ∃ b, bs[i]? = some b := ⟨_, List.getElem?_eq_getElem (by omega)⟩
    have hm := List.mem_of_getElem? he
    have ha := iaddr_mkRo (sz := n) .i64 (i := (i : Int)) rfl he
    have hp := hE e hm
    unfold Elem at hp
    have hv := hF.val i e b he hbi
    have hw : IntKind.wrap .i64 ((i : Int) + 1) = ((i + 1 : Nat) : Int) := by rw [wrap64 (by omega) (by have : es.length < 9223372036854775808 := hb; omega)]; omega
    cases b
    · simp [ixLoop, h0, h1, h7, h8, hlt, ha, hp, hv, hw]
      refine ih (i + 1) _ (by omega) (by simp [h0]) (by simp [h1]) (by simp [h7]) (by simp) fun j hj e' he' => ?_
      by_cases hji : j < i
      · exact hn j hji e' he'
      · obtain rfl : j = i := by omega
        rw [hbi] at he'
        cases he'
        rfl
    · simp [ixLoop, h0, h1, h7, h8, hlt, ha, hp, hv]
      have : bs.findIdx? id = some i := by
        rw [List.findIdx?_eq_some_iff_getElem]
        refine ⟨by omega, ?_, fun j hj => ?_⟩
        · have hil' : i < bs.length := by omega
          rw [List.getElem?_eq_getElem hil', Option.some.injEq] at hbi; simp [hbi]
        · have := hn j hj _ (List.getElem?_eq_getElem (by omega))
          simp [this]
      simp [fidx, this]

theorem ix_ok {f : Nat} {agg : Bool} {n : Nat} (e1 : Q.ext f = none) (e2 : Q.fns f = some (ixFn agg n)) (e3 : Q.pol f = polP) {F : AV} {es : List AV} {bs : List Bool} (hF : Pred Q F es bs) (hE : ∀ e ∈ es, Elem agg n e) (hb : es.length < big) :
    Val Q f [mkRo n es, F] (.int .i64 (fidx bs)) := by
  refine Val.of_sat e1 e2 e3 ?_
  simp [ixFn]
  refine sat_then (sat_blk ?_)
  refine (ixLoop_ok hF hE hb es.length 0 _ (by omega) (by simp) (by simp) (by simp) (by simp) (by omega)).mono ?_
  rintro o fr h ⟨rfl, ⟨rfl, h4⟩ | ⟨rfl, h4⟩⟩
  · simp [h4]
  · simp [h4]

theorem fidx_any (bs : List Bool) : decide (0 ≤ fidx bs) = bs.any id := by
  unfold fidx
  cases h : bs.findIdx? id with
  | none =>
    rw [List.findIdx?_eq_none_iff] at h
    have : bs.any id = false := by simpa using h
    simp [this]
  | some j =>
    have : bs.any id = true := by
      rw [List.findIdx?_eq_some_iff_getElem] at h
      obtain ⟨hj, h1, _⟩ := h
      exact List.any_eq_true.2 ⟨_, List.getElem_mem hj, h1⟩
    simp [this]

/-! ### slices.ContainsFunc -/
def cfFn (ix : Nat) : AFn := ⟨[.tmp 4],
 .seq (.region [
 ⟨(some 4), .move (.val (.bool false)), none⟩])
 (.seq (.region [
 ⟨(some 5), .move (.tmp 0), none⟩,
 ⟨(some 6), .move (.tmp 1), none⟩,
 ⟨(some 7), .call (.val (.fn ix [] [])) [(.tmp 5), (.tmp 6)], none⟩,
 ⟨(some 8), .bin .geq (.tmp 7) (.val (.int .i64 0)), none⟩,
 ⟨(some 4), .move (.tmp 8), none⟩])
 (.ret))⟩
theorem cf_ok {f ix : Nat} {agg : Bool} {n : Nat} (i1 : Q.ext ix = none) (i2 : Q.fns ix = some (ixFn agg n)) (i3 : Q.pol ix = polP) (e1 : Q.ext f = none) (e2 : Q.fns f = some (cfFn ix)) (e3 : Q.pol f = polP) {F : AV} {es : List AV} {bs : List Bool} (hF : Pred Q F es bs) (hE : ∀ e ∈ es, Elem agg n e)
    (hb : es.length < big) (hc : AV.closedL es = true) (hk : es.map AV.canon = es) : Val Q f [mkRo n es, F] (.bool (bs.any id)) := by
  refine Val.of_sat e1 e2 e3 ?_
  have hx : ∀ lo base tgt h, callW Q ix lo base tgt [mkRo n es, F] h = some (.int .i64 (fidx bs), h) := fun lo base tgt h => (ix_ok i1 i2 i3 hF hE hb).call (by simp [hc, hF.cl]) (by simp [hk, hF.can])
  simp [cfFn, hx, fidx_any]

/-! ### 'all' by a function that says no -/
def allFn (box g cf : Nat) : AFn := ⟨[.tmp 4],
 .seq (.region [
 ⟨(some 3), .box box 1 [] (.tmp 1), none⟩,
 ⟨(some 4), .move (.val (.bool false)), none⟩])
 (.seq (.region [
 ⟨(some 5), .move (.tmp 0), none⟩,
 ⟨(some 6), .mkfn g [] [(.tmp 3)], none⟩,
 ⟨(some 7), .call (.val (.fn cf [] [])) [(.tmp 5), (.tmp 6)], none⟩,
 ⟨(some 8), .un .not (.tmp 7), none⟩,
 ⟨(some 4), .move (.tmp 8), none⟩])
 (.ret))⟩
def notFn (ty n : Nat) (agg : Bool) : AFn := ⟨[.tmp 3],
 .seq (.region [
 ⟨(some 2), .box ty n [] (.tmp 0), none⟩,
 ⟨(some 3), .move (.val (.bool false)), none⟩])
 (.seq (.region [
 ⟨(some 4), .load false 1 (.tmp 1), none⟩,
 ⟨(some 5), .load agg n (.tmp 2), none⟩,
 ⟨(some 6), .call (.tmp 4) [(.tmp 5)], none⟩,
 ⟨(some 7), .un .not (.tmp 6), none⟩,
 ⟨(some 3), .move (.tmp 7), none⟩])
 (.ret))⟩
def IsP (Q : Prg) (f : Nat) (fn : AFn) : Prop := Q.ext f = none ∧ Q.fns f = some fn ∧ Q.pol f = polP

theorem not_ok {f ty n : Nat} {agg : Bool} (e : IsP Q f (notFn ty n agg)) {F e0 : AV} {b : Bool} (hF1 : F.closed = true) (hF2 : F.isAgg = false) (hv : ∀ lo base tgt h, callAV (callW Q) lo base tgt F [e0] h = some (.bool b, h)) (hE : Elem agg n e0) (hl : e0.cells.length = n) :
    Val Q f [e0, .rp 1 F 0] (.bool (!b)) := by
  refine Val.of_sat e.1 e.2.1 e.2.2 ?_
  unfold Elem at hE
  have hc : F.cells[0]? = some F := by cases F <;> first | rfl | (simp [AV.isAgg] at hF2)
  simp [notFn, hl, hE, hc, hv]

theorem all_ok {f g cf ix box ty n : Nat} {agg : Bool} (ea : IsP Q f (allFn box g cf)) (eg : IsP Q g (notFn ty n agg)) (ec : IsP Q cf (cfFn ix)) (ei : IsP Q ix (ixFn agg n)) {F : AV} {es : List AV} {bs : List Bool} (hF : Pred Q F es bs) (hF2 : F.isAgg = false) (hE : ∀ e ∈ es, Elem agg n e ∧ e.cells.length = n)
    (hb : es.length < big) (hc : AV.closedL es = true) (hk : es.map AV.canon = es) : Val Q f [mkRo n es, F] (.bool (bs.all id)) := by
  refine Val.of_sat ea.1 ea.2.1 ea.2.2 ?_
  have hN : Pred Q (.fn g [] [.rp 1 F 0]) es (bs.map fun b => !b) := ⟨by simp [hF.cl], by simp, by simp [hF.len], fun i e b he hb lo base tgt h => by
    rw [callAV_fn]
    rw [List.getElem?_map, Option.map_eq_some_iff] at hb
    obtain ⟨b0, hb0, rfl⟩ := hb
    have hcl := closedL_iff.1 hc i e he
    have hcn : e.canon = e := by
      have := congrArg (fun l : List AV => l[i]?) hk
      simp only [List.getElem?_map, he, Option.map_some, Option.some.injEq] at this
      exact this
    have hm := List.mem_of_getElem? he
    exact (not_ok eg hF.cl hF2 (hF.val i e b0 he hb0) (hE e hm).1 (hE e hm).2).call (by simp [hcl, hF.cl]) (by simp [hcn])⟩
  have hx := cf_ok ei.1 ei.2.1 ei.2.2 ec.1 ec.2.1 ec.2.2 hN (fun e he => (hE e he).1) hb hc hk
  have hc1 : F.cells.length = 1 := by cases F <;> first | rfl | (simp [AV.isAgg] at hF2)
  have hany : (!((bs.map fun b => !b).any id)) = bs.all id := by
    rw [Bool.eq_iff_iff]; simp
  have hx : Val Q cf [mkRo n es, .fn g [] [.rp 1 F 0]] (.bool (!(bs.all id))) := by rw [← hany, Bool.not_not]; exact hx
  simp [allFn, hc1]
  rw [hx.callG (h2 := [.live ⟨box, 1, false, [F]⟩]) (as0 := [mkRo n es, .fn g [] [.rp 1 F 0]]) (by simp [hc, hF.cl]) (by simp [hk]) (by simp)]
  simp

/-- 'all', over a row of data. -/
theorem all_map {α : Type} {f g cf ix box ty n : Nat} {agg : Bool} (ea : IsP Q f (allFn box g cf)) (eg : IsP Q g (notFn ty n agg)) (ec : IsP Q cf (cfFn ix)) (ei : IsP Q ix (ixFn agg n)) {F : AV} {l : List α} {enc : α → AV} {q : α → Bool}
    (h1 : F.closed = true) (h2 : F.canon = F) (h3 : F.isAgg = false) (h : ∀ x ∈ l, ∀ lo base tgt h, callAV (callW Q) lo base tgt F [enc x] h = some (.bool (q x), h)) (hE : ∀ x ∈ l, Elem agg n (enc x) ∧ (enc x).cells.length = n)
    (hb : l.length < big) (hc : AV.closedL (l.map enc) = true) (hk : (l.map enc).map AV.canon = l.map enc) : Val Q f [mkRo n (l.map enc), F] (.bool (l.all q)) := by
  have := all_ok ea eg ec ei (Pred.map (enc := enc) h1 h2 h) h3 (fun e he => by
    obtain ⟨x, hx, rfl⟩ := List.mem_map.1 he
    exact hE x hx) (by simpa using hb) hc hk
  rw [List.all_map] at this
  exact this

end
end Go.Abs

/- Go's library functions on strings, by their code: Trim at letters and digits, IndexByte. -/
set_option linter.unusedSimpArgs false
set_option linter.unusedVariables false
set_option maxRecDepth 100000
namespace Go.Abs

def isLow (c : UInt8) : Bool := decide (97 ≤ c.toNat) && decide (c.toNat ≤ 122)
def isLD (c : UInt8) : Bool := isLow c || (decide (48 ≤ c.toNat) && decide (c.toNat ≤ 57))
def sLow : List UInt8 := [97, 98, 99, 100, 101, 102, 103, 104, 105, 106, 107, 108, 109, 110, 111, 112, 113, 114, 115, 116, 117, 118, 119, 120, 121, 122]
def sLD : List UInt8 := [97, 98, 99, 100, 101, 102, 103, 104, 105, 106, 107, 108, 109, 110, 111, 112, 113, 114, 115, 116, 117, 118, 119, 120, 121, 122, 48, 49, 50, 51, 52, 53, 54, 55, 56, 57]
def tabLD : List AV := (List.range 256).map fun i => .bool (isLD (UInt8.ofNat i))
theorem tabLD_get (c : UInt8) : tabLD[c.toNat]? = some (.bool (isLD c)) := by
  have hc : c.toNat < 256 := c.toNat_lt
  simp [tabLD, hc]
theorem tabLD_len : tabLD.length = 256 := by simp [tabLD]

def hLD (ty : Nat) : Heap := [.live ⟨ty, 256, false, [.agg tabLD]⟩]

section
variable {Q : Prg}
def polS : Pol := { st := true, keep := false, raw := false, top := 0 }
def IsS (Q : Prg) (f : Nat) (fn : AFn) : Prop := Q.ext f = none ∧ Q.fns f = some fn ∧ Q.pol f = polS

def contFn : AFn := ⟨[.tmp 4],
 .seq (.region [
 ⟨(some 4), .move (.val (.bool false)), none⟩])
 (.seq (.region [
 ⟨(some 5), .move (.tmp 0), none⟩,
 ⟨(some 6), .move (.tmp 1), none⟩,
 ⟨(some 7), .nilChk (.tmp 5), none⟩,
 ⟨(some 8), .aaddr 256 1 (.tmp 7) (.tmp 6), none⟩,
 ⟨(some 9), .load false 1 (.tmp 8), none⟩,
 ⟨(some 4), .move (.tmp 9), none⟩])
 (.ret))⟩

theorem lowOk_LD (ty : Nat) : lowOk 1 (hLD ty) = true := by
  have : AV.scopdL 1 [.agg tabLD] = true := by
    refine scopdL_of_closed 1 _ ?_
    simp only [closedL_cons, closed_agg, closedL_nil, Bool.and_true]
    exact closedL_map (fun x => rfl) _
  simp [lowOk, hLD, this]

theorem cont_ok {f ty : Nat} (e : IsS Q f contFn) (c : UInt8) {base tgt : Nat} : callW Q f 0 base tgt [.ptr 0 1 0 0, .int .u8 c.toNat] (hLD ty) = some (.bool (isLD c), hLD ty) := by
  have hl := tabLD_len
  have hg := tabLD_get c
  have hc : c.toNat < 256 := c.toNat_lt
  refine (st_call (k := 1) e.1 e.2.1 e.2.2 rfl rfl rfl rfl (h2 := hLD ty) (as0 := [.ptr 0 1 0 0, .int .u8 c.toNat]) (as := [.ptr 0 1 0 0, .int .u8 c.toNat]) (h1 := hLD ty) (v := .bool (isLD c)) (r0 := .bool (isLD c)) (by simp [freeze]) (by simp) (by simp) (lowOk_LD ty) (by omega) ?_ (by simp) (.inr trivial) rfl).trans ?_
  · unfold bodyW bodyAV
    simp [contFn, hLD, stepOp, hc, hg]
  · simp [hLD]

/-! ### trimLeftASCII, trimRightASCII -/
def tlLoop (g : Nat) : ACode := .seq (.seq (.region [
 ⟨(some 5), .move (.tmp 0), none⟩,
 ⟨(some 6), .lenStr (.tmp 5), none⟩,
 ⟨(some 7), .bin .gtr (.tmp 6) (.val (.int .i64 0)), none⟩])
 (.cond (.tmp 7)
 (.skip)
 (.exit 0)))
 (.block 1
 (.seq (.seq (.region [
 ⟨(some 8), .move (.tmp 1), none⟩,
 ⟨(some 9), .move (.tmp 0), none⟩,
 ⟨(some 10), .istr (.tmp 9) (.val (.int .i64 0)), none⟩,
 ⟨(some 11), .call (.val (.fn g [] [])) [(.tmp 8), (.tmp 10)], none⟩,
 ⟨(some 12), .un .not (.tmp 11), none⟩])
 (.cond (.tmp 12)
 (.exit 0)
 (.skip)))
 (.region [
 ⟨(some 13), .move (.tmp 0), none⟩,
 ⟨(some 14), .slStr (.tmp 13) (some (.val (.int .i64 1))) none, none⟩,
 ⟨(some 0), .move (.tmp 14), none⟩])))
def tlFn (g : Nat) : AFn := ⟨[.tmp 4],
 .seq (.region [
 ⟨(some 4), .move (.val (.str [])), none⟩])
 (.seq (.block 0
 (.loop (tlLoop g)))
 (.seq (.region [
 ⟨(some 15), .move (.tmp 0), none⟩,
 ⟨(some 4), .move (.tmp 15), none⟩])
 (.ret)))⟩

theorem tlLoop_ok {g ty : Nat} (e : IsS Q g contFn) : ∀ (s : List UInt8) (fr : Frame), fr 0 = .str s → fr 1 = .ptr 0 1 0 0 →
    Sat (itW (exec (ctxW Q) 0 1 (tlLoop g)) fr (hLD ty)) fun o fr' h' => o = .exit 0 ∧ h' = hLD ty ∧ fr' 0 = .str (s.dropWhile isLD) := by
  intro s
  induction s with
  | nil =>
    intro fr h0 h1
    refine sat_it ?_
    simp [tlLoop, h0]
  | cons c s ih =>
    intro fr h0 h1
    refine sat_it ?_
    have hp : (0 : Int) < (s.length : Int) + 1 := by omega
    cases hc : isLD c
    · simp [tlLoop, h0, h1, hp, cont_ok e, hc]
    · simp [tlLoop, h0, h1, hp, cont_ok e, hc]
      exact ih _ (by simp) (by simp [h1])

def trLoop (g : Nat) : ACode := .seq (.seq (.region [
 ⟨(some 5), .move (.tmp 0), none⟩,
 ⟨(some 6), .lenStr (.tmp 5), none⟩,
 ⟨(some 7), .bin .gtr (.tmp 6) (.val (.int .i64 0)), none⟩])
 (.cond (.tmp 7)
 (.skip)
 (.exit 0)))
 (.block 1
 (.seq (.seq (.region [
 ⟨(some 8), .move (.tmp 1), none⟩,
 ⟨(some 9), .move (.tmp 0), none⟩,
 ⟨(some 10), .move (.tmp 0), none⟩,
 ⟨(some 11), .lenStr (.tmp 10), none⟩,
 ⟨(some 12), .bin .sub (.tmp 11) (.val (.int .i64 1)), none⟩,
 ⟨(some 13), .istr (.tmp 9) (.tmp 12), none⟩,
 ⟨(some 14), .call (.val (.fn g [] [])) [(.tmp 8), (.tmp 13)], none⟩,
 ⟨(some 15), .un .not (.tmp 14), none⟩])
 (.cond (.tmp 15)
 (.exit 0)
 (.skip)))
 (.region [
 ⟨(some 16), .move (.tmp 0), none⟩,
 ⟨(some 17), .move (.tmp 0), none⟩,
 ⟨(some 18), .lenStr (.tmp 17), none⟩,
 ⟨(some 19), .bin .sub (.tmp 18) (.val (.int .i64 1)), none⟩,
 ⟨(some 20), .slStr (.tmp 16) none (some (.tmp 19)), none⟩,
 ⟨(some 0), .move (.tmp 20), none⟩])))
def trFn (g : Nat) : AFn := ⟨[.tmp 4],
 .seq (.region [
 ⟨(some 4), .move (.val (.str [])), none⟩])
 (.seq (.block 0
 (.loop (trLoop g)))
 (.seq (.region [
 ⟨(some 21), .move (.tmp 0), none⟩,
 ⟨(some 4), .move (.tmp 21), none⟩])
 (.ret)))⟩

theorem trLoop_ok {g ty : Nat} (e : IsS Q g contFn) : ∀ (t : List UInt8) (fr : Frame), t.length < big → fr 0 = .str t.reverse → fr 1 = .ptr 0 1 0 0 →
    Sat (itW (exec (ctxW Q) 0 1 (trLoop g)) fr (hLD ty)) fun o fr' h' => o = .exit 0 ∧ h' = hLD ty ∧ fr' 0 = .str (t.dropWhile isLD).reverse := by
  intro t
  induction t with
  | nil =>
    intro fr hb h0 h1
    refine sat_it ?_
    simp [trLoop, h0]
  | cons c t ih =>
    intro fr hb h0 h1
    refine sat_it ?_
    have hb' : t.length + 1 < 9223372036854775808 := by simpa using hb
    have hp : (0 : Int) < (t.length : Int) + 1 := by omega
    have hw : IntKind.wrap .i64 ((t.length : Int) + 1 - 1) = (t.length : Int) := by rw [wrap64 (by omega) (by omega)]; omega
    have hi : istrAV (.str (t.reverse ++ [c])) (.int .i64 (t.length : Int)) = some (.int .u8 c.toNat) := istr_str .i64 (j := t.length) rfl (by simp)
    simp only [List.reverse_cons] at h0
    cases hc : isLD c
    · simp [trLoop, h0, h1, hp, hw, hi, cont_ok e, hc, -Int.add_sub_cancel]
    · simp [trLoop, h0, h1, hp, hw, hi, cont_ok e, hc, -Int.add_sub_cancel]
      exact ih _ (by show t.length < 9223372036854775808; omega) (by simp) (by simp [h1])

theorem tl_ok {f g ty : Nat} (ef : IsS Q f (tlFn g)) (e : IsS Q g contFn) (s : List UInt8) {base tgt : Nat} : callW Q f 0 base tgt [.str s, .ptr 0 1 0 0] (hLD ty) = some (.str (s.dropWhile isLD), hLD ty) := by
  refine (st_call (k := 1) ef.1 ef.2.1 ef.2.2 rfl rfl rfl rfl (h2 := hLD ty) (as0 := [.str s, .ptr 0 1 0 0]) (as := [.str s, .ptr 0 1 0 0]) (h1 := hLD ty) (v := .str (s.dropWhile isLD)) (r0 := .str (s.dropWhile isLD)) (by simp [freeze]) (by simp) (by simp) (lowOk_LD ty) (by omega) ?_ (by simp) (.inr trivial) rfl).trans ?_
  · have : Sat (exec (ctxW Q) 0 1 (tlFn g).code (initFr [.str s, .ptr 0 1 0 0]) (hLD ty)) fun o fr' h' => o = .ret ∧ h' = hLD ty ∧ fr' 4 = .str (s.dropWhile isLD) := by
      simp [tlFn]
      refine sat_then (sat_blk ((tlLoop_ok e s _ (by simp) (by simp)).mono ?_))
      rintro o fr h ⟨rfl, rfl, h0⟩
      simp [h0]
    obtain ⟨o, fr', h', he, rfl, rfl, h4⟩ := this
    unfold bodyW bodyAV
    rw [show (hLD ty).take 1 = hLD ty from rfl, he]
    simp [tlFn, h4]
  · simp [hLD]

theorem tr_ok {f g ty : Nat} (ef : IsS Q f (trFn g)) (e : IsS Q g contFn) (s : List UInt8) (hb : s.length < big) {base tgt : Nat} : callW Q f 0 base tgt [.str s, .ptr 0 1 0 0] (hLD ty) = some (.str (s.reverse.dropWhile isLD).reverse, hLD ty) := by
  refine (st_call (k := 1) ef.1 ef.2.1 ef.2.2 rfl rfl rfl rfl (h2 := hLD ty) (as0 := [.str s, .ptr 0 1 0 0]) (as := [.str s, .ptr 0 1 0 0]) (h1 := hLD ty) (v := .str (s.reverse.dropWhile isLD).reverse) (r0 := .str (s.reverse.dropWhile isLD).reverse) (by simp [freeze]) (by simp) (by simp) (lowOk_LD ty) (by omega) ?_ (by simp) (.inr trivial) rfl).trans ?_
  · have : Sat (exec (ctxW Q) 0 1 (trFn g).code (initFr [.str s, .ptr 0 1 0 0]) (hLD ty)) fun o fr' h' => o = .ret ∧ h' = hLD ty ∧ fr' 4 = .str (s.reverse.dropWhile isLD).reverse := by
      simp [trFn]
      refine sat_then (sat_blk ((trLoop_ok e s.reverse _ (by simpa using hb) (by simp) (by simp)).mono ?_))
      rintro o fr h ⟨rfl, rfl, h0⟩
      simp [h0]
    obtain ⟨o, fr', h', he, rfl, rfl, h4⟩ := this
    unfold bodyW bodyAV
    rw [show (hLD ty).take 1 = hLD ty from rfl, he]
    simp [trFn, h4]
  · simp [hLD]

/-! ### Trim, at letters and digits -/
def trimFn (ty mk tl tr tlb trb tlu tru : Nat) : AFn := ⟨[.tmp 4],
 .seq (.region [
 ⟨(some 4), .move (.val (.str [])), none⟩])
 (.seq (.seq (.region [
 ⟨(some 7), .move (.tmp 0), none⟩,
 ⟨(some 8), .bin .eql (.tmp 7) (.val (.str [])), none⟩,
 ⟨(some 9), .move (.tmp 8), none⟩,
 ⟨(some 10), .move (.tmp 1), (some (9, false))⟩,
 ⟨(some 11), .bin .eql (.tmp 10) (.val (.str [])), (some (9, false))⟩,
 ⟨(some 12), .pick (.tmp 9) (.val (.bool true)) (.tmp 11), none⟩])
 (.cond (.tmp 12)
 (.seq (.region [
 ⟨(some 13), .move (.tmp 0), none⟩,
 ⟨(some 4), .move (.tmp 13), none⟩])
 (.ret))
 (.skip)))
 (.seq (.seq (.region [
 ⟨(some 14), .move (.tmp 1), none⟩,
 ⟨(some 15), .lenStr (.tmp 14), none⟩,
 ⟨(some 16), .bin .eql (.tmp 15) (.val (.int .i64 1)), none⟩,
 ⟨(some 17), .move (.tmp 16), none⟩,
 ⟨(some 18), .move (.tmp 1), (some (17, true))⟩,
 ⟨(some 19), .istr (.tmp 18) (.val (.int .i64 0)), (some (17, true))⟩,
 ⟨(some 20), .bin .lss (.tmp 19) (.val (.int .u8 128)), (some (17, true))⟩,
 ⟨(some 21), .pick (.tmp 17) (.tmp 20) (.val (.bool false)), none⟩])
 (.cond (.tmp 21)
 (.seq (.draw 4 [
 ⟨⟨(some 22), .move (.tmp 0), none⟩, .P, 0, [], [], false, none, []⟩,
 ⟨⟨(some 23), .move (.tmp 1), none⟩, .P, 0, [], [], false, none, []⟩,
 ⟨⟨(some 24), .istr (.tmp 23) (.val (.int .i64 0)), none⟩, .P, 0, [], [], false, none, []⟩,
 ⟨⟨(some 25), .call (.val (.fn trb [] [])) [(.tmp 22), (.tmp 24)], none⟩, .C, 0, [], [], false, none, []⟩,
 ⟨⟨(some 26), .move (.tmp 1), none⟩, .P, 2, [], [], false, none, []⟩,
 ⟨⟨(some 27), .istr (.tmp 26) (.val (.int .i64 0)), none⟩, .P, 2, [], [], false, none, []⟩,
 ⟨⟨(some 28), .call (.val (.fn tlb [] [])) [(.tmp 25), (.tmp 27)], none⟩, .C, 2, [], [], false, none, []⟩,
 ⟨⟨(some 4), .move (.tmp 28), none⟩, .P, 4, [], [], false, none, []⟩])
 (.ret))
 (.skip)))
 (.seq (.seq (.region [
 ⟨(some 30), .move (.tmp 1), none⟩,
 ⟨(some 31), .call (.val (.fn mk [] [])) [(.tmp 30)], none⟩,
 ⟨(some 29), .move (.tmp 31), none⟩,
 ⟨(some 32), .extract (.tmp 29) 0, none⟩,
 ⟨(some 33), .extract (.tmp 29) 1, none⟩,
 ⟨(some 5), .alloc ty 256 [] (.agg (List.replicate 256 (.bool false))), none⟩,
 ⟨none, .store 256 (.tmp 5) (.tmp 32), none⟩,
 ⟨(some 6), .move (.tmp 33), none⟩])
 (.seq (.region [
 ⟨(some 34), .move (.tmp 6), none⟩])
 (.cond (.tmp 34)
 (.seq (.region [
 ⟨(some 35), .move (.tmp 0), none⟩,
 ⟨(some 36), .call (.val (.fn tr [] [])) [(.tmp 35), (.tmp 5)], none⟩,
 ⟨(some 37), .call (.val (.fn tl [] [])) [(.tmp 36), (.tmp 5)], none⟩,
 ⟨(some 4), .move (.tmp 37), none⟩])
 (.ret))
 (.skip))))
 (.seq (.region [
 ⟨(some 38), .move (.tmp 0), none⟩,
 ⟨(some 39), .move (.tmp 1), none⟩,
 ⟨(some 40), .call (.val (.fn tru [] [])) [(.tmp 38), (.tmp 39)], none⟩,
 ⟨(some 41), .move (.tmp 1), none⟩,
 ⟨(some 42), .call (.val (.fn tlu [] [])) [(.tmp 40), (.tmp 41)], none⟩,
 ⟨(some 4), .move (.tmp 42), none⟩])
 (.ret)))))⟩

def trimS (s : List UInt8) : List UInt8 := ((s.reverse.dropWhile isLD).reverse).dropWhile isLD
theorem trim_ok {f ty mk tl tr tlb trb tlu tru ct : Nat} (ef : IsP Q f (trimFn ty mk tl tr tlb trb tlu tru)) (etl : IsS Q tl (tlFn ct)) (etr : IsS Q tr (trFn ct)) (ec : IsS Q ct contFn) (emk : Val Q mk [.str sLD] (.tup [.agg tabLD, .bool true])) (s : List UInt8) (hs : s ≠ []) (hb : s.length < big) :
    Val Q f [.str s, .str sLD] (.str (trimS s)) := by
  refine Val.of_sat ef.1 ef.2.1 ef.2.2 ?_
  have hmk : ∀ lo base tgt h, callW Q mk lo base tgt [.str sLD] h = some (.tup [.agg tabLD, .bool true], h) := fun lo base tgt h => emk.call (by simp) (by simp)
  have h1 : (sLD : List UInt8) ≠ [] := by simp [sLD]
  have h2 : sLD.length = 36 := rfl
  have hl := tabLD_len
  have hr := fun base tgt => tr_ok (base := base) (tgt := tgt) (ty := ty) etr ec s hb
  have ht := fun base tgt => tl_ok (base := base) (tgt := tgt) (ty := ty) etl ec (s.reverse.dropWhile isLD).reverse
  simp only [hLD] at hr ht
  simp [trimFn, hs, h1, h2, hmk, hl, hr, ht, trimS]

theorem dropWhile_nil {α : Type} {p : α → Bool} : ∀ {l : List α}, l.dropWhile p = [] ↔ ∀ x ∈ l, p x = true
  | [] => by simp
  | y :: l => by
    rw [List.dropWhile_cons]
    split
    · rename_i hy
      rw [dropWhile_nil]
      simp [hy]
    · rename_i hy
      simp [hy]
theorem trimS_iff (s : List UInt8) : trimS s = [] ↔ ∀ x ∈ s, isLD x = true := by
  unfold trimS
  constructor
  · intro h x hx
    rw [dropWhile_nil] at h
    cases hx' : isLD x with
    | true => rfl
    | false =>
      exfalso
      have hm : x ∈ s.reverse.dropWhile isLD := by
        have hx2 : x ∈ s.reverse := by simpa using hx
        generalize s.reverse = t at hx2
        induction t with
        | nil => cases hx2
        | cons y t ih =>
          rw [List.dropWhile_cons]
          split
          · rename_i hy
            rcases List.mem_cons.1 hx2 with rfl | hx3
            · rw [hx'] at hy; cases hy
            · exact ih hx3
          · exact hx2
      have := h x (by simpa using hm)
      rw [hx'] at this
      cases this
  · intro h
    have : s.reverse.dropWhile isLD = [] := by
      rw [dropWhile_nil]
      exact fun x hx => h x (by simpa using hx)
    rw [this]
    rfl
theorem trimS_nil (s : List UInt8) : decide (trimS s = []) = s.all isLD := by
  rw [Bool.eq_iff_iff, decide_eq_true_eq, trimS_iff, List.all_eq_true]

/-! ### IndexByte -/
def ibFn (g : Nat) : AFn := ⟨[.tmp 4],
 .seq (.region [
 ⟨(some 4), .move (.val (.int .i64 0)), none⟩])
 (.seq (.region [
 ⟨(some 5), .move (.tmp 0), none⟩,
 ⟨(some 6), .move (.tmp 1), none⟩,
 ⟨(some 7), .call (.val (.fn g [] [])) [(.tmp 5), (.tmp 6)], none⟩,
 ⟨(some 4), .move (.tmp 7), none⟩])
 (.ret))⟩
theorem ib_ok {f g x : Nat} (ef : IsP Q f (ibFn g)) (eg : IsP Q g (ibFn x)) (ex : Q.ext x = some indexX) (s : List UInt8) (c : UInt8) : Val Q f [.str s, .int .u8 c.toNat] (.int .i64 (Lib.indexByte s c)) := by
  have hx : ∀ lo base tgt h, callW Q x lo base tgt [.str s, .int .u8 c.toNat] h = some (.int .i64 (Lib.indexByte s c), h) := fun lo base tgt h => callW_ext ex (by simp [indexX])
  have hg : Val Q g [.str s, .int .u8 c.toNat] (.int .i64 (Lib.indexByte s c)) := by
    refine Val.of_sat eg.1 eg.2.1 eg.2.2 ?_
    simp [ibFn, hx]
  have hg' : ∀ lo base tgt h, callW Q g lo base tgt [.str s, .int .u8 c.toNat] h = some (.int .i64 (Lib.indexByte s c), h) := fun lo base tgt h => hg.call (by simp) (by simp)
  refine Val.of_sat ef.1 ef.2.1 ef.2.2 ?_
  simp [ibFn, hg']

theorem ib_low (c : UInt8) : decide (0 ≤ Lib.indexByte sLow c) = isLow c := by
  have key : ∀ n : Fin 256, decide (0 ≤ Lib.indexByte sLow (UInt8.ofNat n.val)) = isLow (UInt8.ofNat n.val) := by decide +kernel
  have := key ⟨c.toNat, c.toNat_lt⟩
  simpa using this

/-! ### A name -/
def nameS (s : List UInt8) : Bool :=
  match s with
  | [] => false
  | c :: t => decide ((c :: t).length ≤ 8) && isLow c && (c :: t).all isLD
def nameFn (ib tr : Nat) : AFn := ⟨[.tmp 2],
 .seq (.region [
 ⟨(some 2), .move (.val (.bool false)), none⟩])
 (.seq (.region [
 ⟨(some 3), .move (.tmp 0), none⟩,
 ⟨(some 4), .bin .neq (.tmp 3) (.val (.str [])), none⟩,
 ⟨(some 5), .move (.tmp 4), none⟩,
 ⟨(some 6), .move (.tmp 0), (some (5, true))⟩,
 ⟨(some 7), .lenStr (.tmp 6), (some (5, true))⟩,
 ⟨(some 8), .bin .leq (.tmp 7) (.val (.int .i64 8)), (some (5, true))⟩,
 ⟨(some 9), .pick (.tmp 5) (.tmp 8) (.val (.bool false)), none⟩,
 ⟨(some 10), .move (.tmp 9), none⟩,
 ⟨(some 11), .move (.tmp 0), (some (10, true))⟩,
 ⟨(some 12), .istr (.tmp 11) (.val (.int .i64 0)), (some (10, true))⟩,
 ⟨(some 13), .call (.val (.fn ib [] [])) [(.val (.str sLow)), (.tmp 12)], (some (10, true))⟩,
 ⟨(some 14), .bin .geq (.tmp 13) (.val (.int .i64 0)), (some (10, true))⟩,
 ⟨(some 15), .pick (.tmp 10) (.tmp 14) (.val (.bool false)), none⟩,
 ⟨(some 16), .move (.tmp 15), none⟩,
 ⟨(some 17), .move (.tmp 0), (some (16, true))⟩,
 ⟨(some 18), .call (.val (.fn tr [] [])) [(.tmp 17), (.val (.str sLD))], (some (16, true))⟩,
 ⟨(some 19), .bin .eql (.tmp 18) (.val (.str [])), (some (16, true))⟩,
 ⟨(some 20), .pick (.tmp 16) (.tmp 19) (.val (.bool false)), none⟩,
 ⟨(some 2), .move (.tmp 20), none⟩])
 (.ret))⟩
theorem name_ok {f ib tr : Nat} (ef : IsP Q f (nameFn ib tr)) (hib : ∀ c : UInt8, Val Q ib [.str sLow, .int .u8 c.toNat] (.int .i64 (Lib.indexByte sLow c))) (htr : ∀ s : List UInt8, s ≠ [] → s.length < big → Val Q tr [.str s, .str sLD] (.str (trimS s))) (s : List UInt8) :
    Val Q f [.str s] (.bool (nameS s)) := by
  refine Val.of_sat ef.1 ef.2.1 ef.2.2 ?_
  cases s with
  | nil => simp [nameFn, nameS]
  | cons c t =>
    have h1 : ∀ lo base tgt h, callW Q ib lo base tgt [.str sLow, .int .u8 c.toNat] h = some (.int .i64 (Lib.indexByte sLow c), h) := fun lo base tgt h => (hib c).call (by simp) (by simp)
    by_cases hl : (c :: t).length ≤ 8
    · have hsz : (c :: t).length < big := by show (c :: t).length < 9223372036854775808; omega
      have h2 : ∀ lo base tgt h, callW Q tr lo base tgt [.str (c :: t), .str sLD] h = some (.str (trimS (c :: t)), h) := fun lo base tgt h => (htr (c :: t) (by simp) hsz).call (by simp) (by simp)
      have hl' : (t.length : Int) + 1 ≤ 8 := by simp at hl; omega
      have h3 := ib_low c
      have h4 := trimS_nil (c :: t)
      cases hc : isLow c
      · rw [hc] at h3
        simp [nameFn, nameS, hl', h1, h3, hc]
      · rw [hc] at h3
        simp [nameFn, nameS, hl', h1, h2, h3, h4, hc]
        simp at hl
        simp [hl]
    · have hl' : ¬ (t.length : Int) + 1 ≤ 8 := by simp at hl; omega
      have hl2 : ¬ t.length + 1 ≤ 8 := by simpa using hl
      simp [nameFn, nameS, hl', hl2]

end
end Go.Abs

/- The program's data in Lean: expressions, conditions, statements, programs; how each stands as an abstract value. -/
set_option linter.unusedSimpArgs false
set_option linter.unusedVariables false
namespace Go.Abs

abbrev Str := List UInt8
abbrev I (n : Int) : AV := .int .i64 n

inductive Expr where
  | mk (kind n op : Int) (name : Str) (kids : List Expr)
inductive Cond where
  | mk (kind rel : Int) (l : List Expr) (kids : List Cond)
inductive Stmt where
  | mk (kind : Int) (name : Str) (i e : Expr) (c : Cond) (body els : List Stmt)
structure Glob where
  name : Str
  init : Int
structure Arr where
  name : Str
  size : Int
structure Thr where
  name : Str
  locals : List Str
  body : List Stmt
structure Prg' where
  globals : List Glob
  arrays : List Arr
  mutexes : List Str
  threads : List Thr

/-! ### As abstract values -/
mutual
def encE : Expr → AV
  | .mk k n o s l => .agg [I k, I n, I o, .str s, mkRo 5 (encEL l)]
def encEL : List Expr → List AV
  | [] => []
  | e :: l => encE e :: encEL l
end
mutual
def encC : Cond → AV
  | .mk k r l ks => .agg [I k, I r, mkRo 5 (encEL l), mkRo 4 (encCL ks)]
def encCL : List Cond → List AV
  | [] => []
  | c :: l => encC c :: encCL l
end
mutual
def encS : Stmt → AV
  | .mk k s i e c b l => .agg ([I k, .str s] ++ (encE i).cells ++ (encE e).cells ++ (encC c).cells ++ [mkRo 18 (encSL b), mkRo 18 (encSL l)])
def encSL : List Stmt → List AV
  | [] => []
  | s :: l => encS s :: encSL l
end
def encG (g : Glob) : AV := .agg [.str g.name, I g.init]
def encA (a : Arr) : AV := .agg [.str a.name, I a.size]
def encStrs (l : List Str) : AV := mkRo 1 (l.map .str)
def encT (t : Thr) : AV := .agg [.str t.name, encStrs t.locals, mkRo 18 (t.body.map encS)]
def encP (p : Prg') : AV := .agg [mkRo 2 (p.globals.map encG), mkRo 2 (p.arrays.map encA), encStrs p.mutexes, mkRo 3 (p.threads.map encT)]

@[simp] theorem encEL_eq (l : List Expr) : encEL l = l.map encE := by
  induction l with
  | nil => rfl
  | cons e l ih => simp [encEL, ih]
@[simp] theorem encCL_eq (l : List Cond) : encCL l = l.map encC := by
  induction l with
  | nil => rfl
  | cons e l ih => simp [encCL, ih]
@[simp] theorem encSL_eq (l : List Stmt) : encSL l = l.map encS := by
  induction l with
  | nil => rfl
  | cons e l ih => simp [encSL, ih]
theorem encE_mk (k n o : Int) (s : Str) (l : List Expr) : encE (.mk k n o s l) = .agg [I k, I n, I o, .str s, mkRo 5 (l.map encE)] := nr (by simp [encE])
theorem encC_mk (k r : Int) (l : List Expr) (ks : List Cond) : encC (.mk k r l ks) = .agg [I k, I r, mkRo 5 (l.map encE), mkRo 4 (ks.map encC)] := nr (by simp [encC])
theorem encS_mk (k : Int) (s : Str) (i e : Expr) (c : Cond) (b l : List Stmt) : encS (.mk k s i e c b l) = .agg ([I k, .str s] ++ (encE i).cells ++ (encE e).cells ++ (encC c).cells ++ [mkRo 18 (b.map encS), mkRo 18 (l.map encS)]) := nr (by simp [encS])
theorem encS_mk' (k : Int) (s : Str) (ik ni oi : Int) (si : Str) (li : List Expr) (ek ne oe : Int) (se : Str) (le : List Expr) (ck cr : Int) (cl : List Expr) (cc : List Cond) (b l : List Stmt) :
    encS (.mk k s (.mk ik ni oi si li) (.mk ek ne oe se le) (.mk ck cr cl cc) b l) =
      .agg [I k, .str s, I ik, I ni, I oi, .str si, mkRo 5 (li.map encE), I ek, I ne, I oe, .str se, mkRo 5 (le.map encE), I ck, I cr, mkRo 5 (cl.map encE), mkRo 4 (cc.map encC), mkRo 18 (b.map encS), mkRo 18 (l.map encS)] := nr (by
  simp [encS, encE, encC])

/-! ### They lead to no block; they are spelt in the one way -/
structure Plain (x : AV) : Prop where
  cl : x.closed = true
  can : x.canon = x
theorem plain_list {xs : List AV} (h : ∀ x ∈ xs, Plain x) : AV.closedL xs = true ∧ xs.map AV.canon = xs := by
  induction xs with
  | nil => exact ⟨rfl, rfl⟩
  | cons x xs ih =>
    obtain ⟨h1, h2⟩ := ih fun y hy => h y (List.mem_cons_of_mem _ hy)
    have hx := h x (by simp)
    simp [h1, h2, hx.cl, hx.can]
theorem plain_map {α : Type} {f : α → AV} {l : List α} (h : ∀ x ∈ l, Plain (f x)) : AV.closedL (l.map f) = true ∧ (l.map f).map AV.canon = l.map f := plain_list (by
  intro x hx
  obtain ⟨y, hy, rfl⟩ := List.mem_map.1 hx
  exact h y hy)
theorem plain_ro {α : Type} {f : α → AV} {sz : Nat} {l : List α} (h : ∀ x ∈ l, Plain (f x)) : Plain (mkRo sz (l.map f)) := by
  obtain ⟨h1, h2⟩ := plain_map h
  exact ⟨by simp [h1], by rw [canon_mkRo, h2]⟩
theorem plainE : (e : Expr) → Plain (encE e)
  | .mk k n o s l => by
    have h := plain_ro (sz := 5) (f := encE) (l := l) fun x hx => plainE x
    exact ⟨by rw [encE_mk]; simpa using h.cl, by rw [encE_mk]; simpa using h.can⟩
termination_by e => e
decreasing_by
  have := List.sizeOf_lt_of_mem hx
  simp_wf
  omega
theorem plainC : (c : Cond) → Plain (encC c)
  | .mk k r l ks => by
    have h0 := plain_ro (sz := 5) (f := encE) (l := l) fun x _ => plainE x
    have h := plain_ro (sz := 4) (f := encC) (l := ks) fun x hx => plainC x
    refine ⟨?_, ?_⟩
    · rw [encC_mk]
      have h1 := h0.cl
      have h2 := h.cl
      simp only [closed_mkRo] at h1 h2
      simp [h1, h2]
    · rw [encC_mk]
      have h1 := h0.can
      have h2 := h.can
      simp only [canon_agg, List.map_cons, List.map_nil, canon_int, h1, h2]
termination_by c => c
decreasing_by
  have := List.sizeOf_lt_of_mem hx
  simp_wf
  omega
theorem plainS : (s : Stmt) → Plain (encS s)
  | .mk k s i e c b l => by
    have hb := plain_ro (sz := 18) (f := encS) (l := b) fun x hx => plainS x
    have hl := plain_ro (sz := 18) (f := encS) (l := l) fun x hx => plainS x
    have hi := plainE i
    have he := plainE e
    have hc := plainC c
    obtain ⟨ik, ni, oi, si, li⟩ := i
    obtain ⟨ek, ne, oe, se, le⟩ := e
    obtain ⟨ck, cr, cl, cc⟩ := c
    rw [encE_mk] at hi he
    rw [encC_mk] at hc
    have hi1 := hi.cl
    have he1 := he.cl
    have hc1 := hc.cl
    have hb1 := hb.cl
    have hl1 := hl.cl
    have hi2 := hi.can
    have he2 := he.can
    have hc2 := hc.can
    have hb2 := hb.can
    have hl2 := hl.can
    simp only [closed_agg, closedL_cons, closed_int, closed_str, closedL_nil, Bool.and_true, Bool.true_and, closed_mkRo, Bool.and_eq_true] at hi1 he1 hc1 hb1 hl1
    simp only [canon_agg, List.map_cons, List.map_nil, canon_int, canon_str, AV.agg.injEq, List.cons.injEq, and_true, true_and] at hi2 he2 hc2
    rw [encS_mk']
    refine ⟨?_, ?_⟩
    · simp only [closed_agg, closedL_cons, closed_int, closed_str, closedL_nil, Bool.and_true, Bool.true_and, closed_mkRo, hi1, he1, hc1.1, hc1.2, hb1, hl1]
    · simp only [canon_agg, List.map_cons, List.map_nil, canon_int, canon_str, hi2, he2, hc2.1, hc2.2, hb2, hl2]
termination_by s => s
decreasing_by
  · have := List.sizeOf_lt_of_mem hx
    simp_wf
    omega
  · have := List.sizeOf_lt_of_mem hx
    simp_wf
    omega
theorem plainStrs (l : List Str) : Plain (encStrs l) := plain_ro fun x _ => ⟨rfl, rfl⟩
theorem plainG (g : Glob) : Plain (encG g) := ⟨by simp [encG], by simp [encG]⟩
theorem plainA (a : Arr) : Plain (encA a) := ⟨by simp [encA], by simp [encA]⟩
theorem plainT (t : Thr) : Plain (encT t) := by
  have h1 := plainStrs t.locals
  have h2 := plain_ro (sz := 18) (f := encS) (l := t.body) fun x _ => plainS x
  exact ⟨by simp only [encT, closed_agg, closedL_cons, closed_str, closedL_nil, h1.cl, h2.cl]; rfl, by simp only [encT, canon_agg, List.map_cons, List.map_nil, canon_str, h1.can, h2.can]⟩
theorem plainP (p : Prg') : Plain (encP p) := by
  have h1 := plain_ro (sz := 2) (f := encG) (l := p.globals) fun x _ => plainG x
  have h2 := plain_ro (sz := 2) (f := encA) (l := p.arrays) fun x _ => plainA x
  have h3 := plainStrs p.mutexes
  have h4 := plain_ro (sz := 3) (f := encT) (l := p.threads) fun x _ => plainT x
  exact ⟨by simp only [encP, closed_agg, closedL_cons, closedL_nil, h1.cl, h2.cl, h3.cl, h4.cl]; rfl, by simp only [encP, canon_agg, List.map_cons, List.map_nil, h1.can, h2.can, h3.can, h4.can]⟩

/-! ### Small enough to be counted -/
mutual
def okE : Expr → Prop
  | .mk _ _ _ s l => s.length < big ∧ l.length < big ∧ okEL l
def okEL : List Expr → Prop
  | [] => True
  | e :: l => okE e ∧ okEL l
end
theorem okEL_iff {l : List Expr} : okEL l ↔ ∀ e ∈ l, okE e := by
  induction l with
  | nil => simp [okEL]
  | cons e l ih => simp [okEL, ih]
mutual
def okC : Cond → Prop
  | .mk _ _ l ks => l.length < big ∧ ks.length < big ∧ okEL l ∧ okCL ks
def okCL : List Cond → Prop
  | [] => True
  | e :: l => okC e ∧ okCL l
end
theorem okCL_iff {l : List Cond} : okCL l ↔ ∀ e ∈ l, okC e := by
  induction l with
  | nil => simp [okCL]
  | cons e l ih => simp [okCL, ih]
mutual
def okS : Stmt → Prop
  | .mk _ s i e c b l => s.length < big ∧ okE i ∧ okE e ∧ okC c ∧ b.length < big ∧ l.length < big ∧ okSL b ∧ okSL l
def okSL : List Stmt → Prop
  | [] => True
  | e :: l => okS e ∧ okSL l
end
theorem okSL_iff {l : List Stmt} : okSL l ↔ ∀ e ∈ l, okS e := by
  induction l with
  | nil => simp [okSL]
  | cons e l ih => simp [okSL, ih]
structure okT (t : Thr) : Prop where
  name : t.name.length < big
  locals : t.locals.length < big
  locn : ∀ s ∈ t.locals, s.length < big
  body : t.body.length < big
  stmts : ∀ s ∈ t.body, okS s
structure okP (p : Prg') : Prop where
  globals : p.globals.length < big
  globn : ∀ g ∈ p.globals, g.name.length < big
  arrays : p.arrays.length < big
  arrn : ∀ g ∈ p.arrays, g.name.length < big
  mutexes : p.mutexes.length < big
  mutn : ∀ s ∈ p.mutexes, s.length < big
  threads : p.threads.length < big
  thr : ∀ t ∈ p.threads, okT t

/-! ### What may be -/
mutual
def exprOk : Expr → Bool
  | .mk k n o s l =>
    (if k = 1 then decide (0 ≤ n) && decide (n ≤ 2147483647) && decide (l.length = 0)
     else if k = 4 then decide (l.length = 0)
     else if k = 2 then nameS s && decide (l.length = 0)
     else if k = 3 then nameS s && decide (l.length = 1)
     else if k = 6 then decide (l.length = 1)
     else if k = 5 then decide (1 ≤ o) && decide (o ≤ 5) && decide (l.length = 2)
     else false) && exprsOk l
def exprsOk : List Expr → Bool
  | [] => true
  | e :: l => exprOk e && exprsOk l
end
theorem exprsOk_eq (l : List Expr) : exprsOk l = l.all exprOk := by
  induction l with
  | nil => rfl
  | cons e l ih => simp [exprsOk, ih]
mutual
def condOk : Cond → Bool
  | .mk k r l ks =>
    (if k = 1 then decide (1 ≤ r) && decide (r ≤ 6) && decide (ks.length = 0) && decide (l.length = 2)
     else if k = 2 then decide (ks.length = 1) && decide (l.length = 0)
     else if k = 3 ∨ k = 4 then decide (ks.length = 2) && decide (l.length = 0)
     else false) && exprsOk l && condsOk ks
def condsOk : List Cond → Bool
  | [] => true
  | e :: l => condOk e && condsOk l
end
theorem condsOk_eq (l : List Cond) : condsOk l = l.all condOk := by
  induction l with
  | nil => rfl
  | cons e l ih => simp [condsOk, ih]
mutual
def stmtOk : Stmt → Bool
  | .mk k s i e c b l =>
    if k = 1 then nameS s && exprOk e
    else if k = 2 then nameS s && exprOk i && exprOk e
    else if k = 3 ∨ k = 4 then nameS s
    else if k = 5 then condOk c && stmtsOk b && stmtsOk l
    else if k = 6 then condOk c && stmtsOk b
    else if k = 7 then condOk c
    else decide (k = 8)
def stmtsOk : List Stmt → Bool
  | [] => true
  | e :: l => stmtOk e && stmtsOk l
end
theorem stmtsOk_eq (l : List Stmt) : stmtsOk l = l.all stmtOk := by
  induction l with
  | nil => rfl
  | cons e l ih => simp [stmtsOk, ih]
def fits32 (n : Int) : Bool := decide (-2147483648 ≤ n) && decide (n ≤ 2147483647)
def fitsOk (p : Prg') : Bool := decide (p.globals.length ≤ 6) && decide (p.arrays.length ≤ 3) && decide (p.mutexes.length ≤ 6) && decide (p.threads.length ≤ 4) && p.threads.all fun t => decide (t.locals.length ≤ 6)
def formOk (p : Prg') : Bool := decide (0 < p.threads.length) && p.mutexes.all nameS && p.globals.all (fun g => nameS g.name && fits32 g.init) && p.arrays.all (fun a => nameS a.name && (decide (1 ≤ a.size) && decide (a.size ≤ 16))) &&
  p.threads.all fun t => nameS t.name && t.locals.all nameS && stmtsOk t.body
/-- Does a text stand twice in a row? -/
def twiceS : List Str → Bool
  | [] => false
  | s :: l => l.contains s || twiceS l
def sharedS (p : Prg') : List Str := p.globals.map (·.name) ++ p.arrays.map (·.name) ++ p.mutexes
def aloneOk (p : Prg') : Bool := p.threads.all (fun t => !twiceS (sharedS p ++ t.locals)) && !twiceS (p.threads.map (·.name))
/-! ### What is there -/
def placeS (s : Str) (l : List Str) : Int := optI (l.findIdx? fun t => decide (s = t))
def globS (p : Prg') (s : Str) : Int := placeS s (p.globals.map (·.name))
def arrS (p : Prg') (s : Str) : Int := placeS s (p.arrays.map (·.name))
def mutS (p : Prg') (s : Str) : Int := placeS s p.mutexes
def locS (t : Thr) (s : Str) : Int := placeS s t.locals
def isVarS (p : Prg') (t : Thr) (s : Str) : Bool := decide (0 ≤ locS t s) || decide (0 ≤ globS p s)
mutual
def exprUses (p : Prg') (t : Thr) : Expr → Bool
  | .mk k _ _ s l => (!decide (k = 2) || isVarS p t s) && (!decide (k = 3) || decide (0 ≤ arrS p s)) && exprsUse p t l
def exprsUse (p : Prg') (t : Thr) : List Expr → Bool
  | [] => true
  | e :: l => exprUses p t e && exprsUse p t l
end
theorem exprsUse_eq (p : Prg') (t : Thr) (l : List Expr) : exprsUse p t l = l.all (exprUses p t) := by
  induction l with
  | nil => rfl
  | cons e l ih => simp [exprsUse, ih]
mutual
def condUses (p : Prg') (t : Thr) : Cond → Bool
  | .mk _ _ l ks => exprsUse p t l && condsUse p t ks
def condsUse (p : Prg') (t : Thr) : List Cond → Bool
  | [] => true
  | e :: l => condUses p t e && condsUse p t l
end
theorem condsUse_eq (p : Prg') (t : Thr) (l : List Cond) : condsUse p t l = l.all (condUses p t) := by
  induction l with
  | nil => rfl
  | cons e l ih => simp [condsUse, ih]
mutual
def stmtUses (p : Prg') (t : Thr) : Stmt → Bool
  | .mk k s i e c b l =>
    if k = 1 then isVarS p t s && exprUses p t e
    else if k = 2 then decide (0 ≤ arrS p s) && exprUses p t i && exprUses p t e
    else if k = 3 ∨ k = 4 then decide (0 ≤ mutS p s)
    else if k = 5 then condUses p t c && stmtsUse p t b && stmtsUse p t l
    else if k = 6 then condUses p t c && stmtsUse p t b
    else if k = 7 then condUses p t c
    else true
def stmtsUse (p : Prg') (t : Thr) : List Stmt → Bool
  | [] => true
  | e :: l => stmtUses p t e && stmtsUse p t l
end
theorem stmtsUse_eq (p : Prg') (t : Thr) (l : List Stmt) : stmtsUse p t l = l.all (stmtUses p t) := by
  induction l with
  | nil => rfl
  | cons e l ih => simp [stmtsUse, ih]
/-- Why a program may not be. -/
def checkS (p : Prg') : Int :=
  if fitsOk p = false then 4 else if formOk p = false then 2 else if aloneOk p = false then 5 else if (p.threads.all fun t => stmtsUse p t t.body) = false then 6 else 0

end Go.Abs

/- Rows that a frame owns and lets grow; copies. -/
set_option linter.unusedSimpArgs false
set_option linter.unusedVariables false
namespace Go.Abs

/-! ### A heap that has grown -/
@[simp] theorem getE_app0 (h l : Heap) : (h ++ l)[h.length]? = l[0]? := nr (by rw [List.getElem?_append_right (Nat.le_refl _), Nat.sub_self])
@[simp] theorem getE_app (h l : Heap) (k : Nat) : (h ++ l)[h.length + k]? = l[k]? := nr (by rw [List.getElem?_append_right (by omega)]; congr 1; omega)
theorem getE_low {h l : Heap} {b : Nat} (hb : b < h.length) : (h ++ l)[b]? = h[b]? := List.getElem?_append_left hb
@[simp] theorem setE_app0 (h l : Heap) (x : Ent) : (h ++ l).set h.length x = h ++ l.set 0 x := nr ((List.set_append_right _ _ (Nat.le_refl _)).trans (by rw [Nat.sub_self]))
@[simp] theorem setE_app (h l : Heap) (k : Nat) (x : Ent) : (h ++ l).set (h.length + k) x = h ++ l.set k x := nr ((List.set_append_right _ _ (by omega)).trans (by rw [Nat.add_sub_cancel_left]))
theorem setE_low {h l : Heap} {b : Nat} (hb : b < h.length) (x : Ent) : (h ++ l).set b x = h.set b x ++ l := List.set_append_left _ _ hb
theorem lt_of_live {h : Heap} {b : Nat} {e : Ent} (hb : h[b]? = some e) : b < h.length := (List.getElem?_eq_some_iff.1 hb).1

/-- v is a row of the frame's own, in block b: xs. -/
def Own (h : Heap) (ty sz b : Nat) (v : AV) (xs : List AV) : Prop := (xs = [] ∧ v = .emp) ∨ (v = .sl sz b xs.length 0 xs.length ∧ h[b]? = some (.live ⟨ty, sz, false, xs⟩))

theorem Own.emp (h : Heap) (ty sz b : Nat) : Own h ty sz b .emp [] := .inl ⟨rfl, rfl⟩
theorem Own.len {h : Heap} {ty sz b : Nat} {v : AV} {xs : List AV} (o : Own h ty sz b v xs) : slLen v = some xs.length := by
  rcases o with ⟨rfl, rfl⟩ | ⟨rfl, _⟩ <;> rfl
theorem Own.read {h : Heap} {ty sz b : Nat} {v : AV} {xs : List AV} (o : Own h ty sz b v xs) : readSl h sz v = some xs := by
  rcases o with ⟨rfl, rfl⟩ | ⟨rfl, hb⟩
  · rfl
  · simp [hb]
theorem Own.embed {h : Heap} {ty sz b : Nat} {v : AV} {xs : List AV} (o : Own h ty sz b v xs) (hc : AV.closedL xs = true) (hk : xs.map AV.canon = xs) : (Go.Abs.embed h 0 0 depth v).map AV.canon = some (mkRo sz xs) := by
  rcases o with ⟨rfl, rfl⟩ | ⟨rfl, hb⟩
  · simp [mkRo_nil 0 sz]
  · simp [hb, hc, hk]
theorem Own.keep {h h' : Heap} {ty sz b : Nat} {v : AV} {xs : List AV} (o : Own h ty sz b v xs) (hb : ∀ e, h[b]? = some e → h'[b]? = h[b]?) : Own h' ty sz b v xs := by
  rcases o with ⟨rfl, rfl⟩ | ⟨rfl, h1⟩
  · exact .inl ⟨rfl, rfl⟩
  · exact .inr ⟨rfl, (hb _ h1).trans h1⟩
theorem Own.app {h : Heap} {l : Heap} {ty sz b : Nat} {v : AV} {xs : List AV} (o : Own h ty sz b v xs) : Own (h ++ l) ty sz b v xs := o.keep fun e he => getE_low (lt_of_live he)

theorem Own.append {h : Heap} {ty sz b k tgt : Nat} {v : AV} {xs ys : List AV} (o : Own h ty sz b v xs) (hk : k ≤ b) (hkl : k ≤ h.length) (ht : tgt = h.length) (hm : xs.length + ys.length ≤ most) (hok : ys.all AV.ok = true) :
    ∃ b' v' h', appendAV h 0 0 tgt ty sz v ys = some (v', h') ∧ Own h' ty sz b' v' (xs ++ ys) ∧ k ≤ b' ∧ h.length ≤ h'.length ∧ ∀ c, c < h.length → c ≠ b' → h'[c]? = h[c]? := by
  subst ht
  rcases o with ⟨rfl, rfl⟩ | ⟨rfl, hb⟩
  · by_cases hy : ys = []
    · subst hy
      exact ⟨b, .emp, h, by simp, .inl ⟨rfl, rfl⟩, hk, Nat.le_refl _, fun _ _ _ => rfl⟩
    · refine ⟨h.length, .sl sz h.length ys.length 0 ys.length, h ++ [.live ⟨ty, sz, false, ys⟩], ?_, .inr ⟨rfl, by simp⟩, hkl, by simp, fun c hc _ => getE_low hc⟩
      have : ys.length ≤ most := by simpa using hm
      simp [hy, this]
  · refine ⟨b, .sl sz b (xs.length + ys.length) 0 (xs.length + ys.length), h.set b (.live ⟨ty, sz, false, xs ++ ys⟩), app_own hb rfl rfl (Nat.zero_le _) (Nat.zero_le _) hm hok, .inr ⟨by simp, ?_⟩, hk, by simp, fun c hc hne => List.getElem?_set_ne (Ne.symm hne)⟩
    rw [List.getElem?_set_self (lt_of_live hb)]

/-! ### slices.Clone -/
def cloneFn (ty sz bs : Nat) (z : AV) : AFn := ⟨[.tmp 2],
 .seq (.region [
 ⟨(some 2), .move (.val (.emp)), none⟩])
 (.seq (.seq (.region [
 ⟨(some 3), .move (.tmp 0), none⟩,
 ⟨(some 4), .isNil false (.tmp 3), none⟩])
 (.cond (.tmp 4)
 (.seq (.region [
 ⟨(some 2), .move (.val (.emp)), none⟩])
 (.ret))
 (.skip)))
 (.seq (.region [
 ⟨(some 5), .buildSl false ty sz 0 z [], none⟩,
 ⟨(some 6), .move (.tmp 0), none⟩,
 ⟨(some 7), .append ty sz bs (.tmp 5) (.tmp 6), none⟩,
 ⟨(some 2), .move (.tmp 7), none⟩])
 (.ret)))⟩
def isNilAV (neg : Bool) (x : AV) (h : Heap) : Option (AV × Heap) :=
  match x with
  | .nn b => some (.bool (b != neg), h)
  | v => match slLen v with
    | some n => if n = 0 then none else some (.bool neg, h)
    | none => none
@[simp] theorem so_isNil {cf : CallF} {lo base tgt : Nat} {fr : Frame} {h : Heap} (neg : Bool) (x : Opd) : stepOp cf lo base tgt (.isNil neg x) fr h = isNilAV neg (x.get fr) h := nr rfl
theorem isNil_ro {neg : Bool} {sz : Nat} {xs : List AV} {h : Heap} (hx : xs ≠ []) : isNilAV neg (mkRo sz xs) h = some (.bool neg, h) := nr (by
  cases xs with
  | nil => exact absurd rfl hx
  | cons x xs => simp [isNilAV, mkRo])

theorem clone_body {ty sz bs : Nat} {z : AV} {xs : List AV} (hz : z.cells.length = sz) (hx : xs ≠ []) (hm : xs.length ≤ most) :
    bodyAV ctx0 (cloneFn ty sz bs z) 0 0 [mkRo sz xs] [] = some (.sl sz 0 xs.length 0 xs.length, [.live ⟨ty, sz, false, xs⟩]) := by
  unfold bodyAV
  simp [cloneFn, isNil_ro hx, hz, hx, hm]

theorem clone_ro {ty sz bs : Nat} {z x : AV} {xs : List AV} {lo base tgt : Nat} {h : Heap} (hz : z.cells.length = sz) (hl : slLen x = some xs.length) (he : (embed h 0 0 depth x).map AV.canon = some (mkRo sz xs)) (hx : xs ≠ []) (hm : xs.length ≤ most) (hf : AV.flatL xs = true) (hc : AV.closedL xs = true) :
    cloneX (cloneFn ty sz bs z) lo base tgt [x] h = (place h tgt [⟨ty, sz, false, xs⟩]).map fun h' => (.sl sz tgt xs.length 0 xs.length, h') := by
  have hlen : ∃ n, xs.length = n + 1 := ⟨xs.length - 1, by have := List.length_pos_iff.2 hx; omega⟩
  obtain ⟨n, hn⟩ := hlen
  rw [Option.map_eq_some_iff] at he
  obtain ⟨y, hy, hy2⟩ := he
  have hb := clone_body (ty := ty) (bs := bs) hz hx hm
  unfold cloneX
  simp only [hl, hn]
  unfold callPol
  simp only [polK, Bool.false_eq_true, if_false, mapO_cons, mapO_nil, hy, consO_some, List.map_cons, List.map_nil, hy2, hb]
  have hs : sealAV true [.live ⟨ty, sz, false, xs⟩] 0 tgt (.sl sz 0 xs.length 0 xs.length) = some (.sl sz tgt xs.length 0 xs.length, [⟨ty, sz, false, xs⟩]) := by
    simp [sealAV, seal1, hc]
  rw [hs]
  have hk : keepsOk true [.live ⟨ty, sz, false, xs⟩] 0 (.sl sz 0 xs.length 0 xs.length) = true := by
    simp [keepsOk, keptIds, keptOf, embIds, embIds1, hc]
  simp only [hk]
  have hfl : flatRes (.sl sz tgt xs.length 0 xs.length) [⟨ty, sz, false, xs⟩] = true := by simp [flatRes, AV.isSl, hf]
  simp only [hfl, List.length_singleton, if_true]
  simp only [callPol.put1', canonR, AV.canonK, canon_sl, hn]
  cases place h tgt [⟨ty, sz, false, xs⟩] <;> rfl

theorem clone_own {ty sz bs ty' b : Nat} {z v : AV} {xs : List AV} {lo base tgt : Nat} {h : Heap} (hz : z.cells.length = sz) (o : Own h ty' sz b v xs) (hm : xs.length ≤ most) (hf : AV.flatL xs = true) (hc : AV.closedL xs = true) (hk : xs.map AV.canon = xs) :
    cloneX (cloneFn ty sz bs z) lo base tgt [v] h = if xs = [] then some (.emp, h) else (place h tgt [⟨ty, sz, false, xs⟩]).map fun h' => (.sl sz tgt xs.length 0 xs.length, h') := by
  split
  · rename_i hx
    subst hx
    have := o.len
    simp [cloneX, this]
  · rename_i hx
    exact clone_ro hz o.len (o.embed hc hk) hx hm hf hc

end Go.Abs

/- Regions whose order is open, by rewriting. -/
set_option linter.unusedSimpArgs false
set_option linter.unusedVariables false
namespace Go.Abs

@[simp] theorem getE_left {h l : Heap} {i : Nat} (hi : i < h.length) : (h ++ l)[i]? = h[i]? := nr (List.getElem?_append_left hi)
@[simp] theorem getE_right {h l : Heap} {i : Nat} (hi : h.length ≤ i) : (h ++ l)[i]? = l[i - h.length]? := nr (List.getElem?_append_right hi)
@[simp] theorem setE_left {h l : Heap} {i : Nat} (hi : i < h.length) (x : Ent) : (h ++ l).set i x = h.set i x ++ l := nr (List.set_append_left _ _ hi)
@[simp] theorem setE_right {h l : Heap} {i : Nat} (hi : h.length ≤ i) (x : Ent) : (h ++ l).set i x = h ++ l.set (i - h.length) x := nr (List.set_append_right _ _ hi)

def drawK (n : Nat) (s : Option DSt) : Option R :=
  match s with
  | some s => some (.normal, s.fr, trim n s.h)
  | none => none
@[simp] theorem drawK_some (n : Nat) (fr : Frame) (h : Heap) (log : Nat → Option Nat) : drawK n (some ⟨fr, h, log⟩) = some (.normal, fr, trim n h) := nr rfl
def rdK (cf : CallF) (st : Nat → Bool) (lo base n0 : Nat) (fr0 : Frame) (i : Nat) (os : List DOper) (s : Option DSt) : Option DSt :=
  match s with
  | some s => runD cf st lo base n0 fr0 (i + 1) os s
  | none => none
def sdP (d : Option Nat) (s : DSt) (r : Option (AV × Heap)) : Option DSt :=
  match r with
  | some (v, _) => some { s with fr := updO s.fr d v }
  | none => none
def sdK (d : Option Nat) (ids : List Nat) (h0 : Heap) (fr : Frame) (log : Nat → Option Nat) (r : Option (AV × Heap)) : Option DSt :=
  match r with
  | some (v, h') => if h'.length = h0.length then some ⟨updO fr d v, restore ids h0 h', log⟩ else none
  | none => none
def ckK (b : Bool) (x : Option DSt) : Option DSt := if b = true then x else none
@[congr] theorem ckK_congr {b b' : Bool} (h : b = b') (x : Option DSt) : ckK b x = ckK b' x := by rw [h]
@[simp] theorem ckK_true (x : Option DSt) : ckK true x = x := nr rfl
def gdK (g : AV) (w : Bool) (x y : Option DSt) : Option DSt :=
  match g with
  | .bool b => if b = w then x else y
  | _ => y
@[congr] theorem gdK_congr {g g' : AV} (h : g = g') (w : Bool) (x y : Option DSt) : gdK g w x y = gdK g' w x y := by rw [h]
@[simp] theorem gdK_tt (x y : Option DSt) : gdK (.bool true) true x y = x := nr rfl
@[simp] theorem gdK_tf (x y : Option DSt) : gdK (.bool true) false x y = y := nr rfl
@[simp] theorem gdK_ft (x y : Option DSt) : gdK (.bool false) true x y = y := nr rfl
@[simp] theorem gdK_ff (x y : Option DSt) : gdK (.bool false) false x y = x := nr rfl
@[simp] theorem gdK_undef (w : Bool) (x y : Option DSt) : gdK .undef w x y = y := nr rfl

section
variable {c : Ctx} {cf : CallF} {st : Nat → Bool} {lo base n0 i slot : Nat} {fr fr0 : Frame} {h : Heap} {log : Nat → Option Nat} {d : Option Nat} {op : AOp} {hs lk uo : List Nat} {vo : Bool} {rt : Option Nat}
@[simp] theorem ex_draw (total : Nat) (ops : List DOper) : exec c lo base (.draw total ops) fr h = drawK h.length (runD c.cf c.stOf lo base h.length fr 0 ops ⟨fr, h ++ List.replicate total .free, fun _ => none⟩) := nr (by
  simp only [exec, drawK]
  cases runD c.cf c.stOf lo base h.length fr 0 ops ⟨fr, h ++ List.replicate total .free, fun _ => none⟩ <;> rfl)
@[simp] theorem rd_nil (s : DSt) : runD cf st lo base n0 fr0 i [] s = some s := nr rfl
@[simp] theorem rd_cons (o : DOper) (os : List DOper) (s : DSt) : runD cf st lo base n0 fr0 i (o :: os) s = rdK cf st lo base n0 fr0 i os (stepD cf st lo base n0 fr0 i o s) := nr (by
  simp only [runD, rdK]; cases stepD cf st lo base n0 fr0 i o s <;> rfl)
@[simp] theorem rdK_some (os : List DOper) (s : DSt) : rdK cf st lo base n0 fr0 i os (some s) = runD cf st lo base n0 fr0 (i + 1) os s := nr rfl
@[simp] theorem sdP_some (v : AV) (h' : Heap) : sdP d ⟨fr, h, log⟩ (some (v, h')) = some ⟨updO fr d v, h, log⟩ := nr rfl
@[simp] theorem sdK_some (ids : List Nat) (h0 : Heap) (v : AV) (h' : Heap) : sdK d ids h0 fr log (some (v, h')) = if h'.length = h0.length then some ⟨updO fr d v, restore ids h0 h', log⟩ else none := nr rfl
theorem stepD_P0 : stepD cf st lo base n0 fr0 i ⟨⟨d, op, none⟩, .P, slot, hs, lk, vo, rt, uo⟩ ⟨fr, h, log⟩ = sdP d ⟨fr, h, log⟩ (stepOp cf lo base (n0 + slot) op fr []) := nr (by
  simp only [stepD, wants, if_true, dCond, sdP]
  cases stepOp cf lo base (n0 + slot) op fr [] <;> rfl)
theorem stepD_A0 : stepD cf st lo base n0 fr0 i ⟨⟨d, op, none⟩, .A, slot, hs, lk, vo, rt, uo⟩ ⟨fr, h, log⟩ = sdK d [] h fr log (stepOp cf lo base (n0 + slot) op fr h) := nr (by
  simp only [stepD, wants, if_true, dCond, sdK, dIds, hide, dLog]
  cases hx : stepOp cf lo base (n0 + slot) op fr h <;> simp [hx])
theorem stepD_L0 : stepD cf st lo base n0 fr0 i ⟨⟨d, op, none⟩, .L, slot, hs, lk, vo, rt, uo⟩ ⟨fr, h, log⟩ = ckK (offLog log (touch fr op) uo && rootOk fr0 fr ⟨⟨d, op, none⟩, .L, slot, hs, lk, vo, rt, uo⟩)
    (sdK d (hs.map (n0 + ·)) h fr (fun k => if k = i then touch fr op else log k) (stepOp cf lo base (n0 + slot) op fr (hide (hs.map (n0 + ·)) h))) := nr (by
  simp only [stepD, wants, if_true, dCond, sdK, dIds, dLog, ckK]
  split
  · cases hx : stepOp cf lo base (n0 + slot) op fr (hide (hs.map (n0 + ·)) h) <;> simp [hx]
  · rfl)
theorem stepD_W0 : stepD cf st lo base n0 fr0 i ⟨⟨d, op, none⟩, .W, slot, hs, lk, vo, rt, uo⟩ ⟨fr, h, log⟩ = ckK (offLog log (touch fr op) uo)
    (sdK d (hs.map (n0 + ·)) h fr (fun k => if k = i then touch fr op else log k) (stepOp cf lo base (n0 + slot) op fr (hide (hs.map (n0 + ·)) h))) := nr (by
  simp only [stepD, wants, if_true, dCond, sdK, dIds, dLog, ckK]
  split
  · cases hx : stepOp cf lo base (n0 + slot) op fr (hide (hs.map (n0 + ·)) h) <;> simp [hx]
  · rfl)
def lkIds (fr0 : Frame) (lk : List Nat) : List Nat := lk.filterMap fun t => ptrBlk (fr0 t)
@[simp] theorem lkIds_nil : lkIds fr0 [] = [] := nr rfl
def consP (x : Option Nat) (l : List Nat) : List Nat :=
  match x with
  | some b => b :: l
  | none => l
@[simp] theorem consP_some (b : Nat) (l : List Nat) : consP (some b) l = b :: l := nr rfl
@[simp] theorem consP_none (l : List Nat) : consP none l = l := nr rfl
@[simp] theorem lkIds_cons (t : Nat) (l : List Nat) : lkIds fr0 (t :: l) = consP (ptrBlk (fr0 t)) (lkIds fr0 l) := nr (by
  simp only [lkIds, List.filterMap_cons, consP]; cases ptrBlk (fr0 t) <;> rfl)
theorem stepD_C0 : stepD cf st lo base n0 fr0 i ⟨⟨d, op, none⟩, .C, slot, hs, lk, vo, rt, uo⟩ ⟨fr, h, log⟩ = ckK (!vo || callsV st fr op)
    (sdK d (hs.map (n0 + ·) ++ lkIds fr0 lk) h fr log (stepOp cf lo base (n0 + slot) op fr (hide (hs.map (n0 + ·) ++ lkIds fr0 lk) h))) := nr (by
  by_cases hv : (!vo || callsV st fr op) = true
  · have hd : dCond st fr0 ⟨⟨d, op, none⟩, .C, slot, hs, lk, vo, rt, uo⟩ fr log = true := hv
    have hc : ¬ (Cls.C = Cls.P) := by decide
    simp only [stepD, wants, if_true, hd, sdK, dIds, dLog, ckK, lkIds, hv, if_neg hc]
    cases hx : stepOp cf lo base (n0 + slot) op fr (hide (hs.map (n0 + ·) ++ lk.filterMap fun t => ptrBlk (fr0 t)) h) with
    | none => rfl
    | some x => rfl
  · have hd : dCond st fr0 ⟨⟨d, op, none⟩, .C, slot, hs, lk, vo, rt, uo⟩ fr log ≠ true := hv
    simp only [stepD, wants, if_true, ckK, if_neg hv, if_neg hd])
theorem stepD_g {cl : Cls} {t : Nat} {w : Bool} {s : DSt} : stepD cf st lo base n0 fr0 i ⟨⟨d, op, some (t, w)⟩, cl, slot, hs, lk, vo, rt, uo⟩ s = gdK (s.fr t) w (stepD cf st lo base n0 fr0 i ⟨⟨d, op, none⟩, cl, slot, hs, lk, vo, rt, uo⟩ s) (some { s with fr := updO s.fr d .undef }) := nr (by
  cases hx : s.fr t with
  | bool b =>
    by_cases hb : b = w
    · subst hb
      simp [stepD, wants, gdK, hx, dCond, dIds, dLog, rootOk]
    · simp [stepD, wants, gdK, hx, hb]
  | _ => simp [stepD, wants, gdK, hx])
attribute [simp] stepD_P0 stepD_A0 stepD_L0 stepD_W0 stepD_C0 stepD_g
@[simp] theorem hide_nil : hide [] h = h := nr rfl
@[simp] theorem hide_cons (b : Nat) (bs : List Nat) : hide (b :: bs) h = hide bs (h.set b .hid) := nr rfl
@[simp] theorem restore_nil (h' : Heap) : restore [] h h' = h' := nr rfl
def rsK (bs : List Nat) (b : Nat) (h h' : Heap) (e : Option Ent) : Heap :=
  match e with
  | some e => restore bs h (h'.set b e)
  | none => restore bs h h'
@[simp] theorem rsK_some (bs : List Nat) (b : Nat) (h' : Heap) (e : Ent) : rsK bs b h h' (some e) = restore bs h (h'.set b e) := nr rfl
@[simp] theorem rsK_none (bs : List Nat) (b : Nat) (h' : Heap) : rsK bs b h h' none = restore bs h h' := nr rfl
@[simp] theorem restore_cons (b : Nat) (bs : List Nat) (h' : Heap) : restore (b :: bs) h h' = rsK bs b h h' h[b]? := nr (by
  simp only [restore, rsK]; cases h[b]? <;> rfl)
@[simp] theorem offLog_none (uo : List Nat) : offLog log none uo = true := nr rfl
@[simp] theorem offLog_some (b : Nat) (uo : List Nat) : offLog log (some b) uo = uo.all fun k => !(log k == some b) := nr rfl
@[simp] theorem rootOk_none {o : AOper} {cl : Cls} : rootOk fr0 fr ⟨o, cl, slot, hs, lk, vo, none, uo⟩ = true := nr rfl
def rootK (a b : Option Nat) : Bool :=
  match a with
  | none => true
  | some c => b == some c
@[simp] theorem rootK_some (a : Nat) (b : Option Nat) : rootK (some a) b = (b == some a) := nr rfl
@[simp] theorem rootK_none (b : Option Nat) : rootK none b = true := nr rfl
@[simp] theorem rootOk_some {o : AOper} {cl : Cls} (t : Nat) : rootOk fr0 fr ⟨o, cl, slot, hs, lk, vo, some t, uo⟩ = rootK (touch fr o.op) (ptrBlk (fr0 t)) := nr (by
  simp only [rootOk, rootK]; cases touch fr o.op <;> rfl)
@[simp] theorem touch_load (agg : Bool) (n : Nat) (a : Opd) : touch fr (.load agg n a) = ptrBlk (a.get fr) := nr rfl
@[simp] theorem touch_store (n : Nat) (a x : Opd) : touch fr (.store n a x) = ptrBlk (a.get fr) := nr rfl
@[simp] theorem touch_append (ty sz bs : Nat) (x y : Opd) : touch fr (.append ty sz bs x y) = ptrBlk (x.get fr) := nr rfl
@[simp] theorem touch_b2s (x : Opd) : touch fr (.b2s x) = ptrBlk (x.get fr) := nr rfl
@[simp] theorem ptrBlk_ptr (b g i o : Nat) : ptrBlk (.ptr b g i o) = some b := nr rfl
@[simp] theorem ptrBlk_sl (sz b g off len : Nat) : ptrBlk (.sl sz b g off len) = some b := nr rfl
@[simp] theorem ptrBlk_rp (sz o : Nat) (e : AV) : ptrBlk (.rp sz e o) = none := nr rfl
@[simp] theorem ptrBlk_emp : ptrBlk .emp = none := nr rfl
@[simp] theorem ptrBlk_mkRo (sz : Nat) (xs : List AV) : ptrBlk (mkRo sz xs) = none := nr (by cases xs <;> rfl)
@[simp] theorem callsV_fn (g : Nat) (a k : List AV) (args : List Opd) : callsV st fr (.call (.val (.fn g a k)) args) = !(st g) := nr rfl
@[simp] theorem isFree_free : Ent.free.isFree = true := nr rfl
@[simp] theorem isFree_hid : Ent.hid.isFree = false := nr rfl
@[simp] theorem isFree_live (B : Blk) : (Ent.live B).isFree = false := nr rfl
theorem trim_app {n : Nat} {l : Heap} (hn : h.length = n) : trim n (h ++ l) = h ++ (l.reverse.dropWhile Ent.isFree).reverse := nr (by
  subst hn; simp [trim])
theorem trim_all (l : Heap) : trim 0 l = (l.reverse.dropWhile Ent.isFree).reverse := nr (by simp [trim])
end
@[simp] theorem ctxW_st (Q : Prg) : (ctxW Q).stOf = fun g => (Q.pol g).st || (Q.pol g).raw := nr rfl
end Go.Abs

namespace Go.Abs
theorem Own.appended {H : Heap} {ty sz b k T : Nat} {v : AV} {xs ys : List AV} {A : Option (AV × Heap)} (hA : appendAV H 0 0 T ty sz v ys = A) (o : Own H ty sz b v xs) (hk : k ≤ b) (hkl : k ≤ H.length) (ht : T = H.length) (hm : xs.length + ys.length ≤ most) (hok : ys.all AV.ok = true) :
    ∃ b' v' h', A = some (v', h') ∧ Own h' ty sz b' v' (xs ++ ys) ∧ k ≤ b' ∧ H.length ≤ h'.length ∧ ∀ c, c < H.length → c ≠ b' → h'[c]? = H[c]? := by
  obtain ⟨b', v', h', e, h1⟩ := o.append hk hkl ht hm hok
  exact ⟨b', v', h', hA.symm.trans e, h1⟩
end Go.Abs

namespace Go.Abs
theorem Own.grown {h l : Heap} {ty sz b k T : Nat} {v : AV} {xs ys : List AV} {A : Option (AV × Heap)} (hA : appendAV (h ++ l) 0 0 T ty sz v ys = A) (o : Own h ty sz b v xs) (hk : k ≤ b) (hkl : k ≤ h.length) (ht : T = (h ++ l).length) (hm : xs.length + ys.length ≤ most) (hok : ys.all AV.ok = true) :
    ∃ b' v' h', A = some (v', h') ∧ Own h' ty sz b' v' (xs ++ ys) ∧ k ≤ b' ∧ h.length + l.length ≤ h'.length ∧ (∀ c, c < h.length → c ≠ b' → h'[c]? = h[c]?) ∧ ∀ c, c < l.length → h'[h.length + c]? = l[c]? := by
  subst ht
  subst hA
  rcases o with ⟨rfl, rfl⟩ | ⟨rfl, hb⟩
  · by_cases hy : ys = []
    · subst hy
      exact ⟨b, .emp, h ++ l, by simp, .inl ⟨rfl, rfl⟩, hk, by simp, fun c hc _ => getE_left hc, fun c _ => getE_app h l c⟩
    · refine ⟨(h ++ l).length, .sl sz (h ++ l).length ys.length 0 ys.length, (h ++ l) ++ [.live ⟨ty, sz, false, ys⟩], ?_, .inr ⟨rfl, getE_app0 _ _⟩, by simp; omega, by simp, fun c hc _ => ?_, fun c hc => ?_⟩
      · have : ys.length ≤ most := by simpa using hm
        simp [hy, this]
      · rw [getE_left (by simp; omega), getE_left hc]
      · rw [getE_left (by simp; omega), getE_app]
  · have hlt := lt_of_live hb
    refine ⟨b, .sl sz b (xs.length + ys.length) 0 (xs.length + ys.length), (h ++ l).set b (.live ⟨ty, sz, false, xs ++ ys⟩), app_own ((getE_left hlt).trans hb) rfl rfl (Nat.zero_le _) (Nat.zero_le _) hm hok, .inr ⟨by simp, ?_⟩, hk, by simp, fun c hc hne => ?_, fun c hc => ?_⟩
    · rw [List.getElem?_set_self (by simp; omega)]
    · rw [List.getElem?_set_ne (Ne.symm hne), getE_left hc]
    · rw [List.getElem?_set_ne (by omega), getE_app]
theorem set_same {h : Heap} {i : Nat} {e : Ent} (he : h[i]? = some e) : h.set i e = h := by
  apply List.ext_getElem?
  intro j
  rw [List.getElem?_set]
  split
  · rename_i hj
    subst hj
    rw [if_pos (lt_of_live he), he]
  · rfl
end Go.Abs

/- Runs by the kernel, some functions by what is known of them. -/
set_option linter.unusedSimpArgs false
set_option linter.unusedVariables false
namespace Go.Abs

/-- The program with some functions told. -/
def Prg.told (Q : Prg) (x : Nat → Option (Nat → Nat → Nat → List AV → Heap → Option (AV × Heap))) : Prg := { fns := Q.fns, pol := Q.pol, ext := fun f => match x f with
  | some e => some e
  | none => Q.ext f }

theorem told_le {Q : Prg} {x : Nat → Option (Nat → Nat → Nat → List AV → Heap → Option (AV × Heap))} (hx : ∀ f e, x f = some e → ∀ lo base tgt args h r, e lo base tgt args h = some r → callW Q f lo base tgt args h = some r) : ∀ k, CfLe (callN (Q.told x) k) (callW Q) := by
  intro k
  induction k with
  | zero => intro f lo base tgt args h r e; simp [callN] at e
  | succ k ih =>
    intro f lo base tgt args h r e
    simp only [callN] at e
    split at e
    · rename_i ex hex
      simp only [Prg.told] at hex
      split at hex
      · rename_i e' he'
        cases hex
        exact hx f ex he' _ _ _ _ _ _ e
      · exact callW_ext hex e
    · rename_i hex
      simp only [Prg.told] at hex
      split at hex
      · cases hex
      · rename_i hn
        split at e
        · rename_i fn hfn
          refine callW_eq hex hfn (callPol_mono (b := bodyAV { cf := callN (Q.told x) k, it := iter k, stOf := fun g => ((Q.told x).pol g).st || ((Q.told x).pol g).raw } fn) (fun lo base args h r e => ?_) e)
          unfold bodyW
          refine bodyAV_mono (c := ctxN (Q.told x) k) (d := ctxW Q) ih ?_ rfl e
          intro b d hbd fr h r e
          show itW d fr h = some r
          exact itW_iff.2 ⟨k, iter_mono hbd (Nat.le_refl k) fr h r e⟩
        · cases e

theorem Val.of_told {Q : Prg} {x : Nat → Option (Nat → Nat → Nat → List AV → Heap → Option (AV × Heap))} (hx : ∀ f e, x f = some e → ∀ lo base tgt args h r, e lo base tgt args h = some r → callW Q f lo base tgt args h = some r) {f k : Nat} {fn : AFn} {xs : List AV} {r : AV}
    (h1 : Q.ext f = none) (h2 : Q.fns f = some fn) (h3 : Q.pol f = polP) (h : ((bodyAV (ctxN (Q.told x) k) fn 0 0 xs []).bind fun x => (embed x.2 0 0 depth x.1).map AV.canon) = some r) : Val Q f xs r := by
  cases hb : bodyAV (ctxN (Q.told x) k) fn 0 0 xs [] with
  | none => rw [hb] at h; cases h
  | some x' =>
    obtain ⟨v, h'⟩ := x'
    rw [hb, Option.bind_some, Option.map_eq_some_iff] at h
    obtain ⟨r0, hr0, hc⟩ := h
    refine ⟨fn, v, h', r0, h1, h2, h3, ?_, hr0, hc⟩
    unfold bodyW
    refine bodyAV_mono (c := ctxN (Q.told x) k) (d := ctxW Q) (told_le hx k) ?_ rfl hb
    intro b d hbd fr h r e
    show itW d fr h = some r
    exact itW_iff.2 ⟨k, iter_mono hbd (Nat.le_refl k) fr h r e⟩
def nameX (_ _ _ : Nat) (args : List AV) (h : Heap) : Option (AV × Heap) :=
  match args with
  | [.str s] => some (.bool (nameS s), h)
  | _ => none
def trueX (_ _ _ : Nat) (args : List AV) (h : Heap) : Option (AV × Heap) :=
  match args with
  | [] => some (.bool true, h)
  | _ => none

def isT : Option (AV × Heap) → Bool
  | some (.bool b, _) => b
  | _ => false
theorem isT_spec {r : Option (AV × Heap)} (h : isT r = true) : ∃ h', r = some (.bool true, h') := by
  unfold isT at h
  split at h
  · subst h; exact ⟨_, rfl⟩
  · cases h
theorem told_true {Q : Prg} {x : Nat → Option (Nat → Nat → Nat → List AV → Heap → Option (AV × Heap))} (hx : ∀ f e, x f = some e → ∀ lo base tgt args h r, e lo base tgt args h = some r → callW Q f lo base tgt args h = some r) {f k : Nat} {args : List AV}
    (h : isT (callN (Q.told x) k f 0 0 0 args []) = true) : ∃ h', callW Q f 0 0 0 args [] = some (.bool true, h') := by
  obtain ⟨h', e⟩ := isT_spec h
  exact ⟨h', told_le hx k _ _ _ _ _ _ _ e⟩
end Go.Abs

/- Loops over a row. -/
set_option linter.unusedSimpArgs false
set_option linter.unusedVariables false
namespace Go.Abs

/-- A loop that goes over a row, element by element, and may return at one. -/
theorem scan {α : Type} {b : Body} {l : List α} {p : α → Bool} {ex : Nat} (Inv : Nat → Frame → Heap → Prop) (Bad : Nat → α → Frame → Heap → Prop)
    (hend : ∀ fr h, Inv l.length fr h → Sat (b fr h) fun o fr' h' => o = .exit ex ∧ Inv l.length fr' h')
    (hstep : ∀ (i : Nat) (x : α) (fr : Frame) (h : Heap), l[i]? = some x → i < l.length → Inv i fr h → Sat (b fr h) fun o fr' h' => (p x = true ∧ o = .normal ∧ Inv (i + 1) fr' h') ∨ (p x = false ∧ o = .ret ∧ Bad i x fr' h'))
    {fr : Frame} {h : Heap} (h0 : Inv 0 fr h) :
    Sat (itW b fr h) fun o fr' h' => (l.all p = true ∧ o = .exit ex ∧ Inv l.length fr' h') ∨ (l.all p = false ∧ o = .ret ∧ ∃ i x, l[i]? = some x ∧ p x = false ∧ (∀ j y, j < i → l[j]? = some y → p y = true) ∧ Bad i x fr' h') := by
  have key : ∀ (m i : Nat) (fr : Frame) (h : Heap), i + m = l.length → Inv i fr h → (∀ j y, j < i → l[j]? = some y → p y = true) →
      Sat (itW b fr h) fun o fr' h' => (l.all p = true ∧ o = .exit ex ∧ Inv l.length fr' h') ∨ (l.all p = false ∧ o = .ret ∧ ∃ i x, l[i]? = some x ∧ p x = false ∧ (∀ j y, j < i → l[j]? = some y → p y = true) ∧ Bad i x fr' h') := by
    intro m
    induction m with
    | zero =>
      intro i fr h hi hI hn
      obtain rfl : i = l.length := by omega
      refine sat_it ((hend fr h hI).mono ?_)
      rintro o fr' h' ⟨rfl, hI'⟩
      refine .inl ⟨?_, rfl, hI'⟩
      rw [List.all_eq_true]
      intro x hx
      obtain ⟨j, hj⟩ := List.getElem?_of_mem hx
      exact hn j x (List.getElem?_eq_some_iff.1 hj).1 hj
    | succ m ih =>
      intro i fr h hi hI hn
      have hil : i < l.length := by omega
      have hx := List.getElem?_eq_getElem hil
      refine sat_it ((hstep i l[i] fr h hx hil hI).mono ?_)
      rintro o fr' h' (⟨hp, rfl, hI'⟩ | ⟨hp, rfl, hb⟩)
      · refine ih (i + 1) fr' h' (by omega) hI' fun j y hj hy => ?_
        by_cases hji : j < i
        · exact hn j y hji hy
        · obtain rfl : j = i := by omega
          rw [hx] at hy
          cases hy
          exact hp
      · refine .inr ⟨?_, rfl, i, l[i], hx, hp, hn, hb⟩
        exact List.all_eq_false.2 ⟨l[i], List.getElem_mem hil, by simp [hp]⟩
  exact key l.length 0 fr h (by omega) h0 fun j y hj => by omega

/-- The same, where it matters only whether all are so. -/
theorem scanB {α : Type} {b : Body} {l : List α} {p : α → Bool} {ex : Nat} (Inv : Nat → Frame → Heap → Prop) (Bad : Frame → Heap → Prop)
    (hend : ∀ fr h, Inv l.length fr h → Sat (b fr h) fun o fr' h' => o = .exit ex ∧ Inv l.length fr' h')
    (hstep : ∀ (i : Nat) (x : α) (fr : Frame) (h : Heap), l[i]? = some x → i < l.length → Inv i fr h → Sat (b fr h) fun o fr' h' => (p x = true ∧ o = .normal ∧ Inv (i + 1) fr' h') ∨ (p x = false ∧ o = .ret ∧ Bad fr' h'))
    {fr : Frame} {h : Heap} (h0 : Inv 0 fr h) :
    Sat (itW b fr h) fun o fr' h' => (l.all p = true ∧ o = .exit ex ∧ Inv l.length fr' h') ∨ (l.all p = false ∧ o = .ret ∧ Bad fr' h') := by
  refine (scan Inv (fun _ _ fr h => Bad fr h) hend hstep h0).mono ?_
  rintro o fr h (h1 | ⟨h1, h2, i, x, _, _, _, h3⟩)
  · exact .inl h1
  · exact .inr ⟨h1, h2, h3⟩

/-- A loop that goes over a row to its end. -/
theorem fold {α : Type} {b : Body} {l : List α} {ex : Nat} (Inv : Nat → Frame → Heap → Prop)
    (hend : ∀ fr h, Inv l.length fr h → Sat (b fr h) fun o fr' h' => o = .exit ex ∧ Inv l.length fr' h')
    (hstep : ∀ (i : Nat) (x : α) (fr : Frame) (h : Heap), l[i]? = some x → i < l.length → Inv i fr h → Sat (b fr h) fun o fr' h' => o = .normal ∧ Inv (i + 1) fr' h')
    {fr : Frame} {h : Heap} (h0 : Inv 0 fr h) : Sat (itW b fr h) fun o fr' h' => o = .exit ex ∧ Inv l.length fr' h' := by
  refine (scan (p := fun _ => true) Inv (fun _ _ _ _ => True) hend (fun i x fr h hx hi hI => (hstep i x fr h hx hi hI).mono fun o fr' h' hh => .inl ⟨rfl, hh⟩) h0).mono ?_
  rintro o fr h (⟨-, h1, h2⟩ | ⟨h1, -⟩)
  · exact ⟨h1, h2⟩
  · simp at h1

theorem wrapS {i n : Nat} (hi : i < n) (hb : n < big) : IntKind.wrap .i64 ((i : Int) + 1) = ((i + 1 : Nat) : Int) := by
  have : n < 9223372036854775808 := hb
  rw [wrap64 (by omega) (by omega)]
  omega
theorem ltS {i n : Nat} (hi : i < n) : (i : Int) < (n : Int) := by omega
theorem iaddrS {α : Type} {f : α → AV} {l : List α} {i : Nat} {x : α} {sz : Nat} (hx : l[i]? = some x) : iaddrAV sz (mkRo sz (l.map f)) (.int .i64 (i : Int)) = some (.rp sz (f x) 0) :=
  iaddr_mkRo .i64 rfl (by rw [List.getElem?_map, hx]; rfl)
end Go.Abs
