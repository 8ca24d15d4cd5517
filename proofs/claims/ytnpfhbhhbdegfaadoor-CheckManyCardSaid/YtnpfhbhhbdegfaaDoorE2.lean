/- The top: a law's call from its row. Functions that are told by themselves. -/
import Derived.Test.YtnpfhbhhbdegfaaDoorE1
import Derived.ProofKit
import Derived.Lib.Bytealg
import Derived.Laws.Externs
import Derived.Handed
import Derived.JoinedOf
import Derived.LaidLaws
import Derived.Lay
import Derived.SevenTiedAt
set_option linter.unusedSimpArgs false
set_option linter.unusedVariables false
namespace Go.Abs
open Go.ChangeShapes Go.WideShapes Go.ChangeAt Go.RowKit

/-! ### A copy of a slice, nil or not -/
def ctx0 : Ctx := { cf := fun _ _ _ _ _ _ => none, it := iter 0, stOf := fun _ => false }
def polK : Pol := { st := false, keep := true, raw := false, top := 0 }
def cloneX (fn : AFn) (lo base tgt : Nat) (args : List AV) (h : Heap) : Option (AV × Heap) :=
  match args with
  | [x] => match slLen x with
    | some 0 => some (.emp, h)
    | some (_ + 1) => callPol polK (bodyAV ctx0 fn) lo base tgt [x] h
    | none => none
  | _ => none
def CloneOk (fn : AFn) : Prop := ∀ (b : Bool) (lo base tgt : Nat) (h : Heap), callPol polK (bodyAV ctx0 fn) lo base tgt [.nn b] h = some (.emp, h)

section
variable {P : Program} {gh : Nat → List (Nat × Nat × Nat)}

theorem ctx0_sound : CallSound P ctx0.cf := by
  intro f lo base tgt args h v h' e
  cases e

theorem clone_sound (hmix : P.follows .mixedOrders = true) {f : Nat} {fn : Func} {af : AFn} (hfn : P.funcs[f]? = some fn) (hcf : compileFn P gh fn = some af) (hc : CloneOk af)
    {lo base tgt : Nat} {args : List AV} {g : G} {vals : Array Value} {v : AV} {h' : Heap} (h : cloneX af lo base tgt args g.h = some (v, h')) (hlb : lo ≤ base) (hbt : base ≤ tgt) (hbl : base ≤ g.h.length)
    (hr : HRep lo g) (ha : RepL g args vals) : Does P (Post lo base g v h') ((callFunc f vals).run P g.w) := by
  have hbody : BodySound P f (bodyAV ctx0 af) := fun lo base args g vals v h1 h2 h3 h4 h5 h6 =>
    (body_sound (gh := gh) hmix (c := ctx0) ctx0_sound h2 (fun f lo base tgt args h v h' _ e => by cases e) rfl hfn hcf h4 h5 h3 h6).1
  have hname : (fn.name == "runtime.NumGoroutine") = false ∧ fn.body.isNone = false := by
    unfold compileFn at hcf
    split at hcf
    · cases hcf
    · rename_i code hbd
      split at hcf
      · rename_i hd
        simp only [Bool.and_eq_true, Bool.not_eq_true'] at hd
        exact ⟨hd.2, by rw [hbd]; rfl⟩
      · cases hcf
  have run : (callFunc f vals).run P g.w = .ok (.enter f vals) g.w := by
    simp only [callFunc, program, Sem.run_bind, Sem.run, Result.andThen_ok, hfn, hname.1, hname.2, Bool.false_eq_true, if_false]
    rfl
  rw [run]
  unfold cloneX at h
  split at h
  · rename_i x
    split at h
    · rename_i hx
      cases h
      obtain ⟨hl, ha⟩ := ha
      have hsz : vals.size = 1 := by simpa using hl.symm
      have hv : Rep g x vals[0] := ha 0 x vals[0] rfl (by rw [Array.getElem?_eq_getElem])
      obtain ⟨A, cap, he, _⟩ := slLen_of hx hv
      have hn : RepL g [.nn A.isNone] vals := by
        refine ⟨by simp [hsz], fun j y u hy hu => ?_⟩
        cases j with
        | succ j => simp at hy
        | zero =>
          simp only [List.getElem?_cons_zero, Option.some.injEq] at hy
          subst hy
          rw [Array.getElem?_eq_getElem (by omega)] at hu
          cases hu
          rw [he]
          exact .nn
      exact callPol_sound hbody hlb hbt hbl hr hn (hc _ lo base tgt g.h)
    · exact callPol_sound hbody hlb hbt hbl hr ha h
    · cases h
  · cases h

theorem clone_V {af : AFn} {lo base tgt : Nat} {args : List AV} {h h' : Heap} {v : AV} (e : cloneX af lo base tgt args h = some (v, h')) (ht : tgt < h.length) : ∀ b : Nat, b < tgt ∨ tgt + 2 ≤ b → sameC h[b]? h'[b]? := by
  unfold cloneX at e
  split at e
  · split at e
    · cases e
      exact fun _ _ => .refl _
    · exact callPol_V rfl rfl e ht
    · cases e
  · cases e

/-! ### The first place of a byte -/
def indexX (_ _ _ : Nat) (args : List AV) (h : Heap) : Option (AV × Heap) :=
  match args with
  | [.str s, .int .u8 c] => some (.int .i64 (Lib.indexByte s c.toNat.toUInt8), h)
  | _ => none
theorem index_sound {f : Nat} {fn : Func} (hf : P.funcs[f]? = some fn) (hname : (fn.name == "runtime.NumGoroutine") = false)
    (hb : fn.body.isNone = true) (hn : Extern.findNext fn = none) (he : Extern.find fn = some Extern.BytealgIndexByte.indexByte)
    {lo base tgt : Nat} {args : List AV} {g : G} {vals : Array Value} {v : AV} {h' : Heap} (h : indexX lo base tgt args g.h = some (v, h')) (hr : HRep lo g) (ha : RepL g args vals) : Does P (Post lo base g v h') ((callFunc f vals).run P g.w) := by
  unfold indexX at h
  split at h
  · rename_i s c
    cases h
    obtain ⟨hl, ha⟩ := ha
    have hsz : vals.size = 2 := by simpa using hl.symm
    have h0 : Rep g (.str s) vals[0] := ha 0 _ vals[0] rfl (by rw [Array.getElem?_eq_getElem])
    have h1 : Rep g (.int .u8 c) vals[1] := ha 1 _ vals[1] rfl (by rw [Array.getElem?_eq_getElem])
    have hv : vals = #[vals[0], vals[1]] := by
      apply Array.ext
      · simp [hsz]
      · intro i h1 h2
        have : i < 2 := by omega
        match i, this with
        | 0, _ => rfl
        | 1, _ => rfl
    rw [hv, rep_str h0, rep_int h1, run_callFunc_extern hf hname hb hn he, Lib.run_indexByteString]
    exact ⟨g.r, g.St, .int _ _, hr, Step.refl lo base g⟩
  · cases h

theorem index_V {lo base tgt : Nat} {args : List AV} {h h' : Heap} {v : AV} (e : indexX lo base tgt args h = some (v, h')) : h' = h := by
  unfold indexX at e
  split at e
  · cases e; rfl
  · cases e

/-! ### From the row's reading -/
/-- The state at the top: nothing abstract, all memory stays. -/
def gTop (W : World) : G := ⟨[], ⟨fun _ => none, fun _ => none⟩, W, fun c => c < W.heap.size⟩

theorem below_of_grows {W W' : World} (h : Grows W W') : Below W.heap.size W W' := ⟨h.os, h.tape, h.output, h.size, fun k hk => h.old k hk⟩

theorem kept_of_grows {W W' : World} {may : MemPlace → Prop} (h : Grows W W') : W.keptBut W' may := by
  refine ⟨h.os, h.output, fun i hi => ?_⟩
  rw [h.old i hi]
  cases hx : W.heap[i]? with
  | none => trivial
  | some o =>
    cases o with
    | cells c t fr => exact ⟨rfl, rfl, rfl, fun _ _ => rfl⟩
    | map es clock => exact .inr ⟨rfl, rfl⟩
    | _ => rfl

variable {H : Type} {enc : TypeId × Value → H}

theorem trodAll_below (hl : laidOutB P = true) {W W' : World} (hb : Below W.heap.size W W') : ∀ (ts : List TypeId) (vs : List Value) (ds : List (DataW H)) (ps : List MemPlace),
    (∀ t ∈ ts, P.readableRec t = true ∧ t < P.types.size) → DataW.TrodAll enc P W 0 (fun _ => true) true ts vs ds ps → (∀ x ∈ ps, x.block < W.heap.size) →
    DataW.TrodAll enc P W' 0 (fun b => decide (b < W.heap.size)) true ts vs ds ps
  | [], [], [], ps, _, h, _ => h
  | t :: ts, v :: vs, d :: ds, ps, ht, h, hp => by
    obtain ⟨p, q, h1, h2, rfl⟩ := h
    refine ⟨p, q, Below.trod hl (ht t (by simp)).1 (ht t (by simp)).2 h1 hb fun x hx => hp x (List.mem_append_left _ hx), trodAll_below hl hb ts vs ds q (fun t h => ht t (List.mem_cons_of_mem _ h)) h2 fun x hx => hp x (List.mem_append_right _ hx), rfl⟩
  | [], _ :: _, _, _, _, h, _ => by cases h
  | [], [], _ :: _, _, _, h, _ => by cases h
  | _ :: _, [], _, _, _, h, _ => by cases h
  | _ :: _, _ :: _, [], _, _, h, _ => by cases h

theorem law_post {f : Func} {s : ChangeSpec} {apart fresh handsOn : Bool} {W W' : World} {args : Array Value} {ds gs : List (DataW H)} {before : List MemPlace} {tb : TypeId} (hl : laidOutB P = true)
    (hps : f.params.toList.all (fun t => P.readableRec t && decide (t < P.types.size)) = true) (hrt : f.resultTypes = #[tb]) (htb : P.underlying tb = some .bool) (hW : DataW.Whole enc P f.params.toList s.vars apart W args.toList ds gs before) (hv : s.vars = [])
    (hs : s.fn H ds = { results := [.lit (.bool true)], args := ds }) (hb : Grows W W') : s.post enc P f apart fresh handsOn false W args (.bool true) W' := by
  have hW' := hW
  obtain ⟨p, q, h1, h2, h3, h4, h5⟩ := hW'
  rw [hv] at h2
  have hgs : gs = [] ∧ q = [] := by
    cases gs with
    | nil => exact ⟨rfl, h2⟩
    | cons g r => exact absurd h2 (by intro h; cases h)
  obtain ⟨rfl, rfl⟩ := hgs
  rw [List.append_nil] at h3
  subst h3
  have hlt : ∀ x ∈ before, x.block < W.heap.size := fun x hx => hW.lt x hx
  refine ⟨ds, [], before, [], before, [], hW, ?_, ?_, ?_, kept_of_grows hb, fun h => by cases h⟩
  · rw [List.append_nil, hs, hrt]
    exact trodAll_mk1 (shut_bool htb true)
  · rw [List.append_nil, hs]
    exact trodAll_below hl (below_of_grows hb) _ _ _ _ (fun t ht => by simpa using List.all_eq_true.1 hps t ht) h1 hlt
  · rw [hv, List.append_nil, hs]
    rfl

/-- ████ A law, from its call's abstract answer. -/
theorem law_lifted {C : Checked} {gh : Nat → List (Nat × Nat × Nat)} {Q : Prg} (hQ : PrgOk C.prog gh Q) {os : Os} (started : os.Started) {f : FuncId} {fn : Func} {af : AFn} {s : ChangeSpec} {conds : List PathCond} {apart fresh handsOn : Bool} {X : World → Array Value → Prop} {a : Assume} {tb : TypeId}
    (hX : ∀ (w w' : World) (args : Array Value), w.heap = w'.heap → X w args → X w' args) (own : ownKnob C.prog.godebug = none) (noInit : C.prog.inits.idxOf? f = none) (hfn : C.prog.funcs[f]? = some fn)
    (witness : ∃ (w : World) (tape : Tape) (i : Input), w.os = os ∧ (w.forCall tape i).Shaped C.prog ∧ i.vars = [] ∧ Input.okWide C.prog (w.forCall tape i) .any w.heap.size f i ∧
      ((s.pre enc C.prog fn conds apart (w.forCall tape i).memory i.args ∧ X (w.forCall tape i).memory i.args) ∧ sizedMet enc C.prog fn (OpenSpec.ofChange s) apart (w.forCall tape i).memory i.args) ∧ a.holds C.prog (lone (Frame.enter C.prog f i.args .normal) [] (w.forCall tape i)))
    (hl : laidOutB C.prog = true) (hps : fn.params.toList.all (fun t => C.prog.readableRec t && decide (t < C.prog.types.size)) = true) (hrt : fn.resultTypes = #[tb]) (htb : C.prog.underlying tb = some .bool) (hv : s.vars = [])
    (hs : ∀ ds : List (DataW H), ds.length = fn.params.size → s.fn H ds = { results := [.lit (.bool true)], args := ds })
    (hex : Q.ext f = none) (haf : Q.fns f = some af)
    (core : ∀ (W : World) (base : Nat) (args : Array Value) (ds : List (DataW H)) (ps : List MemPlace),
      (∀ (j : Nat) t v, fn.params[j]? = some t → args[j]? = some v → Value.okWide C.prog W .any base t v) → DataW.TrodAll enc C.prog W 0 (fun _ => true) true fn.params.toList args.toList ds ps →
      ∃ (avs : List AV) (h' : Heap), RepL (gTop W) avs args ∧ callW Q f 0 0 0 avs [] = some (.bool true, h')) :
    ReturnsInHanded a C os f .any (fun w args => (s.pre enc C.prog fn conds apart w args ∧ X w args) ∧ sizedMet enc C.prog fn (OpenSpec.ofChange s) apart w args) (s.post enc C.prog fn apart fresh handsOn false) := by
  refine returnsInHanded_of_change_and hX own started noInit hfn witness ?_
  intro W base args ds gs before hval hW _ _ _ _
  have hW' := hW
  obtain ⟨p, q, h1, h2, h3, h4, h5⟩ := hW'
  obtain ⟨avs, h', hr, hc⟩ := core W base args ds p hval h1
  obtain ⟨k, hk⟩ := callW_iff.1 hc
  have hlen : ∀ (ts : List TypeId) (vs : List Value) (ds : List (DataW H)) (ps : List MemPlace), DataW.TrodAll enc C.prog W 0 (fun _ => true) true ts vs ds ps → ds.length = ts.length := by
    intro ts
    induction ts with
    | nil => intro vs ds ps h; cases vs <;> cases ds <;> first | rfl | cases h
    | cons t ts ih =>
      intro vs ds ps h
      cases vs with
      | nil => cases h
      | cons v vs =>
        cases ds with
        | nil => cases h
        | cons d ds =>
          obtain ⟨p, q, _, h2, _⟩ := h
          simp [ih vs ds q h2]
  cases k with
  | zero => simp [callN] at hk
  | succ k =>
    refine (top_sound hQ (St := fun c => c < W.heap.size) hex haf (fun _ h => h) hr hk).mono fun e w' he => ?_
    cases e with
    | returned v =>
      obtain ⟨⟨g', hv'⟩, hg⟩ := he
      rw [rep_bool hv']
      exact ⟨_, rfl, law_post hl hps hrt htb hW hv (hs ds (by rw [hlen _ _ _ _ h1]; simp)) hg⟩
    | _ => cases he

end
end Go.Abs
