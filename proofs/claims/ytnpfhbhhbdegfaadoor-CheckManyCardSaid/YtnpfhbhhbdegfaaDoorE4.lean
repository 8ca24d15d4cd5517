/- What a function answers: calls by their answers. -/
import Derived.Test.YtnpfhbhhbdegfaaDoorE3
set_option linter.unusedSimpArgs false
set_option linter.unusedVariables false
namespace Go.Abs

mutual
theorem flat_canon : ∀ x : AV, x.canon.flat = x.flat
  | .emp => rfl
  | .ro sz xs => by
    simp only [AV.canon, canonL_eq]
    cases xs with
    | nil => rfl
    | cons x xs => rfl
  | .agg cs => by simp only [AV.canon, AV.flat]; exact flatL_canon cs
  | .tup cs => by simp only [AV.canon, AV.flat]; exact flatL_canon cs
  | .fn .. => rfl
  | .undef => rfl
  | .int .. => rfl
  | .bool _ => rfl
  | .str _ => rfl
  | .nilp => rfl
  | .nn _ => rfl
  | .ptr .. => rfl
  | .rp .. => rfl
  | .sl .. => rfl
theorem flatL_canon : ∀ xs : List AV, AV.flatL (AV.canonL xs) = AV.flatL xs
  | [] => rfl
  | x :: xs => by simp only [AV.canonL, AV.flatL, flat_canon x, flatL_canon xs]
end

@[simp] theorem flat_int (k : IntKind) (n : Int) : (AV.int k n).flat = true := nr rfl
@[simp] theorem flat_bool (b : Bool) : (AV.bool b).flat = true := nr rfl
@[simp] theorem flat_str (s : List UInt8) : (AV.str s).flat = true := nr rfl
@[simp] theorem flat_agg (cs : List AV) : (AV.agg cs).flat = AV.flatL cs := nr (by simp [AV.flat])
@[simp] theorem flat_tup (cs : List AV) : (AV.tup cs).flat = AV.flatL cs := nr (by simp [AV.flat])
@[simp] theorem flatL_nil : AV.flatL [] = true := nr rfl
@[simp] theorem flatL_cons (x : AV) (xs : List AV) : AV.flatL (x :: xs) = (x.flat && AV.flatL xs) := nr (by simp [AV.flatL])
theorem flatL_map {α : Type} {f : α → AV} (hf : ∀ x, (f x).flat = true) (xs : List α) : AV.flatL (xs.map f) = true := nr (by
  induction xs with
  | nil => rfl
  | cons x xs ih => simp [hf, ih])

theorem embed_cl {h : Heap} {ns np : Nat} {x : AV} (hc : x.closed = true) : embed h ns np depth x = some x := by simp [depth, embed, hc]
theorem slIds_cl {h : Heap} {ns : Nat} {x : AV} (hc : x.closed = true) : slIds h ns depth x = [] := by simp [depth, slIds, hc]
theorem embedL_cl {h : Heap} {ns np : Nat} : ∀ {xs : List AV}, AV.closedL xs = true → mapO (embed h ns np depth) xs = some xs
  | [], _ => rfl
  | x :: xs, hc => by
    simp only [AV.closedL, Bool.and_eq_true] at hc
    rw [mapO_cons, embed_cl hc.1, embedL_cl hc.2]; rfl
theorem slIdsL_cl {h : Heap} {ns : Nat} : ∀ {xs : List AV}, AV.closedL xs = true → xs.flatMap (slIds h ns depth) = []
  | [], _ => rfl
  | x :: xs, hc => by
    simp only [AV.closedL, Bool.and_eq_true] at hc
    rw [List.flatMap_cons, slIds_cl hc.1, slIdsL_cl hc.2]; rfl

@[simp] theorem embed_c {h : Heap} {ns np d : Nat} {x : AV} (hc : x.closed = true) : embed h ns np d x = some x := nr (by cases d <;> simp [embed, hc])
@[simp] theorem embedL_c {h : Heap} {ns np d : Nat} {xs : List AV} (hc : AV.closedL xs = true) : mapO (embed h ns np d) xs = some xs := nr (by
  induction xs with
  | nil => rfl
  | cons x xs ih =>
    simp only [AV.closedL, Bool.and_eq_true] at hc
    rw [mapO_cons, embed_c hc.1, ih hc.2]; rfl)
@[simp] theorem slIds_c {h : Heap} {ns d : Nat} {x : AV} (hc : x.closed = true) : slIds h ns d x = [] := nr (by cases d <;> simp [slIds, hc])
def embSl (h : Heap) (ns np d off len g : Nat) (B : Option Blk) : Option AV :=
  match B with
  | some B => if off + len ≤ g then
      (if AV.closedL B.es then some (.ro B.sz ((B.es.drop off).take len)) else (mapO (embed h ns np d) ((B.es.drop off).take len)).map (.ro B.sz)) else none
  | none => none
@[simp] theorem embSl_some (h : Heap) (ns np d off len g ty sz : Nat) (frz : Bool) (es : List AV) : embSl h ns np d off len g (some ⟨ty, sz, frz, es⟩) = if off + len ≤ g then
      (if AV.closedL es = true then some (.ro sz ((es.drop off).take len)) else (mapO (embed h ns np d) ((es.drop off).take len)).map (.ro sz)) else none := nr rfl
@[simp] theorem embed_sl' (h : Heap) (ns np d sz b g off len : Nat) : embed h ns np (d + 1) (.sl sz b g off len) = if b < ns then some (.sl sz b g off len) else embSl h ns np d off len g (good h b g) := nr (by
  simp only [embed, AV.closed, Bool.false_eq_true, if_false, embSl]
  cases good h b g <;> rfl)
def embPtr (h : Heap) (ns np d i o : Nat) (B : Option Blk) : Option AV :=
  match B with
  | some B => match B.es[i]? with
    | some e => if e.closed then some (.rp B.sz e o) else (embed h ns np d e).map (.rp B.sz · o)
    | none => none
  | none => none
@[simp] theorem embPtr_some (h : Heap) (ns np d i o ty sz : Nat) (frz : Bool) (es : List AV) : embPtr h ns np d i o (some ⟨ty, sz, frz, es⟩) = (es[i]?).bind fun e => if e.closed = true then some (.rp sz e o) else (embed h ns np d e).map (.rp sz · o) := nr (by
  simp only [embPtr]; cases es[i]? <;> rfl)
@[simp] theorem embed_ptr' (h : Heap) (ns np d b g i o : Nat) : embed h ns np (d + 1) (.ptr b g i o) = if b < ns then some (.ptr b g i o) else embPtr h ns np d i o (good h b g) := nr (by
  simp only [embed, AV.closed, Bool.false_eq_true, if_false, embPtr]
  cases good h b g <;> rfl)
@[simp] theorem embed_agg' (h : Heap) (ns np d : Nat) (cs : List AV) : embed h ns np (d + 1) (.agg cs) = (mapO (embed h ns np d) cs).map .agg := nr (by
  by_cases hc : AV.closedL cs = true
  · rw [embed_c (by simpa using hc), embedL_c hc]; rfl
  · simp only [embed, closed_agg, if_neg hc])
@[simp] theorem embed_tup' (h : Heap) (ns np d : Nat) (cs : List AV) : embed h ns np (d + 1) (.tup cs) = (mapO (embed h ns np d) cs).map .tup := nr (by
  by_cases hc : AV.closedL cs = true
  · rw [embed_c (by simpa using hc), embedL_c hc]; rfl
  · simp only [embed, closed_tup, if_neg hc])
@[simp] theorem embed_ro' (h : Heap) (ns np d sz : Nat) (cs : List AV) : embed h ns np (d + 1) (.ro sz cs) = (mapO (embed h ns np d) cs).map (.ro sz) := nr (by
  by_cases hc : AV.closedL cs = true
  · rw [embed_c (by simpa using hc), embedL_c hc]; rfl
  · simp only [embed, closed_ro, if_neg hc])
def fn2 (f : Nat) (a c : Option (List AV)) : Option AV :=
  match a, c with
  | some a, some c => some (.fn f a c)
  | _, _ => none
@[simp] theorem fn2_some (f : Nat) (a c : List AV) : fn2 f (some a) (some c) = some (.fn f a c) := nr rfl
@[simp] theorem embed_fn' (h : Heap) (ns np d f : Nat) (a c : List AV) : embed h ns np (d + 1) (.fn f a c) = fn2 f (mapO (embed h ns np d) a) (mapO (embed h ns np d) c) := nr (by
  by_cases hc : (AV.fn f a c).closed = true
  · rw [embed_c hc]
    simp only [closed_fn, Bool.and_eq_true] at hc
    rw [embedL_c hc.1, embedL_c hc.2]; rfl
  · simp only [embed, if_neg hc]
    cases mapO (embed h ns np d) a <;> cases mapO (embed h ns np d) c <;> rfl)
def idSl (h : Heap) (ns d b off len : Nat) (B : Option Blk) : List Nat :=
  match B with
  | some B => if AV.closedL B.es then [b] else b :: ((B.es.drop off).take len).flatMap (slIds h ns d)
  | none => []
@[simp] theorem idSl_some (h : Heap) (ns d b off len ty sz : Nat) (frz : Bool) (es : List AV) : idSl h ns d b off len (some ⟨ty, sz, frz, es⟩) = if AV.closedL es = true then [b] else b :: ((es.drop off).take len).flatMap (slIds h ns d) := nr rfl
@[simp] theorem slIds_sl' (h : Heap) (ns d sz b g off len : Nat) : slIds h ns (d + 1) (.sl sz b g off len) = if b < ns then [] else idSl h ns d b off len (good h b g) := nr (by
  simp only [slIds, AV.closed, Bool.false_eq_true, if_false, idSl]
  cases good h b g <;> rfl)
def idPtr (h : Heap) (ns d b i : Nat) (B : Option Blk) : List Nat :=
  match B with
  | some B => match B.es[i]? with
    | some e => if e.closed then [b] else b :: slIds h ns d e
    | none => []
  | none => []
@[simp] theorem idPtr_some (h : Heap) (ns d b i ty sz : Nat) (frz : Bool) (es : List AV) : idPtr h ns d b i (some ⟨ty, sz, frz, es⟩) = match es[i]? with
    | some e => if e.closed then [b] else b :: slIds h ns d e
    | none => [] := nr (by simp only [idPtr])
@[simp] theorem slIds_ptr' (h : Heap) (ns d b g i o : Nat) : slIds h ns (d + 1) (.ptr b g i o) = if b < ns then [] else idPtr h ns d b i (good h b g) := nr (by
  simp only [slIds, AV.closed, Bool.false_eq_true, if_false, idPtr]
  cases good h b g <;> rfl)
theorem flatMap_slIds_c {h : Heap} {ns d : Nat} {xs : List AV} (hc : AV.closedL xs = true) : xs.flatMap (slIds h ns d) = [] := nr (by
  induction xs with
  | nil => rfl
  | cons x xs ih =>
    simp only [AV.closedL, Bool.and_eq_true] at hc
    rw [List.flatMap_cons, slIds_c hc.1, ih hc.2]; rfl)
@[simp] theorem slIds_agg' (h : Heap) (ns d : Nat) (cs : List AV) : slIds h ns (d + 1) (.agg cs) = cs.flatMap (slIds h ns d) := nr (by
  by_cases hc : AV.closedL cs = true
  · rw [slIds_c (by simpa using hc), flatMap_slIds_c hc]
  · simp only [slIds, closed_agg, if_neg hc])
@[simp] theorem slIds_fn' (h : Heap) (ns d f : Nat) (a c : List AV) : slIds h ns (d + 1) (.fn f a c) = a.flatMap (slIds h ns d) ++ c.flatMap (slIds h ns d) := nr (by
  by_cases hc : (AV.fn f a c).closed = true
  · rw [slIds_c hc]
    simp only [closed_fn, Bool.and_eq_true] at hc
    rw [flatMap_slIds_c hc.1, flatMap_slIds_c hc.2]; rfl
  · simp only [slIds, if_neg hc])
@[simp] theorem depth_eq : depth = 8 := nr rfl

def polP : Pol := { st := false, keep := false, raw := false, top := 0 }

/-- The function f, called with the arguments 'as', answers r. -/
def Val (Q : Prg) (f : Nat) (as : List AV) (r : AV) : Prop := ∃ fn v h1 r0, Q.ext f = none ∧ Q.fns f = some fn ∧ Q.pol f = polP ∧ bodyW Q fn 0 0 as [] = some (v, h1) ∧ embed h1 0 0 depth v = some r0 ∧ r0.canon = r

section
variable {Q : Prg}

/-- With arguments that are rows of the caller's own, too. -/
theorem Val.callG {f : Nat} {as args as0 : List AV} {r : AV} (hv : Val Q f as r) {lo base tgt : Nat} {h h2 : Heap} (he : mapO (embed h 0 0 depth) args = some as0) (hc : as0.map AV.canon = as)
    (hf : (if r.flat = true then some h else freeze lo h (args.flatMap (slIds h 0 depth))) = some h2) : callW Q f lo base tgt args h = some (r, h2) := by
  obtain ⟨fn, v, h1, r0, e1, e2, e3, e4, e5, e6⟩ := hv
  refine callW_eq e1 e2 ?_
  have hs : sealAV false h1 0 tgt v = some (r0, []) := by simp [-depth_eq, sealAV, seal1, e5]
  have hk : keepsOk false h1 0 v = true := by
    simp [keepsOk, keptIds]
  rw [e3]
  unfold callPol
  simp only [polP, Bool.false_eq_true, if_false, he, hc, e4, hs, hk, List.length_nil, Nat.zero_le, decide_true, Bool.and_self, if_true]
  have hfl : flatRes r0 [] = r.flat ∨ (flatRes r0 [] = true ∧ r.flat = false ∧ r0.isSl = true) := by
    rw [← e6, flat_canon]
    cases hh : r0.flat
    · cases hs : r0.isSl
      · left; simp [flatRes, hh, hs]
      · right; simp [flatRes, hh, hs]
    · left; simp [flatRes, hh]
  rcases hfl with hfl | ⟨_, _, hsl⟩
  · rw [hfl]
    simp only [canonR, e6]
    split at hf
    · rename_i hr
      cases hf
      rw [if_pos hr, place_nil]
      rfl
    · rename_i hr
      rw [if_neg hr, hf]
      simp only [place_nil]
      rfl
  · exfalso
    cases r0 with
    | sl s b k o l => exact absurd (embed_sl e5).2 (Nat.not_lt_zero _)
    | _ => cases hsl

theorem Val.call {f : Nat} {as args : List AV} {r : AV} (hv : Val Q f as r) {lo base tgt : Nat} {h : Heap} (hc : AV.closedL args = true) (he : args.map AV.canon = as) : callW Q f lo base tgt args h = some (r, h) := by
  refine hv.callG (embedL_cl hc) he ?_
  split
  · rfl
  · rw [slIdsL_cl hc]; rfl

/-- From the run of the body. -/
theorem Val.of_sat {f : Nat} {fn : AFn} {as : List AV} {r : AV} (h1 : Q.ext f = none) (h2 : Q.fns f = some fn) (h3 : Q.pol f = polP)
    (h : Sat (exec (ctxW Q) 0 0 fn.code (initFr as) []) fun o fr hp => (o = .normal ∨ o = .ret) ∧ ((resultAV hp fr fn.res).bind (embed hp 0 0 depth)).map AV.canon = some r) : Val Q f as r := by
  obtain ⟨o, fr, hp, he, ho, hr⟩ := h
  cases hv : resultAV hp fr fn.res with
  | none => rw [hv] at hr; cases hr
  | some v =>
    rw [hv, Option.bind_some, Option.map_eq_some_iff] at hr
    obtain ⟨r0, hr0, hc⟩ := hr
    refine ⟨fn, v, hp, r0, h1, h2, h3, ?_, hr0, hc⟩
    unfold bodyW bodyAV
    rw [he]
    rcases ho with rfl | rfl <;> simp only [hv, put1]

/-- By the kernel. -/
theorem Val.of_run {f k : Nat} {fn : AFn} {as : List AV} {r : AV} {g : AV → Bool} (h1 : Q.ext f = none) (h2 : Q.fns f = some fn) (h3 : Q.pol f = polP)
    (h : ((bodyAV (ctxN Q k) fn 0 0 as []).bind fun x => (embed x.2 0 0 depth x.1).map AV.canon) = some r) : Val Q f as r := by
  cases hb : bodyAV (ctxN Q k) fn 0 0 as [] with
  | none => rw [hb] at h; cases h
  | some x =>
    obtain ⟨v, h'⟩ := x
    rw [hb, Option.bind_some, Option.map_eq_some_iff] at h
    obtain ⟨r0, hr0, hc⟩ := h
    refine ⟨fn, v, h', r0, h1, h2, h3, ?_, hr0, hc⟩
    unfold bodyW
    refine bodyAV_mono (c := ctxN Q k) (d := ctxW Q) (fun f lo base tgt args h r e => callW_iff.2 ⟨k, e⟩) ?_ rfl hb
    intro b d hbd fr h r e
    show itW d fr h = some r
    exact itW_iff.2 ⟨k, iter_mono hbd (Nat.le_refl k) fr h r e⟩

/-- A call that may write. -/
theorem st_call {f : Nat} {fn : AFn} {lo base tgt k : Nat} {args as0 as : List AV} {h h2 h1 : Heap} {v r0 r : AV} {p : Pol} (e1 : Q.ext f = none) (e2 : Q.fns f = some fn) (e3 : Q.pol f = p) (hst : p.st = true) (hraw : p.raw = false) (hkp : p.keep = false)
    (hk : topOf p.top args = k) (hfr : freeze lo h (args.flatMap (slIds h k depth)) = some h2) (he : mapO (embed h k k depth) args = some as0) (hc : as0.map AV.canon = as) (hlow : lowOk k h2 = true) (hlo : lo ≤ k)
    (hb : bodyW Q fn lo k as (h2.take k) = some (v, h1)) (hr : embed h1 k k depth v = some r0) (hn : r0.isSl = false ∨ True) (hr' : r0.canon = r) : callW Q f lo base tgt args h = some (r, h1.take k ++ h2.drop k) := by
  refine callW_eq e1 e2 ?_
  have hs : sealAV false h1 k tgt v = some (r0, []) := by simp [-depth_eq, sealAV, seal1, hr]
  have hkk : keepsOk false h1 k v = true := by simp [keepsOk, keptIds]
  rw [e3]
  unfold callPol
  simp only [hraw, hst, hkp, Bool.false_eq_true, if_false, if_true, hk, hfr, he, hlow, hlo, decide_true, Bool.and_self, hc, hb, hs, hkk, List.length_nil, Nat.zero_le, place_nil, canonR, hr', callPol.put1']
end
end Go.Abs
