/- Regions whose order is open, by rewriting. -/
import Derived.Test.YtnpfhbhhbdegfaaDoorE8
set_option linter.unusedSimpArgs false
set_option linter.unusedVariables false
namespace Go.Abs

@[simp] theorem getE_left {h l : Heap} {i : Nat} (hi : i < h.length) : (h ++ l)[i]? = h[i]? := nr (List.getElem?_append_left hi)
@[simp] theorem getE_right {h l : Heap} {i : Nat} (hi : h.length ≤ i) : (h ++ l)[i]? = l[i - h.length]? := nr (List.getElem?_append_right hi)
@[simp] theorem setE_left {h l : Heap} {i : Nat} (hi : i < h.length) (x : Ent) : (h ++ l).set i x = h.set i x ++ l := nr (List.set_append_left _ _ hi)
@[simp] theorem setE_right {h l : Heap} {i : Nat} (hi : h.length ≤ i) (x : Ent) : (h ++ l).set i x = h ++ l.set (i - h.length) x := nr (List.set_append_right _ _ hi)

def drawK (n : Nat) (s : Option DSt) : Option R :=
  match s with
  | some s => some (.normal, s.fr, trim n s.h)
  | none => none
@[simp] theorem drawK_some (n : Nat) (fr : Frame) (h : Heap) (log : Nat → Option Nat) : drawK n (some ⟨fr, h, log⟩) = some (.normal, fr, trim n h) := nr rfl
def rdK (cf : CallF) (st : Nat → Bool) (lo base n0 : Nat) (fr0 : Frame) (i : Nat) (os : List DOper) (s : Option DSt) : Option DSt :=
  match s with
  | some s => runD cf st lo base n0 fr0 (i + 1) os s
  | none => none
def sdP (d : Option Nat) (s : DSt) (r : Option (AV × Heap)) : Option DSt :=
  match r with
  | some (v, _) => some { s with fr := updO s.fr d v }
  | none => none
def sdK (d : Option Nat) (ids : List Nat) (h0 : Heap) (fr : Frame) (log : Nat → Option Nat) (r : Option (AV × Heap)) : Option DSt :=
  match r with
  | some (v, h') => if h'.length = h0.length then some ⟨updO fr d v, restore ids h0 h', log⟩ else none
  | none => none
def ckK (b : Bool) (x : Option DSt) : Option DSt := if b = true then x else none
@[congr] theorem ckK_congr {b b' : Bool} (h : b = b') (x : Option DSt) : ckK b x = ckK b' x := by rw [h]
@[simp] theorem ckK_true (x : Option DSt) : ckK true x = x := nr rfl
def gdK (g : AV) (w : Bool) (x y : Option DSt) : Option DSt :=
  match g with
  | .bool b => if b = w then x else y
  | _ => y
@[congr] theorem gdK_congr {g g' : AV} (h : g = g') (w : Bool) (x y : Option DSt) : gdK g w x y = gdK g' w x y := by rw [h]
@[simp] theorem gdK_tt (x y : Option DSt) : gdK (.bool true) true x y = x := nr rfl
@[simp] theorem gdK_tf (x y : Option DSt) : gdK (.bool true) false x y = y := nr rfl
@[simp] theorem gdK_ft (x y : Option DSt) : gdK (.bool false) true x y = y := nr rfl
@[simp] theorem gdK_ff (x y : Option DSt) : gdK (.bool false) false x y = x := nr rfl
@[simp] theorem gdK_undef (w : Bool) (x y : Option DSt) : gdK .undef w x y = y := nr rfl

section
variable {c : Ctx} {cf : CallF} {st : Nat → Bool} {lo base n0 i slot : Nat} {fr fr0 : Frame} {h : Heap} {log : Nat → Option Nat} {d : Option Nat} {op : AOp} {hs lk uo : List Nat} {vo : Bool} {rt : Option Nat}
@[simp] theorem ex_draw (total : Nat) (ops : List DOper) : exec c lo base (.draw total ops) fr h = drawK h.length (runD c.cf c.stOf lo base h.length fr 0 ops ⟨fr, h ++ List.replicate total .free, fun _ => none⟩) := nr (by
  simp only [exec, drawK]
  cases runD c.cf c.stOf lo base h.length fr 0 ops ⟨fr, h ++ List.replicate total .free, fun _ => none⟩ <;> rfl)
@[simp] theorem rd_nil (s : DSt) : runD cf st lo base n0 fr0 i [] s = some s := nr rfl
@[simp] theorem rd_cons (o : DOper) (os : List DOper) (s : DSt) : runD cf st lo base n0 fr0 i (o :: os) s = rdK cf st lo base n0 fr0 i os (stepD cf st lo base n0 fr0 i o s) := nr (by
  simp only [runD, rdK]; cases stepD cf st lo base n0 fr0 i o s <;> rfl)
@[simp] theorem rdK_some (os : List DOper) (s : DSt) : rdK cf st lo base n0 fr0 i os (some s) = runD cf st lo base n0 fr0 (i + 1) os s := nr rfl
@[simp] theorem sdP_some (v : AV) (h' : Heap) : sdP d ⟨fr, h, log⟩ (some (v, h')) = some ⟨updO fr d v, h, log⟩ := nr rfl
@[simp] theorem sdK_some (ids : List Nat) (h0 : Heap) (v : AV) (h' : Heap) : sdK d ids h0 fr log (some (v, h')) = if h'.length = h0.length then some ⟨updO fr d v, restore ids h0 h', log⟩ else none := nr rfl
theorem stepD_P0 : stepD cf st lo base n0 fr0 i ⟨⟨d, op, none⟩, .P, slot, hs, lk, vo, rt, uo⟩ ⟨fr, h, log⟩ = sdP d ⟨fr, h, log⟩ (stepOp cf lo base (n0 + slot) op fr []) := nr (by
  simp only [stepD, wants, if_true, dCond, sdP]
  cases stepOp cf lo base (n0 + slot) op fr [] <;> rfl)
theorem stepD_A0 : stepD cf st lo base n0 fr0 i ⟨⟨d, op, none⟩, .A, slot, hs, lk, vo, rt, uo⟩ ⟨fr, h, log⟩ = sdK d [] h fr log (stepOp cf lo base (n0 + slot) op fr h) := nr (by
  simp only [stepD, wants, if_true, dCond, sdK, dIds, hide, dLog]
  cases hx : stepOp cf lo base (n0 + slot) op fr h <;> simp [hx])
theorem stepD_L0 : stepD cf st lo base n0 fr0 i ⟨⟨d, op, none⟩, .L, slot, hs, lk, vo, rt, uo⟩ ⟨fr, h, log⟩ = ckK (offLog log (touch fr op) uo && rootOk fr0 fr ⟨⟨d, op, none⟩, .L, slot, hs, lk, vo, rt, uo⟩)
    (sdK d (hs.map (n0 + ·)) h fr (fun k => if k = i then touch fr op else log k) (stepOp cf lo base (n0 + slot) op fr (hide (hs.map (n0 + ·)) h))) := nr (by
  simp only [stepD, wants, if_true, dCond, sdK, dIds, dLog, ckK]
  split
  · cases hx : stepOp cf lo base (n0 + slot) op fr (hide (hs.map (n0 + ·)) h) <;> simp [hx]
  · rfl)
theorem stepD_W0 : stepD cf st lo base n0 fr0 i ⟨⟨d, op, none⟩, .W, slot, hs, lk, vo, rt, uo⟩ ⟨fr, h, log⟩ = ckK (offLog log (touch fr op) uo)
    (sdK d (hs.map (n0 + ·)) h fr (fun k => if k = i then touch fr op else log k) (stepOp cf lo base (n0 + slot) op fr (hide (hs.map (n0 + ·)) h))) := nr (by
  simp only [stepD, wants, if_true, dCond, sdK, dIds, dLog, ckK]
  split
  · cases hx : stepOp cf lo base (n0 + slot) op fr (hide (hs.map (n0 + ·)) h) <;> simp [hx]
  · rfl)
def lkIds (fr0 : Frame) (lk : List Nat) : List Nat := lk.filterMap fun t => ptrBlk (fr0 t)
@[simp] theorem lkIds_nil : lkIds fr0 [] = [] := nr rfl
def consP (x : Option Nat) (l : List Nat) : List Nat :=
  match x with
  | some b => b :: l
  | none => l
@[simp] theorem consP_some (b : Nat) (l : List Nat) : consP (some b) l = b :: l := nr rfl
@[simp] theorem consP_none (l : List Nat) : consP none l = l := nr rfl
@[simp] theorem lkIds_cons (t : Nat) (l : List Nat) : lkIds fr0 (t :: l) = consP (ptrBlk (fr0 t)) (lkIds fr0 l) := nr (by
  simp only [lkIds, List.filterMap_cons, consP]; cases ptrBlk (fr0 t) <;> rfl)
theorem stepD_C0 : stepD cf st lo base n0 fr0 i ⟨⟨d, op, none⟩, .C, slot, hs, lk, vo, rt, uo⟩ ⟨fr, h, log⟩ = ckK (!vo || callsV st fr op)
    (sdK d (hs.map (n0 + ·) ++ lkIds fr0 lk) h fr log (stepOp cf lo base (n0 + slot) op fr (hide (hs.map (n0 + ·) ++ lkIds fr0 lk) h))) := nr (by
  by_cases hv : (!vo || callsV st fr op) = true
  · have hd : dCond st fr0 ⟨⟨d, op, none⟩, .C, slot, hs, lk, vo, rt, uo⟩ fr log = true := hv
    have hc : ¬ (Cls.C = Cls.P) := by decide
    simp only [stepD, wants, if_true, hd, sdK, dIds, dLog, ckK, lkIds, hv, if_neg hc]
    cases hx : stepOp cf lo base (n0 + slot) op fr (hide (hs.map (n0 + ·) ++ lk.filterMap fun t => ptrBlk (fr0 t)) h) with
    | none => rfl
    | some x => rfl
  · have hd : dCond st fr0 ⟨⟨d, op, none⟩, .C, slot, hs, lk, vo, rt, uo⟩ fr log ≠ true := hv
    simp only [stepD, wants, if_true, ckK, if_neg hv, if_neg hd])
theorem stepD_g {cl : Cls} {t : Nat} {w : Bool} {s : DSt} : stepD cf st lo base n0 fr0 i ⟨⟨d, op, some (t, w)⟩, cl, slot, hs, lk, vo, rt, uo⟩ s = gdK (s.fr t) w (stepD cf st lo base n0 fr0 i ⟨⟨d, op, none⟩, cl, slot, hs, lk, vo, rt, uo⟩ s) (some { s with fr := updO s.fr d .undef }) := nr (by
  cases hx : s.fr t with
  | bool b =>
    by_cases hb : b = w
    · subst hb
      simp [stepD, wants, gdK, hx, dCond, dIds, dLog, rootOk]
    · simp [stepD, wants, gdK, hx, hb]
  | _ => simp [stepD, wants, gdK, hx])
attribute [simp] stepD_P0 stepD_A0 stepD_L0 stepD_W0 stepD_C0 stepD_g
@[simp] theorem hide_nil : hide [] h = h := nr rfl
@[simp] theorem hide_cons (b : Nat) (bs : List Nat) : hide (b :: bs) h = hide bs (h.set b .hid) := nr rfl
@[simp] theorem restore_nil (h' : Heap) : restore [] h h' = h' := nr rfl
def rsK (bs : List Nat) (b : Nat) (h h' : Heap) (e : Option Ent) : Heap :=
  match e with
  | some e => restore bs h (h'.set b e)
  | none => restore bs h h'
@[simp] theorem rsK_some (bs : List Nat) (b : Nat) (h' : Heap) (e : Ent) : rsK bs b h h' (some e) = restore bs h (h'.set b e) := nr rfl
@[simp] theorem rsK_none (bs : List Nat) (b : Nat) (h' : Heap) : rsK bs b h h' none = restore bs h h' := nr rfl
@[simp] theorem restore_cons (b : Nat) (bs : List Nat) (h' : Heap) : restore (b :: bs) h h' = rsK bs b h h' h[b]? := nr (by
  simp only [restore, rsK]; cases h[b]? <;> rfl)
@[simp] theorem offLog_none (uo : List Nat) : offLog log none uo = true := nr rfl
@[simp] theorem offLog_some (b : Nat) (uo : List Nat) : offLog log (some b) uo = uo.all fun k => !(log k == some b) := nr rfl
@[simp] theorem rootOk_none {o : AOper} {cl : Cls} : rootOk fr0 fr ⟨o, cl, slot, hs, lk, vo, none, uo⟩ = true := nr rfl
def rootK (a b : Option Nat) : Bool :=
  match a with
  | none => true
  | some c => b == some c
@[simp] theorem rootK_some (a : Nat) (b : Option Nat) : rootK (some a) b = (b == some a) := nr rfl
@[simp] theorem rootK_none (b : Option Nat) : rootK none b = true := nr rfl
@[simp] theorem rootOk_some {o : AOper} {cl : Cls} (t : Nat) : rootOk fr0 fr ⟨o, cl, slot, hs, lk, vo, some t, uo⟩ = rootK (touch fr o.op) (ptrBlk (fr0 t)) := nr (by
  simp only [rootOk, rootK]; cases touch fr o.op <;> rfl)
@[simp] theorem touch_load (agg : Bool) (n : Nat) (a : Opd) : touch fr (.load agg n a) = ptrBlk (a.get fr) := nr rfl
@[simp] theorem touch_store (n : Nat) (a x : Opd) : touch fr (.store n a x) = ptrBlk (a.get fr) := nr rfl
@[simp] theorem touch_append (ty sz bs : Nat) (x y : Opd) : touch fr (.append ty sz bs x y) = ptrBlk (x.get fr) := nr rfl
@[simp] theorem touch_b2s (x : Opd) : touch fr (.b2s x) = ptrBlk (x.get fr) := nr rfl
@[simp] theorem ptrBlk_ptr (b g i o : Nat) : ptrBlk (.ptr b g i o) = some b := nr rfl
@[simp] theorem ptrBlk_sl (sz b g off len : Nat) : ptrBlk (.sl sz b g off len) = some b := nr rfl
@[simp] theorem ptrBlk_rp (sz o : Nat) (e : AV) : ptrBlk (.rp sz e o) = none := nr rfl
@[simp] theorem ptrBlk_emp : ptrBlk .emp = none := nr rfl
@[simp] theorem ptrBlk_mkRo (sz : Nat) (xs : List AV) : ptrBlk (mkRo sz xs) = none := nr (by cases xs <;> rfl)
@[simp] theorem callsV_fn (g : Nat) (a k : List AV) (args : List Opd) : callsV st fr (.call (.val (.fn g a k)) args) = !(st g) := nr rfl
@[simp] theorem isFree_free : Ent.free.isFree = true := nr rfl
@[simp] theorem isFree_hid : Ent.hid.isFree = false := nr rfl
@[simp] theorem isFree_live (B : Blk) : (Ent.live B).isFree = false := nr rfl
theorem trim_app {n : Nat} {l : Heap} (hn : h.length = n) : trim n (h ++ l) = h ++ (l.reverse.dropWhile Ent.isFree).reverse := nr (by
  subst hn; simp [trim])
theorem trim_all (l : Heap) : trim 0 l = (l.reverse.dropWhile Ent.isFree).reverse := nr (by simp [trim])
end
@[simp] theorem ctxW_st (Q : Prg) : (ctxW Q).stOf = fun g => (Q.pol g).st || (Q.pol g).raw := nr rfl
end Go.Abs

namespace Go.Abs
theorem Own.appended {H : Heap} {ty sz b k T : Nat} {v : AV} {xs ys : List AV} {A : Option (AV × Heap)} (hA : appendAV H 0 0 T ty sz v ys = A) (o : Own H ty sz b v xs) (hk : k ≤ b) (hkl : k ≤ H.length) (ht : T = H.length) (hm : xs.length + ys.length ≤ most) (hok : ys.all AV.ok = true) :
    ∃ b' v' h', A = some (v', h') ∧ Own h' ty sz b' v' (xs ++ ys) ∧ k ≤ b' ∧ H.length ≤ h'.length ∧ ∀ c, c < H.length → c ≠ b' → h'[c]? = H[c]? := by
  obtain ⟨b', v', h', e, h1⟩ := o.append hk hkl ht hm hok
  exact ⟨b', v', h', hA.symm.trans e, h1⟩
end Go.Abs

namespace Go.Abs
theorem Own.grown {h l : Heap} {ty sz b k T : Nat} {v : AV} {xs ys : List AV} {A : Option (AV × Heap)} (hA : appendAV (h ++ l) 0 0 T ty sz v ys = A) (o : Own h ty sz b v xs) (hk : k ≤ b) (hkl : k ≤ h.length) (ht : T = (h ++ l).length) (hm : xs.length + ys.length ≤ most) (hok : ys.all AV.ok = true) :
    ∃ b' v' h', A = some (v', h') ∧ Own h' ty sz b' v' (xs ++ ys) ∧ k ≤ b' ∧ h.length + l.length ≤ h'.length ∧ (∀ c, c < h.length → c ≠ b' → h'[c]? = h[c]?) ∧ ∀ c, c < l.length → h'[h.length + c]? = l[c]? := by
  subst ht
  subst hA
  rcases o with ⟨rfl, rfl⟩ | ⟨rfl, hb⟩
  · by_cases hy : ys = []
    · subst hy
      exact ⟨b, .emp, h ++ l, by simp, .inl ⟨rfl, rfl⟩, hk, by simp, fun c hc _ => getE_left hc, fun c _ => getE_app h l c⟩
    · refine ⟨(h ++ l).length, .sl sz (h ++ l).length ys.length 0 ys.length, (h ++ l) ++ [.live ⟨ty, sz, false, ys⟩], ?_, .inr ⟨rfl, getE_app0 _ _⟩, by simp; omega, by simp, fun c hc _ => ?_, fun c hc => ?_⟩
      · have : ys.length ≤ most := by simpa using hm
        simp [hy, this]
      · rw [getE_left (by simp; omega), getE_left hc]
      · rw [getE_left (by simp; omega), getE_app]
  · have hlt := lt_of_live hb
    refine ⟨b, .sl sz b (xs.length + ys.length) 0 (xs.length + ys.length), (h ++ l).set b (.live ⟨ty, sz, false, xs ++ ys⟩), app_own ((getE_left hlt).trans hb) rfl rfl (Nat.zero_le _) (Nat.zero_le _) hm hok, .inr ⟨by simp, ?_⟩, hk, by simp, fun c hc hne => ?_, fun c hc => ?_⟩
    · rw [List.getElem?_set_self (by simp; omega)]
    · rw [List.getElem?_set_ne (Ne.symm hne), getE_left hc]
    · rw [List.getElem?_set_ne (by omega), getE_app]
theorem set_same {h : Heap} {i : Nat} {e : Ent} (he : h[i]? = some e) : h.set i e = h := by
  apply List.ext_getElem?
  intro j
  rw [List.getElem?_set]
  split
  · rename_i hj
    subst hj
    rw [if_pos (lt_of_live he), he]
  · rfl
end Go.Abs
