/- Rows that a frame owns and lets grow; copies. -/
import Derived.Test.YtnpfhbhhbdegfaaDoorE7
set_option linter.unusedSimpArgs false
set_option linter.unusedVariables false
namespace Go.Abs

/-! ### A heap that has grown -/
@[simp] theorem getE_app0 (h l : Heap) : (h ++ l)[h.length]? = l[0]? := nr (by rw [List.getElem?_append_right (Nat.le_refl _), Nat.sub_self])
@[simp] theorem getE_app (h l : Heap) (k : Nat) : (h ++ l)[h.length + k]? = l[k]? := nr (by rw [List.getElem?_append_right (by omega)]; congr 1; omega)
theorem getE_low {h l : Heap} {b : Nat} (hb : b < h.length) : (h ++ l)[b]? = h[b]? := List.getElem?_append_left hb
@[simp] theorem setE_app0 (h l : Heap) (x : Ent) : (h ++ l).set h.length x = h ++ l.set 0 x := nr ((List.set_append_right _ _ (Nat.le_refl _)).trans (by rw [Nat.sub_self]))
@[simp] theorem setE_app (h l : Heap) (k : Nat) (x : Ent) : (h ++ l).set (h.length + k) x = h ++ l.set k x := nr ((List.set_append_right _ _ (by omega)).trans (by rw [Nat.add_sub_cancel_left]))
theorem setE_low {h l : Heap} {b : Nat} (hb : b < h.length) (x : Ent) : (h ++ l).set b x = h.set b x ++ l := List.set_append_left _ _ hb
theorem lt_of_live {h : Heap} {b : Nat} {e : Ent} (hb : h[b]? = some e) : b < h.length := (List.getElem?_eq_some_iff.1 hb).1

/-- v is a row of the frame's own, in block b: xs. -/
def Own (h : Heap) (ty sz b : Nat) (v : AV) (xs : List AV) : Prop := (xs = [] ∧ v = .emp) ∨ (v = .sl sz b xs.length 0 xs.length ∧ h[b]? = some (.live ⟨ty, sz, false, xs⟩))

theorem Own.emp (h : Heap) (ty sz b : Nat) : Own h ty sz b .emp [] := .inl ⟨rfl, rfl⟩
theorem Own.len {h : Heap} {ty sz b : Nat} {v : AV} {xs : List AV} (o : Own h ty sz b v xs) : slLen v = some xs.length := by
  rcases o with ⟨rfl, rfl⟩ | ⟨rfl, _⟩ <;> rfl
theorem Own.read {h : Heap} {ty sz b : Nat} {v : AV} {xs : List AV} (o : Own h ty sz b v xs) : readSl h sz v = some xs := by
  rcases o with ⟨rfl, rfl⟩ | ⟨rfl, hb⟩
  · rfl
  · simp [hb]
theorem Own.embed {h : Heap} {ty sz b : Nat} {v : AV} {xs : List AV} (o : Own h ty sz b v xs) (hc : AV.closedL xs = true) (hk : xs.map AV.canon = xs) : (Go.Abs.embed h 0 0 depth v).map AV.canon = some (mkRo sz xs) := by
  rcases o with ⟨rfl, rfl⟩ | ⟨rfl, hb⟩
  · simp [mkRo_nil 0 sz]
  · simp [hb, hc, hk]
theorem Own.keep {h h' : Heap} {ty sz b : Nat} {v : AV} {xs : List AV} (o : Own h ty sz b v xs) (hb : ∀ e, h[b]? = some e → h'[b]? = h[b]?) : Own h' ty sz b v xs := by
  rcases o with ⟨rfl, rfl⟩ | ⟨rfl, h1⟩
  · exact .inl ⟨rfl, rfl⟩
  · exact .inr ⟨rfl, (hb _ h1).trans h1⟩
theorem Own.app {h : Heap} {l : Heap} {ty sz b : Nat} {v : AV} {xs : List AV} (o : Own h ty sz b v xs) : Own (h ++ l) ty sz b v xs := o.keep fun e he => getE_low (lt_of_live he)

theorem Own.append {h : Heap} {ty sz b k tgt : Nat} {v : AV} {xs ys : List AV} (o : Own h ty sz b v xs) (hk : k ≤ b) (hkl : k ≤ h.length) (ht : tgt = h.length) (hm : xs.length + ys.length ≤ most) (hok : ys.all AV.ok = true) :
    ∃ b' v' h', appendAV h 0 0 tgt ty sz v ys = some (v', h') ∧ Own h' ty sz b' v' (xs ++ ys) ∧ k ≤ b' ∧ h.length ≤ h'.length ∧ ∀ c, c < h.length → c ≠ b' → h'[c]? = h[c]? := by
  subst ht
  rcases o with ⟨rfl, rfl⟩ | ⟨rfl, hb⟩
  · by_cases hy : ys = []
    · subst hy
      exact ⟨b, .emp, h, by simp, .inl ⟨rfl, rfl⟩, hk, Nat.le_refl _, fun _ _ _ => rfl⟩
    · refine ⟨h.length, .sl sz h.length ys.length 0 ys.length, h ++ [.live ⟨ty, sz, false, ys⟩], ?_, .inr ⟨rfl, by simp⟩, hkl, by simp, fun c hc _ => getE_low hc⟩
      have : ys.length ≤ most := by simpa using hm
      simp [hy, this]
  · refine ⟨b, .sl sz b (xs.length + ys.length) 0 (xs.length + ys.length), h.set b (.live ⟨ty, sz, false, xs ++ ys⟩), app_own hb rfl rfl (Nat.zero_le _) (Nat.zero_le _) hm hok, .inr ⟨by simp, ?_⟩, hk, by simp, fun c hc hne => List.getElem?_set_ne (Ne.symm hne)⟩
    rw [List.getElem?_set_self (lt_of_live hb)]

/-! ### slices.Clone -/
def cloneFn (ty sz bs : Nat) (z : AV) : AFn := ⟨[.tmp 2],
 .seq (.region [
 ⟨(some 2), .move (.val (.emp)), none⟩])
 (.seq (.seq (.region [
 ⟨(some 3), .move (.tmp 0), none⟩,
 ⟨(some 4), .isNil false (.tmp 3), none⟩])
 (.cond (.tmp 4)
 (.seq (.region [
 ⟨(some 2), .move (.val (.emp)), none⟩])
 (.ret))
 (.skip)))
 (.seq (.region [
 ⟨(some 5), .buildSl false ty sz 0 z [], none⟩,
 ⟨(some 6), .move (.tmp 0), none⟩,
 ⟨(some 7), .append ty sz bs (.tmp 5) (.tmp 6), none⟩,
 ⟨(some 2), .move (.tmp 7), none⟩])
 (.ret)))⟩
def isNilAV (neg : Bool) (x : AV) (h : Heap) : Option (AV × Heap) :=
  match x with
  | .nn b => some (.bool (b != neg), h)
  | v => match slLen v with
    | some n => if n = 0 then none else some (.bool neg, h)
    | none => none
@[simp] theorem so_isNil {cf : CallF} {lo base tgt : Nat} {fr : Frame} {h : Heap} (neg : Bool) (x : Opd) : stepOp cf lo base tgt (.isNil neg x) fr h = isNilAV neg (x.get fr) h := nr rfl
theorem isNil_ro {neg : Bool} {sz : Nat} {xs : List AV} {h : Heap} (hx : xs ≠ []) : isNilAV neg (mkRo sz xs) h = some (.bool neg, h) := nr (by
  cases xs with
  | nil => exact absurd rfl hx
  | cons x xs => simp [isNilAV, mkRo])

theorem clone_body {ty sz bs : Nat} {z : AV} {xs : List AV} (hz : z.cells.length = sz) (hx : xs ≠ []) (hm : xs.length ≤ most) :
    bodyAV ctx0 (cloneFn ty sz bs z) 0 0 [mkRo sz xs] [] = some (.sl sz 0 xs.length 0 xs.length, [.live ⟨ty, sz, false, xs⟩]) := by
  unfold bodyAV
  simp [cloneFn, isNil_ro hx, hz, hx, hm]

theorem clone_ro {ty sz bs : Nat} {z x : AV} {xs : List AV} {lo base tgt : Nat} {h : Heap} (hz : z.cells.length = sz) (hl : slLen x = some xs.length) (he : (embed h 0 0 depth x).map AV.canon = some (mkRo sz xs)) (hx : xs ≠ []) (hm : xs.length ≤ most) (hf : AV.flatL xs = true) (hc : AV.closedL xs = true) :
    cloneX (cloneFn ty sz bs z) lo base tgt [x] h = (place h tgt [⟨ty, sz, false, xs⟩]).map fun h' => (.sl sz tgt xs.length 0 xs.length, h') := by
  have hlen : ∃ n, xs.length = n + 1 := ⟨xs.length - 1, by have := List.length_pos_iff.2 hx; omega⟩
  obtain ⟨n, hn⟩ := hlen
  rw [Option.map_eq_some_iff] at he
  obtain ⟨y, hy, hy2⟩ := he
  have hb := clone_body (ty := ty) (bs := bs) hz hx hm
  unfold cloneX
  simp only [hl, hn]
  unfold callPol
  simp only [polK, Bool.false_eq_true, if_false, mapO_cons, mapO_nil, hy, consO_some, List.map_cons, List.map_nil, hy2, hb]
  have hs : sealAV true [.live ⟨ty, sz, false, xs⟩] 0 tgt (.sl sz 0 xs.length 0 xs.length) = some (.sl sz tgt xs.length 0 xs.length, [⟨ty, sz, false, xs⟩]) := by
    simp [sealAV, seal1, hc]
  rw [hs]
  have hk : keepsOk true [.live ⟨ty, sz, false, xs⟩] 0 (.sl sz 0 xs.length 0 xs.length) = true := by
    simp [keepsOk, keptIds, keptOf, embIds, embIds1, hc]
  simp only [hk]
  have hfl : flatRes (.sl sz tgt xs.length 0 xs.length) [⟨ty, sz, false, xs⟩] = true := by simp [flatRes, AV.isSl, hf]
  simp only [hfl, List.length_singleton, if_true]
  simp only [callPol.put1', canonR, AV.canonK, canon_sl, hn]
  cases place h tgt [⟨ty, sz, false, xs⟩] <;> rfl

theorem clone_own {ty sz bs ty' b : Nat} {z v : AV} {xs : List AV} {lo base tgt : Nat} {h : Heap} (hz : z.cells.length = sz) (o : Own h ty' sz b v xs) (hm : xs.length ≤ most) (hf : AV.flatL xs = true) (hc : AV.closedL xs = true) (hk : xs.map AV.canon = xs) :
    cloneX (cloneFn ty sz bs z) lo base tgt [v] h = if xs = [] then some (.emp, h) else (place h tgt [⟨ty, sz, false, xs⟩]).map fun h' => (.sl sz tgt xs.length 0 xs.length, h') := by
  split
  · rename_i hx
    subst hx
    have := o.len
    simp [cloneX, this]
  · rename_i hx
    exact clone_ro hz o.len (o.embed hc hk) hx hm hf hc

end Go.Abs
