/- What an abstract value and an abstract heap say of the machine's; how they go on from step to step. -/
import Derived.Test.YtnpfhbhhbdegfaaDoorA2
import Derived.Laws.Sem
namespace Go.Abs

/-- A state: the abstract heap, which machine block each abstract block is, the world, the machine blocks that stay as they are. -/
structure RM where
  im : Nat → Option Nat
  hb : Nat → Option Blk
instance : CoeFun RM (fun _ => Nat → Option Nat) := ⟨RM.im⟩

structure G where
  h : Heap
  r : RM
  w : World
  St : Nat → Prop

theorem scopdL_iff {n : Nat} {xs : List AV} : AV.scopdL n xs = true ↔ ∀ (i : Nat) (x : AV), xs[i]? = some x → x.scopd n = true := by
  induction xs with
  | nil => simp [AV.scopdL]
  | cons y ys ih =>
    simp only [AV.scopdL, Bool.and_eq_true, ih]
    constructor
    · rintro ⟨h1, h2⟩ i x hx
      cases i with
      | zero => simp at hx; exact hx ▸ h1
      | succ i => exact h2 i x (by simpa using hx)
    · intro h
      exact ⟨h 0 y rfl, fun i x hx => h (i + 1) x (by simpa using hx)⟩
theorem closedL_iff {xs : List AV} : AV.closedL xs = true ↔ ∀ (i : Nat) (x : AV), xs[i]? = some x → x.closed = true := by
  induction xs with
  | nil => simp [AV.closedL]
  | cons y ys ih =>
    simp only [AV.closedL, Bool.and_eq_true, ih]
    constructor
    · rintro ⟨h1, h2⟩ i x hx
      cases i with
      | zero => simp at hx; exact hx ▸ h1
      | succ i => exact h2 i x (by simpa using hx)
    · intro h
      exact ⟨h 0 y rfl, fun i x hx => h (i + 1) x (by simpa using hx)⟩
theorem flatL_iff {xs : List AV} : AV.flatL xs = true ↔ ∀ (i : Nat) (x : AV), xs[i]? = some x → x.flat = true := by
  induction xs with
  | nil => simp [AV.flatL]
  | cons y ys ih =>
    simp only [AV.flatL, Bool.and_eq_true, ih]
    constructor
    · rintro ⟨h1, h2⟩ i x hx
      cases i with
      | zero => simp at hx; exact hx ▸ h1
      | succ i => exact h2 i x (by simpa using hx)
    · intro h
      exact ⟨h 0 y rfl, fun i x hx => h (i + 1) x (by simpa using hx)⟩

mutual
theorem scopd_of_closed (n : Nat) : ∀ x : AV, x.closed = true → x.scopd n = true
  | .ptr .., h => by simp [AV.closed] at h
  | .sl .., h => by simp [AV.closed] at h
  | .rp _ e _, h => by simp only [AV.closed] at h; simp only [AV.scopd]; exact scopd_of_closed n e h
  | .ro _ xs, h => by simp only [AV.closed] at h; simp only [AV.scopd]; exact scopdL_of_closed n xs h
  | .agg cs, h => by simp only [AV.closed] at h; simp only [AV.scopd]; exact scopdL_of_closed n cs h
  | .tup vs, h => by simp only [AV.closed] at h; simp only [AV.scopd]; exact scopdL_of_closed n vs h
  | .fn _ a b, h => by
    simp only [AV.closed, Bool.and_eq_true] at h
    simp only [AV.scopd, Bool.and_eq_true]
    exact ⟨scopdL_of_closed n a h.1, scopdL_of_closed n b h.2⟩
  | .undef, _ => rfl
  | .int .., _ => rfl
  | .bool _, _ => rfl
  | .str _, _ => rfl
  | .nilp, _ => rfl
  | .emp, _ => rfl
  | .nn _, _ => rfl
theorem scopdL_of_closed (n : Nat) : ∀ xs : List AV, AV.closedL xs = true → AV.scopdL n xs = true
  | [], _ => rfl
  | x :: xs, h => by
    simp only [AV.closedL, Bool.and_eq_true] at h
    simp only [AV.scopdL, Bool.and_eq_true]
    exact ⟨scopd_of_closed n x h.1, scopdL_of_closed n xs h.2⟩
end

theorem blk_eq {h : Heap} {b : Nat} {B : Blk} : blk h b = some B ↔ h[b]? = some (.live B) := by
  unfold blk
  split
  · rename_i C hC
    simp [hC]
  · rename_i hn
    constructor
    · intro h; cases h
    · intro h; exact absurd h (hn B)
theorem good_eq {h : Heap} {b n : Nat} {B : Blk} : good h b n = some B ↔ blk h b = some B ∧ B.es.length = n := by
  unfold good
  split
  · rename_i C hC
    split
    · rename_i hl
      simp only [hC, Option.some.injEq]
      constructor
      · rintro rfl; exact ⟨rfl, hl⟩
      · rintro ⟨rfl, _⟩; rfl
    · rename_i hl
      simp only [hC, Option.some.injEq]
      constructor
      · intro h; cases h
      · rintro ⟨rfl, h⟩; exact absurd h hl
  · rename_i hn
    simp [hn]

/-- What lies at a place, hidden or not. -/
def vblk (h : Heap) (r : RM) (b : Nat) : Option Blk :=
  match h[b]? with
  | some (.live B) => some B
  | some .hid => r.hb b
  | _ => none
def vgood (h : Heap) (r : RM) (b g : Nat) : Option Blk :=
  match vblk h r b with
  | some B => if B.es.length = g then some B else none
  | none => none
theorem vblk_congr {h h' : Heap} {r r' : RM} {b : Nat} (e : h'[b]? = h[b]?) (er : h[b]? = some .hid → r'.hb b = r.hb b) : vblk h' r' b = vblk h r b := by
  unfold vblk
  rw [e]
  split <;> try rfl
  rename_i he
  exact er he
theorem vblk_live {h : Heap} {r : RM} {b : Nat} {B : Blk} (e : h[b]? = some (.live B)) : vblk h r b = some B := by simp [vblk, e]
theorem vblk_of {h : Heap} {r : RM} {b : Nat} {B : Blk} (e : blk h b = some B) : vblk h r b = some B := vblk_live (blk_eq.1 e)
theorem vblk_none {h : Heap} {r : RM} {b : Nat} (e : h[b]? = none ∨ h[b]? = some .free) : vblk h r b = none := by
  rcases e with e | e <;> simp [vblk, e]
theorem vblk_lt {h : Heap} {r : RM} {b : Nat} {B : Blk} (e : vblk h r b = some B) : b < h.length := by
  rcases Nat.lt_or_ge b h.length with h' | h'
  · exact h'
  · rw [vblk_none (.inl (List.getElem?_eq_none h'))] at e
    cases e
theorem vblk_cases {h : Heap} {r : RM} {b : Nat} {B : Blk} (e : vblk h r b = some B) : blk h b = some B ∨ h[b]? = some .hid := by
  unfold vblk at e
  split at e
  · rename_i C hb
    cases e
    exact .inl (blk_eq.2 hb)
  · rename_i hb
    exact .inr hb
  · cases e
theorem vgood_eq {h : Heap} {r : RM} {b n : Nat} {B : Blk} : vgood h r b n = some B ↔ vblk h r b = some B ∧ B.es.length = n := by
  unfold vgood
  split
  · rename_i C hC
    split
    · rename_i hl
      simp only [hC, Option.some.injEq]
      constructor
      · rintro rfl; exact ⟨rfl, hl⟩
      · rintro ⟨rfl, _⟩; rfl
    · rename_i hl
      simp only [hC, Option.some.injEq]
      constructor
      · intro h; cases h
      · rintro ⟨rfl, h⟩; exact absurd h hl
  · rename_i hn
    simp [hn]
theorem vgood_of {h : Heap} {r : RM} {b n : Nat} {B : Blk} (e : good h b n = some B) : vgood h r b n = some B :=
  vgood_eq.2 ⟨vblk_of (good_eq.1 e).1, (good_eq.1 e).2⟩

def refOk (g : G) (b n : Nat) : Prop := ∃ B, vblk g.h g.r b = some B ∧ n ≤ B.es.length

theorem refOk.lt {g : G} {b n : Nat} (h : refOk g b n) : b < g.h.length := by
  obtain ⟨B, hB, _⟩ := h
  exact vblk_lt hB

inductive Rep (g : G) : AV → Value → Prop
  | undef : Rep g .undef Go.undef
  | int (k : IntKind) (n : Int) : Rep g (.int k n) (.int k n)
  | bool (b : Bool) : Rep g (.bool b) (.bool b)
  | str (s : List UInt8) : Rep g (.str s) (.string ⟨s.toArray⟩)
  | nilp : Rep g .nilp (.pointer none)
  | ptr {b n i o : Nat} {a : Addr} (h1 : refOk g b n) (h2 : ∀ B c, vgood g.h g.r b n = some B → g.r b = some c → a = ⟨c, i * B.sz + o, none⟩) : Rep g (.ptr b n i o) (.pointer (some a))
  | rp {sz o c off : Nat} {e : AV} {v : Value} (h1 : Rep g e v) (h2 : g.St c) (h3 : ∀ (j : Nat) (x : Value), v.cells[j]? = some x → g.w.cell? ⟨c, off + j, none⟩ = some x) (h4 : v.cells.size = sz) : Rep g (.rp sz e o) (.pointer (some ⟨c, off + o, none⟩))
  | emp {A : Option Addr} : Rep g .emp (.slice A 0 0)
  | nn {A : Option Addr} {cap : Nat} : Rep g (.nn A.isNone) (.slice A 0 cap)
  | ro {sz cap : Nat} {xs : List AV} {A : Option Addr} (vf : Nat → Value) (h1 : ∀ (i : Nat) (x : AV), xs[i]? = some x → Rep g x (vf i)) (h2 : ∀ i, i < xs.length → (vf i).cells.size = sz) (h3 : xs.length ≤ cap)
      (h4 : xs ≠ [] → ∃ c off, A = some ⟨c, off, none⟩ ∧ g.St c ∧ ∀ (i j : Nat) (x : Value), i < xs.length → (vf i).cells[j]? = some x → g.w.cell? ⟨c, off + i * sz + j, none⟩ = some x) : Rep g (.ro sz xs) (.slice A xs.length cap)
  | sl {sz b n off len cap : Nat} {A : Option Addr} (h1 : refOk g b n) (h2 : len ≤ cap) (h3 : off + len ≤ n) (h6 : ∀ B, vgood g.h g.r b n = some B → B.sz = sz) (h7 : 0 < len → ∃ ad, A = some ad)
      (h4 : 0 < len → ∀ B c, vgood g.h g.r b n = some B → g.r b = some c → A = some ⟨c, off * B.sz, none⟩)
      (h5 : off = 0 → ∀ B, vgood g.h g.r b n = some B → (g.r b = none → cap = 0) ∧ ∀ c, g.r b = some c → (0 < cap → A = some ⟨c, 0, none⟩) ∧ ∃ m, g.w.shape? c = some (B.ty, m) ∧ cap * B.sz ≤ m) : Rep g (.sl sz b n off len) (.slice A len cap)
  | agg {cs : List AV} {vs : Array Value} (h1 : cs.length = vs.size) (h2 : ∀ (j : Nat) (c : AV) (v : Value), cs[j]? = some c → vs[j]? = some v → Rep g c v) (h3 : ∀ (j : Nat) (v : Value), vs[j]? = some v → v.oneCell' = true) : Rep g (.agg cs) (.agg vs)
  | tup {cs : List AV} {vs : Array Value} (h1 : cs.length = vs.size) (h2 : ∀ (j : Nat) (c : AV) (v : Value), cs[j]? = some c → vs[j]? = some v → Rep g c v) : Rep g (.tup cs) (.tuple vs)
  | fn {f : Nat} {a c : List AV} {as cs : Array Value} (h1 : a.length = as.size) (h2 : ∀ (j : Nat) (x : AV) (v : Value), a[j]? = some x → as[j]? = some v → Rep g x v)
      (h3 : c.length = cs.size) (h4 : ∀ (j : Nat) (x : AV) (v : Value), c[j]? = some x → cs[j]? = some v → Rep g x v) : Rep g (.fn f a c) (.func (.func f) as cs)

theorem Rep.scopd {g : G} {x : AV} {v : Value} (h : Rep g x v) : x.scopd g.h.length = true := by
  induction h with
  | undef => rfl
  | int => rfl
  | bool => rfl
  | str => rfl
  | nilp => rfl
  | ptr h1 _ => simp [AV.scopd, h1.lt]
  | rp _ _ _ _ ih => simpa [AV.scopd] using ih
  | emp => rfl
  | nn => rfl
  | ro vf _ _ _ _ ih => simp only [AV.scopd]; exact scopdL_iff.2 fun i x hx => ih i x hx
  | sl h1 => simp [AV.scopd, h1.lt]
  | agg h1 _ _ ih =>
    simp only [AV.scopd]
    refine scopdL_iff.2 fun i x hx => ?_
    have hi := (List.getElem?_eq_some_iff.1 hx).1
    exact ih i x _ hx (Array.getElem?_eq_getElem (h1 ▸ hi))
  | tup h1 _ ih =>
    simp only [AV.scopd]
    refine scopdL_iff.2 fun i x hx => ?_
    have hi := (List.getElem?_eq_some_iff.1 hx).1
    exact ih i x _ hx (Array.getElem?_eq_getElem (h1 ▸ hi))
  | fn h1 _ h3 _ ih1 ih2 =>
    simp only [AV.scopd, Bool.and_eq_true]
    refine ⟨scopdL_iff.2 fun i x hx => ?_, scopdL_iff.2 fun i x hx => ?_⟩
    · have hi := (List.getElem?_eq_some_iff.1 hx).1
      exact ih1 i x _ hx (Array.getElem?_eq_getElem (h1 ▸ hi))
    · have hi := (List.getElem?_eq_some_iff.1 hx).1
      exact ih2 i x _ hx (Array.getElem?_eq_getElem (h3 ▸ hi))

theorem Rep.mkRo {g : G} {sz : Nat} {xs : List AV} {v : Value} (h : Rep g (.ro sz xs) v) : Rep g (mkRo sz xs) v := by
  cases xs with
  | cons x xs => exact h
  | nil =>
    cases h with
    | ro vf _ _ h3 _ => exact .ro vf (by simp) (by simp) h3 (by simp)
theorem canonL_eq (xs : List AV) : AV.canonL xs = xs.map AV.canon := by
  induction xs with
  | nil => rfl
  | cons x xs ih => simp [AV.canonL, ih]
theorem Rep.canon {g : G} {x : AV} {v : Value} (h : Rep g x v) : Rep g x.canon v := by
  induction h with
  | undef => exact .undef
  | int k n => exact .int k n
  | bool b => exact .bool b
  | str x => exact .str x
  | nilp => exact .nilp
  | ptr h1 h2 => exact .ptr h1 h2
  | rp h1 h2 h3 h4 _ => exact .rp h1 h2 h3 h4
  | emp => exact .ro (xs := []) (fun _ => Go.undef) (by simp) (by simp) (Nat.le_refl _) (by simp)
  | nn => exact .nn
  | @ro sz cap xs A vf h1 h2 h3 h4 ih =>
    simp only [AV.canon, canonL_eq]
    refine Rep.mkRo ?_
    rw [show xs.length = (xs.map AV.canon).length by simp]
    refine .ro vf (fun i x hx => ?_) (by simpa using h2) (by simpa using h3) fun hn => ?_
    · rw [List.getElem?_map] at hx
      cases hy : xs[i]? with
      | none => rw [hy] at hx; cases hx
      | some y =>
        rw [hy] at hx
        cases hx
        exact ih i y hy
    · obtain ⟨c, off, k1, k2, k3⟩ := h4 (by intro e; subst e; exact hn rfl)
      exact ⟨c, off, k1, k2, by simpa using k3⟩
  | sl h1 h2 h3 h6 h7 h4 h5 => exact .sl h1 h2 h3 h6 h7 h4 h5
  | agg h1 _ h3 ih =>
    simp only [AV.canon, canonL_eq]
    refine .agg (by simpa using h1) (fun j c v hc hv => ?_) h3
    rw [List.getElem?_map, Option.map_eq_some_iff] at hc
    obtain ⟨y, hy, rfl⟩ := hc
    exact ih j y v hy hv
  | tup h1 _ ih =>
    simp only [AV.canon, canonL_eq]
    refine .tup (by simpa using h1) fun j c v hc hv => ?_
    rw [List.getElem?_map, Option.map_eq_some_iff] at hc
    obtain ⟨y, hy, rfl⟩ := hc
    exact ih j y v hy hv
  | fn h1 _ h3 _ ih1 ih2 =>
    simp only [AV.canon, canonL_eq]
    refine .fn (by simpa using h1) (fun j c v hc hv => ?_) (by simpa using h3) (fun j c v hc hv => ?_)
    · rw [List.getElem?_map, Option.map_eq_some_iff] at hc
      obtain ⟨y, hy, rfl⟩ := hc
      exact ih1 j y v hy hv
    · rw [List.getElem?_map, Option.map_eq_some_iff] at hc
      obtain ⟨y, hy, rfl⟩ := hc
      exact ih2 j y v hy hv
theorem Rep.canonK {g : G} {x : AV} {v : Value} (h : Rep g x v) : Rep g x.canonK v := by
  unfold AV.canonK
  split
  · exact h
  · exact h.canon
theorem Rep.canonR {g : G} {keep : Bool} {x : AV} {v : Value} (h : Rep g x v) : Rep g (canonR keep x) v := by
  unfold Go.Abs.canonR
  split
  · cases h with
    | tup h1 h2 =>
      refine .tup (by simpa using h1) fun j c v hc hv => ?_
      rw [List.getElem?_map, Option.map_eq_some_iff] at hc
      obtain ⟨y, hy, rfl⟩ := hc
      exact (h2 j y v hy hv).canonK
  · exact h.canonK
  · exact h.canon

/-- One block of the heap. -/
def BlkRep (g : G) (b : Nat) (B : Blk) : Prop :=
  (g.r b = none → B.es = []) ∧
  ∀ c, g.r b = some c → ∃ cells : Array Value, g.w.heap[c]? = some (.cells cells B.ty (0, 0)) ∧ B.es.length * B.sz ≤ cells.size ∧
    ∀ (i : Nat) (e : AV), B.es[i]? = some e → ∃ v : Value, Rep g e v ∧ v.cells.size = B.sz ∧ ∀ (j : Nat) (x : Value), v.cells[j]? = some x → cells[i * B.sz + j]? = some x

structure HRep (lo : Nat) (g : G) : Prop where
  blks : ∀ b B, vblk g.h g.r b = some B → BlkRep g b B
  inj : ∀ b b' B B' c, vblk g.h g.r b = some B → vblk g.h g.r b' = some B' → g.r b = some c → g.r b' = some c → b = b'
  nost : ∀ b B c, lo ≤ b → vblk g.h g.r b = some B → B.frz = false → g.r b = some c → ¬ g.St c
  stlt : ∀ c, g.St c → c < g.w.heap.size
  frst : ∀ b B c, vblk g.h g.r b = some B → B.frz = true → g.r b = some c → g.St c

/-- From one state to a later one. Blocks below 'lo' are only read; of blocks below 'base' the references stay. -/
structure Step (lo base : Nat) (g g' : G) : Prop where
  len : g.h.length ≤ g'.h.length
  hid : ∀ b : Nat, g.h[b]? = some .hid → g'.h[b]? = some .hid ∧ g'.r.hb b = g.r.hb b
  free : ∀ b : Nat, b < base → g.h[b]? = some .free → g'.h[b]? = some .free
  live : ∀ b B, vblk g.h g.r b = some B → ∃ B', vblk g'.h g'.r b = some B' ∧ B'.sz = B.sz ∧ B'.ty = B.ty ∧ (B.frz = true → B'.frz = true) ∧ B.es.length ≤ B'.es.length ∧ (B'.es.length = B.es.length → g'.r b = g.r b)
  keep : ∀ b B, vblk g.h g.r b = some B → (b < lo ∨ B.frz = true ∨ g.h[b]? = some .hid) → vblk g'.h g'.r b = some B ∧ g'.r b = g.r b
  scp : ∀ b B B', b < base → vblk g.h g.r b = some B → vblk g'.h g'.r b = some B' → ∀ n, AV.scopdL n B.es = true → AV.scopdL n B'.es = true
  size : g.w.heap.size ≤ g'.w.heap.size
  old : ∀ c, c < g.w.heap.size → (∀ b B, lo ≤ b → blk g.h b = some B → B.frz = false → g.r b ≠ some c) → g'.w.heap[c]? = g.w.heap[c]?
  shp : ∀ c, c < g.w.heap.size → g'.w.shape? c = g.w.shape? c
  img : ∀ b B c, vblk g'.h g'.r b = some B → g'.r b = some c → c < g.w.heap.size → (∃ B0, vblk g.h g.r b = some B0) ∧ g.r b = some c
  st : ∀ c, g.St c → g'.St c
  stNew : ∀ c, c < g.w.heap.size → g'.St c → g.St c ∨ ∃ b B, lo ≤ b ∧ vblk g'.h g'.r b = some B ∧ B.frz = true ∧ g'.r b = some c
  os : g'.w.os = g.w.os
  tape : g'.w.tape = g.w.tape
  output : g'.w.output = g.w.output

theorem Step.refl (lo base : Nat) (g : G) : Step lo base g g where
  len := Nat.le_refl _
  hid := fun _ h => ⟨h, rfl⟩
  free := fun _ _ h => h
  live := fun _ B h => ⟨B, h, rfl, rfl, id, Nat.le_refl _, fun _ => rfl⟩
  keep := fun _ _ h _ => ⟨h, rfl⟩
  scp := fun _ B B' _ h h' _ hn => by rw [h] at h'; cases h'; exact hn
  size := Nat.le_refl _
  old := fun _ _ _ => rfl
  shp := fun _ _ => rfl
  img := fun _ B _ h hr _ => ⟨⟨B, h⟩, hr⟩
  st := fun _ h => h
  stNew := fun _ _ h => .inl h
  os := rfl
  tape := rfl
  output := rfl

theorem Step.trans {lo base : Nat} {g g1 g2 : G} (a : Step lo base g g1) (b : Step lo base g1 g2) : Step lo base g g2 where
  len := Nat.le_trans a.len b.len
  hid := fun i h => by
    obtain ⟨h1, r1⟩ := a.hid i h
    obtain ⟨h2, r2⟩ := b.hid i h1
    exact ⟨h2, r2.trans r1⟩
  free := fun i hi h => b.free i hi (a.free i hi h)
  live := fun i B h => by
    obtain ⟨B1, h1, s1, t1, f1, l1, r1⟩ := a.live i B h
    obtain ⟨B2, h2, s2, t2, f2, l2, r2⟩ := b.live i B1 h1
    exact ⟨B2, h2, s2.trans s1, t2.trans t1, fun hf => f2 (f1 hf), Nat.le_trans l1 l2, fun hl => (r2 (by omega)).trans (r1 (by omega))⟩
  keep := fun i B h hc => by
    obtain ⟨h1, r1⟩ := a.keep i B h hc
    obtain ⟨h2, r2⟩ := b.keep i B h1 (hc.imp id (Or.imp id fun he => (a.hid i he).1))
    exact ⟨h2, r2.trans r1⟩
  scp := fun i B B' hi h h' n hn => by
    obtain ⟨B1, h1, _⟩ := a.live i B h
    exact b.scp i B1 B' hi h1 h' n (a.scp i B B1 hi h h1 n hn)
  size := Nat.le_trans a.size b.size
  old := fun c hc hw => by
    rw [b.old c (Nat.lt_of_lt_of_le hc a.size) ?_, a.old c hc hw]
    intro i B1 hlo h1 hf1 hr1
    obtain ⟨⟨B0, h0⟩, hr0⟩ := a.img i B1 c (vblk_of h1) hr1 hc
    have h0' : blk g.h i = some B0 := (vblk_cases h0).resolve_right fun he => by
      have := (a.hid i he).1
      rw [blk_eq.1 h1] at this
      cases this
    refine hw i B0 hlo h0' ?_ hr0
    cases hf : B0.frz
    · rfl
    · obtain ⟨B', h', _, _, f', _⟩ := a.live i B0 h0
      rw [vblk_of h1] at h'
      cases h'
      rw [f' hf] at hf1
      cases hf1
  shp := fun c hc => (b.shp c (Nat.lt_of_lt_of_le hc a.size)).trans (a.shp c hc)
  img := fun i B c h hr hc => by
    obtain ⟨⟨B1, h1⟩, hr1⟩ := b.img i B c h hr (Nat.lt_of_lt_of_le hc a.size)
    exact a.img i B1 c h1 hr1 hc
  st := fun c h => b.st c (a.st c h)
  stNew := fun c hc h => by
    rcases b.stNew c (Nat.lt_of_lt_of_le hc a.size) h with h1 | h1
    · rcases a.stNew c hc h1 with h0 | ⟨i, B, hlo, hb, hf, hr⟩
      · exact .inl h0
      · obtain ⟨hb2, hr2⟩ := b.keep i B hb (.inr (.inl hf))
        exact .inr ⟨i, B, hlo, hb2, hf, hr2.trans hr⟩
    · exact .inr h1
  os := b.os.trans a.os
  tape := b.tape.trans a.tape
  output := b.output.trans a.output

theorem Step.mono {lo base lo' base' : Nat} {g g' : G} (h : Step lo base g g') (hl : lo' ≤ lo) (hb : base' ≤ base) : Step lo' base' g g' where
  len := h.len
  hid := h.hid
  free := fun i hi hf => h.free i (Nat.lt_of_lt_of_le hi hb) hf
  live := h.live
  keep := fun i B hB hc => h.keep i B hB (hc.imp (fun x => Nat.lt_of_lt_of_le x hl) id)
  scp := fun i B B' hi => h.scp i B B' (Nat.lt_of_lt_of_le hi hb)
  size := h.size
  old := fun c hc hw => h.old c hc fun i B hi => hw i B (Nat.le_trans hl hi)
  shp := h.shp
  img := h.img
  st := h.st
  stNew := fun c hc hs => (h.stNew c hc hs).imp id fun ⟨i, B, hi, hx⟩ => ⟨i, B, Nat.le_trans hl hi, hx⟩
  os := h.os
  tape := h.tape
  output := h.output

theorem cell_of_heap {w w' : World} {c o : Nat} (h : w'.heap[c]? = w.heap[c]?) : w'.cell? ⟨c, o, none⟩ = w.cell? ⟨c, o, none⟩ := by
  simp only [World.cell?, h]

theorem Step.stHeap {lo base : Nat} {g g' : G} (s : Step lo base g g') (hr : HRep lo g) {c : Nat} (hc : g.St c) : g'.w.heap[c]? = g.w.heap[c]? :=
  s.old c (hr.stlt c hc) fun b B hlo hb hf hrb => hr.nost b B c hlo (vblk_of hb) hf hrb hc

theorem refOk.step {lo base : Nat} {g g' : G} (s : Step lo base g g') {b n : Nat} (h : refOk g b n) : refOk g' b n := by
  obtain ⟨B, hB, hl⟩ := h
  obtain ⟨B', h', _, _, _, hle, _⟩ := s.live b B hB
  exact ⟨B', h', Nat.le_trans hl hle⟩

theorem good_back {lo base : Nat} {g g' : G} (s : Step lo base g g') {b n : Nat} (h : refOk g b n) {B' : Blk} (hg : vgood g'.h g'.r b n = some B') :
    ∃ B, vgood g.h g.r b n = some B ∧ B'.sz = B.sz ∧ B'.ty = B.ty ∧ g'.r b = g.r b := by
  obtain ⟨B, hB, hl⟩ := h
  obtain ⟨hb', hl'⟩ := vgood_eq.1 hg
  obtain ⟨B1, h1, hs, ht, _, hle, hr⟩ := s.live b B hB
  rw [hb'] at h1
  cases h1
  exact ⟨B, vgood_eq.2 ⟨hB, by omega⟩, hs, ht, hr (by omega)⟩

theorem shape_lt {w : World} {c : Nat} {x : TypeId × Nat} (h : w.shape? c = some x) : c < w.heap.size := by
  rcases Nat.lt_or_ge c w.heap.size with h' | h'
  · exact h'
  · simp [World.shape?, Array.getElem?_eq_none h'] at h

theorem Rep.step {lo base : Nat} {g g' : G} (s : Step lo base g g') (hr : HRep lo g) {x : AV} {v : Value} (h : Rep g x v) : Rep g' x v := by
  induction h with
  | undef => exact .undef
  | int k n => exact .int k n
  | bool b => exact .bool b
  | str x => exact .str x
  | nilp => exact .nilp
  | ptr h1 h2 =>
    refine .ptr (h1.step s) fun B' c hg hc => ?_
    obtain ⟨B, hB, hs, _, hr'⟩ := good_back s h1 hg
    rw [hs]
    exact h2 B c hB (hr' ▸ hc)
  | rp _ h2 h3 h4 ih => exact .rp ih (s.st _ h2) (fun j x hx => (cell_of_heap (s.stHeap hr h2)).trans (h3 j x hx)) h4
  | emp => exact .emp
  | nn => exact .nn
  | ro vf _ h2 h3 h4 ih =>
    refine .ro vf ih h2 h3 fun hn => ?_
    obtain ⟨c, off, hA, hS, hc⟩ := h4 hn
    exact ⟨c, off, hA, s.st c hS, fun i j x hi hx => (cell_of_heap (s.stHeap hr hS)).trans (hc i j x hi hx)⟩
  | sl h1 h2 h3 h6 h7 h4 h5 =>
    refine .sl (h1.step s) h2 h3 (fun B' hg => by obtain ⟨B, hB, hs, _, _⟩ := good_back s h1 hg; rw [hs]; exact h6 B hB) h7 (fun hp B' c hg hc => ?_) fun ho B' hg => ?_
    · obtain ⟨B, hB, hs, _, hr'⟩ := good_back s h1 hg
      rw [hs]
      exact h4 hp B c hB (hr' ▸ hc)
    · obtain ⟨B, hB, hs, ht, hr'⟩ := good_back s h1 hg
      obtain ⟨ha, hb⟩ := h5 ho B hB
      refine ⟨fun hn => ha (hr' ▸ hn), fun c hc => ?_⟩
      obtain ⟨hA, m, hm, hle⟩ := hb c (hr' ▸ hc)
      exact ⟨hA, m, by rw [s.shp c (shape_lt hm), hm, ht], by rw [hs]; exact hle⟩
  | agg h1 _ h3 ih => exact .agg h1 ih h3
  | tup h1 _ ih => exact .tup h1 ih
  | fn h1 _ h3 _ ih1 ih2 => exact .fn h1 ih1 h3 ih2

/-- The same of what does not refer to anything from block n on, in a heap where the blocks below n are as large. -/
theorem Rep.under {g g2 : G} {n : Nat} (hh : ∀ (b : Nat) (B : Blk), b < n → vblk g.h g.r b = some B → ∃ B', vblk g2.h g2.r b = some B' ∧ B'.sz = B.sz ∧ B'.ty = B.ty ∧ B'.es.length = B.es.length ∧ g2.r b = g.r b) (hw : g2.w = g.w) (hS : ∀ c, g.St c → g2.St c)
    {x : AV} {v : Value} (h : Rep g x v) : x.scopd n = true → Rep g2 x v := by
  have ok : ∀ {b k : Nat}, b < n → refOk g b k → refOk g2 b k := fun {b k} hb ⟨B, hB, hl⟩ => by
    obtain ⟨B', h1, _, _, h4, _⟩ := hh b B hb hB
    exact ⟨B', h1, by omega⟩
  have gd : ∀ {b k : Nat} {B : Blk}, b < n → refOk g b k → vgood g2.h g2.r b k = some B → ∃ B0, vgood g.h g.r b k = some B0 ∧ B.sz = B0.sz ∧ B.ty = B0.ty ∧ g2.r b = g.r b := fun {b k B} hb ⟨C, hC, hl⟩ hg => by
    obtain ⟨C', h1, h2, h3, h4, h5⟩ := hh b C hb hC
    obtain ⟨k3, k4⟩ := vgood_eq.1 hg
    rw [h1] at k3
    cases k3
    exact ⟨C, vgood_eq.2 ⟨hC, by omega⟩, h2, h3, h5⟩
  induction h with
  | undef => intro _; exact .undef
  | int k n => intro _; exact .int k n
  | bool b => intro _; exact .bool b
  | str x => intro _; exact .str x
  | nilp => intro _; exact .nilp
  | ptr h1 h2 =>
    intro hs
    simp only [AV.scopd, decide_eq_true_eq] at hs
    refine .ptr (ok hs h1) fun B c hg hc => ?_
    obtain ⟨B0, h3, k1, k2, h4⟩ := gd hs h1 hg
    rw [k1]
    exact h2 B0 c h3 (h4 ▸ hc)
  | rp _ h2 h3 h4 ih =>
    intro hs
    simp only [AV.scopd] at hs
    exact .rp (ih hs) (hS _ h2) (fun j x hx => by rw [hw]; exact h3 j x hx) h4
  | emp => intro _; exact .emp
  | nn => intro _; exact .nn
  | ro vf _ h2 h3 h4 ih =>
    intro hs
    simp only [AV.scopd] at hs
    refine .ro vf (fun i x hx => ih i x hx (scopdL_iff.1 hs i x hx)) h2 h3 fun hn => ?_
    obtain ⟨c, off, hA, hc, hx⟩ := h4 hn
    exact ⟨c, off, hA, hS c hc, fun i j x hi hv => by rw [hw]; exact hx i j x hi hv⟩
  | sl h1 h2 h3 h6 h7 h4 h5 =>
    intro hs
    simp only [AV.scopd, decide_eq_true_eq] at hs
    refine .sl (ok hs h1) h2 h3 (fun B hg => by obtain ⟨B0, q1, q2, q3, q4⟩ := gd hs h1 hg; rw [q2]; exact h6 B0 q1) h7 (fun hp B c hg hc => ?_) fun ho B hg => ?_
    · obtain ⟨B0, q1, q2, q3, q4⟩ := gd hs h1 hg
      rw [q2]
      exact h4 hp B0 c q1 (q4 ▸ hc)
    · obtain ⟨B0, q1, q2, q3, q4⟩ := gd hs h1 hg
      obtain ⟨ha, hb⟩ := h5 ho B0 q1
      refine ⟨fun hn => ha (q4 ▸ hn), fun c hc => ?_⟩
      obtain ⟨k1, m, k2, k3⟩ := hb c (q4 ▸ hc)
      exact ⟨k1, m, by rw [hw, q3]; exact k2, by rw [q2]; exact k3⟩
  | agg h1 _ h3 ih =>
    intro hs
    simp only [AV.scopd] at hs
    exact .agg h1 (fun j c v hc hv => ih j c v hc hv (scopdL_iff.1 hs j c hc)) h3
  | tup h1 _ ih =>
    intro hs
    simp only [AV.scopd] at hs
    exact .tup h1 (fun j c v hc hv => ih j c v hc hv (scopdL_iff.1 hs j c hc))
  | fn h1 _ h3 _ ih1 ih2 =>
    intro hs
    simp only [AV.scopd, Bool.and_eq_true] at hs
    exact .fn h1 (fun j c v hc hv => ih1 j c v hc hv (scopdL_iff.1 hs.1 j c hc)) h3 (fun j c v hc hv => ih2 j c v hc hv (scopdL_iff.1 hs.2 j c hc))

/-- What leads nowhere is represented in any state. -/
theorem Rep.flat {g g2 : G} {x : AV} {v : Value} (h : Rep g x v) : x.flat = true → Rep g2 x v := by
  induction h with
  | undef => intro _; exact .undef
  | int k n => intro _; exact .int k n
  | bool b => intro _; exact .bool b
  | str x => intro _; exact .str x
  | nilp => intro _; exact .nilp
  | ptr => intro h; simp [AV.flat] at h
  | rp => intro h; simp [AV.flat] at h
  | emp => intro _; exact .emp
  | nn => intro h; simp [AV.flat] at h
  | ro vf _ h2 h3 _ _ =>
    intro hs
    simp only [AV.flat, List.isEmpty_iff] at hs
    subst hs
    exact .ro vf (by simp) (by simp) h3 (by simp)
  | sl => intro h; simp [AV.flat] at h
  | agg h1 _ h3 ih =>
    intro hs
    simp only [AV.flat] at hs
    exact .agg h1 (fun j c v hc hv => ih j c v hc hv (flatL_iff.1 hs j c hc)) h3
  | tup h1 _ ih =>
    intro hs
    simp only [AV.flat] at hs
    exact .tup h1 (fun j c v hc hv => ih j c v hc hv (flatL_iff.1 hs j c hc))
  | fn => intro h; simp [AV.flat] at h

end Go.Abs
