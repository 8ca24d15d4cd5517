/- How the state goes on where memory is made or written. -/
import Derived.Test.YtnpfhbhhbdegfaaDoorA6
import Derived.Lib.ConvBytes
import Derived.Laws.BytesString
import Derived.Laws.MakeOwn
namespace Go.Abs

/-- The operation comes to its abstract answer. -/
def Ok (P : Program) (o : Oper) (a : Act) (lo base : Nat) (g : G) (v : AV) (h' : Heap) : Prop :=
  ∃ n v' w' r' St', (execOp a.eval o).run P g.w = .ok n w' ∧ (n = .value v' ∨ n = .skip ∧ v' = undef) ∧ Rep ⟨h', r', w', St'⟩ v v' ∧ HRep lo ⟨h', r', w', St'⟩ ∧ Step lo base g ⟨h', r', w', St'⟩

theorem Yl.ok {P : Program} {o : Oper} {a : Act} {lo base : Nat} {g : G} {v : AV} (h : Yl P o a g v) (hr : HRep lo g) : Ok P o a lo base g v g.h := by
  obtain ⟨v', h1, h2⟩ := h
  exact ⟨_, v', g.w, g.r, g.St, h1, .inl rfl, h2, hr, Step.refl lo base g⟩

section
variable {P : Program} {g : G} {fr : Frame} {a : Act} {lo base : Nat}

theorem fill_spec : ∀ {bs : List Blk} {h h' : Heap} {t : Nat}, fill h t bs = some h' → h'.length = h.length ∧ (∀ b : Nat, b < t ∨ t + bs.length ≤ b → h'[b]? = h[b]?) ∧
    (∀ (j : Nat) (B : Blk), bs[j]? = some B → h'[t + j]? = some (.live B)) ∧ ∀ b : Nat, t ≤ b → b < t + bs.length → h[b]? = some .free
  | [], h, h', t, he => by
    simp only [fill, Option.some.injEq] at he
    subst he
    exact ⟨rfl, fun _ _ => rfl, by simp, fun b h1 h2 => by simp at h2; omega⟩
  | B :: bs, h, h', t, he => by
    simp only [fill] at he
    split at he
    · rename_i hf
      obtain ⟨h1, h2, h3, h4⟩ := fill_spec he
      have ht : t < h.length := (List.getElem?_eq_some_iff.1 hf).1
      refine ⟨by simpa using h1, fun b hb => ?_, fun j C hj => ?_, fun b h5 h6 => ?_⟩
      · simp only [List.length_cons] at hb
        rw [h2 b (by omega), List.getElem?_set_ne (by omega)]
      · cases j with
        | zero =>
          simp at hj
          subst hj
          rw [Nat.add_zero, h2 t (by omega), List.getElem?_set_self ht]
        | succ j =>
          have := h3 j C (by simpa using hj)
          rwa [show t + (j + 1) = t + 1 + j by omega]
      · by_cases hb : b = t
        · subst hb; exact hf
        · simp only [List.length_cons] at h6
          have := h4 b (by omega) (by omega)
          rwa [List.getElem?_set_ne (by omega)] at this
    · cases he

theorem place_spec {bs : List Blk} {h h' : Heap} {t : Nat} (he : place h t bs = some h') : h.length ≤ h'.length ∧ (∀ b : Nat, b < t ∨ t + bs.length ≤ b → h'[b]? = h[b]?) ∧
    (∀ (j : Nat) (B : Blk), bs[j]? = some B → h'[t + j]? = some (.live B)) ∧ ∀ b : Nat, t ≤ b → b < t + bs.length → h[b]? = some .free ∨ h[b]? = none := by
  unfold place at he
  split at he
  · rename_i ht
    cases he
    subst ht
    refine ⟨by simp, fun b hb => ?_, fun j B hj => ?_, fun b h1 _ => .inr (List.getElem?_eq_none h1)⟩
    · rcases hb with hb | hb
      · exact List.getElem?_append_left hb
      · rw [List.getElem?_eq_none (by simpa using hb), List.getElem?_eq_none (by omega)]
    · rw [List.getElem?_append_right (by omega)]
      simp [hj]
  · obtain ⟨h1, h2, h3, h4⟩ := fill_spec he
    exact ⟨by omega, h2, h3, fun b h5 h6 => .inl (h4 b h5 h6)⟩

/-- The old blocks of a world are what they were. -/
structure Grows (w w' : World) : Prop where
  size : w.heap.size ≤ w'.heap.size
  old : ∀ c, c < w.heap.size → w'.heap[c]? = w.heap[c]?
  os : w'.os = w.os
  tape : w'.tape = w.tape
  output : w'.output = w.output

theorem Grows.refl (w : World) : Grows w w := ⟨Nat.le_refl _, fun _ _ => rfl, rfl, rfl, rfl⟩
theorem Grows.alloc (w : World) (o : Obj) : Grows w (w.alloc o) :=
  ⟨by simp, fun c hc => by simp [World.alloc, -World.alloc_eq, Array.getElem?_push, Nat.ne_of_lt hc], rfl, rfl, rfl⟩
theorem Grows.drewAlloc (w : World) (o : Obj) : Grows w (w.drew.alloc o) :=
  ⟨by simp, fun c hc => by simp [World.alloc, World.drew, -World.alloc_eq, -World.drew_eq, Array.getElem?_push, Nat.ne_of_lt hc], rfl, rfl, rfl⟩

theorem shape_of_heap {w w' : World} {c : Nat} (h : w'.heap[c]? = w.heap[c]?) : w'.shape? c = w.shape? c := by simp [World.shape?, h]

/-- New blocks, old ones as they were. -/
theorem grow_step {h' : Heap} {r' : RM} {w' : World} {St' : Nat → Prop} (hw : Grows g.w w') (hlen : g.h.length ≤ h'.length) (hhb : r'.hb = g.r.hb)
    (hent : ∀ b : Nat, (h'[b]? = g.h[b]? ∧ (∀ B, vblk g.h g.r b = some B → r' b = g.r b)) ∨ ((g.h[b]? = none ∨ g.h[b]? = some .free) ∧ base ≤ b))
    (hnew : ∀ (b : Nat) (B : Blk) (c : Nat), (g.h[b]? = none ∨ g.h[b]? = some .free) → vblk h' r' b = some B → r' b = some c → g.w.heap.size ≤ c)
    (hst : ∀ c, g.St c → St' c) (hst' : ∀ c, c < g.w.heap.size → St' c → g.St c) : Step lo base g ⟨h', r', w', St'⟩ := by
  have old : ∀ {b : Nat} {B : Blk}, vblk g.h g.r b = some B → vblk h' r' b = some B ∧ r' b = g.r b := by
    intro b B hB
    rcases hent b with ⟨h1, h2⟩ | ⟨h1, _⟩
    · exact ⟨(vblk_congr (r := g.r) (r' := r') h1 (fun _ => by rw [hhb])).trans hB, h2 B hB⟩
    · rw [vblk_none h1] at hB
      cases hB
  exact {
    len := hlen
    hid := fun b hb => by
      rcases hent b with ⟨h1, _⟩ | ⟨h1, _⟩
      · exact ⟨h1.trans hb, by simp only [hhb]⟩
      · rcases h1 with h1 | h1 <;> rw [h1] at hb <;> cases hb
    free := fun b hb hf => by
      rcases hent b with ⟨h1, _⟩ | ⟨_, h1⟩
      · exact h1.trans hf
      · omega
    live := fun b B hB => ⟨B, (old hB).1, rfl, rfl, id, Nat.le_refl _, fun _ => (old hB).2⟩
    keep := fun b B hB _ => old hB
    scp := fun b B B' _ hB hB' n hn => by
      have := (old hB).1
      rw [show vblk h' r' b = some B' from hB'] at this
      cases this
      exact hn
    size := hw.size
    old := fun c hc _ => hw.old c hc
    shp := fun c hc => shape_of_heap (hw.old c hc)
    img := fun b B c hB hc hlt => by
      rcases hent b with ⟨h1, h2⟩ | ⟨h1, _⟩
      · have hB0 : vblk g.h g.r b = some B := (vblk_congr (r := g.r) (r' := r') h1 (fun _ => by rw [hhb])) ▸ hB
        exact ⟨⟨B, hB0⟩, by rw [← h2 B hB0]; exact hc⟩
      · have := hnew b B c h1 hB hc
        omega
    st := hst
    stNew := fun c hc hs => .inl (hst' c hc hs)
    os := hw.os
    tape := hw.tape
    output := hw.output }

theorem BlkRep.step {g' : G} (s : Step lo base g g') (hr : HRep lo g) {b : Nat} {B : Blk} (h : BlkRep g b B) (hc : g'.r b = g.r b) (hh : ∀ c, g.r b = some c → g'.w.heap[c]? = g.w.heap[c]?) : BlkRep g' b B := by
  obtain ⟨h1, h2⟩ := h
  refine ⟨fun hn => h1 (hc ▸ hn), fun c hcc => ?_⟩
  obtain ⟨cells, k1, k2, k3⟩ := h2 c (hc ▸ hcc)
  refine ⟨cells, (hh c (hc ▸ hcc)).trans k1, k2, fun i e he => ?_⟩
  obtain ⟨v, m1, m2, m3⟩ := k3 i e he
  exact ⟨v, m1.step s hr, m2, m3⟩

theorem grow_hrep {h' : Heap} {r' : RM} {w' : World} {St' : Nat → Prop} (hr : HRep lo g) (hw : Grows g.w w') (s : Step lo base g ⟨h', r', w', St'⟩) (hhb : r'.hb = g.r.hb)
    (hent : ∀ b : Nat, (h'[b]? = g.h[b]? ∧ (∀ B, vblk g.h g.r b = some B → r' b = g.r b)) ∨ ((g.h[b]? = none ∨ g.h[b]? = some .free) ∧ base ≤ b))
    (hnew : ∀ (b : Nat) (B : Blk) (c : Nat), (g.h[b]? = none ∨ g.h[b]? = some .free) → vblk h' r' b = some B → r' b = some c → g.w.heap.size ≤ c)
    (hrep : ∀ (b : Nat) (B : Blk), (g.h[b]? = none ∨ g.h[b]? = some .free) → vblk h' r' b = some B → BlkRep ⟨h', r', w', St'⟩ b B)
    (hinj : ∀ (b b' : Nat) (B B' : Blk) (c : Nat), (g.h[b]? = none ∨ g.h[b]? = some .free) → (g.h[b']? = none ∨ g.h[b']? = some .free) → vblk h' r' b = some B → vblk h' r' b' = some B' → r' b = some c → r' b' = some c → b = b')
    (hst' : ∀ c, c < g.w.heap.size → St' c → g.St c) (hstn : ∀ c, St' c → c < w'.heap.size ∧ ∀ (b : Nat) (B : Blk), (g.h[b]? = none ∨ g.h[b]? = some .free) → vblk h' r' b = some B → r' b ≠ some c)
    (hfz : ∀ (b : Nat) (B : Blk), (g.h[b]? = none ∨ g.h[b]? = some .free) → vblk h' r' b = some B → B.frz = false) : HRep lo ⟨h', r', w', St'⟩ := by
  have imgOld : ∀ {b : Nat} {B : Blk} {c : Nat}, vblk g.h g.r b = some B → g.r b = some c → c < g.w.heap.size := by
    intro b B c hB hc
    obtain ⟨cells, h1, _⟩ := (hr.blks b B hB).2 c hc
    exact (Array.getElem?_eq_some_iff.1 h1).1
  have cls : ∀ {b : Nat} {B : Blk}, vblk h' r' b = some B → (vblk g.h g.r b = some B ∧ r' b = g.r b) ∨ (g.h[b]? = none ∨ g.h[b]? = some .free) := by
    intro b B hB
    rcases hent b with ⟨h1, h2⟩ | ⟨h1, _⟩
    · have hB0 : vblk g.h g.r b = some B := (vblk_congr (r := g.r) (r' := r') h1 (fun _ => by rw [hhb])) ▸ hB
      exact .inl ⟨hB0, h2 B hB0⟩
    · exact .inr h1
  refine ⟨fun b B hB => ?_, fun b b' B B' c hB hB' hc hc' => ?_, fun b B c hlo hB hf hc hS => ?_, fun c hc => (hstn c hc).1, fun b B c hB hf hc => ?_⟩
  · rcases cls hB with ⟨h1, h2⟩ | h1
    · exact (hr.blks b B h1).step s hr h2 fun c hc => hw.old c (imgOld h1 hc)
    · exact hrep b B h1 hB
  · have hc : r' b = some c := hc
    have hc' : r' b' = some c := hc'
    rcases cls hB with ⟨h1, h2⟩ | h1 <;> rcases cls hB' with ⟨h3, h4⟩ | h3
    · exact hr.inj b b' B B' c h1 h3 (h2 ▸ hc) (h4 ▸ hc')
    · have := imgOld h1 (h2 ▸ hc)
      have := hnew b' B' c h3 hB' hc'
      omega
    · have := imgOld h3 (h4 ▸ hc')
      have := hnew b B c h1 hB hc
      omega
    · exact hinj b b' B B' c h1 h3 hB hB' hc hc'
  · have hc : r' b = some c := hc
    rcases cls hB with ⟨h1, h2⟩ | h1
    · have hlt := imgOld h1 (h2 ▸ hc)
      exact hr.nost b B c hlo h1 hf (h2 ▸ hc) (hst' c hlt hS)
    · exact (hstn c hS).2 b B h1 hB hc
  · have hc : r' b = some c := hc
    rcases cls hB with ⟨h1, h2⟩ | h1
    · exact s.st c (hr.frst b B c h1 hf (h2 ▸ hc))
    · rw [hfz b B h1 hB] at hf
      cases hf

def rNew (g : G) (tgt n : Nat) (c0 : Option Nat) : RM := ⟨fun b => if b = tgt then c0 else if tgt < b ∧ b < tgt + n then none else g.r b, g.r.hb⟩

theorem place_new {B : Blk} {gs : List Blk} {h' : Heap} {tgt : Nat} {w' : World} (hr : HRep lo g) (hp : place g.h tgt (B :: gs) = some h') (hgs : ∀ C ∈ gs, C.es = []) (hfz : ∀ C ∈ B :: gs, C.frz = false) (hb : base ≤ tgt) (hw : Grows g.w w')
    (c0 : Option Nat) (hc0 : ∀ c, c0 = some c → g.w.heap.size ≤ c ∧ c < w'.heap.size) (St' : Nat → Prop) (hS1 : ∀ c, g.St c → St' c) (hS2 : ∀ c, St' c → g.St c ∨ (g.w.heap.size ≤ c ∧ c < w'.heap.size ∧ c0 ≠ some c)) :
    Step lo base g ⟨h', rNew g tgt (gs.length + 1) c0, w', St'⟩ ∧ (BlkRep ⟨h', rNew g tgt (gs.length + 1) c0, w', St'⟩ tgt B → HRep lo ⟨h', rNew g tgt (gs.length + 1) c0, w', St'⟩) := by
  obtain ⟨p1, p2, p3, p4⟩ := place_spec hp
  simp only [List.length_cons] at p2 p4
  have hent : ∀ b : Nat, (h'[b]? = g.h[b]? ∧ (∀ C, vblk g.h g.r b = some C → rNew g tgt (gs.length + 1) c0 b = g.r b)) ∨ ((g.h[b]? = none ∨ g.h[b]? = some .free) ∧ base ≤ b) := by
    intro b
    by_cases h : b < tgt ∨ tgt + (gs.length + 1) ≤ b
    · refine .inl ⟨p2 b h, fun C _ => ?_⟩
      simp only [rNew]
      rw [if_neg (by omega), if_neg (by omega)]
    · exact .inr ⟨(p4 b (by omega) (by omega)).symm, by omega⟩
  have inNew : ∀ {b : Nat} {C : Blk}, (g.h[b]? = none ∨ g.h[b]? = some .free) → vblk h' (rNew g tgt (gs.length + 1) c0) b = some C → tgt ≤ b ∧ b < tgt + (gs.length + 1) := by
    intro b C h1 h2
    by_cases h : b < tgt ∨ tgt + (gs.length + 1) ≤ b
    · rw [vblk_congr (r := g.r) (r' := rNew g tgt (gs.length + 1) c0) (p2 b h) (fun _ => rfl), vblk_none h1] at h2
      cases h2
    · omega
  have rt : ∀ {b c : Nat}, tgt ≤ b → b < tgt + (gs.length + 1) → rNew g tgt (gs.length + 1) c0 b = some c → b = tgt ∧ c0 = some c := by
    intro b c h1 h2 h3
    simp only [rNew] at h3
    split at h3
    · rename_i he; exact ⟨he, h3⟩
    · rw [if_pos (by omega)] at h3; cases h3
  have hnew : ∀ (b : Nat) (C : Blk) (c : Nat), (g.h[b]? = none ∨ g.h[b]? = some .free) → vblk h' (rNew g tgt (gs.length + 1) c0) b = some C → rNew g tgt (gs.length + 1) c0 b = some c → g.w.heap.size ≤ c := by
    intro b C c h1 h2 h3
    obtain ⟨h4, h5⟩ := inNew h1 h2
    exact (hc0 c (rt h4 h5 h3).2).1
  have hs2 : ∀ c, c < g.w.heap.size → St' c → g.St c := fun c hc hs => by
    rcases hS2 c hs with h | h
    · exact h
    · omega
  have s : Step lo base g ⟨h', rNew g tgt (gs.length + 1) c0, w', St'⟩ := grow_step hw p1 rfl hent hnew hS1 hs2
  refine ⟨s, fun hB => grow_hrep hr hw s rfl hent hnew (fun b C h1 h2 => ?_) (fun b b' C C' c h1 h2 h3 h4 h5 h6 => ?_) hs2 (fun c hc => ?_) fun b C h1 h2 => ?_⟩
  · obtain ⟨h4, h5⟩ := inNew h1 h2
    by_cases hbt : b = tgt
    · subst hbt
      have := vblk_live (r := rNew g b (gs.length + 1) c0) (p3 0 B rfl)
      simp only [Nat.add_zero] at this
      rw [h2] at this
      cases this
      exact hB
    · have hj : (B :: gs)[b - tgt]? = some C := by
        have hlt : b - tgt < (B :: gs).length := by simp; omega
        have := vblk_live (r := rNew g tgt (gs.length + 1) c0) (p3 (b - tgt) _ (List.getElem?_eq_getElem hlt))
        rw [show tgt + (b - tgt) = b by omega, h2] at this
        cases this
        exact List.getElem?_eq_getElem hlt
      have hC : C ∈ gs := by
        obtain ⟨k, hk⟩ : ∃ k, b - tgt = k + 1 := ⟨b - tgt - 1, by omega⟩
        rw [hk] at hj
        exact List.mem_of_getElem? (by simpa using hj)
      have hrn : rNew g tgt (gs.length + 1) c0 b = none := by
        simp only [rNew]
        rw [if_neg hbt, if_pos (by omega)]
      refine ⟨fun _ => hgs C hC, fun c hc => ?_⟩
      rw [show rNew g tgt (gs.length + 1) c0 b = some c from hc] at hrn
      cases hrn
  · obtain ⟨k1, k2⟩ := inNew h1 h3
    obtain ⟨k3, k4⟩ := inNew h2 h4
    rw [(rt k1 k2 h5).1, (rt k3 k4 h6).1]
  · rcases hS2 c hc with h | h
    · refine ⟨Nat.lt_of_lt_of_le (hr.stlt c h) hw.size, fun b C h1 h2 h3 => ?_⟩
      have := hnew b C c h1 h2 h3
      have := hr.stlt c h
      omega
    · refine ⟨h.2.1, fun b C h1 h2 h3 => ?_⟩
      obtain ⟨h4, h5⟩ := inNew h1 h2
      exact h.2.2 (rt h4 h5 h3).2
  · obtain ⟨h4, h5⟩ := inNew h1 h2
    have hlt : b - tgt < (B :: gs).length := by simp; omega
    have := vblk_live (r := rNew g tgt (gs.length + 1) c0) (p3 (b - tgt) _ (List.getElem?_eq_getElem hlt))
    rw [show tgt + (b - tgt) = b by omega, h2] at this
    cases this
    exact hfz _ (List.getElem_mem hlt)

theorem refOk_new {h' : Heap} {tgt : Nat} {bs : List Blk} {r' : RM} {w' : World} {St' : Nat → Prop} {h : Heap} (hp : place h tgt bs = some h') {j : Nat} {B : Blk} (hj : bs[j]? = some B) : refOk ⟨h', r', w', St'⟩ (tgt + j) B.es.length :=
  ⟨B, vblk_live ((place_spec hp).2.2.1 j B hj), Nat.le_refl _⟩
theorem good_new {h' h : Heap} {r' : RM} {tgt : Nat} {bs : List Blk} (hp : place h tgt bs = some h') {j : Nat} {B : Blk} (hj : bs[j]? = some B) : vgood h' r' (tgt + j) B.es.length = some B :=
  vgood_eq.2 ⟨vblk_live ((place_spec hp).2.2.1 j B hj), rfl⟩

end
end Go.Abs
