/- Hidden places: the state behind an operation that did not see them. -/
import Derived.Test.YtnpfhbhhbdegfaaDoorC2
set_option linter.unusedSimpArgs false
set_option linter.unusedVariables false
namespace Go.Abs

/-- The same views, the same world. -/
theorem Rep.views {g g2 : G} (hv : ∀ b B, vblk g.h g.r b = some B → vblk g2.h g2.r b = some B ∧ g2.r b = g.r b) (hw : g2.w = g.w) (hS : ∀ c, g.St c → g2.St c) {x : AV} {v : Value} (h : Rep g x v) : Rep g2 x v :=
  h.under (n := g.h.length) (fun b B _ hB => ⟨B, (hv b B hB).1, rfl, rfl, rfl, (hv b B hB).2⟩) hw hS h.scopd

theorem HRep.views {lo : Nat} {g g2 : G} (hr : HRep lo g) (hv : ∀ b, vblk g2.h g2.r b = vblk g.h g.r b) (hi : ∀ b, g2.r b = g.r b) (hw : g2.w = g.w) (hS : g2.St = g.St) : HRep lo g2 where
  blks := fun b B hB => by
    rw [hv] at hB
    obtain ⟨h1, h2⟩ := hr.blks b B hB
    refine ⟨fun hn => h1 (by rw [← hi]; exact hn), fun c hc => ?_⟩
    obtain ⟨cells, k1, k2, k3⟩ := h2 c (by rw [← hi]; exact hc)
    refine ⟨cells, by rw [hw]; exact k1, k2, fun i e he => ?_⟩
    obtain ⟨v, m1, m2, m3⟩ := k3 i e he
    exact ⟨v, m1.views (fun b B hB => ⟨by rw [hv]; exact hB, hi b⟩) hw (fun c hc => by rw [hS]; exact hc), m2, m3⟩
  inj := fun b b' B B' c hB hB' hc hc' => hr.inj b b' B B' c (by rw [← hv]; exact hB) (by rw [← hv]; exact hB') (by rw [← hi]; exact hc) (by rw [← hi]; exact hc')
  nost := fun b B c hlo hB hf hc => by rw [hS]; exact hr.nost b B c hlo (by rw [← hv]; exact hB) hf (by rw [← hi]; exact hc)
  stlt := fun c hc => by rw [hw]; exact hr.stlt c (by rw [← hS]; exact hc)
  frst := fun b B c hB hf hc => by rw [hS]; exact hr.frst b B c (by rw [← hv]; exact hB) hf (by rw [← hi]; exact hc)

def rHid (ids : List Nat) (h : Heap) (r : RM) : RM := ⟨r.im, fun b => if b ∈ ids then vblk h r b else r.hb b⟩

theorem vblk_hide (ids : List Nat) (h : Heap) (r : RM) (b : Nat) : vblk (hide ids h) (rHid ids h r) b = vblk h r b := by
  by_cases hb : b ∈ ids
  · by_cases hl : b < h.length
    · have : (hide ids h)[b]? = some .hid := by rw [hide_get, if_pos ⟨hb, hl⟩]
      rw [show vblk (hide ids h) (rHid ids h r) b = (rHid ids h r).hb b by simp [vblk, this]]
      simp [rHid, hb]
    · rw [vblk_none (.inl (by rw [hide_get, if_neg (fun h => hl h.2)]; exact List.getElem?_eq_none (by omega))), vblk_none (.inl (List.getElem?_eq_none (by omega)))]
  · refine vblk_congr (by rw [hide_get, if_neg (fun h => hb h.1)]) fun _ => by simp [rHid, hb]

section
variable {P : Program} {lo base : Nat}

theorem HRep.hide {h : Heap} {r : RM} {w : World} {St : Nat → Prop} (ids : List Nat) (hr : HRep lo ⟨h, r, w, St⟩) : HRep lo ⟨Go.Abs.hide ids h, rHid ids h r, w, St⟩ :=
  hr.views (fun b => vblk_hide ids h r b) (fun _ => rfl) rfl rfl
theorem Rep.hide {h : Heap} {r : RM} {w : World} {St : Nat → Prop} (ids : List Nat) {x : AV} {v : Value} (hx : Rep ⟨h, r, w, St⟩ x v) : Rep ⟨Go.Abs.hide ids h, rHid ids h r, w, St⟩ x v :=
  Rep.views (g := ⟨h, r, w, St⟩) (g2 := ⟨Go.Abs.hide ids h, rHid ids h r, w, St⟩) (fun b B hB => ⟨by simp only [vblk_hide]; exact hB, rfl⟩) rfl (fun _ h => h) hx

theorem Post.unhide {h h' : Heap} {r : RM} {w : World} {St : Nat → Prop} {ids : List Nat} {v : AV} {v' : Value} {w' : World} (hl : h'.length = h.length) (hp : Post lo base ⟨hide ids h, rHid ids h r, w, St⟩ v h' v' w') :
    Post lo base ⟨h, r, w, St⟩ v (restore ids h h') v' w' := by
  obtain ⟨r', St', h1, h2, s⟩ := hp
  have hget : ∀ b, (restore ids h h')[b]? = if b ∈ ids then h[b]? else h'[b]? := fun b => restore_get _ _ _ _ hl
  have hin : ∀ b, b ∈ ids → b < h.length → h'[b]? = some .hid ∧ r'.hb b = vblk h r b := fun b hb hlt => by
    have := s.hid b (by simp only; rw [hide_get, if_pos ⟨hb, hlt⟩])
    refine ⟨this.1, this.2.trans ?_⟩
    simp [rHid, hb]
  let r2 : RM := ⟨r'.im, fun b => if b ∈ ids then r.hb b else r'.hb b⟩
  have hv : ∀ b, vblk (restore ids h h') r2 b = vblk h' r' b := fun b => by
    by_cases hb : b ∈ ids
    · by_cases hlt : b < h.length
      · obtain ⟨k1, k2⟩ := hin b hb hlt
        rw [show vblk h' r' b = r'.hb b by simp [vblk, k1], k2]
        refine vblk_congr (by rw [hget, if_pos hb]) fun _ => by simp [r2, hb]
      · rw [vblk_none (.inl (by rw [hget, if_pos hb]; exact List.getElem?_eq_none (by omega))), vblk_none (.inl (List.getElem?_eq_none (by omega)))]
    · exact vblk_congr (by rw [hget, if_neg hb]) fun _ => by simp [r2, hb]
  have hv0 : ∀ b, vblk (hide ids h) (rHid ids h r) b = vblk h r b := vblk_hide ids h r
  refine ⟨r2, St', Rep.views (g := ⟨h', r', w', St'⟩) (g2 := ⟨restore ids h h', r2, w', St'⟩) (fun b B hB => ⟨by simp only [hv]; exact hB, rfl⟩) rfl (fun _ h => h) h1, h2.views hv (fun _ => rfl) rfl rfl, ?_⟩
  exact {
    len := by simp only [restore_length]; omega
    hid := fun b hb => by
      simp only at hb ⊢
      by_cases hm : b ∈ ids
      · exact ⟨by rw [hget, if_pos hm]; exact hb, by simp [r2, hm]⟩
      · have := s.hid b (by simp only; rw [hide_get, if_neg (fun h => hm h.1)]; exact hb)
        simp only [rHid, if_neg hm] at this
        exact ⟨by rw [hget, if_neg hm]; exact this.1, by simp only [r2, if_neg hm]; exact this.2⟩
    free := fun b hb hf => by
      simp only at hf ⊢
      by_cases hm : b ∈ ids
      · rw [hget, if_pos hm]; exact hf
      · rw [hget, if_neg hm]
        exact s.free b hb (by simp only; rw [hide_get, if_neg (fun h => hm h.1)]; exact hf)
    live := fun b B hB => by
      obtain ⟨B', k1, k2⟩ := s.live b B (by simp only [hv0]; exact hB)
      exact ⟨B', by simp only [hv]; exact k1, k2⟩
    keep := fun b B hB hc => by
      have := s.keep b B (by simp only [hv0]; exact hB) (hc.imp id (Or.imp id fun hh => by
        simp only at hh ⊢
        rw [hide_get]
        split
        · rfl
        · exact hh))
      exact ⟨by simp only [hv]; exact this.1, this.2⟩
    scp := fun b B B' hb hB hB' => s.scp b B B' hb (by simp only [hv0]; exact hB) (by simp only [hv] at hB'; exact hB')
    size := s.size
    old := fun c hc hw => s.old c hc fun b B hlo hB hf => by
      simp only at hB
      have hB := blk_eq.1 hB
      rw [hide_get] at hB
      split at hB
      · cases hB
      · exact hw b B hlo (blk_eq.2 hB) hf
    shp := s.shp
    img := fun b B c hB hc hlt => by
      obtain ⟨⟨B0, k1⟩, k2⟩ := s.img b B c (by simp only [hv] at hB; exact hB) hc hlt
      exact ⟨⟨B0, by simp only [hv0] at k1; exact k1⟩, k2⟩
    st := s.st
    stNew := fun c hc hs => (s.stNew c hc hs).imp id fun ⟨b, B, k1, k2, k3⟩ => ⟨b, B, k1, by simp only [hv]; exact k2, k3⟩
    os := s.os
    tape := s.tape
    output := s.output }

/-! ### Places given back -/
theorem trim_split (n : Nat) (h : Heap) : ∃ T : Heap, h = trim n h ++ T ∧ ∀ e ∈ T, e = .free := by
  refine ⟨((h.drop n).reverse.takeWhile Ent.isFree).reverse, ?_, fun e he => ?_⟩
  · unfold trim
    rw [List.append_assoc, ← List.reverse_append, List.takeWhile_append_dropWhile, List.reverse_reverse, List.take_append_drop]
  · have := List.mem_reverse.1 he
    have hp : e.isFree = true := List.all_eq_true.1 (List.all_takeWhile (p := Ent.isFree) (l := (h.drop n).reverse)) e this
    cases e <;> first | rfl | cases hp
theorem trim_ge {n : Nat} {h : Heap} (hn : n ≤ h.length) : n ≤ (trim n h).length := by
  simp [trim]
  omega
theorem vblk_trim (n : Nat) (h : Heap) (r : RM) (b : Nat) : vblk (trim n h) r b = vblk h r b := by
  obtain ⟨T, hT, hf⟩ := trim_split n h
  generalize trim n h = X at hT
  by_cases hb : b < X.length
  · exact (vblk_congr (by rw [hT]; exact List.getElem?_append_left hb) fun _ => rfl).symm
  · rw [vblk_none (.inl (List.getElem?_eq_none (by omega)))]
    refine (vblk_none ?_).symm
    rw [hT, List.getElem?_append_right (by omega)]
    cases he : T[b - X.length]? with
    | none => exact .inl rfl
    | some e => exact .inr (by rw [hf e (List.mem_of_getElem? he)])
theorem trim_get {n : Nat} {h : Heap} {b : Nat} (hb : b < n) (hn : n ≤ h.length) : (trim n h)[b]? = h[b]? := by
  unfold trim
  rw [List.getElem?_append_left (by simp; omega), List.getElem?_take, if_pos hb]

theorem step_trim {g : G} {h' : Heap} {r' : RM} {w' : World} {St' : Nat → Prop} (s : Step lo base g ⟨h', r', w', St'⟩) : Step lo base g ⟨trim g.h.length h', r', w', St'⟩ where
  len := trim_ge s.len
  hid := fun b hb => by
    have := s.hid b hb
    simp only at this ⊢
    rw [trim_get (List.getElem?_eq_some_iff.1 hb).1 s.len]
    exact this
  free := fun b hb hf => by
    simp only
    rw [trim_get (List.getElem?_eq_some_iff.1 hf).1 s.len]
    exact s.free b hb hf
  live := fun b B hB => by simp only [vblk_trim]; exact s.live b B hB
  keep := fun b B hB hc => by simp only [vblk_trim]; exact s.keep b B hB hc
  scp := fun b B B' hb hB hB' => by simp only [vblk_trim] at hB'; exact s.scp b B B' hb hB hB'
  size := s.size
  old := s.old
  shp := s.shp
  img := fun b B c hB => by simp only [vblk_trim] at hB; exact s.img b B c hB
  st := s.st
  stNew := fun c hc hs => by simp only [vblk_trim]; exact s.stNew c hc hs
  os := s.os
  tape := s.tape
  output := s.output

theorem SR.trim {N n : Nat} {h' : Heap} {r' : RM} {w' : World} {St' : Nat → Prop} {fr : Frame} {a : Act} (s : SR lo N ⟨h', r', w', St'⟩ fr a) : SR lo N ⟨Go.Abs.trim n h', r', w', St'⟩ fr a :=
  ⟨s.hr.views (fun b => vblk_trim n h' r' b) (fun _ => rfl) rfl rfl, fun t => Rep.views (g := ⟨h', r', w', St'⟩) (g2 := ⟨Go.Abs.trim n h', r', w', St'⟩) (fun b B hB => ⟨by simp only [vblk_trim]; exact hB, rfl⟩) rfl (fun _ h => h) (s.fr t), s.size, s.defers⟩

/-- Places kept free. -/
theorem region_start {N total : Nat} {g : G} {fr : Frame} {a : Act} (s : SR lo N g fr a) (hb : base ≤ g.h.length) :
    SR lo N ⟨g.h ++ List.replicate total .free, g.r, { g.w with drawn := g.w.drawn + 1 }, g.St⟩ fr a ∧ Step lo base g ⟨g.h ++ List.replicate total .free, g.r, { g.w with drawn := g.w.drawn + 1 }, g.St⟩ := by
  have hg : Grows g.w { g.w with drawn := g.w.drawn + 1 } := ⟨Nat.le_refl _, fun _ _ => rfl, rfl, rfl, rfl⟩
  have hent : ∀ b : Nat, ((g.h ++ List.replicate total .free)[b]? = g.h[b]? ∧ (∀ B, vblk g.h g.r b = some B → g.r b = g.r b)) ∨ ((g.h[b]? = none ∨ g.h[b]? = some .free) ∧ base ≤ b) := fun b => by
    by_cases hlt : b < g.h.length
    · exact .inl ⟨List.getElem?_append_left hlt, fun _ _ => rfl⟩
    · exact .inr ⟨.inl (List.getElem?_eq_none (by omega)), by omega⟩
  have hno : ∀ (b : Nat) (B : Blk), (g.h[b]? = none ∨ g.h[b]? = some .free) → vblk (g.h ++ List.replicate total .free) g.r b = some B → False := fun b B h1 h2 => by
    have : vblk (g.h ++ List.replicate total .free) g.r b = none := by
      refine vblk_none ?_
      by_cases hlt : b < g.h.length
      · rw [List.getElem?_append_left hlt]; exact h1
      · rw [List.getElem?_append_right (by omega)]
        by_cases h3 : b - g.h.length < total
        · right; rw [List.getElem?_replicate_of_lt h3]
        · left; exact List.getElem?_eq_none (by simp; omega)
    rw [this] at h2
    cases h2
  have st := grow_step (lo := lo) (base := base) (g := g) (St' := g.St) (r' := g.r) hg (by simp) rfl hent (fun b B c h1 h2 _ => (hno b B h1 h2).elim) (fun _ h => h) (fun _ _ h => h)
  refine ⟨⟨grow_hrep s.hr hg st rfl hent (fun b B c h1 h2 _ => (hno b B h1 h2).elim) (fun b B h1 h2 => (hno b B h1 h2).elim) (fun b b' B B' c h1 _ h2 _ _ _ => (hno b B h1 h2).elim) (fun _ _ h => h) (fun c hc => ⟨s.hr.stlt c hc, fun b B h1 h2 => (hno b B h1 h2).elim⟩) (fun b B h1 h2 => (hno b B h1 h2).elim), fun t => (s.fr t).step st s.hr, s.size, s.defers⟩, st⟩

end
end Go.Abs
