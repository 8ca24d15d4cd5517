/- Kept blocks get their places. -/
import Derived.Test.YtnpfhbhhbdegfaaDoorC8
set_option linter.unusedSimpArgs false
set_option linter.unusedVariables false
namespace Go.Abs

section
variable {lo base : Nat}

def rAd (gM : G) (tgt k : Nat) (im : Nat → Option Nat) : RM := ⟨fun b => if tgt ≤ b ∧ b < tgt + k then im (b - tgt) else gM.r b, gM.r.hb⟩

theorem adopt {g gM : G} (hr : HRep lo gM) (s : Step lo base g gM) {tgt : Nat} {bs : List Blk} {h3 : Heap} (hp : place gM.h tgt bs = some h3) (hb : base ≤ tgt) {im : Nat → Option Nat} (hfz : ∀ B ∈ bs, B.frz = false)
    (hdis : ∀ (j c : Nat), j < bs.length → im j = some c → g.w.heap.size ≤ c ∧ ¬ gM.St c ∧ ∀ b B, vblk gM.h gM.r b = some B → gM.r b ≠ some c)
    (hinj : ∀ (i j c : Nat), i < bs.length → j < bs.length → im i = some c → im j = some c → i = j)
    (hBR : ∀ (j : Nat) (B : Blk), bs[j]? = some B → BlkRep ⟨h3, rAd gM tgt bs.length im, gM.w, gM.St⟩ (tgt + j) B) :
    HRep lo ⟨h3, rAd gM tgt bs.length im, gM.w, gM.St⟩ ∧ Step lo base g ⟨h3, rAd gM tgt bs.length im, gM.w, gM.St⟩ := by
  obtain ⟨p1, p2, p3, p4⟩ := place_spec hp
  have out : ∀ {b : Nat}, ¬ (tgt ≤ b ∧ b < tgt + bs.length) → h3[b]? = gM.h[b]? ∧ rAd gM tgt bs.length im b = gM.r b := fun {b} hb => ⟨p2 b (by omega), by simp only [rAd]; rw [if_neg hb]⟩
  have vout : ∀ {b : Nat}, ¬ (tgt ≤ b ∧ b < tgt + bs.length) → vblk h3 (rAd gM tgt bs.length im) b = vblk gM.h gM.r b := fun {b} hb => vblk_congr (out hb).1 fun _ => rfl
  have vin : ∀ {b : Nat}, tgt ≤ b → b < tgt + bs.length → vblk gM.h gM.r b = none := fun {b} h1 h2 => vblk_none ((p4 b h1 h2).symm)
  have old : ∀ {b : Nat} {B : Blk}, vblk gM.h gM.r b = some B → vblk h3 (rAd gM tgt bs.length im) b = some B ∧ rAd gM tgt bs.length im b = gM.r b := fun {b B} hB => by
    have hn : ¬ (tgt ≤ b ∧ b < tgt + bs.length) := fun h => by rw [vin h.1 h.2] at hB; cases hB
    exact ⟨(vout hn).trans hB, (out hn).2⟩
  have cls : ∀ {b : Nat} {B : Blk}, vblk h3 (rAd gM tgt bs.length im) b = some B → (vblk gM.h gM.r b = some B ∧ rAd gM tgt bs.length im b = gM.r b) ∨ (tgt ≤ b ∧ b < tgt + bs.length ∧ bs[b - tgt]? = some B ∧ rAd gM tgt bs.length im b = im (b - tgt)) := fun {b B} hB => by
    by_cases h : tgt ≤ b ∧ b < tgt + bs.length
    · refine .inr ⟨h.1, h.2, ?_, by simp only [rAd]; rw [if_pos h]⟩
      have hlt : b - tgt < bs.length := by omega
      have := vblk_live (r := rAd gM tgt bs.length im) (p3 (b - tgt) _ (List.getElem?_eq_getElem hlt))
      rw [show tgt + (b - tgt) = b by omega, hB] at this
      rw [List.getElem?_eq_getElem hlt, this]
    · rw [vout h] at hB
      exact .inl ⟨hB, (out h).2⟩
  have mrep : ∀ {x : AV} {v : Value}, Rep gM x v → Rep ⟨h3, rAd gM tgt bs.length im, gM.w, gM.St⟩ x v := fun hx =>
    Rep.views (g2 := ⟨h3, rAd gM tgt bs.length im, gM.w, gM.St⟩) (fun b B hB => old hB) rfl (fun _ h => h) hx
  refine ⟨⟨fun b B hB => ?_, fun b b' B B' c hB hB' hc hc' => ?_, fun b B c hlo hB hf hc => ?_, fun c hc => hr.stlt c hc, fun b B c hB hf hc => ?_⟩, ?_⟩
  · rcases cls hB with ⟨h1, h2⟩ | ⟨h1, h2, h3', h4⟩
    · obtain ⟨k1, k2⟩ := hr.blks b B h1
      refine ⟨fun hn => k1 (by rw [← h2]; exact hn), fun c hc => ?_⟩
      obtain ⟨cells, m1, m2, m3⟩ := k2 c (by rw [← h2]; exact hc)
      refine ⟨cells, m1, m2, fun i e he => ?_⟩
      obtain ⟨v, q1, q2, q3⟩ := m3 i e he
      exact ⟨v, mrep q1, q2, q3⟩
    · have := hBR (b - tgt) B h3'
      rwa [show tgt + (b - tgt) = b by omega] at this
  · simp only at hB hB' hc hc'
    rcases cls hB with ⟨h1, h2⟩ | ⟨h1, h2, h3', h4⟩ <;> rcases cls hB' with ⟨k1, k2⟩ | ⟨k1, k2, k3, k4⟩
    · exact hr.inj b b' B B' c h1 k1 (h2 ▸ hc) (k2 ▸ hc')
    · exact absurd (h2 ▸ hc) ((hdis _ c (by omega) (k4 ▸ hc')).2.2 b B h1)
    · exact absurd (k2 ▸ hc') ((hdis _ c (by omega) (h4 ▸ hc)).2.2 b' B' k1)
    · have := hinj _ _ c (show b - tgt < bs.length by omega) (show b' - tgt < bs.length by omega) (h4 ▸ hc) (k4 ▸ hc')
      omega
  · simp only at hB hc
    rcases cls hB with ⟨h1, h2⟩ | ⟨h1, h2, h3', h4⟩
    · exact hr.nost b B c hlo h1 hf (h2 ▸ hc)
    · exact (hdis _ c (by omega) (h4 ▸ hc)).2.1
  · simp only at hB hc
    rcases cls hB with ⟨h1, h2⟩ | ⟨h1, h2, h3', h4⟩
    · exact hr.frst b B c h1 hf (h2 ▸ hc)
    · rw [hfz B (List.mem_of_getElem? h3')] at hf
      cases hf
  · exact {
      len := Nat.le_trans s.len p1
      hid := fun b hb' => by
        obtain ⟨k1, k2⟩ := s.hid b hb'
        have hn : ¬ (tgt ≤ b ∧ b < tgt + bs.length) := fun h => by
          rcases p4 b h.1 h.2 with h5 | h5 <;> rw [h5] at k1 <;> cases k1
        exact ⟨(out hn).1.trans k1, k2⟩
      free := fun b hlt hf => by
        have hn : ¬ (tgt ≤ b ∧ b < tgt + bs.length) := by omega
        exact (out hn).1.trans (s.free b hlt hf)
      live := fun b B hB => by
        obtain ⟨B', k1, k2, k3, k4, k5, k6⟩ := s.live b B hB
        obtain ⟨m1, m2⟩ := old k1
        exact ⟨B', m1, k2, k3, k4, k5, fun he => m2.trans (k6 he)⟩
      keep := fun b B hB hc => by
        obtain ⟨k1, k2⟩ := s.keep b B hB hc
        obtain ⟨m1, m2⟩ := old k1
        exact ⟨m1, m2.trans k2⟩
      scp := fun b B B' hlt hB hB' => by
        simp only at hB'
        rcases cls hB' with ⟨h1, _⟩ | ⟨h1, _, _, _⟩
        · exact s.scp b B B' hlt hB h1
        · omega
      size := s.size
      old := s.old
      shp := s.shp
      img := fun b B c hB hc hlt => by
        simp only at hB hc
        rcases cls hB with ⟨h1, h2⟩ | ⟨h1, h2, h3', h4⟩
        · exact s.img b B c h1 (h2 ▸ hc) hlt
        · have := (hdis _ c (by omega) (h4 ▸ hc)).1
          omega
      st := s.st
      stNew := fun c hc hs => (s.stNew c hc hs).imp id fun ⟨b, B, k1, k2, k3, k4⟩ => by
        obtain ⟨m1, m2⟩ := old k2
        exact ⟨b, B, k1, m1, k3, m2.trans k4⟩
      os := s.os
      tape := s.tape
      output := s.output }

theorem slIds_good (h : Heap) (ns : Nat) : ∀ (d : Nat) (x : AV) (b : Nat), b ∈ slIds h ns d x → ∃ B, blk h b = some B
  | 0, x, b, hb => by simp [slIds] at hb
  | d + 1, x, b, hb => by
    have ih := slIds_good h ns d
    have fm : ∀ xs : List AV, b ∈ xs.flatMap (slIds h ns d) → ∃ B, blk h b = some B := fun xs hx => by
      obtain ⟨y, _, hy⟩ := List.mem_flatMap.1 hx
      exact ih y b hy
    simp only [slIds] at hb
    split at hb
    · cases hb
    · split at hb
      · split at hb
        · cases hb
        · split at hb
          · rename_i B hB
            split at hb
            · simp only [List.mem_singleton] at hb; subst hb; exact ⟨B, (good_eq.1 hB).1⟩
            · rcases List.mem_cons.1 hb with rfl | hb
              · exact ⟨B, (good_eq.1 hB).1⟩
              · exact fm _ hb
          · cases hb
      · split at hb
        · cases hb
        · split at hb
          · rename_i B hB
            split at hb
            · split at hb
              · simp only [List.mem_singleton] at hb; subst hb; exact ⟨B, (good_eq.1 hB).1⟩
              · rcases List.mem_cons.1 hb with rfl | hb
                · exact ⟨B, (good_eq.1 hB).1⟩
                · exact ih _ _ hb
            · cases hb
          · cases hb
      · exact fm _ hb
      · exact fm _ hb
      · exact fm _ hb
      · rcases List.mem_append.1 hb with hb | hb
        · exact fm _ hb
        · exact fm _ hb
      · cases hb

theorem embIds_good {keep : Bool} {h : Heap} {n : Nat} {v : AV} {b : Nat} (hb : b ∈ embIds keep h n v) : n ≤ b ∧ ∃ B, blk h b = some B := by
  have one : ∀ {k : Bool} {x : AV}, b ∈ embIds1 k h n x → n ≤ b ∧ ∃ B, blk h b = some B := fun {k x} hx => by
    unfold embIds1 at hx
    split at hx
    · split at hx
      · split at hx
        · split at hx
          · cases hx
          · obtain ⟨y, _, hy⟩ := List.mem_flatMap.1 hx
            exact ⟨slIds_ge _ _ _ _ _ hy, slIds_good _ _ _ _ _ hy⟩
        · cases hx
      · cases hx
    · exact ⟨slIds_ge _ _ _ _ _ hx, slIds_good _ _ _ _ _ hx⟩
  unfold embIds at hb
  split at hb
  · obtain ⟨y, _, hy⟩ := List.mem_flatMap.1 hb
    exact one hy
  · exact one hb

end
end Go.Abs
