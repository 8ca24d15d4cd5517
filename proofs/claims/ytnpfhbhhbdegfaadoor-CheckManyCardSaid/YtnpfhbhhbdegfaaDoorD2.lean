/- Calls, by their policy. -/
import Derived.Test.YtnpfhbhhbdegfaaDoorD1
set_option linter.unusedSimpArgs false
set_option linter.unusedVariables false
namespace Go.Abs

section
variable {lo base : Nat}

theorem keepsOk_spec {keep : Bool} {h : Heap} {n : Nat} {v : AV} (e : keepsOk keep h n v = true) : (keptIds keep n v).Nodup ∧ ∀ b ∈ embIds keep h n v, b ∉ keptIds keep n v := by
  unfold keepsOk at e
  simp only [Bool.and_eq_true, decide_eq_true_eq, List.all_eq_true, Bool.not_eq_true', List.contains_eq_mem, decide_eq_false_iff_not] at e
  exact ⟨e.1, fun b hb hk => e.2 b hk hb⟩

/-- Kept blocks in their places, all else as in gM. -/
theorem finish {lo1 : Nat} {g g1 gM : G} (hr1 : HRep lo1 g1) (hM : HRep lo gM) (sM : Step lo base g gM) {n tgt : Nat} {keep : Bool} {v rr : AV} {bs : List Blk} {v1 : Value} {h3 : Heap} (hb : base ≤ tgt) (hlo1 : lo1 ≤ n)
    (hw : gM.w = g1.w) (hv : Rep g1 v v1) (hseal : sealAV keep g1.h n tgt v = some (rr, bs)) (hk : keepsOk keep g1.h n v = true) (hp : place gM.h tgt bs = some h3)
    (hF1 : ∀ (b : Nat) (B : Blk), b < n → vblk g1.h g1.r b = some B → ∃ B', vblk gM.h gM.r b = some B' ∧ B'.sz = B.sz ∧ B'.ty = B.ty ∧ B'.es.length = B.es.length ∧ gM.r b = g1.r b)
    (hnew : ∀ (b : Nat) (B : Blk) (c : Nat), n ≤ b → vblk g1.h g1.r b = some B → g1.r b = some c → g.w.heap.size ≤ c ∧ ∀ b' B', vblk gM.h gM.r b' = some B' → gM.r b' ≠ some c)
    (hst : ∀ (b : Nat) (B : Blk) (c : Nat), n ≤ b → b ∈ keptIds keep n v → vblk g1.h g1.r b = some B → B.frz = false → g1.r b = some c → ¬ gM.St c)
    (hG : ((∀ c, g1.St c → gM.St c) ∧ ∀ (b : Nat) (B : Blk) (c : Nat), n ≤ b → b ∉ keptIds keep n v → vblk g1.h g1.r b = some B → g1.r b = some c → gM.St c) ∨
      flatRes rr bs = true) : Post lo base g rr h3 v1 g1.w := by
  obtain ⟨hnd, hem⟩ := keepsOk_spec hk
  obtain ⟨p1, p2, p3, p4⟩ := place_spec hp
  let im : Nat → Option Nat := fun j => ((keptIds keep n v)[j]?).bind g1.r.im
  let gF : G := ⟨h3, rAd gM tgt bs.length im, gM.w, gM.St⟩
  have vF : ∀ {b : Nat} {B : Blk}, vblk gM.h gM.r b = some B → vblk gF.h gF.r b = some B ∧ gF.r b = gM.r b := fun {b B} hB => by
    have hn : ¬ (tgt ≤ b ∧ b < tgt + bs.length) := fun h => by
      rw [vblk_none ((p4 b h.1 h.2).symm)] at hB
      cases hB
    exact ⟨(vblk_congr (p2 b (by omega)) fun _ => rfl).trans hB, by show (rAd gM tgt bs.length im) b = _; simp only [rAd]; rw [if_neg hn]⟩
  have F1 : ∀ (b : Nat) (B : Blk), b < n → vblk g1.h g1.r b = some B → ∃ B', vblk gF.h gF.r b = some B' ∧ B'.sz = B.sz ∧ B'.ty = B.ty ∧ B'.es.length = B.es.length ∧ gF.r b = g1.r b := fun b B hlt hB => by
    obtain ⟨B', k1, k2, k3, k4, k5⟩ := hF1 b B hlt hB
    obtain ⟨m1, m2⟩ := vF k1
    exact ⟨B', m1, k2, k3, k4, m2.trans k5⟩
  have F2 : gF.w = g1.w := hw
  have hP : Placed g1 gF tgt (keptIds keep n v) bs := fun j B hB => by
    have hj := (List.getElem?_eq_some_iff.1 hB).1
    refine ⟨vblk_live (p3 j B hB), fun kb hkb => ?_⟩
    show (rAd gM tgt bs.length im) (tgt + j) = _
    simp only [rAd]
    rw [if_pos (by omega), show tgt + j - tgt = j by omega]
    simp [im, hkb]
  have HS : ∀ sz b k off len u, b < n → Rep g1 (.sl sz b k off len) u → Rep gF (.sl sz b k off len) u := fun sz b k off len u hlt hu => by
    have := Rep.under (g2 := ⟨gF.h, gF.r, gF.w, fun _ => True⟩) (n := n) (fun b B hb hB => F1 b B hb hB) F2 (fun _ _ => trivial) hu (by simp only [AV.scopd, decide_eq_true_eq]; exact hlt)
    cases this with
    | sl a1 a2 a3 a4 a5 a6 a7 => exact .sl a1 a2 a3 a4 a5 a6 a7
  have key : Rep gF rr v1 ∧ KeptAt n g1 gF tgt (keptIds keep n v) bs := by
    rcases hG with ⟨hS1, hS2⟩ | hfl
    · refine sealAV_rep (Gd := fun _ => True) (Em := fun b => n ≤ b ∧ b ∉ keptIds keep n v ∧ ∃ B, vblk g1.h g1.r b = some B) hr1 hv hseal (fun x y u hxy hu hm _ => ?_) HS F2 (fun b hb => ?_) (fun _ _ _ => trivial) (fun _ _ _ _ => trivial) hP
      · refine embed_rep hr1 (m := n) (fun hsc hx => Rep.under (n := n) F1 F2 hS1 hx hsc) hS1 (fun c _ => by rw [F2]) n n (Nat.le_refl _) (Nat.le_refl _) depth x y u hxy hu fun b hb c hc => ?_
        obtain ⟨q1, q2, B, q3⟩ := hm b hb
        exact hS2 b B c q1 q2 q3 hc
      · obtain ⟨q1, B, q2⟩ := embIds_good hb
        exact ⟨q1, hem b hb, B, vblk_of q2⟩
    · simp only [flatRes, Bool.and_eq_true, Bool.or_eq_true, List.all_eq_true] at hfl
      refine sealAV_rep (Gd := fun y => y.flat = true) (Em := fun _ => True) hr1 hv hseal (fun x y u hxy hu hm hg => ?_) HS F2 (fun _ _ => trivial) (fun x hx hn => ?_) (fun B hB e he => ?_) hP
      · have := embed_rep (g' := ⟨g1.h, g1.r, g1.w, fun _ => True⟩) hr1 (m := n) (fun _ hx => Rep.views (g := g1) (g2 := ⟨g1.h, g1.r, g1.w, fun _ => True⟩) (fun b B hB => ⟨hB, rfl⟩) rfl (fun _ _ => trivial) hx) (fun _ _ => trivial) (fun _ _ => rfl) n n (Nat.le_refl _) (Nat.le_refl _) depth x y u hxy hu fun _ _ _ _ => trivial
        exact this.flat hg
      · rcases hx with rfl | ⟨xs, rfl, hx⟩
        · rcases hfl.1 with h | h
          · exact h
          · cases x with
            | sl s b k o l => exact absurd rfl (hn s b k o l)
            | _ => cases h
        · rcases hfl.1 with h | h
          · simp only [AV.flat] at h
            obtain ⟨i, hi⟩ := List.getElem?_of_mem hx
            exact flatL_iff.1 h i x hi
          · cases h
      · obtain ⟨i, hi⟩ := List.getElem?_of_mem he
        exact flatL_iff.1 (hfl.2 B hB) i e hi
  obtain ⟨hrep, hkl, hka⟩ := key
  have hK : ∀ (j c : Nat), j < bs.length → im j = some c → ∃ kb B0, (keptIds keep n v)[j]? = some kb ∧ vblk g1.h g1.r kb = some B0 ∧ B0.frz = false ∧ n ≤ kb ∧ g1.r kb = some c := fun j c hj hc => by
    obtain ⟨kb, B0, q1, q2, q3, q4, q5, q6⟩ := hka j _ (List.getElem?_eq_getElem hj)
    refine ⟨kb, B0, q1, q2, q3, q5, ?_⟩
    simpa [im, q1] using hc
  obtain ⟨r1, r2⟩ := adopt (g := g) hM sM hp hb (im := im) (fun B hB => by
      obtain ⟨j, hj⟩ := List.getElem?_of_mem hB
      obtain ⟨kb, B0, q1, q2, q3, q4, q5, q6⟩ := hka j B hj
      exact q4) (fun j c hj hc => by
      obtain ⟨kb, B0, q1, q2, q3, q4, q5⟩ := hK j c hj hc
      obtain ⟨m1, m2⟩ := hnew kb B0 c q4 q2 q5
      exact ⟨m1, hst kb B0 c q4 (List.mem_of_getElem? q1) q2 q3 q5, m2⟩) (fun i j c hi hj hci hcj => by
      obtain ⟨kb, B0, q1, q2, q3, q4, q5⟩ := hK i c hi hci
      obtain ⟨kb', B0', q1', q2', q3', q4', q5'⟩ := hK j c hj hcj
      have := hr1.inj kb kb' B0 B0' c q2 q2' q5 q5'
      subst this
      exact (List.getElem?_inj (by rw [← hkl]; exact hi) hnd).1 (q1.trans q1'.symm)) (fun j B hB => by
      obtain ⟨kb, B0, q1, q2, q3, q4, q5, q6⟩ := hka j B hB
      exact q6)
  rw [← hw]
  exact ⟨_, _, hrep, r1, r2⟩

end
end Go.Abs
