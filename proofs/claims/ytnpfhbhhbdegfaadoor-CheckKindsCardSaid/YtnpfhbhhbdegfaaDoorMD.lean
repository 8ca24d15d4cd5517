/- What a call made is dropped, but for what is kept. -/
import Derived.Test.YtnpfhbhhbdegfaaDoorMC
set_option linter.unusedSimpArgs false
set_option linter.unusedVariables false
namespace Go.Abs

section
variable {lo base : Nat}

/-- What stays as it is from now on: all that nothing leads to any more. -/
def StDrop (n : Nat) (K : List Nat) (g1 : G) (c : Nat) : Prop := g1.St c ∨ ∃ b B, n ≤ b ∧ vblk g1.h g1.r b = some B ∧ g1.r b = some c ∧ b ∉ K

theorem take_get (h : Heap) (n b : Nat) : (h.take n)[b]? = if b < n then h[b]? else none := by
  rw [List.getElem?_take]
theorem vblk_take (h : Heap) (r : RM) (n b : Nat) : vblk (h.take n) r b = if b < n then vblk h r b else none := by
  split
  · rename_i hb
    exact vblk_congr (by rw [take_get, if_pos hb]) fun _ => rfl
  · rename_i hb
    exact vblk_none (.inl (by rw [take_get, if_neg hb]))

/-- Behind a call that may write below n: what lies below n is what lay there. -/
theorem below_back {g g1 : G} {lo' : Nat} (s : Step lo' g.h.length g g1) {b : Nat} {B : Blk} (hb : b < g.h.length) (h : vblk g1.h g1.r b = some B) : ∃ B0, vblk g.h g.r b = some B0 := by
  cases he : g.h[b]? with
  | none => exact absurd (List.getElem?_eq_none_iff.1 he) (by omega)
  | some e =>
    cases e with
    | free =>
      have := s.free b hb he
      rw [vblk_none (.inr this)] at h
      cases h
    | hid =>
      obtain ⟨k1, k2⟩ := s.hid b he
      refine ⟨B, ?_⟩
      have h2 : g1.r.hb b = some B := by simpa [vblk, k1] using h
      simp [vblk, he, ← k2, h2]
    | live C => exact ⟨C, vblk_live he⟩
theorem below_scopd {g g1 : G} {lo' lo0 : Nat} (hr : HRep lo0 g) (s : Step lo' g.h.length g g1) {b : Nat} {B : Blk} (hb : b < g.h.length) (h : vblk g1.h g1.r b = some B) : AV.scopdL g.h.length B.es = true := by
  obtain ⟨B0, h0⟩ := below_back s hb h
  refine s.scp b B0 B hb h0 h _ (scopdL_iff.2 fun i x hx => ?_)
  obtain ⟨k1, k2⟩ := hr.blks b B0 h0
  cases hc : g.r b with
  | none => rw [k1 hc] at hx; simp at hx
  | some c =>
    obtain ⟨cells, _, _, k3⟩ := k2 c hc
    obtain ⟨u, u1, _⟩ := k3 i x hx
    exact u1.scopd

theorem img_lt {lo0 : Nat} {g : G} (hr : HRep lo0 g) {b c : Nat} {B : Blk} (hB : vblk g.h g.r b = some B) (hc : g.r b = some c) : c < g.w.heap.size := by
  obtain ⟨cells, h1, _⟩ := (hr.blks b B hB).2 c hc
  exact (Array.getElem?_eq_some_iff.1 h1).1

theorem truncate {g g1 : G} (hr : HRep lo g) (hr1 : HRep lo g1) (s : Step lo g.h.length g g1) (hb : base ≤ g.h.length) (K : List Nat) :
    HRep lo ⟨g1.h.take g.h.length, g1.r, g1.w, StDrop g.h.length K g1⟩ ∧ Step lo base g ⟨g1.h.take g.h.length, g1.r, g1.w, StDrop g.h.length K g1⟩ := by
  have hv : ∀ {b : Nat} {B : Blk}, vblk (g1.h.take g.h.length) g1.r b = some B → b < g.h.length ∧ vblk g1.h g1.r b = some B := fun {b B} h => by
    rw [vblk_take] at h
    split at h
    · exact ⟨by assumption, h⟩
    · cases h
  have hv2 : ∀ {b : Nat} {B : Blk}, b < g.h.length → vblk g1.h g1.r b = some B → vblk (g1.h.take g.h.length) g1.r b = some B := fun {b B} hb h => by rw [vblk_take, if_pos hb]; exact h
  have mrep : ∀ {x : AV} {v : Value}, Rep g1 x v → x.scopd g.h.length = true → Rep ⟨g1.h.take g.h.length, g1.r, g1.w, StDrop g.h.length K g1⟩ x v := fun hx hsc =>
    Rep.under (g2 := ⟨g1.h.take g.h.length, g1.r, g1.w, StDrop g.h.length K g1⟩) (fun b B hlt hB => ⟨B, hv2 hlt hB, rfl, rfl, rfl, rfl⟩) rfl (fun c hc => .inl hc) hx hsc
  refine ⟨⟨fun b B hB => ?_, fun b b' B B' c hB hB' hc hc' => ?_, fun b B c hlo hB hf hc hS => ?_, fun c hc => ?_, fun b B c hB hf hc => ?_⟩, ?_⟩
  · obtain ⟨h1, h2⟩ := hv hB
    obtain ⟨k1, k2⟩ := hr1.blks b B h2
    refine ⟨k1, fun c hc => ?_⟩
    obtain ⟨cells, m1, m2, m3⟩ := k2 c hc
    refine ⟨cells, m1, m2, fun i e he => ?_⟩
    obtain ⟨v, q1, q2, q3⟩ := m3 i e he
    exact ⟨v, mrep q1 (scopdL_iff.1 (below_scopd hr s h1 h2) i e he), q2, q3⟩
  · exact hr1.inj b b' B B' c (hv hB).2 (hv hB').2 hc hc'
  · obtain ⟨h1, h2⟩ := hv hB
    rcases hS with hS | ⟨b', B', q1, q2, q3, _⟩
    · exact hr1.nost b B c hlo h2 hf hc hS
    · have := hr1.inj b b' B B' c h2 q2 hc q3
      omega
  · rcases hc with hc | ⟨b', B', q1, q2, q3, _⟩
    · exact hr1.stlt c hc
    · exact img_lt hr1 q2 q3
  · exact .inl (hr1.frst b B c (hv hB).2 hf hc)
  · exact {
      len := by simp; have := s.len; omega
      hid := fun b hb' => by
        obtain ⟨k1, k2⟩ := s.hid b hb'
        exact ⟨by simp only; rw [take_get, if_pos (List.getElem?_eq_some_iff.1 hb').1]; exact k1, k2⟩
      free := fun b hlt hf => by
        simp only
        rw [take_get, if_pos (List.getElem?_eq_some_iff.1 hf).1]
        exact s.free b (by omega) hf
      live := fun b B hB => by
        obtain ⟨B', k1, k2⟩ := s.live b B hB
        exact ⟨B', hv2 (vblk_lt hB) k1, k2⟩
      keep := fun b B hB hc => by
        obtain ⟨k1, k2⟩ := s.keep b B hB hc
        exact ⟨hv2 (vblk_lt hB) k1, k2⟩
      scp := fun b B B' hlt hB hB' => s.scp b B B' (by omega) hB (hv hB').2
      size := s.size
      old := s.old
      shp := s.shp
      img := fun b B c hB => s.img b B c (hv hB).2
      st := fun c hc => .inl (s.st c hc)
      stNew := fun c hc hs => by
        rcases hs with hs | ⟨b', B', q1, q2, q3, _⟩
        · rcases s.stNew c hc hs with h | ⟨b, B, k1, k2, k3, k4⟩
          · exact .inl h
          · obtain ⟨⟨B0, h0⟩, _⟩ := s.img b B c k2 k4 hc
            exact .inr ⟨b, B, k1, hv2 (vblk_lt h0) k2, k3, k4⟩
        · obtain ⟨⟨B0, h0⟩, _⟩ := s.img b' B' c q2 q3 hc
          have := vblk_lt h0
          omega
      os := s.os
      tape := s.tape
      output := s.output }

end
end Go.Abs

/- Calls, by their policy. -/
set_option linter.unusedSimpArgs false
set_option linter.unusedVariables false
namespace Go.Abs

section
variable {lo base : Nat}

theorem keepsOk_spec {keep : Bool} {h : Heap} {n : Nat} {v : AV} (e : keepsOk keep h n v = true) : (keptIds keep n v).Nodup ∧ ∀ b ∈ embIds keep h n v, b ∉ keptIds keep n v := by
  unfold keepsOk at e
  simp only [Bool.and_eq_true, decide_eq_true_eq, List.all_eq_true, Bool.not_eq_true', List.contains_eq_mem, decide_eq_false_iff_not] at e
  exact ⟨e.1, fun b hb hk => e.2 b hk hb⟩

/-- Kept blocks in their places, all else as in gM. -/
theorem finish {lo1 : Nat} {g g1 gM : G} (hr1 : HRep lo1 g1) (hM : HRep lo gM) (sM : Step lo base g gM) {n tgt : Nat} {keep : Bool} {v rr : AV} {bs : List Blk} {v1 : Value} {h3 : Heap} (hb : base ≤ tgt) (hlo1 : lo1 ≤ n)
    (hw : gM.w = g1.w) (hv : Rep g1 v v1) (hseal : sealAV keep g1.h n tgt v = some (rr, bs)) (hk : keepsOk keep g1.h n v = true) (hp : place gM.h tgt bs = some h3)
    (hF1 : ∀ (b : Nat) (B : Blk), b < n → vblk g1.h g1.r b = some B → ∃ B', vblk gM.h gM.r b = some B' ∧ B'.sz = B.sz ∧ B'.ty = B.ty ∧ B'.es.length = B.es.length ∧ gM.r b = g1.r b)
    (hnew : ∀ (b : Nat) (B : Blk) (c : Nat), n ≤ b → vblk g1.h g1.r b = some B → g1.r b = some c → g.w.heap.size ≤ c ∧ ∀ b' B', vblk gM.h gM.r b' = some B' → gM.r b' ≠ some c)
    (hst : ∀ (b : Nat) (B : Blk) (c : Nat), n ≤ b → b ∈ keptIds keep n v → vblk g1.h g1.r b = some B → B.frz = false → g1.r b = some c → ¬ gM.St c)
    (hG : ((∀ c, g1.St c → gM.St c) ∧ ∀ (b : Nat) (B : Blk) (c : Nat), n ≤ b → b ∉ keptIds keep n v → vblk g1.h g1.r b = some B → g1.r b = some c → gM.St c) ∨
      flatRes rr bs = true) : Post lo base g rr h3 v1 g1.w := by
  obtain ⟨hnd, hem⟩ := keepsOk_spec hk
  obtain ⟨p1, p2, p3, p4⟩ := place_spec hp
  let im : Nat → Option Nat := fun j => ((keptIds keep n v)[j]?).bind g1.r.im
  let gF : G := ⟨h3, rAd gM tgt bs.length im, gM.w, gM.St⟩
  have vF : ∀ {b : Nat} {B : Blk}, vblk gM.h gM.r b = some B → vblk gF.h gF.r b = some B ∧ gF.r b = gM.r b := fun {b B} hB => by
    have hn : ¬ (tgt ≤ b ∧ b < tgt + bs.length) := fun h => by
      rw [vblk_none ((p4 b h.1 h.2).symm)] at hB
      cases hB
    exact ⟨(vblk_congr (p2 b (by omega)) fun _ => rfl).trans hB, by show (rAd gM tgt bs.length im) b = _; simp only [rAd]; rw [if_neg hn]⟩
  have F1 : ∀ (b : Nat) (B : Blk), b < n → vblk g1.h g1.r b = some B → ∃ B', vblk gF.h gF.r b = some B' ∧ B'.sz = B.sz ∧ B'.ty = B.ty ∧ B'.es.length = B.es.length ∧ gF.r b = g1.r b := fun b B hlt hB => by
    obtain ⟨B', k1, k2, k3, k4, k5⟩ := hF1 b B hlt hB
    obtain ⟨m1, m2⟩ := vF k1
    exact ⟨B', m1, k2, k3, k4, m2.trans k5⟩
  have F2 : gF.w = g1.w := hw
  have hP : Placed g1 gF tgt (keptIds keep n v) bs := fun j B hB => by
    have hj := (List.getElem?_eq_some_iff.1 hB).1
    refine ⟨vblk_live (p3 j B hB), fun kb hkb => ?_⟩
    show (rAd gM tgt bs.length im) (tgt + j) = _
    simp only [rAd]
    rw [if_pos (by omega), show tgt + j - tgt = j by omega]
    simp [im, hkb]
  have HS : ∀ sz b k off len u, b < n → Rep g1 (.sl sz b k off len) u → Rep gF (.sl sz b k off len) u := fun sz b k off len u hlt hu => by
    have := Rep.under (g2 := ⟨gF.h, gF.r, gF.w, fun _ => True⟩) (n := n) (fun b B hb hB => F1 b B hb hB) F2 (fun _ _ => trivial) hu (by simp only [AV.scopd, decide_eq_true_eq]; exact hlt)
    cases this with
    | sl a1 a2 a3 a4 a5 a6 a7 => exact .sl a1 a2 a3 a4 a5 a6 a7
  have key : Rep gF rr v1 ∧ KeptAt n g1 gF tgt (keptIds keep n v) bs := by
    rcases hG with ⟨hS1, hS2⟩ | hfl
    · refine sealAV_rep (Gd := fun _ => True) (Em := fun b => n ≤ b ∧ b ∉ keptIds keep n v ∧ ∃ B, vblk g1.h g1.r b = some B) hr1 hv hseal (fun x y u hxy hu hm _ => ?_) HS F2 (fun b hb => ?_) (fun _ _ _ => trivial) (fun _ _ _ _ => trivial) hP
      · refine embed_rep hr1 (m := n) (fun hsc hx => Rep.under (n := n) F1 F2 hS1 hx hsc) hS1 (fun c _ => by rw [F2]) n n (Nat.le_refl _) (Nat.le_refl _) depth x y u hxy hu fun b hb c hc => ?_
        obtain ⟨q1, q2, B, q3⟩ := hm b hb
        exact hS2 b B c q1 q2 q3 hc
      · obtain ⟨q1, B, q2⟩ := embIds_good hb
        exact ⟨q1, hem b hb, B, vblk_of q2⟩
    · simp only [flatRes, Bool.and_eq_true, Bool.or_eq_true, List.all_eq_true] at hfl
      refine sealAV_rep (Gd := fun y => y.flat = true) (Em := fun _ => True) hr1 hv hseal (fun x y u hxy hu hm hg => ?_) HS F2 (fun _ _ => trivial) (fun x hx hn => ?_) (fun B hB e he => ?_) hP
      · have := embed_rep (g' := ⟨g1.h, g1.r, g1.w, fun _ => True⟩) hr1 (m := n) (fun _ hx => Rep.views (g := g1) (g2 := ⟨g1.h, g1.r, g1.w, fun _ => True⟩) (fun b B hB => ⟨hB, rfl⟩) rfl (fun _ _ => trivial) hx) (fun _ _ => trivial) (fun _ _ => rfl) n n (Nat.le_refl _) (Nat.le_refl _) depth x y u hxy hu fun _ _ _ _ => trivial
        exact this.flat hg
      · rcases hx with rfl | ⟨xs, rfl, hx⟩
        · rcases hfl.1 with h | h
          · exact h
          · cases x with
            | sl s b k o l => exact absurd rfl (hn s b k o l)
            | _ => cases h
        · rcases hfl.1 with h | h
          · simp only [AV.flat] at h
            obtain ⟨i, hi⟩ := List.getElem?_of_mem hx
            exact flatL_iff.1 h i x hi
          · cases h
      · obtain ⟨i, hi⟩ := List.getElem?_of_mem he
        exact flatL_iff.1 (hfl.2 B hB) i e hi
  obtain ⟨hrep, hkl, hka⟩ := key
  have hK : ∀ (j c : Nat), j < bs.length → im j = some c → ∃ kb B0, (keptIds keep n v)[j]? = some kb ∧ vblk g1.h g1.r kb = some B0 ∧ B0.frz = false ∧ n ≤ kb ∧ g1.r kb = some c := fun j c hj hc => by
    obtain ⟨kb, B0, q1, q2, q3, q4, q5, q6⟩ := hka j _ (List.getElem?_eq_getElem hj)
    refine ⟨kb, B0, q1, q2, q3, q5, ?_⟩
    simpa [im, q1] using hc
  obtain ⟨r1, r2⟩ := adopt (g := g) hM sM hp hb (im := im) (fun B hB => by
      obtain ⟨j, hj⟩ := List.getElem?_of_mem hB
      obtain ⟨kb, B0, q1, q2, q3, q4, q5, q6⟩ := hka j B hj
      exact q4) (fun j c hj hc => by
      obtain ⟨kb, B0, q1, q2, q3, q4, q5⟩ := hK j c hj hc
      obtain ⟨m1, m2⟩ := hnew kb B0 c q4 q2 q5
      exact ⟨m1, hst kb B0 c q4 (List.mem_of_getElem? q1) q2 q3 q5, m2⟩) (fun i j c hi hj hci hcj => by
      obtain ⟨kb, B0, q1, q2, q3, q4, q5⟩ := hK i c hi hci
      obtain ⟨kb', B0', q1', q2', q3', q4', q5'⟩ := hK j c hj hcj
      have := hr1.inj kb kb' B0 B0' c q2 q2' q5 q5'
      subst this
      exact (List.getElem?_inj (by rw [← hkl]; exact hi) hnd).1 (q1.trans q1'.symm)) (fun j B hB => by
      obtain ⟨kb, B0, q1, q2, q3, q4, q5, q6⟩ := hka j B hB
      exact q6)
  rw [← hw]
  exact ⟨_, _, hrep, r1, r2⟩

end
end Go.Abs

/- Calls do what their abstract answers say. -/
set_option linter.unusedSimpArgs false
set_option linter.unusedVariables false
namespace Go.Abs

section
variable {P : Program} {lo base : Nat}

def BodySound (P : Program) (f : Nat) (body : Nat → Nat → List AV → Heap → Option (AV × Heap)) : Prop :=
  ∀ (lo base : Nat) (args : List AV) (g : G) (vals : Array Value) (v : AV) (h1 : Heap), lo ≤ base → base ≤ g.h.length → HRep lo g → RepL g args vals → body lo base args g.h = some (v, h1) → Calls P f vals g.w (Back (Post lo base g v h1))

theorem Back.mono {R R' : Value → World → Prop} (h : ∀ v w, R v w → R' v w) : ∀ e w, Back R e w → Back R' e w := fun e w he => by
  cases e <;> first | exact h _ _ he | exact he

/-- The part below k of a state, turned by a call, in its place again. -/
def glueR (k : Nat) (r1 r : RM) : RM := ⟨fun b => if b < k then r1 b else r b, fun b => if b < k then r1.hb b else r.hb b⟩
theorem glue_get {h1 h2 : Heap} {k : Nat} (hl : h1.length = k) (hk : k ≤ h2.length) (b : Nat) : (h1 ++ h2.drop k)[b]? = if b < k then h1[b]? else h2[b]? := by
  split
  · exact List.getElem?_append_left (by omega)
  · rw [List.getElem?_append_right (by omega), List.getElem?_drop]
    congr 1
    omega
theorem vblk_glue {h1 h2 : Heap} {r1 r : RM} {k : Nat} (hl : h1.length = k) (hk : k ≤ h2.length) (b : Nat) : vblk (h1 ++ h2.drop k) (glueR k r1 r) b = if b < k then vblk h1 r1 b else vblk h2 r b := by
  have := glue_get hl hk b
  split at this
  · rename_i hb
    rw [if_pos hb]
    exact vblk_congr this fun _ => by simp [glueR, hb]
  · rename_i hb
    rw [if_neg hb]
    exact vblk_congr this fun _ => by simp [glueR, hb]

theorem glue {g2 gT : G} {k : Nat} (hk : k ≤ g2.h.length) (hl : gT.h.length = k) (h2 : HRep lo g2) (hT : HRep lo gT) (s : Step lo (min base k) ⟨g2.h.take k, g2.r, g2.w, g2.St⟩ gT) :
    HRep lo ⟨gT.h ++ g2.h.drop k, glueR k gT.r g2.r, gT.w, gT.St⟩ ∧ Step lo base g2 ⟨gT.h ++ g2.h.drop k, glueR k gT.r g2.r, gT.w, gT.St⟩ := by
  have vk : ∀ b, vblk (g2.h.take k) g2.r b = if b < k then vblk g2.h g2.r b else none := fun b => vblk_take g2.h g2.r k b
  have vM : ∀ b, vblk (gT.h ++ g2.h.drop k) (glueR k gT.r g2.r) b = if b < k then vblk gT.h gT.r b else vblk g2.h g2.r b := fun b => vblk_glue hl hk b
  have rM : ∀ b, (glueR k gT.r g2.r) b = if b < k then gT.r b else g2.r b := fun b => rfl
  have bk : ∀ {b : Nat} {B : Blk}, vblk gT.h gT.r b = some B → b < k := fun {b B} h => by have := vblk_lt h; omega
  have iT : ∀ {b : Nat} {B : Blk} {c : Nat}, vblk gT.h gT.r b = some B → gT.r b = some c → c < g2.w.heap.size → (∃ B0, vblk g2.h g2.r b = some B0) ∧ g2.r b = some c := fun {b B c} hB hc hlt => by
    obtain ⟨⟨B0, h0⟩, h1⟩ := s.img b B c hB hc hlt
    have h0 : vblk (g2.h.take k) g2.r b = some B0 := h0
    rw [vk, if_pos (bk hB)] at h0
    exact ⟨⟨B0, h0⟩, h1⟩
  have st : Step lo base g2 ⟨gT.h ++ g2.h.drop k, glueR k gT.r g2.r, gT.w, gT.St⟩ := {
    len := by simp [hl]; omega
    hid := fun b hb => by
      simp only [glue_get hl hk]
      split
      · rename_i hlt
        have := s.hid b (by simp only; rw [take_get, if_pos hlt]; exact hb)
        refine ⟨this.1, ?_⟩
        simp only [glueR, if_pos hlt]
        exact this.2
      · rename_i hlt
        refine ⟨hb, ?_⟩
        simp only [glueR, if_neg hlt]
    free := fun b hlt hf => by
      simp only [glue_get hl hk]
      split
      · rename_i hlt'
        exact s.free b (by omega) (by simp only; rw [take_get, if_pos hlt']; exact hf)
      · exact hf
    live := fun b B hB => by
      by_cases hlt : b < k
      · obtain ⟨B', h1, h2, h3, h4, h5, h6⟩ := s.live b B (by simp only; rw [vk, if_pos hlt]; exact hB)
        exact ⟨B', by simp only; rw [vM, if_pos hlt]; exact h1, h2, h3, h4, h5, fun e => by simp only; rw [rM, if_pos hlt]; exact h6 e⟩
      · exact ⟨B, by simp only; rw [vM, if_neg hlt]; exact hB, rfl, rfl, id, Nat.le_refl _, fun _ => by simp only; rw [rM, if_neg hlt]⟩
    keep := fun b B hB hc => by
      simp only
      rw [vM, rM]
      by_cases hlt : b < k
      · rw [if_pos hlt, if_pos hlt]
        refine s.keep b B (by simp only; rw [vk, if_pos hlt]; exact hB) (hc.imp id (Or.imp id fun h => ?_))
        simp only
        rw [take_get, if_pos hlt]
        exact h
      · rw [if_neg hlt, if_neg hlt]
        exact ⟨hB, rfl⟩
    scp := fun b B B' hlt hB hB' n hn => by
      simp only at hB'
      rw [vM] at hB'
      split at hB'
      · rename_i hlt'
        exact s.scp b B B' (by omega) (by simp only; rw [vk, if_pos hlt']; exact hB) hB' n hn
      · rw [hB] at hB'
        cases hB'
        exact hn
    size := s.size
    old := fun c hc h => s.old c hc fun b B hlo hB hf => h b B hlo (by
      have hB : blk (g2.h.take k) b = some B := hB
      rw [blk_eq, take_get] at hB
      split at hB
      · exact blk_eq.2 hB
      · cases hB) hf
    shp := s.shp
    img := fun b B c hB hc hlt => by
      simp only at hB hc
      rw [vM] at hB
      rw [rM] at hc
      split at hB
      · rename_i hb
        rw [if_pos hb] at hc
        exact iT hB hc hlt
      · rename_i hb
        rw [if_neg hb] at hc
        exact ⟨⟨B, hB⟩, hc⟩
    st := s.st
    stNew := fun c hc hs => (s.stNew c hc hs).imp id fun ⟨b, B, k1, k2, k3, k4⟩ => by
      refine ⟨b, B, k1, ?_, k3, ?_⟩
      · simp only
        rw [vM, if_pos (bk k2)]
        exact k2
      · simp only
        rw [rM, if_pos (bk k2)]
        exact k4
    os := s.os
    tape := s.tape
    output := s.output }
  refine ⟨⟨fun b B hB => ?_, fun b b' B B' c hB hB' hc hc' => ?_, fun b B c hlo hB hf hc hS => ?_, hT.stlt, fun b B c hB hf hc => ?_⟩, st⟩
  · simp only at hB
    rw [vM] at hB
    split at hB
    · rename_i hlt
      obtain ⟨k1, k2⟩ := hT.blks b B hB
      refine ⟨fun hn => k1 ?_, fun c hc => ?_⟩
      · have hn : (glueR k gT.r g2.r) b = none := hn
        rwa [rM, if_pos hlt] at hn
      · have hc : (glueR k gT.r g2.r) b = some c := hc
        rw [rM, if_pos hlt] at hc
        obtain ⟨cells, m1, m2, m3⟩ := k2 c hc
        refine ⟨cells, m1, m2, fun i e he => ?_⟩
        obtain ⟨u, q1, q2, q3⟩ := m3 i e he
        exact ⟨u, Rep.under (g := gT) (g2 := ⟨gT.h ++ g2.h.drop k, glueR k gT.r g2.r, gT.w, gT.St⟩) (n := k) (fun b B hb hB => ⟨B, by simp only; rw [vM, if_pos hb]; exact hB, rfl, rfl, rfl, by simp only; rw [rM, if_pos hb]⟩) rfl (fun _ h => h) q1 (by rw [← hl]; exact q1.scopd), q2, q3⟩
    · rename_i hlt
      obtain ⟨k1, k2⟩ := h2.blks b B hB
      refine ⟨fun hn => k1 ?_, fun c hc => ?_⟩
      · have hn : (glueR k gT.r g2.r) b = none := hn
        rwa [rM, if_neg hlt] at hn
      · have hc : (glueR k gT.r g2.r) b = some c := hc
        rw [rM, if_neg hlt] at hc
        obtain ⟨cells, m1, m2, m3⟩ := k2 c hc
        have hcl := img_lt h2 hB hc
        refine ⟨cells, ?_, m2, fun i e he => ?_⟩
        · have : gT.w.heap[c]? = g2.w.heap[c]? := s.old c hcl fun b' B' hlo' hB' _ hc' => by
            have hB' : blk (g2.h.take k) b' = some B' := hB'
            have hv := vblk_of (r := g2.r) hB'
            rw [vk] at hv
            split at hv
            · rename_i hb'
              have := h2.inj b b' B B' c hB hv hc hc'
              omega
            · cases hv
          simp only
          rw [this]
          exact m1
        · obtain ⟨u, q1, q2, q3⟩ := m3 i e he
          exact ⟨u, q1.step st h2, q2, q3⟩
  · simp only at hB hB' hc hc'
    rw [vM] at hB hB'
    rw [rM] at hc hc'
    by_cases hb : b < k <;> by_cases hb' : b' < k
    · rw [if_pos hb] at hB hc
      rw [if_pos hb'] at hB' hc'
      exact hT.inj b b' B B' c hB hB' hc hc'
    · rw [if_pos hb] at hB hc
      rw [if_neg hb'] at hB' hc'
      obtain ⟨⟨B0, h0⟩, h1⟩ := iT hB hc (img_lt h2 hB' hc')
      exact h2.inj b b' B0 B' c h0 hB' h1 hc'
    · rw [if_neg hb] at hB hc
      rw [if_pos hb'] at hB' hc'
      obtain ⟨⟨B0, h0⟩, h1⟩ := iT hB' hc' (img_lt h2 hB hc)
      exact h2.inj b b' B B0 c hB h0 hc h1
    · rw [if_neg hb] at hB hc
      rw [if_neg hb'] at hB' hc'
      exact h2.inj b b' B B' c hB hB' hc hc'
  · simp only at hB hc hS
    rw [vM] at hB
    rw [rM] at hc
    split at hB
    · rename_i hb
      rw [if_pos hb] at hc
      exact hT.nost b B c hlo hB hf hc hS
    · rename_i hb
      rw [if_neg hb] at hc
      rcases s.stNew c (img_lt h2 hB hc) hS with h | ⟨b', B', q1, q2, q3, q4⟩
      · exact h2.nost b B c hlo hB hf hc h
      · obtain ⟨⟨B0, h0⟩, h1⟩ := iT q2 q4 (img_lt h2 hB hc)
        have := h2.inj b b' B B0 c hB h0 hc h1
        have := bk q2
        omega
  · simp only at hB hc
    rw [vM] at hB
    rw [rM] at hc
    split at hB
    · rename_i hb
      rw [if_pos hb] at hc
      exact hT.frst b B c hB hf hc
    · rename_i hb
      rw [if_neg hb] at hc
      exact s.st c (h2.frst b B c hB hf hc)

theorem lowOk_spec {k : Nat} {h : Heap} (e : lowOk k h = true) : k ≤ h.length ∧ ∀ (b : Nat) (r : RM) (B : Blk), b < k → vblk h r b = some B → AV.scopdL k B.es = true := by
  simp only [lowOk, Bool.and_eq_true, decide_eq_true_eq, List.all_eq_true] at e
  refine ⟨e.1, fun b r B hb hB => ?_⟩
  cases hx : h[b]? with
  | none => rw [vblk_none (.inl hx)] at hB; cases hB
  | some x =>
    have := e.2 x (List.mem_of_getElem? (i := b) (by rw [take_get, if_pos hb]; exact hx))
    cases x with
    | free => rw [vblk_none (.inr hx)] at hB; cases hB
    | hid => simp at this
    | live C =>
      rw [vblk_live hx] at hB
      cases hB
      exact this

/-- The part below k of a state. -/
theorem low_ok {g : G} {k : Nat} (hr : HRep lo g) (e : lowOk k g.h = true) : HRep lo ⟨g.h.take k, g.r, g.w, g.St⟩ ∧ ∀ {x : AV} {v : Value}, x.scopd k = true → Rep g x v → Rep ⟨g.h.take k, g.r, g.w, g.St⟩ x v := by
  obtain ⟨hk, hsc⟩ := lowOk_spec e
  have vk : ∀ {b : Nat} {B : Blk}, vblk (g.h.take k) g.r b = some B → b < k ∧ vblk g.h g.r b = some B := fun {b B} h => by
    rw [vblk_take] at h
    split at h
    · exact ⟨by assumption, h⟩
    · cases h
  have mv : ∀ {x : AV} {v : Value}, x.scopd k = true → Rep g x v → Rep ⟨g.h.take k, g.r, g.w, g.St⟩ x v := fun hs hx =>
    Rep.under (g := g) (g2 := ⟨g.h.take k, g.r, g.w, g.St⟩) (n := k) (fun b B hb hB => ⟨B, by simp only; rw [vblk_take, if_pos hb]; exact hB, rfl, rfl, rfl, rfl⟩) rfl (fun _ h => h) hx hs
  refine ⟨⟨fun b B hB => ?_, fun b b' B B' c hB hB' hc hc' => hr.inj b b' B B' c (vk hB).2 (vk hB').2 hc hc', fun b B c hlo hB hf hc => hr.nost b B c hlo (vk hB).2 hf hc, hr.stlt, fun b B c hB hf hc => hr.frst b B c (vk hB).2 hf hc⟩, mv⟩
  obtain ⟨k1, k2⟩ := hr.blks b B (vk hB).2
  refine ⟨k1, fun c hc => ?_⟩
  obtain ⟨cells, m1, m2, m3⟩ := k2 c hc
  refine ⟨cells, m1, m2, fun i x hx => ?_⟩
  obtain ⟨u, q1, q2, q3⟩ := m3 i x hx
  exact ⟨u, mv (scopdL_iff.1 (hsc b g.r B (vk hB).1 (vk hB).2) i x hx) q1, q2, q3⟩

theorem RepL.canon {g : G} {xs : List AV} {vs : Array Value} (h : RepL g xs vs) : RepL g (xs.map AV.canon) vs := by
  refine ⟨by simpa using h.1, fun j x v hx hv => ?_⟩
  rw [List.getElem?_map, Option.map_eq_some_iff] at hx
  obtain ⟨y, hy, rfl⟩ := hx
  exact (h.2 j y v hy hv).canon

theorem Post.canon {keep : Bool} {g : G} {v : AV} {h' : Heap} {v' : Value} {w' : World} (h : Post lo base g v h' v' w') : Post lo base g (canonR keep v) h' v' w' := by
  obtain ⟨r, S, h1, h2, h3⟩ := h
  exact ⟨r, S, h1.canonR, h2, h3⟩

theorem callPol_sound {f : Nat} {p : Pol} {body : Nat → Nat → List AV → Heap → Option (AV × Heap)} (hbody : BodySound P f body) {tgt : Nat} {args : List AV} {g : G} {vals : Array Value} {v : AV} {h' : Heap} (hlb : lo ≤ base) (hbt : base ≤ tgt) (hbl : base ≤ g.h.length)
    (hr : HRep lo g) (ha : RepL g args vals) (h : callPol p body lo base tgt args g.h = some (v, h')) : Calls P f vals g.w (Back (Post lo base g v h')) := by
  have pp : ∀ {r : AV} {x : Option Heap}, callPol.put1' r x = some (v, h') → x = some h' ∧ r = v := fun {r x} e => by
    unfold callPol.put1' at e
    split at e
    · cases e; exact ⟨rfl, rfl⟩
    · cases e
  unfold callPol at h
  split at h
  · exact hbody lo base args g vals v h' hlb hbl hr ha h
  · split at h
    · generalize topOf p.top args = k at h
      split at h
      · rename_i h2 args' hfr hargs
        split at h
        · rename_i hcond
          simp only [Bool.and_eq_true, decide_eq_true_eq] at hcond
          obtain ⟨hlow, hlok⟩ := hcond
          split at h
          · rename_i v1 h1 he
            split at h
            · rename_i rr bs hseal
              split at h
              · rename_i hc
                simp only [Bool.and_eq_true, decide_eq_true_eq] at hc
                obtain ⟨hp, rfl⟩ := pp h
                obtain ⟨hkl, _⟩ := lowOk_spec hlow
                obtain ⟨St2, sf, hf, himg⟩ := freeze_ok (lo := lo) (base := base) _ g h2 hr hfr
                obtain ⟨hlo2, mv⟩ := low_ok (g := ⟨h2, g.r, g.w, St2⟩) hf hlow
                have haA : RepL ⟨h2.take k, g.r, g.w, St2⟩ (args'.map AV.canon) vals := by
                  refine RepL.canon ⟨by rw [(mapO_some hargs).1]; exact ha.1, fun j y u hy hu => ?_⟩
                  obtain ⟨x, hx, hxy⟩ := mapO_rep hargs hy
                  exact embed_rep (g' := ⟨h2.take k, g.r, g.w, St2⟩) hr (m := k) (fun hs hx => mv hs (hx.step sf hr)) (fun c hc => sf.st c hc) (fun _ _ => rfl) k k (Nat.le_refl _) (Nat.le_refl _) depth x y u hxy (ha.2 j x u hx hu) fun b hb c hcc =>
                    himg b (List.mem_flatMap.2 ⟨x, List.mem_of_getElem? hx, hb⟩) c hcc
                have hlk : (h2.take k).length = k := by simp; omega
                refine (hbody lo k (args'.map AV.canon) ⟨h2.take k, g.r, g.w, St2⟩ vals v1 h1 hlok (by simp only; omega) hlo2 haA he).mono (Back.mono ?_)
                rintro u w1 ⟨r1, St1, hv, hr1, s1⟩
                have hlen1 : k ≤ h1.length := by have := s1.len; simp only at this; omega
                obtain ⟨hT, sT⟩ := truncate (g := ⟨h2.take k, g.r, g.w, St2⟩) (g1 := ⟨h1, r1, w1, St1⟩) (base := min base k) hlo2 hr1 (by simp only; rw [hlk]; exact s1) (by simp only; omega) (keptIds p.keep k v1)
                simp only [hlk] at hT sT
                obtain ⟨hM, sM⟩ := glue (g2 := ⟨h2, g.r, g.w, St2⟩) (gT := ⟨h1.take k, r1, w1, StDrop k (keptIds p.keep k v1) ⟨h1, r1, w1, St1⟩⟩) (k := k) (base := base) hkl (by simp; omega) hf hT sT
                have hnew : ∀ (b : Nat) (B : Blk) (c : Nat), k ≤ b → vblk h1 r1 b = some B → r1 b = some c → g.w.heap.size ≤ c := fun b B c hn hB hcc => by
                  rcases Nat.lt_or_ge c g.w.heap.size with hlt | hge
                  · obtain ⟨⟨B0, h0⟩, _⟩ := s1.img b B c hB hcc hlt
                    have := vblk_lt h0
                    simp only at this
                    omega
                  · exact hge
                have hl1 : (h1.take k).length = k := by simp; omega
                refine Post.canon (finish (n := k) hr1 hM (sf.trans sM) hbt hlok rfl hv hseal hc.1 hp (fun b B hlt hB => ⟨B, ?_, rfl, rfl, rfl, ?_⟩) (fun b B c hn hB hcc => ⟨hnew b B c hn hB hcc, fun b' B' hB' hc' => ?_⟩) (fun b B c hn hk hB hfz hcc hS => ?_) (.inl ⟨fun c hc => .inl hc, fun b B c hn hnk hB hcc => .inr ⟨b, B, hn, hB, hcc, hnk⟩⟩))
                · simp only
                  rw [vblk_glue hl1 hkl, if_pos hlt, vblk_take, if_pos hlt]
                  exact hB
                · simp only [glueR, if_pos hlt]
                · simp only at hB' hc'
                  rw [vblk_glue hl1 hkl] at hB'
                  simp only [glueR] at hc'
                  split at hB'
                  · rename_i hlt
                    rw [if_pos hlt] at hc'
                    rw [vblk_take, if_pos hlt] at hB'
                    have := hr1.inj b b' B B' c hB hB' hcc hc'
                    omega
                  · rename_i hlt
                    rw [if_neg hlt] at hc'
                    have h1 := img_lt hf hB' hc'
                    have h2 := hnew b B c hn hB hcc
                    simp only at h1
                    omega
                · rcases hS with hS | ⟨b', B', q1, q2, q3, q4⟩
                  · exact hr1.nost b B c (by omega) hB hfz hcc hS
                  · have := hr1.inj b b' B B' c hB q2 hcc q3
                    subst this
                    exact q4 hk
              · cases h
            · cases h
          · cases h
        · cases h
      · cases h
    · split at h
      · rename_i args' hargs
        split at h
        · rename_i v1 h1 he
          split at h
          · rename_i rr bs hseal
            split at h
            · rename_i hc
              simp only [Bool.and_eq_true, decide_eq_true_eq] at hc
              let ids := args.flatMap (slIds g.h 0 depth)
              let StA : Nat → Prop := fun c => g.St c ∨ (c < g.w.heap.size ∧ ∃ b ∈ ids, g.r b = some c)
              have hA : HRep 0 ⟨[], g.r, g.w, StA⟩ := by
                refine ⟨fun b B hB => by simp [vblk] at hB, fun b b' B B' c hB => by simp [vblk] at hB, fun b B c _ hB => by simp [vblk] at hB, fun c hc => ?_, fun b B c hB => by simp [vblk] at hB⟩
                rcases hc with hc | hc
                · exact hr.stlt c hc
                · exact hc.1
              have haA : RepL ⟨[], g.r, g.w, StA⟩ (args'.map AV.canon) vals := by
                refine RepL.canon ⟨by rw [(mapO_some hargs).1]; exact ha.1, fun j y u hy hu => ?_⟩
                obtain ⟨x, hx, hxy⟩ := mapO_rep hargs hy
                refine embed_rep (g' := ⟨[], g.r, g.w, StA⟩) hr (m := 0) (fun hs hx => ?_) (fun c hc => .inl hc) (fun _ _ => rfl) 0 0 (Nat.le_refl _) (Nat.le_refl _) depth x y u hxy (ha.2 j x u hx hu) fun b hb c hcc => ?_
                · exact Rep.under (g := g) (g2 := ⟨[], g.r, g.w, StA⟩) (n := 0) (fun b B hb => by omega) rfl (fun c hc => .inl hc) hx hs
                · obtain ⟨B, hB⟩ := slIds_good _ _ _ _ _ hb
                  exact .inr ⟨img_lt hr (vblk_of hB) hcc, b, List.mem_flatMap.2 ⟨x, List.mem_of_getElem? hx, hb⟩, hcc⟩
              refine (hbody 0 0 (args'.map AV.canon) ⟨[], g.r, g.w, StA⟩ vals v1 h1 (Nat.le_refl _) (Nat.le_refl _) hA haA he).mono (Back.mono ?_)
              rintro u w1 ⟨r1, St1, hv, hr1, s1⟩
              have hgr : Grows g.w w1 := ⟨s1.size, fun c hcl => s1.old c hcl fun b B hlo hB => by simp [blk] at hB, s1.os, s1.tape, s1.output⟩
              have hnew : ∀ (b : Nat) (B : Blk) (c : Nat), vblk h1 r1 b = some B → r1 b = some c → g.w.heap.size ≤ c := fun b B c hB hcc => by
                rcases Nat.lt_or_ge c g.w.heap.size with hlt | hge
                · obtain ⟨⟨B0, h0⟩, _⟩ := s1.img b B c hB hcc hlt
                  simp [vblk] at h0
                · exact hge
              by_cases hfl : flatRes rr bs = true
              · rw [if_pos hfl] at h
                obtain ⟨hp, rfl⟩ := pp h
                obtain ⟨sM, hM⟩ := stable_new (lo := lo) (base := base) hr hgr g.St (fun _ h => h) (fun _ h => .inl h)
                refine Post.canon (finish (n := 0) hr1 hM sM hbt (Nat.le_refl _) rfl hv hseal hc.1 hp (fun b B hlt => by omega) (fun b B c hn hB hcc => ⟨hnew b B c hB hcc, fun b' B' hB' hc' => ?_⟩) (fun b B c hn hk hB hf hcc hS => ?_) (.inr hfl))
                · have h1 := img_lt hr hB' hc'
                  have h2 := hnew b B c hB hcc
                  omega
                · have h1 := hr.stlt c hS
                  have h2 := hnew b B c hB hcc
                  omega
              · rw [if_neg hfl] at h
                split at h
                · rename_i h2 hfr
                  obtain ⟨hp, rfl⟩ := pp h
                  obtain ⟨St2, sf, hf, himg⟩ := freeze_ok (lo := lo) (base := base) ids g h2 hr hfr
                  obtain ⟨sM, hM⟩ := stable_new (lo := lo) (base := base) (g := ⟨h2, g.r, g.w, St2⟩) (w' := w1) hf hgr (fun c => St2 c ∨ (g.w.heap.size ≤ c ∧ c < w1.heap.size ∧ ∀ b B, b ∈ keptIds p.keep 0 v1 → vblk h1 r1 b = some B → B.frz = false → r1 b ≠ some c))
                    (fun _ h => .inl h) (fun c h => h.imp id fun h => ⟨h.1, h.2.1⟩)
                  refine Post.canon (finish (n := 0) hr1 hM (sf.trans sM) hbt (Nat.le_refl _) rfl hv hseal hc.1 hp (fun b B hlt hB => by omega) (fun b B c hn hB hcc => ⟨hnew b B c hB hcc, fun b' B' hB' hc' => ?_⟩) (fun b B c hn hk hB hfz hcc hS => ?_) (.inl ⟨fun c hS => ?_, fun b B c hn hnk hB hcc => ?_⟩))
                  · have h1 := img_lt hf hB' hc'
                    have h2 := hnew b B c hB hcc
                    simp only at h1
                    omega
                  · rcases hS with hS | hS
                    · have h1 := hf.stlt c hS
                      have h2 := hnew b B c hB hcc
                      simp only at h1
                      omega
                    · exact hS.2.2 b B hk hB hfz hcc
                  · rcases Nat.lt_or_ge c g.w.heap.size with hlt | hge
                    · rcases s1.stNew c hlt hS with hS | ⟨b, B, q1, q2, q3, q4⟩
                      · rcases hS with hS | ⟨_, b, hb, hcb⟩
                        · exact .inl (sf.st c hS)
                        · exact .inl (himg b hb c hcb)
                      · have := hnew b B c q2 q4
                        omega
                    · exact .inr ⟨hge, hr1.stlt c hS, fun b B hk hB hfz hcc => hr1.nost b B c (Nat.zero_le _) hB hfz hcc hS⟩
                  · refine .inr ⟨hnew b B c hB hcc, img_lt hr1 hB hcc, fun b' B' hk' hB' hf' hc' => ?_⟩
                    have := hr1.inj b b' B B' c hB hB' hcc hc'
                    subst this
                    exact hnk hk'
                · cases h
            · cases h
          · cases h
        · cases h
      · cases h

end
end Go.Abs

/- Whole programs. -/
set_option linter.unusedSimpArgs false
set_option linter.unusedVariables false
namespace Go.Abs

/-- What an abstract program says of a loaded one. -/
structure PrgOk (P : Program) (gh : Nat → List (Nat × Nat × Nat)) (Q : Prg) : Prop where
  mixed : P.follows .mixedOrders = true
  fns : ∀ (f : Nat) (af : AFn), Q.ext f = none → Q.fns f = some af → ∃ fn, P.funcs[f]? = some fn ∧ compileFn P gh fn = some af
  ext : ∀ (f : Nat) (e : Nat → Nat → Nat → List AV → Heap → Option (AV × Heap)), Q.ext f = some e → ∀ (lo base tgt : Nat) (args : List AV) (g : G) (vals : Array Value) (v : AV) (h' : Heap), e lo base tgt args g.h = some (v, h') →
    lo ≤ base → base ≤ tgt → base ≤ g.h.length → HRep lo g → RepL g args vals → Does P (Post lo base g v h') ((callFunc f vals).run P g.w)
  extV : ∀ (f : Nat) (e : Nat → Nat → Nat → List AV → Heap → Option (AV × Heap)), Q.ext f = some e → (Q.pol f).st = false → (Q.pol f).raw = false → ∀ (lo base tgt : Nat) (args : List AV) (h : Heap) (v : AV) (h' : Heap), e lo base tgt args h = some (v, h') → tgt < h.length →
    ∀ b : Nat, b < tgt ∨ tgt + 2 ≤ b → sameC h[b]? h'[b]?

section
variable {P : Program} {gh : Nat → List (Nat × Nat × Nat)} {Q : Prg}

theorem place_same {h h' : Heap} {tgt : Nat} {bs : List Blk} (ht : tgt < h.length) (hl : bs.length ≤ 2) (hp : place h tgt bs = some h') : ∀ b : Nat, b < tgt ∨ tgt + 2 ≤ b → sameC h[b]? h'[b]? := fun b hb => by
  rw [(place_spec hp).2.1 b (by omega)]
  exact .refl _

theorem callPol_V {p : Pol} {body : Nat → Nat → List AV → Heap → Option (AV × Heap)} {lo base tgt : Nat} {args : List AV} {h h' : Heap} {v : AV} (h1 : p.st = false) (h2 : p.raw = false) (e : callPol p body lo base tgt args h = some (v, h')) (ht : tgt < h.length) :
    ∀ b : Nat, b < tgt ∨ tgt + 2 ≤ b → sameC h[b]? h'[b]? := by
  unfold callPol at e
  rw [h1, h2] at e
  simp only [Bool.false_eq_true, if_false] at e
  have pp : ∀ {r : AV} {x : Option Heap}, callPol.put1' r x = some (v, h') → x = some h' := fun {r x} e => by
    unfold callPol.put1' at e
    split at e
    · cases e; rfl
    · cases e
  split at e
  · split at e
    · split at e
      · split at e
        · rename_i hc
          simp only [Bool.and_eq_true, decide_eq_true_eq] at hc
          split at e
          · exact place_same ht hc.2 (pp e)
          · split at e
            · rename_i h2 hfr
              obtain ⟨l1, s1⟩ := freeze_same hfr
              exact fun b hb => (s1 b).trans (place_same (by omega) hc.2 (pp e) b hb)
            · cases e
        · cases e
      · cases e
    · cases e
  · cases e

theorem callN_V (hQ : PrgOk P gh Q) : ∀ k : Nat, CfV (callN Q k) (fun g => (Q.pol g).st || (Q.pol g).raw) := by
  intro k f lo base tgt args h v h' hs e ht
  simp only [Bool.or_eq_false_iff] at hs
  cases k with
  | zero => simp [callN] at e
  | succ k =>
    simp only [callN] at e
    split at e
    · rename_i ex hex
      exact hQ.extV f ex hex hs.1 hs.2 lo base tgt args h v h' e ht
    · split at e
      · exact callPol_V hs.1 hs.2 e ht
      · cases e

theorem callN_sound (hQ : PrgOk P gh Q) : ∀ k : Nat, CallSound P (callN Q k) := by
  intro k
  induction k with
  | zero => intro f lo base tgt args h v h' e; simp [callN] at e
  | succ k ih =>
    intro f lo base tgt args h v h' e r w St vals hr hl ha hlb hbt hbl
    simp only [callN] at e
    split at e
    · rename_i ex hex
      exact hQ.ext f ex hex lo base tgt args ⟨h, r, w, St⟩ vals v h' e hlb hbt hbl hr ⟨hl, ha⟩
    · rename_i hex
      split at e
      · rename_i af haf
        obtain ⟨fn, hfn, hcf⟩ := hQ.fns f af hex haf
        have hbody : BodySound P f (bodyAV { cf := callN Q k, it := iter k, stOf := fun g => (Q.pol g).st || (Q.pol g).raw } af) := fun lo base args g vals v h1 h2 h3 h4 h5 h6 =>
          (body_sound (gh := gh) hQ.mixed (c := { cf := callN Q k, it := iter k, stOf := fun g => (Q.pol g).st || (Q.pol g).raw }) ih h2 (callN_V hQ k) rfl hfn hcf h4 h5 h3 h6).1
        have hc := callPol_sound hbody (g := ⟨h, r, w, St⟩) hlb hbt hbl hr ⟨hl, ha⟩ e
        have hname : (fn.name == "runtime.NumGoroutine") = false ∧ fn.body.isNone = false := by
          unfold compileFn at hcf
          split at hcf
          · cases hcf
          · rename_i code hbd
            split at hcf
            · rename_i hd
              simp only [Bool.and_eq_true, Bool.not_eq_true'] at hd
              exact ⟨hd.2, by rw [hbd]; rfl⟩
            · cases hcf
        have run : (callFunc f vals).run P w = .ok (.enter f vals) w := by
          simp only [callFunc, program, Sem.run_bind, Sem.run, Result.andThen_ok, hfn, hname.1, hname.2, Bool.false_eq_true, if_false]
          rfl
        rw [run]
        exact hc
      · cases e

/-- A call at the top: from nothing abstract. -/
theorem top_sound (hQ : PrgOk P gh Q) {k f : Nat} {af : AFn} (hex : Q.ext f = none) (haf : Q.fns f = some af) {args : List AV} {vals : Array Value} {w : World} {St : Nat → Prop} {v : AV} {h' : Heap} (hst : ∀ c, St c → c < w.heap.size)
    (ha : RepL ⟨[], ⟨fun _ => none, fun _ => none⟩, w, St⟩ args vals) (h : callN Q (k + 1) f 0 0 0 args [] = some (v, h')) :
    Calls P f vals w (Back fun v' w' => (∃ g', Rep g' v v') ∧ Grows w w') := by
  have hr : HRep 0 ⟨[], ⟨fun _ => none, fun _ => none⟩, w, St⟩ := ⟨fun b B hB => by simp [vblk] at hB, fun b b' B B' c hB => by simp [vblk] at hB, fun b B c _ hB => by simp [vblk] at hB, hst, fun b B c hB => by simp [vblk] at hB⟩
  have := callN_sound hQ (k + 1) f 0 0 0 args [] v h' h ⟨fun _ => none, fun _ => none⟩ w St vals hr ha.1 ha.2 (Nat.le_refl _) (Nat.le_refl _) (Nat.le_refl _)
  obtain ⟨fn, hfn, hcf⟩ := hQ.fns f af hex haf
  have hname : (fn.name == "runtime.NumGoroutine") = false ∧ fn.body.isNone = false := by
    unfold compileFn at hcf
    split at hcf
    · cases hcf
    · rename_i code hbd
      split at hcf
      · rename_i hd
        simp only [Bool.and_eq_true, Bool.not_eq_true'] at hd
        exact ⟨hd.2, by rw [hbd]; rfl⟩
      · cases hcf
  have run : (callFunc f vals).run P w = .ok (.enter f vals) w := by
    simp only [callFunc, program, Sem.run_bind, Sem.run, Result.andThen_ok, hfn, hname.1, hname.2, Bool.false_eq_true, if_false]
    rfl
  rw [run] at this
  refine Calls.mono this (Back.mono ?_)
  rintro v' w' ⟨r', St', h1, h2, s⟩
  exact ⟨⟨_, h1⟩, s.size, fun c hc => s.old c hc (fun b B _ hB => by simp [blk] at hB), s.os, s.tape, s.output⟩

end
end Go.Abs

/- Enough fuel: what a call answers with some fuel, as a function without fuel. -/
set_option linter.unusedSimpArgs false
set_option linter.unusedVariables false
namespace Go.Abs

def CfLe (c d : CallF) : Prop := ∀ f lo base tgt args h r, c f lo base tgt args h = some r → d f lo base tgt args h = some r
def BLe (b d : Body) : Prop := ∀ fr h r, b fr h = some r → d fr h = some r
def ItLe (i j : Body → Body) : Prop := ∀ b d, BLe b d → BLe (i b) (j d)

theorem stepOp_mono {c d : CallF} (hc : CfLe c d) {lo base tgt : Nat} {op : AOp} {fr : Frame} {h : Heap} {r : AV × Heap} (e : stepOp c lo base tgt op fr h = some r) : stepOp d lo base tgt op fr h = some r := by
  cases op with
  | call f args =>
    simp only [stepOp] at e ⊢
    split at e
    · exact hc _ _ _ _ _ _ _ e
    · cases e
  | _ => exact e

theorem runOps_mono {c d : CallF} (hc : CfLe c d) {lo base : Nat} : ∀ (os : List AOper) (fr : Frame) (h : Heap) (r : Frame × Heap), runOps c lo base os fr h = some r → runOps d lo base os fr h = some r
  | [], fr, h, r, e => e
  | o :: os, fr, h, r, e => by
    simp only [runOps] at e ⊢
    split at e
    · rename_i hw
      rw [if_pos hw]
      split at e
      · rename_i v h' hs
        rw [stepOp_mono hc hs]
        exact runOps_mono hc os _ _ _ e
      · cases e
    · rename_i hw
      rw [if_neg hw]
      exact runOps_mono hc os _ _ _ e

theorem stepD_mono {c d : CallF} (hc : CfLe c d) {st : Nat → Bool} {lo base n0 : Nat} {fr0 : Frame} {i : Nat} {o : DOper} {s s' : DSt} (e : stepD c st lo base n0 fr0 i o s = some s') : stepD d st lo base n0 fr0 i o s = some s' := by
  unfold stepD at e ⊢
  split at e
  · rename_i hw
    rw [if_pos hw]
    split at e
    · rename_i hd
      rw [if_pos hd]
      split at e
      · rename_i hP
        rw [if_pos hP]
        split at e
        · rename_i v h' hs
          rw [stepOp_mono hc hs]
          exact e
        · cases e
      · rename_i hP
        rw [if_neg hP]
        split at e
        · rename_i v h' hs
          rw [stepOp_mono hc hs]
          exact e
        · cases e
    · cases e
  · rename_i hw
    rw [if_neg hw]
    exact e

theorem runD_mono {c d : CallF} (hc : CfLe c d) {st : Nat → Bool} {lo base n0 : Nat} {fr0 : Frame} : ∀ (os : List DOper) (i : Nat) (s s' : DSt), runD c st lo base n0 fr0 i os s = some s' → runD d st lo base n0 fr0 i os s = some s'
  | [], i, s, s', e => e
  | o :: os, i, s, s', e => by
    simp only [runD] at e ⊢
    split at e
    · rename_i s1 h1
      rw [stepD_mono hc h1]
      exact runD_mono hc os _ _ _ e
    · cases e

theorem andThen_mono {r : Option R} {r' : Option R} {k k' : Body} (hr : ∀ x, r = some x → r' = some x) (hk : BLe k k') : ∀ x, andThen r k = some x → andThen r' k' = some x := by
  intro x e
  unfold andThen at e
  split at e
  · rename_i fr h
    rw [hr _ rfl]
    exact hk _ _ _ e
  · rename_i r hn
    rw [hr _ e]
    unfold andThen
    split
    · rename_i fr h he
      cases he
      exact absurd e (by
        intro e
        exact hn fr h e)
    · rfl

theorem exec_mono {c d : Ctx} (hc : CfLe c.cf d.cf) (hi : ItLe c.it d.it) (hs : c.stOf = d.stOf) {lo base : Nat} : ∀ (code : ACode), BLe (exec c lo base code) (exec d lo base code) := by
  intro code
  induction code with
  | skip => intro fr h r e; exact e
  | region ops =>
    intro fr h r e
    simp only [exec] at e ⊢
    split at e
    · rename_i fr' h' he
      rw [runOps_mono hc _ _ _ _ he]
      exact e
    · cases e
  | draw total ops =>
    intro fr h r e
    simp only [exec] at e ⊢
    split at e
    · rename_i s he
      rw [← hs, runD_mono hc _ _ _ _ he]
      exact e
    · cases e
  | seq a b iha ihb =>
    intro fr h r e
    simp only [exec] at e ⊢
    exact andThen_mono (iha fr h) ihb _ e
  | cond t a b iha ihb =>
    intro fr h r e
    simp only [exec] at e ⊢
    split at e
    · split at e
      · rename_i hx; simp only [hx]; exact iha _ _ _ e
      · rename_i hx; simp only [hx]; exact ihb _ _ _ e
    · cases e
  | block id a ih =>
    intro fr h r e
    simp only [exec] at e ⊢
    unfold inBlk at e
    split at e
    · rename_i j fr' h' he
      rw [ih _ _ _ he]
      exact e
    · rename_i r' hn
      rw [ih _ _ _ e]
      unfold inBlk
      split
      · rename_i j fr' h' he
        cases he
        exact absurd e (hn j fr' h')
      · rfl
  | loop a ih =>
    intro fr h r e
    exact hi _ _ ih fr h r e
  | exit id => intro fr h r e; exact e
  | ret => intro fr h r e; exact e

theorem iter_mono {b d : Body} (hb : BLe b d) : ∀ {n m : Nat}, n ≤ m → BLe (iter n b) (iter m d)
  | 0, m, _ => by intro fr h r e; simp [iter] at e
  | n + 1, 0, h => by omega
  | n + 1, m + 1, h => by
    intro fr hp r e
    simp only [iter] at e ⊢
    exact andThen_mono (hb fr hp) (iter_mono hb (by omega)) _ e

theorem bodyAV_mono {c d : Ctx} (hc : CfLe c.cf d.cf) (hi : ItLe c.it d.it) (hs : c.stOf = d.stOf) {fn : AFn} {lo base : Nat} {args : List AV} {h : Heap} {r : AV × Heap} (e : bodyAV c fn lo base args h = some r) : bodyAV d fn lo base args h = some r := by
  unfold bodyAV at e ⊢
  split at e
  · rename_i fr h' he
    rw [exec_mono hc hi hs _ _ _ _ he]
    exact e
  · rename_i fr h' he
    rw [exec_mono hc hi hs _ _ _ _ he]
    exact e
  · cases e

theorem callPol_mono {p : Pol} {b d : Nat → Nat → List AV → Heap → Option (AV × Heap)} (hb : ∀ lo base args h r, b lo base args h = some r → d lo base args h = some r) {lo base tgt : Nat} {args : List AV} {h : Heap} {r : AV × Heap}
    (e : callPol p b lo base tgt args h = some r) : callPol p d lo base tgt args h = some r := by
  unfold callPol at e ⊢
  split at e
  · rename_i hr; rw [if_pos hr]; exact hb _ _ _ _ _ e
  · rename_i hr
    rw [if_neg hr]
    split at e
    · rename_i hst
      rw [if_pos hst]
      split at e
      · rename_i h2 args' hfr hargs
        split at e
        · rename_i hcond
          simp only [hfr, hargs, if_pos hcond]
          split at e
          · rename_i v1 h1 he
            rw [hb _ _ _ _ _ he]
            exact e
          · cases e
        · cases e
      · cases e
    · rename_i hst
      rw [if_neg hst]
      split at e
      · rename_i args' hargs
        split at e
        · rename_i v1 h1 he
          rw [hb _ _ _ _ _ he]
          exact e
        · cases e
      · cases e

section
variable (Q : Prg)

def ctxN (k : Nat) : Ctx := { cf := callN Q k, it := iter k, stOf := fun g => (Q.pol g).st || (Q.pol g).raw }

theorem iter_itLe {k m : Nat} (h : k ≤ m) : ItLe (iter k) (iter m) := fun _ _ hb => iter_mono hb h

theorem callN_mono : ∀ {k m : Nat}, k ≤ m → CfLe (callN Q k) (callN Q m)
  | 0, m, _ => by intro f lo base tgt args h r e; simp [callN] at e
  | k + 1, 0, h => by omega
  | k + 1, m + 1, hkm => by
    intro f lo base tgt args h r e
    simp only [callN] at e ⊢
    split at e
    · exact e
    · split at e
      · exact callPol_mono (b := bodyAV { cf := callN Q k, it := iter k, stOf := fun g => (Q.pol g).st || (Q.pol g).raw } _) (d := bodyAV { cf := callN Q m, it := iter m, stOf := fun g => (Q.pol g).st || (Q.pol g).raw } _) (fun lo base args h r e => bodyAV_mono (c := ctxN Q k) (d := ctxN Q m) (callN_mono (by omega)) (iter_itLe (by omega)) rfl e) e
      · cases e

open Classical in
/-- A call with as much fuel as it wants. -/
noncomputable def callW : CallF := fun f lo base tgt args h => if hx : ∃ r k, callN Q k f lo base tgt args h = some r then some (Classical.choose hx) else none
open Classical in
noncomputable def itW (b : Body) : Body := fun fr h => if hx : ∃ r k, iter k b fr h = some r then some (Classical.choose hx) else none
noncomputable def ctxW : Ctx := { cf := callW Q, it := itW, stOf := fun g => (Q.pol g).st || (Q.pol g).raw }

variable {Q}
theorem callW_iff {f lo base tgt : Nat} {args : List AV} {h : Heap} {r : AV × Heap} : callW Q f lo base tgt args h = some r ↔ ∃ k, callN Q k f lo base tgt args h = some r := by
  unfold callW
  constructor
  · intro e
    split at e
    · rename_i hx
      cases e
      exact Classical.choose_spec hx
    · cases e
  · rintro ⟨k, hk⟩
    have hx : ∃ r k, callN Q k f lo base tgt args h = some r := ⟨r, k, hk⟩
    rw [dif_pos hx]
    obtain ⟨m, hm⟩ := Classical.choose_spec hx
    have h1 := callN_mono Q (Nat.le_max_left k m) _ _ _ _ _ _ _ hk
    have h2 := callN_mono Q (Nat.le_max_right k m) _ _ _ _ _ _ _ hm
    rw [h1] at h2
    exact h2.symm
theorem itW_iff {b : Body} {fr : Frame} {h : Heap} {r : R} : itW b fr h = some r ↔ ∃ k, iter k b fr h = some r := by
  unfold itW
  constructor
  · intro e
    split at e
    · rename_i hx
      cases e
      exact Classical.choose_spec hx
    · cases e
  · rintro ⟨k, hk⟩
    have hx : ∃ r k, iter k b fr h = some r := ⟨r, k, hk⟩
    rw [dif_pos hx]
    obtain ⟨m, hm⟩ := Classical.choose_spec hx
    have h1 := iter_mono (b := b) (d := b) (fun _ _ _ h => h) (Nat.le_max_left k m) _ _ _ hk
    have h2 := iter_mono (b := b) (d := b) (fun _ _ _ h => h) (Nat.le_max_right k m) _ _ _ hm
    rw [h1] at h2
    exact h2.symm

theorem itW_eq (b : Body) (fr : Frame) (h : Heap) : itW b fr h = andThen (b fr h) (itW b) := by
  have key : ∀ r, itW b fr h = some r ↔ andThen (b fr h) (itW b) = some r := by
    intro r
    rw [itW_iff]
    constructor
    · rintro ⟨k, hk⟩
      cases k with
      | zero => simp [iter] at hk
      | succ k =>
        simp only [iter] at hk
        exact andThen_mono (fun _ h => h) (fun fr h r e => itW_iff.2 ⟨k, e⟩) _ hk
    · intro e
      unfold andThen at e
      split at e
      · rename_i fr1 h1 hb
        obtain ⟨k, hk⟩ := itW_iff.1 e
        exact ⟨k + 1, by simp only [iter, hb, andThen]; exact hk⟩
      · rename_i r' hn
        refine ⟨1, ?_⟩
        simp only [iter]
        unfold andThen
        split
        · rename_i fr1 h1 hb
          exact absurd hb (hn fr1 h1)
        · exact e
  cases hx : itW b fr h with
  | some r => exact ((key r).1 hx).symm
  | none =>
    cases hy : andThen (b fr h) (itW b) with
    | none => rfl
    | some r => rw [(key r).2 hy] at hx; cases hx

theorem runOps_lim {lo base : Nat} : ∀ (os : List AOper) (fr : Frame) (h : Heap) (r : Frame × Heap), runOps (callW Q) lo base os fr h = some r → ∃ k, ∀ m, k ≤ m → runOps (callN Q m) lo base os fr h = some r
  | [], fr, h, r, e => ⟨0, fun _ _ => e⟩
  | o :: os, fr, h, r, e => by
    simp only [runOps] at e ⊢
    split at e
    · rename_i hw
      simp only [if_pos hw]
      split at e
      · rename_i v h' hs
        obtain ⟨k2, h2⟩ := runOps_lim os _ _ _ e
        have hs2 : ∃ k, ∀ m, k ≤ m → stepOp (callN Q m) lo base h.length o.op fr h = some (v, h') := by
          generalize o.op = op at hs
          cases op with
          | call f args =>
            simp only [stepOp] at hs ⊢
            split at hs
            · obtain ⟨k, hk⟩ := callW_iff.1 hs
              exact ⟨k, fun m hm => callN_mono Q hm _ _ _ _ _ _ _ hk⟩
            · cases hs
          | _ => exact ⟨0, fun _ _ => hs⟩
        obtain ⟨k1, h1⟩ := hs2
        exact ⟨max k1 k2, fun m hm => by rw [h1 m (by omega)]; exact h2 m (by omega)⟩
      · cases e
    · rename_i hw
      simp only [if_neg hw]
      exact runOps_lim os _ _ _ e

theorem stepOp_lim {lo base tgt : Nat} {op : AOp} {fr : Frame} {h : Heap} {r : AV × Heap} (hs : stepOp (callW Q) lo base tgt op fr h = some r) : ∃ k, ∀ m, k ≤ m → stepOp (callN Q m) lo base tgt op fr h = some r := by
  cases op with
  | call f args =>
    simp only [stepOp] at hs ⊢
    split at hs
    · obtain ⟨k, hk⟩ := callW_iff.1 hs
      exact ⟨k, fun m hm => callN_mono Q hm _ _ _ _ _ _ _ hk⟩
    · cases hs
  | _ => exact ⟨0, fun _ _ => hs⟩

theorem stepD_lim {st : Nat → Bool} {lo base n0 : Nat} {fr0 : Frame} {i : Nat} {o : DOper} {s s' : DSt} (e : stepD (callW Q) st lo base n0 fr0 i o s = some s') : ∃ k, ∀ m, k ≤ m → stepD (callN Q m) st lo base n0 fr0 i o s = some s' := by
  unfold stepD at e
  split at e
  · rename_i hw
    split at e
    · rename_i hd
      split at e
      · rename_i hP
        split at e
        · rename_i v h' hs
          obtain ⟨k, hk⟩ := stepOp_lim hs
          exact ⟨k, fun m hm => by unfold stepD; rw [if_pos hw, if_pos hd, if_pos hP, hk m hm]; exact e⟩
        · cases e
      · rename_i hP
        split at e
        · rename_i v h' hs
          obtain ⟨k, hk⟩ := stepOp_lim hs
          exact ⟨k, fun m hm => by unfold stepD; rw [if_pos hw, if_pos hd, if_neg hP, hk m hm]; exact e⟩
        · cases e
    · cases e
  · rename_i hw
    exact ⟨0, fun m _ => by unfold stepD; rw [if_neg hw]; exact e⟩

theorem runD_lim {st : Nat → Bool} {lo base n0 : Nat} {fr0 : Frame} : ∀ (os : List DOper) (i : Nat) (s s' : DSt), runD (callW Q) st lo base n0 fr0 i os s = some s' → ∃ k, ∀ m, k ≤ m → runD (callN Q m) st lo base n0 fr0 i os s = some s'
  | [], i, s, s', e => ⟨0, fun _ _ => e⟩
  | o :: os, i, s, s', e => by
    simp only [runD] at e ⊢
    split at e
    · rename_i s1 h1
      obtain ⟨k1, hk1⟩ := stepD_lim h1
      obtain ⟨k2, hk2⟩ := runD_lim os _ _ _ e
      exact ⟨max k1 k2, fun m hm => by rw [hk1 m (by omega)]; exact hk2 m (by omega)⟩
    · cases e

theorem exec_lim {lo base : Nat} : ∀ (code : ACode) (fr : Frame) (h : Heap) (r : R), exec (ctxW Q) lo base code fr h = some r → ∃ k, ∀ m, k ≤ m → exec (ctxN Q m) lo base code fr h = some r := by
  intro code
  induction code with
  | skip => intro fr h r e; exact ⟨0, fun _ _ => e⟩
  | region ops =>
    intro fr h r e
    simp only [exec] at e ⊢
    split at e
    · rename_i fr' h' he
      obtain ⟨k, hk⟩ := runOps_lim _ _ _ _ he
      exact ⟨k, fun m hm => by rw [show runOps (ctxN Q m).cf lo base ops fr h = some (fr', h') from hk m hm]; exact e⟩
    · cases e
  | draw total ops =>
    intro fr h r e
    simp only [exec] at e ⊢
    split at e
    · rename_i s he
      obtain ⟨k, hk⟩ := runD_lim _ _ _ _ he
      exact ⟨k, fun m hm => by
        have := hk m hm
        simp only [ctxN, ctxW] at this ⊢
        rw [this]
        exact e⟩
    · cases e
  | seq a b iha ihb =>
    intro fr h r e
    simp only [exec] at e ⊢
    unfold andThen at e
    split at e
    · rename_i fr1 h1 ha
      obtain ⟨k1, hk1⟩ := iha _ _ _ ha
      obtain ⟨k2, hk2⟩ := ihb _ _ _ e
      exact ⟨max k1 k2, fun m hm => by rw [hk1 m (by omega)]; simp only [andThen]; exact hk2 m (by omega)⟩
    · rename_i r' hn
      obtain ⟨k1, hk1⟩ := iha _ _ _ e
      refine ⟨k1, fun m hm => ?_⟩
      rw [hk1 m hm]
      unfold andThen
      split
      · rename_i fr1 h1 hb
        cases hb
        exact absurd e (hn fr1 h1)
      · rfl
  | cond t a b iha ihb =>
    intro fr h r e
    simp only [exec] at e ⊢
    split at e
    · split at e
      · rename_i hx; simp only [hx]; exact iha _ _ _ e
      · rename_i hx; simp only [hx]; exact ihb _ _ _ e
    · cases e
  | block id a ih =>
    intro fr h r e
    simp only [exec] at e ⊢
    unfold inBlk at e
    split at e
    · rename_i j fr' h' he
      obtain ⟨k1, hk1⟩ := ih _ _ _ he
      exact ⟨k1, fun m hm => by rw [hk1 m hm]; exact e⟩
    · rename_i r' hn
      obtain ⟨k1, hk1⟩ := ih _ _ _ e
      refine ⟨k1, fun m hm => ?_⟩
      rw [hk1 m hm]
      unfold inBlk
      split
      · rename_i j fr' h' he
        cases he
        exact absurd e (hn j fr' h')
      · rfl
  | loop a ih =>
    intro fr h r e
    simp only [exec] at e ⊢
    obtain ⟨n, hn⟩ := itW_iff.1 (show itW (exec (ctxW Q) lo base a) fr h = some r from e)
    clear e
    induction n generalizing fr h with
    | zero => simp [iter] at hn
    | succ n ihn =>
      simp only [iter] at hn
      unfold andThen at hn
      split at hn
      · rename_i fr1 h1 ha
        obtain ⟨k1, hk1⟩ := ih _ _ _ ha
        obtain ⟨k2, hk2⟩ := ihn _ _ hn
        refine ⟨max k1 k2 + 1, fun m hm => ?_⟩
        obtain ⟨m, rfl⟩ : ∃ m', m = m' + 1 := ⟨m - 1, by omega⟩
        have h2 : iter m (exec (ctxN Q m) lo base a) fr1 h1 = some r := hk2 m (by omega)
        show iter (m + 1) (exec (ctxN Q (m + 1)) lo base a) fr h = some r
        simp only [iter]
        rw [hk1 (m + 1) (by omega)]
        simp only [andThen]
        exact iter_mono (b := exec (ctxN Q m) lo base a) (exec_mono (c := ctxN Q m) (d := ctxN Q (m + 1)) (callN_mono Q (Nat.le_succ m)) (iter_itLe (Nat.le_succ m)) rfl a) (Nat.le_refl m) _ _ _ h2
      · rename_i r' hne
        obtain ⟨k1, hk1⟩ := ih _ _ _ hn
        refine ⟨k1 + 1, fun m hm => ?_⟩
        obtain ⟨m, rfl⟩ : ∃ m', m = m' + 1 := ⟨m - 1, by omega⟩
        show iter (m + 1) (exec (ctxN Q (m + 1)) lo base a) fr h = some r
        simp only [iter]
        rw [hk1 (m + 1) (by omega)]
        unfold andThen
        split
        · rename_i fr1 h1 hb
          cases hb
          exact absurd hn (hne fr1 h1)
        · rfl
  | exit id => intro fr h r e; exact ⟨0, fun _ _ => e⟩
  | ret => intro fr h r e; exact ⟨0, fun _ _ => e⟩

/-- A function's body, with as much fuel as it wants. -/
noncomputable def bodyW (Q : Prg) (fn : AFn) : Nat → Nat → List AV → Heap → Option (AV × Heap) := bodyAV (ctxW Q) fn

theorem body_lim {fn : AFn} {lo base : Nat} {args : List AV} {h : Heap} {r : AV × Heap} (e : bodyW Q fn lo base args h = some r) : ∃ k, ∀ m, k ≤ m → bodyAV (ctxN Q m) fn lo base args h = some r := by
  unfold bodyW bodyAV at e
  split at e
  · rename_i fr h' he
    obtain ⟨k, hk⟩ := exec_lim _ _ _ _ he
    exact ⟨k, fun m hm => by unfold bodyAV; rw [hk m hm]; exact e⟩
  · rename_i fr h' he
    obtain ⟨k, hk⟩ := exec_lim _ _ _ _ he
    exact ⟨k, fun m hm => by unfold bodyAV; rw [hk m hm]; exact e⟩
  · cases e

theorem callW_eq {f : Nat} {fn : AFn} (hx : Q.ext f = none) (hf : Q.fns f = some fn) {lo base tgt : Nat} {args : List AV} {h : Heap} {r : AV × Heap} (e : callPol (Q.pol f) (bodyW Q fn) lo base tgt args h = some r) : callW Q f lo base tgt args h = some r := by
  refine callW_iff.2 ?_
  have key : ∃ k, callPol (Q.pol f) (bodyAV (ctxN Q k) fn) lo base tgt args h = some r := by
    unfold callPol at e
    split at e
    · rename_i hr
      obtain ⟨k, hk⟩ := body_lim e
      exact ⟨k, by unfold callPol; rw [if_pos hr]; exact hk k (Nat.le_refl _)⟩
    · rename_i hr
      split at e
      · rename_i hst
        split at e
        · rename_i h2 args' hfr hargs
          split at e
          · rename_i hcond
            split at e
            · rename_i v1 h1 he
              obtain ⟨k, hk⟩ := body_lim he
              exact ⟨k, by unfold callPol; rw [if_neg hr, if_pos hst]; simp only [hfr, hargs, if_pos hcond, hk k (Nat.le_refl _)]; exact e⟩
            · cases e
          · cases e
        · cases e
      · rename_i hst
        split at e
        · rename_i args' hargs
          split at e
          · rename_i v1 h1 he
            obtain ⟨k, hk⟩ := body_lim he
            exact ⟨k, by unfold callPol; rw [if_neg hr, if_neg hst]; simp only [hargs, hk k (Nat.le_refl _)]; exact e⟩
          · cases e
        · cases e
  obtain ⟨k, hk⟩ := key
  exact ⟨k + 1, by simp only [callN, hx, hf]; exact hk⟩

theorem callW_ext {f : Nat} {ex : Nat → Nat → Nat → List AV → Heap → Option (AV × Heap)} (hx : Q.ext f = some ex) {lo base tgt : Nat} {args : List AV} {h : Heap} {r : AV × Heap} (e : ex lo base tgt args h = some r) : callW Q f lo base tgt args h = some r :=
  callW_iff.2 ⟨1, by simp only [callN, hx]; exact e⟩
theorem callW_N {f k : Nat} {lo base tgt : Nat} {args : List AV} {h : Heap} {r : AV × Heap} (e : callN Q k f lo base tgt args h = some r) : callW Q f lo base tgt args h = some r := callW_iff.2 ⟨k, e⟩

end
end Go.Abs
