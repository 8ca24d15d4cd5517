/- Calls do what their abstract answers say. -/
import Derived.Test.YtnpfhbhhbdegfaaDoorD2
set_option linter.unusedSimpArgs false
set_option linter.unusedVariables false
namespace Go.Abs

section
variable {P : Program} {lo base : Nat}

def BodySound (P : Program) (f : Nat) (body : Nat → Nat → List AV → Heap → Option (AV × Heap)) : Prop :=
  ∀ (lo base : Nat) (args : List AV) (g : G) (vals : Array Value) (v : AV) (h1 : Heap), lo ≤ base → base ≤ g.h.length → HRep lo g → RepL g args vals → body lo base args g.h = some (v, h1) → Calls P f vals g.w (Back (Post lo base g v h1))

theorem Back.mono {R R' : Value → World → Prop} (h : ∀ v w, R v w → R' v w) : ∀ e w, Back R e w → Back R' e w := fun e w he => by
  cases e <;> first | exact h _ _ he | exact he

/-- The part below k of a state, turned by a call, in its place again. -/
def glueR (k : Nat) (r1 r : RM) : RM := ⟨fun b => if b < k then r1 b else r b, fun b => if b < k then r1.hb b else r.hb b⟩
theorem glue_get {h1 h2 : Heap} {k : Nat} (hl : h1.length = k) (hk : k ≤ h2.length) (b : Nat) : (h1 ++ h2.drop k)[b]? = if b < k then h1[b]? else h2[b]? := by
  split
  · exact List.getElem?_append_left (by omega)
  · rw [List.getElem?_append_right (by omega), List.getElem?_drop]
    congr 1
    omega
theorem vblk_glue {h1 h2 : Heap} {r1 r : RM} {k : Nat} (hl : h1.length = k) (hk : k ≤ h2.length) (b : Nat) : vblk (h1 ++ h2.drop k) (glueR k r1 r) b = if b < k then vblk h1 r1 b else vblk h2 r b := by
  have := glue_get hl hk b
  split at this
  · rename_i hb
    rw [if_pos hb]
    exact vblk_congr this fun _ => by simp [glueR, hb]
  · rename_i hb
    rw [if_neg hb]
    exact vblk_congr this fun _ => by simp [glueR, hb]

theorem glue {g2 gT : G} {k : Nat} (hk : k ≤ g2.h.length) (hl : gT.h.length = k) (h2 : HRep lo g2) (hT : HRep lo gT) (s : Step lo (min base k) ⟨g2.h.take k, g2.r, g2.w, g2.St⟩ gT) :
    HRep lo ⟨gT.h ++ g2.h.drop k, glueR k gT.r g2.r, gT.w, gT.St⟩ ∧ Step lo base g2 ⟨gT.h ++ g2.h.drop k, glueR k gT.r g2.r, gT.w, gT.St⟩ := by
  have vk : ∀ b, vblk (g2.h.take k) g2.r b = if b < k then vblk g2.h g2.r b else none := fun b => vblk_take g2.h g2.r k b
  have vM : ∀ b, vblk (gT.h ++ g2.h.drop k) (glueR k gT.r g2.r) b = if b < k then vblk gT.h gT.r b else vblk g2.h g2.r b := fun b => vblk_glue hl hk b
  have rM : ∀ b, (glueR k gT.r g2.r) b = if b < k then gT.r b else g2.r b := fun b => rfl
  have bk : ∀ {b : Nat} {B : Blk}, vblk gT.h gT.r b = some B → b < k := fun {b B} h => by have := vblk_lt h; omega
  have iT : ∀ {b : Nat} {B : Blk} {c : Nat}, vblk gT.h gT.r b = some B → gT.r b = some c → c < g2.w.heap.size → (∃ B0, vblk g2.h g2.r b = some B0) ∧ g2.r b = some c := fun {b B c} hB hc hlt => by
    obtain ⟨⟨B0, h0⟩, h1⟩ := s.img b B c hB hc hlt
    have h0 : vblk (g2.h.take k) g2.r b = some B0 := h0
    rw [vk, if_pos (bk hB)] at h0
    exact ⟨⟨B0, h0⟩, h1⟩
  have st : Step lo base g2 ⟨gT.h ++ g2.h.drop k, glueR k gT.r g2.r, gT.w, gT.St⟩ := {
    len := by simp [hl]; omega
    hid := fun b hb => by
      simp only [glue_get hl hk]
      split
      · rename_i hlt
        have := s.hid b (by simp only; rw [take_get, if_pos hlt]; exact hb)
        refine ⟨this.1, ?_⟩
        simp only [glueR, if_pos hlt]
        exact this.2
      · rename_i hlt
        refine ⟨hb, ?_⟩
        simp only [glueR, if_neg hlt]
    free := fun b hlt hf => by
      simp only [glue_get hl hk]
      split
      · rename_i hlt'
        exact s.free b (by omega) (by simp only; rw [take_get, if_pos hlt']; exact hf)
      · exact hf
    live := fun b B hB => by
      by_cases hlt : b < k
      · obtain ⟨B', h1, h2, h3, h4, h5, h6⟩ := s.live b B (by simp only; rw [vk, if_pos hlt]; exact hB)
        exact ⟨B', by simp only; rw [vM, if_pos hlt]; exact h1, h2, h3, h4, h5, fun e => by simp only; rw [rM, if_pos hlt]; exact h6 e⟩
      · exact ⟨B, by simp only; rw [vM, if_neg hlt]; exact hB, rfl, rfl, id, Nat.le_refl _, fun _ => by simp only; rw [rM, if_neg hlt]⟩
    keep := fun b B hB hc => by
      simp only
      rw [vM, rM]
      by_cases hlt : b < k
      · rw [if_pos hlt, if_pos hlt]
        refine s.keep b B (by simp only; rw [vk, if_pos hlt]; exact hB) (hc.imp id (Or.imp id fun h => ?_))
        simp only
        rw [take_get, if_pos hlt]
        exact h
      · rw [if_neg hlt, if_neg hlt]
        exact ⟨hB, rfl⟩
    scp := fun b B B' hlt hB hB' n hn => by
      simp only at hB'
      rw [vM] at hB'
      split at hB'
      · rename_i hlt'
        exact s.scp b B B' (by omega) (by simp only; rw [vk, if_pos hlt']; exact hB) hB' n hn
      · rw [hB] at hB'
        cases hB'
        exact hn
    size := s.size
    old := fun c hc h => s.old c hc fun b B hlo hB hf => h b B hlo (by
      have hB : blk (g2.h.take k) b = some B := hB
      rw [blk_eq, take_get] at hB
      split at hB
      · exact blk_eq.2 hB
      · cases hB) hf
    shp := s.shp
    img := fun b B c hB hc hlt => by
      simp only at hB hc
      rw [vM] at hB
      rw [rM] at hc
      split at hB
      · rename_i hb
        rw [if_pos hb] at hc
        exact iT hB hc hlt
      · rename_i hb
        rw [if_neg hb] at hc
        exact ⟨⟨B, hB⟩, hc⟩
    st := s.st
    stNew := fun c hc hs => (s.stNew c hc hs).imp id fun ⟨b, B, k1, k2, k3, k4⟩ => by
      refine ⟨b, B, k1, ?_, k3, ?_⟩
      · simp only
        rw [vM, if_pos (bk k2)]
        exact k2
      · simp only
        rw [rM, if_pos (bk k2)]
        exact k4
    os := s.os
    tape := s.tape
    output := s.output }
  refine ⟨⟨fun b B hB => ?_, fun b b' B B' c hB hB' hc hc' => ?_, fun b B c hlo hB hf hc hS => ?_, hT.stlt, fun b B c hB hf hc => ?_⟩, st⟩
  · simp only at hB
    rw [vM] at hB
    split at hB
    · rename_i hlt
      obtain ⟨k1, k2⟩ := hT.blks b B hB
      refine ⟨fun hn => k1 ?_, fun c hc => ?_⟩
      · have hn : (glueR k gT.r g2.r) b = none := hn
        rwa [rM, if_pos hlt] at hn
      · have hc : (glueR k gT.r g2.r) b = some c := hc
        rw [rM, if_pos hlt] at hc
        obtain ⟨cells, m1, m2, m3⟩ := k2 c hc
        refine ⟨cells, m1, m2, fun i e he => ?_⟩
        obtain ⟨u, q1, q2, q3⟩ := m3 i e he
        exact ⟨u, Rep.under (g := gT) (g2 := ⟨gT.h ++ g2.h.drop k, glueR k gT.r g2.r, gT.w, gT.St⟩) (n := k) (fun b B hb hB => ⟨B, by simp only; rw [vM, if_pos hb]; exact hB, rfl, rfl, rfl, by simp only; rw [rM, if_pos hb]⟩) rfl (fun _ h => h) q1 (by rw [← hl]; exact q1.scopd), q2, q3⟩
    · rename_i hlt
      obtain ⟨k1, k2⟩ := h2.blks b B hB
      refine ⟨fun hn => k1 ?_, fun c hc => ?_⟩
      · have hn : (glueR k gT.r g2.r) b = none := hn
        rwa [rM, if_neg hlt] at hn
      · have hc : (glueR k gT.r g2.r) b = some c := hc
        rw [rM, if_neg hlt] at hc
        obtain ⟨cells, m1, m2, m3⟩ := k2 c hc
        have hcl := img_lt h2 hB hc
        refine ⟨cells, ?_, m2, fun i e he => ?_⟩
        · have : gT.w.heap[c]? = g2.w.heap[c]? := s.old c hcl fun b' B' hlo' hB' _ hc' => by
            have hB' : blk (g2.h.take k) b' = some B' := hB'
            have hv := vblk_of (r := g2.r) hB'
            rw [vk] at hv
            split at hv
            · rename_i hb'
              have := h2.inj b b' B B' c hB hv hc hc'
              omega
            · cases hv
          simp only
          rw [this]
          exact m1
        · obtain ⟨u, q1, q2, q3⟩ := m3 i e he
          exact ⟨u, q1.step st h2, q2, q3⟩
  · simp only at hB hB' hc hc'
    rw [vM] at hB hB'
    rw [rM] at hc hc'
    by_cases hb : b < k <;> by_cases hb' : b' < k
    · rw [if_pos hb] at hB hc
      rw [if_pos hb'] at hB' hc'
      exact hT.inj b b' B B' c hB hB' hc hc'
    · rw [if_pos hb] at hB hc
      rw [if_neg hb'] at hB' hc'
      obtain ⟨⟨B0, h0⟩, h1⟩ := iT hB hc (img_lt h2 hB' hc')
      exact h2.inj b b' B0 B' c h0 hB' h1 hc'
    · rw [if_neg hb] at hB hc
      rw [if_pos hb'] at hB' hc'
      obtain ⟨⟨B0, h0⟩, h1⟩ := iT hB' hc' (img_lt h2 hB hc)
      exact h2.inj b b' B B0 c hB h0 hc h1
    · rw [if_neg hb] at hB hc
      rw [if_neg hb'] at hB' hc'
      exact h2.inj b b' B B' c hB hB' hc hc'
  · simp only at hB hc hS
    rw [vM] at hB
    rw [rM] at hc
    split at hB
    · rename_i hb
      rw [if_pos hb] at hc
      exact hT.nost b B c hlo hB hf hc hS
    · rename_i hb
      rw [if_neg hb] at hc
      rcases s.stNew c (img_lt h2 hB hc) hS with h | ⟨b', B', q1, q2, q3, q4⟩
      · exact h2.nost b B c hlo hB hf hc h
      · obtain ⟨⟨B0, h0⟩, h1⟩ := iT q2 q4 (img_lt h2 hB hc)
        have := h2.inj b b' B B0 c hB h0 hc h1
        have := bk q2
        omega
  · simp only at hB hc
    rw [vM] at hB
    rw [rM] at hc
    split at hB
    · rename_i hb
      rw [if_pos hb] at hc
      exact hT.frst b B c hB hf hc
    · rename_i hb
      rw [if_neg hb] at hc
      exact s.st c (h2.frst b B c hB hf hc)

theorem lowOk_spec {k : Nat} {h : Heap} (e : lowOk k h = true) : k ≤ h.length ∧ ∀ (b : Nat) (r : RM) (B : Blk), b < k → vblk h r b = some B → AV.scopdL k B.es = true := by
  simp only [lowOk, Bool.and_eq_true, decide_eq_true_eq, List.all_eq_true] at e
  refine ⟨e.1, fun b r B hb hB => ?_⟩
  cases hx : h[b]? with
  | none => rw [vblk_none (.inl hx)] at hB; cases hB
  | some x =>
    have := e.2 x (List.mem_of_getElem? (i := b) (by rw [take_get, if_pos hb]; exact hx))
    cases x with
    | free => rw [vblk_none (.inr hx)] at hB; cases hB
    | hid => simp at this
    | live C =>
      rw [vblk_live hx] at hB
      cases hB
      exact this

/-- The part below k of a state. -/
theorem low_ok {g : G} {k : Nat} (hr : HRep lo g) (e : lowOk k g.h = true) : HRep lo ⟨g.h.take k, g.r, g.w, g.St⟩ ∧ ∀ {x : AV} {v : Value}, x.scopd k = true → Rep g x v → Rep ⟨g.h.take k, g.r, g.w, g.St⟩ x v := by
  obtain ⟨hk, hsc⟩ := lowOk_spec e
  have vk : ∀ {b : Nat} {B : Blk}, vblk (g.h.take k) g.r b = some B → b < k ∧ vblk g.h g.r b = some B := fun {b B} h => by
    rw [vblk_take] at h
    split at h
    · exact ⟨by assumption, h⟩
    · cases h
  have mv : ∀ {x : AV} {v : Value}, x.scopd k = true → Rep g x v → Rep ⟨g.h.take k, g.r, g.w, g.St⟩ x v := fun hs hx =>
    Rep.under (g := g) (g2 := ⟨g.h.take k, g.r, g.w, g.St⟩) (n := k) (fun b B hb hB => ⟨B, by simp only; rw [vblk_take, if_pos hb]; exact hB, rfl, rfl, rfl, rfl⟩) rfl (fun _ h => h) hx hs
  refine ⟨⟨fun b B hB => ?_, fun b b' B B' c hB hB' hc hc' => hr.inj b b' B B' c (vk hB).2 (vk hB').2 hc hc', fun b B c hlo hB hf hc => hr.nost b B c hlo (vk hB).2 hf hc, hr.stlt, fun b B c hB hf hc => hr.frst b B c (vk hB).2 hf hc⟩, mv⟩
  obtain ⟨k1, k2⟩ := hr.blks b B (vk hB).2
  refine ⟨k1, fun c hc => ?_⟩
  obtain ⟨cells, m1, m2, m3⟩ := k2 c hc
  refine ⟨cells, m1, m2, fun i x hx => ?_⟩
  obtain ⟨u, q1, q2, q3⟩ := m3 i x hx
  exact ⟨u, mv (scopdL_iff.1 (hsc b g.r B (vk hB).1 (vk hB).2) i x hx) q1, q2, q3⟩

theorem RepL.canon {g : G} {xs : List AV} {vs : Array Value} (h : RepL g xs vs) : RepL g (xs.map AV.canon) vs := by
  refine ⟨by simpa using h.1, fun j x v hx hv => ?_⟩
  rw [List.getElem?_map, Option.map_eq_some_iff] at hx
  obtain ⟨y, hy, rfl⟩ := hx
  exact (h.2 j y v hy hv).canon

theorem Post.canon {keep : Bool} {g : G} {v : AV} {h' : Heap} {v' : Value} {w' : World} (h : Post lo base g v h' v' w') : Post lo base g (canonR keep v) h' v' w' := by
  obtain ⟨r, S, h1, h2, h3⟩ := h
  exact ⟨r, S, h1.canonR, h2, h3⟩

theorem callPol_sound {f : Nat} {p : Pol} {body : Nat → Nat → List AV → Heap → Option (AV × Heap)} (hbody : BodySound P f body) {tgt : Nat} {args : List AV} {g : G} {vals : Array Value} {v : AV} {h' : Heap} (hlb : lo ≤ base) (hbt : base ≤ tgt) (hbl : base ≤ g.h.length)
    (hr : HRep lo g) (ha : RepL g args vals) (h : callPol p body lo base tgt args g.h = some (v, h')) : Calls P f vals g.w (Back (Post lo base g v h')) := by
  have pp : ∀ {r : AV} {x : Option Heap}, callPol.put1' r x = some (v, h') → x = some h' ∧ r = v := fun {r x} e => by
    unfold callPol.put1' at e
    split at e
    · cases e; exact ⟨rfl, rfl⟩
    · cases e
  unfold callPol at h
  split at h
  · exact hbody lo base args g vals v h' hlb hbl hr ha h
  · split at h
    · generalize topOf p.top args = k at h
      split at h
      · rename_i h2 args' hfr hargs
        split at h
        · rename_i hcond
          simp only [Bool.and_eq_true, decide_eq_true_eq] at hcond
          obtain ⟨hlow, hlok⟩ := hcond
          split at h
          · rename_i v1 h1 he
            split at h
            · rename_i rr bs hseal
              split at h
              · rename_i hc
                simp only [Bool.and_eq_true, decide_eq_true_eq] at hc
                obtain ⟨hp, rfl⟩ := pp h
                obtain ⟨hkl, _⟩ := lowOk_spec hlow
                obtain ⟨St2, sf, hf, himg⟩ := freeze_ok (lo := lo) (base := base) _ g h2 hr hfr
                obtain ⟨hlo2, mv⟩ := low_ok (g := ⟨h2, g.r, g.w, St2⟩) hf hlow
                have haA : RepL ⟨h2.take k, g.r, g.w, St2⟩ (args'.map AV.canon) vals := by
                  refine RepL.canon ⟨by rw [(mapO_some hargs).1]; exact ha.1, fun j y u hy hu => ?_⟩
                  obtain ⟨x, hx, hxy⟩ := mapO_rep hargs hy
                  exact embed_rep (g' := ⟨h2.take k, g.r, g.w, St2⟩) hr (m := k) (fun hs hx => mv hs (hx.step sf hr)) (fun c hc => sf.st c hc) (fun _ _ => rfl) k k (Nat.le_refl _) (Nat.le_refl _) depth x y u hxy (ha.2 j x u hx hu) fun b hb c hcc =>
                    himg b (List.mem_flatMap.2 ⟨x, List.mem_of_getElem? hx, hb⟩) c hcc
                have hlk : (h2.take k).length = k := by simp; omega
                refine (hbody lo k (args'.map AV.canon) ⟨h2.take k, g.r, g.w, St2⟩ vals v1 h1 hlok (by simp only; omega) hlo2 haA he).mono (Back.mono ?_)
                rintro u w1 ⟨r1, St1, hv, hr1, s1⟩
                have hlen1 : k ≤ h1.length := by have := s1.len; simp only at this; omega
                obtain ⟨hT, sT⟩ := truncate (g := ⟨h2.take k, g.r, g.w, St2⟩) (g1 := ⟨h1, r1, w1, St1⟩) (base := min base k) hlo2 hr1 (by simp only; rw [hlk]; exact s1) (by simp only; omega) (keptIds p.keep k v1)
                simp only [hlk] at hT sT
                obtain ⟨hM, sM⟩ := glue (g2 := ⟨h2, g.r, g.w, St2⟩) (gT := ⟨h1.take k, r1, w1, StDrop k (keptIds p.keep k v1) ⟨h1, r1, w1, St1⟩⟩) (k := k) (base := base) hkl (by simp; omega) hf hT sT
                have hnew : ∀ (b : Nat) (B : Blk) (c : Nat), k ≤ b → vblk h1 r1 b = some B → r1 b = some c → g.w.heap.size ≤ c := fun b B c hn hB hcc => by
                  rcases Nat.lt_or_ge c g.w.heap.size with hlt | hge
                  · obtain ⟨⟨B0, h0⟩, _⟩ := s1.img b B c hB hcc hlt
                    have := vblk_lt h0
                    simp only at this
                    omega
                  · exact hge
                have hl1 : (h1.take k).length = k := by simp; omega
                refine Post.canon (finish (n := k) hr1 hM (sf.trans sM) hbt hlok rfl hv hseal hc.1 hp (fun b B hlt hB => ⟨B, ?_, rfl, rfl, rfl, ?_⟩) (fun b B c hn hB hcc => ⟨hnew b B c hn hB hcc, fun b' B' hB' hc' => ?_⟩) (fun b B c hn hk hB hfz hcc hS => ?_) (.inl ⟨fun c hc => .inl hc, fun b B c hn hnk hB hcc => .inr ⟨b, B, hn, hB, hcc, hnk⟩⟩))
                · simp only
                  rw [vblk_glue hl1 hkl, if_pos hlt, vblk_take, if_pos hlt]
                  exact hB
                · simp only [glueR, if_pos hlt]
                · simp only at hB' hc'
                  rw [vblk_glue hl1 hkl] at hB'
                  simp only [glueR] at hc'
                  split at hB'
                  · rename_i hlt
                    rw [if_pos hlt] at hc'
                    rw [vblk_take, if_pos hlt] at hB'
                    have := hr1.inj b b' B B' c hB hB' hcc hc'
                    omega
                  · rename_i hlt
                    rw [if_neg hlt] at hc'
                    have h1 := img_lt hf hB' hc'
                    have h2 := hnew b B c hn hB hcc
                    simp only at h1
                    omega
                · rcases hS with hS | ⟨b', B', q1, q2, q3, q4⟩
                  · exact hr1.nost b B c (by omega) hB hfz hcc hS
                  · have := hr1.inj b b' B B' c hB q2 hcc q3
                    subst this
                    exact q4 hk
              · cases h
            · cases h
          · cases h
        · cases h
      · cases h
    · split at h
      · rename_i args' hargs
        split at h
        · rename_i v1 h1 he
          split at h
          · rename_i rr bs hseal
            split at h
            · rename_i hc
              simp only [Bool.and_eq_true, decide_eq_true_eq] at hc
              let ids := args.flatMap (slIds g.h 0 depth)
              let StA : Nat → Prop := fun c => g.St c ∨ (c < g.w.heap.size ∧ ∃ b ∈ ids, g.r b = some c)
              have hA : HRep 0 ⟨[], g.r, g.w, StA⟩ := by
                refine ⟨fun b B hB => by simp [vblk] at hB, fun b b' B B' c hB => by simp [vblk] at hB, fun b B c _ hB => by simp [vblk] at hB, fun c hc => ?_, fun b B c hB => by simp [vblk] at hB⟩
                rcases hc with hc | hc
                · exact hr.stlt c hc
                · exact hc.1
              have haA : RepL ⟨[], g.r, g.w, StA⟩ (args'.map AV.canon) vals := by
                refine RepL.canon ⟨by rw [(mapO_some hargs).1]; exact ha.1, fun j y u hy hu => ?_⟩
                obtain ⟨x, hx, hxy⟩ := mapO_rep hargs hy
                refine embed_rep (g' := ⟨[], g.r, g.w, StA⟩) hr (m := 0) (fun hs hx => ?_) (fun c hc => .inl hc) (fun _ _ => rfl) 0 0 (Nat.le_refl _) (Nat.le_refl _) depth x y u hxy (ha.2 j x u hx hu) fun b hb c hcc => ?_
                · exact Rep.under (g := g) (g2 := ⟨[], g.r, g.w, StA⟩) (n := 0) (fun b B hb => by omega) rfl (fun c hc => .inl hc) hx hs
                · obtain ⟨B, hB⟩ := slIds_good _ _ _ _ _ hb
                  exact .inr ⟨img_lt hr (vblk_of hB) hcc, b, List.mem_flatMap.2 ⟨x, List.mem_of_getElem? hx, hb⟩, hcc⟩
              refine (hbody 0 0 (args'.map AV.canon) ⟨[], g.r, g.w, StA⟩ vals v1 h1 (Nat.le_refl _) (Nat.le_refl _) hA haA he).mono (Back.mono ?_)
              rintro u w1 ⟨r1, St1, hv, hr1, s1⟩
              have hgr : Grows g.w w1 := ⟨s1.size, fun c hcl => s1.old c hcl fun b B hlo hB => by simp [blk] at hB, s1.os, s1.tape, s1.output⟩
              have hnew : ∀ (b : Nat) (B : Blk) (c : Nat), vblk h1 r1 b = some B → r1 b = some c → g.w.heap.size ≤ c := fun b B c hB hcc => by
                rcases Nat.lt_or_ge c g.w.heap.size with hlt | hge
                · obtain ⟨⟨B0, h0⟩, _⟩ := s1.img b B c hB hcc hlt
                  simp [vblk] at h0
                · exact hge
              by_cases hfl : flatRes rr bs = true
              · rw [if_pos hfl] at h
                obtain ⟨hp, rfl⟩ := pp h
                obtain ⟨sM, hM⟩ := stable_new (lo := lo) (base := base) hr hgr g.St (fun _ h => h) (fun _ h => .inl h)
                refine Post.canon (finish (n := 0) hr1 hM sM hbt (Nat.le_refl _) rfl hv hseal hc.1 hp (fun b B hlt => by omega) (fun b B c hn hB hcc => ⟨hnew b B c hB hcc, fun b' B' hB' hc' => ?_⟩) (fun b B c hn hk hB hf hcc hS => ?_) (.inr hfl))
                · have h1 := img_lt hr hB' hc'
                  have h2 := hnew b B c hB hcc
                  omega
                · have h1 := hr.stlt c hS
                  have h2 := hnew b B c hB hcc
                  omega
              · rw [if_neg hfl] at h
                split at h
                · rename_i h2 hfr
                  obtain ⟨hp, rfl⟩ := pp h
                  obtain ⟨St2, sf, hf, himg⟩ := freeze_ok (lo := lo) (base := base) ids g h2 hr hfr
                  obtain ⟨sM, hM⟩ := stable_new (lo := lo) (base := base) (g := ⟨h2, g.r, g.w, St2⟩) (w' := w1) hf hgr (fun c => St2 c ∨ (g.w.heap.size ≤ c ∧ c < w1.heap.size ∧ ∀ b B, b ∈ keptIds p.keep 0 v1 → vblk h1 r1 b = some B → B.frz = false → r1 b ≠ some c))
                    (fun _ h => .inl h) (fun c h => h.imp id fun h => ⟨h.1, h.2.1⟩)
                  refine Post.canon (finish (n := 0) hr1 hM (sf.trans sM) hbt (Nat.le_refl _) rfl hv hseal hc.1 hp (fun b B hlt hB => by omega) (fun b B c hn hB hcc => ⟨hnew b B c hB hcc, fun b' B' hB' hc' => ?_⟩) (fun b B c hn hk hB hfz hcc hS => ?_) (.inl ⟨fun c hS => ?_, fun b B c hn hnk hB hcc => ?_⟩))
                  · have h1 := img_lt hf hB' hc'
                    have h2 := hnew b B c hB hcc
                    simp only at h1
                    omega
                  · rcases hS with hS | hS
                    · have h1 := hf.stlt c hS
                      have h2 := hnew b B c hB hcc
                      simp only at h1
                      omega
                    · exact hS.2.2 b B hk hB hfz hcc
                  · rcases Nat.lt_or_ge c g.w.heap.size with hlt | hge
                    · rcases s1.stNew c hlt hS with hS | ⟨b, B, q1, q2, q3, q4⟩
                      · rcases hS with hS | ⟨_, b, hb, hcb⟩
                        · exact .inl (sf.st c hS)
                        · exact .inl (himg b hb c hcb)
                      · have := hnew b B c q2 q4
                        omega
                    · exact .inr ⟨hge, hr1.stlt c hS, fun b B hk hB hfz hcc => hr1.nost b B c (Nat.zero_le _) hB hfz hcc hS⟩
                  · refine .inr ⟨hnew b B c hB hcc, img_lt hr1 hB hcc, fun b' B' hk' hB' hf' hc' => ?_⟩
                    have := hr1.inj b b' B B' c hB hB' hcc hc'
                    subst this
                    exact hnk hk'
                · cases h
            · cases h
          · cases h
        · cases h
      · cases h

end
end Go.Abs
