/- What a call made is dropped, but for what is kept. -/
import Derived.Test.YtnpfhbhhbdegfaaDoorC9
set_option linter.unusedSimpArgs false
set_option linter.unusedVariables false
namespace Go.Abs

section
variable {lo base : Nat}

/-- What stays as it is from now on: all that nothing leads to any more. -/
def StDrop (n : Nat) (K : List Nat) (g1 : G) (c : Nat) : Prop := g1.St c ∨ ∃ b B, n ≤ b ∧ vblk g1.h g1.r b = some B ∧ g1.r b = some c ∧ b ∉ K

theorem take_get (h : Heap) (n b : Nat) : (h.take n)[b]? = if b < n then h[b]? else none := by
  rw [List.getElem?_take]
theorem vblk_take (h : Heap) (r : RM) (n b : Nat) : vblk (h.take n) r b = if b < n then vblk h r b else none := by
  split
  · rename_i hb
    exact vblk_congr (by rw [take_get, if_pos hb]) fun _ => rfl
  · rename_i hb
    exact vblk_none (.inl (by rw [take_get, if_neg hb]))

/-- Behind a call that may write below n: what lies below n is what lay there. -/
theorem below_back {g g1 : G} {lo' : Nat} (s : Step lo' g.h.length g g1) {b : Nat} {B : Blk} (hb : b < g.h.length) (h : vblk g1.h g1.r b = some B) : ∃ B0, vblk g.h g.r b = some B0 := by
  cases he : g.h[b]? with
  | none => exact absurd (List.getElem?_eq_none_iff.1 he) (by omega)
  | some e =>
    cases e with
    | free =>
      have := s.free b hb he
      rw [vblk_none (.inr this)] at h
      cases h
    | hid =>
      obtain ⟨k1, k2⟩ := s.hid b he
      refine ⟨B, ?_⟩
      have h2 : g1.r.hb b = some B := by simpa [vblk, k1] using h
      simp [vblk, he, ← k2, h2]
    | live C => exact ⟨C, vblk_live he⟩
theorem below_scopd {g g1 : G} {lo' lo0 : Nat} (hr : HRep lo0 g) (s : Step lo' g.h.length g g1) {b : Nat} {B : Blk} (hb : b < g.h.length) (h : vblk g1.h g1.r b = some B) : AV.scopdL g.h.length B.es = true := by
  obtain ⟨B0, h0⟩ := below_back s hb h
  refine s.scp b B0 B hb h0 h _ (scopdL_iff.2 fun i x hx => ?_)
  obtain ⟨k1, k2⟩ := hr.blks b B0 h0
  cases hc : g.r b with
  | none => rw [k1 hc] at hx; simp at hx
  | some c =>
    obtain ⟨cells, _, _, k3⟩ := k2 c hc
    obtain ⟨u, u1, _⟩ := k3 i x hx
    exact u1.scopd

theorem img_lt {lo0 : Nat} {g : G} (hr : HRep lo0 g) {b c : Nat} {B : Blk} (hB : vblk g.h g.r b = some B) (hc : g.r b = some c) : c < g.w.heap.size := by
  obtain ⟨cells, h1, _⟩ := (hr.blks b B hB).2 c hc
  exact (Array.getElem?_eq_some_iff.1 h1).1

theorem truncate {g g1 : G} (hr : HRep lo g) (hr1 : HRep lo g1) (s : Step lo g.h.length g g1) (hb : base ≤ g.h.length) (K : List Nat) :
    HRep lo ⟨g1.h.take g.h.length, g1.r, g1.w, StDrop g.h.length K g1⟩ ∧ Step lo base g ⟨g1.h.take g.h.length, g1.r, g1.w, StDrop g.h.length K g1⟩ := by
  have hv : ∀ {b : Nat} {B : Blk}, vblk (g1.h.take g.h.length) g1.r b = some B → b < g.h.length ∧ vblk g1.h g1.r b = some B := fun {b B} h => by
    rw [vblk_take] at h
    split at h
    · exact ⟨by assumption, h⟩
    · cases h
  have hv2 : ∀ {b : Nat} {B : Blk}, b < g.h.length → vblk g1.h g1.r b = some B → vblk (g1.h.take g.h.length) g1.r b = some B := fun {b B} hb h => by rw [vblk_take, if_pos hb]; exact h
  have mrep : ∀ {x : AV} {v : Value}, Rep g1 x v → x.scopd g.h.length = true → Rep ⟨g1.h.take g.h.length, g1.r, g1.w, StDrop g.h.length K g1⟩ x v := fun hx hsc =>
    Rep.under (g2 := ⟨g1.h.take g.h.length, g1.r, g1.w, StDrop g.h.length K g1⟩) (fun b B hlt hB => ⟨B, hv2 hlt hB, rfl, rfl, rfl, rfl⟩) rfl (fun c hc => .inl hc) hx hsc
  refine ⟨⟨fun b B hB => ?_, fun b b' B B' c hB hB' hc hc' => ?_, fun b B c hlo hB hf hc hS => ?_, fun c hc => ?_, fun b B c hB hf hc => ?_⟩, ?_⟩
  · obtain ⟨h1, h2⟩ := hv hB
    obtain ⟨k1, k2⟩ := hr1.blks b B h2
    refine ⟨k1, fun c hc => ?_⟩
    obtain ⟨cells, m1, m2, m3⟩ := k2 c hc
    refine ⟨cells, m1, m2, fun i e he => ?_⟩
    obtain ⟨v, q1, q2, q3⟩ := m3 i e he
    exact ⟨v, mrep q1 (scopdL_iff.1 (below_scopd hr s h1 h2) i e he), q2, q3⟩
  · exact hr1.inj b b' B B' c (hv hB).2 (hv hB').2 hc hc'
  · obtain ⟨h1, h2⟩ := hv hB
    rcases hS with hS | ⟨b', B', q1, q2, q3, _⟩
    · exact hr1.nost b B c hlo h2 hf hc hS
    · have := hr1.inj b b' B B' c h2 q2 hc q3
      omega
  · rcases hc with hc | ⟨b', B', q1, q2, q3, _⟩
    · exact hr1.stlt c hc
    · exact img_lt hr1 q2 q3
  · exact .inl (hr1.frst b B c (hv hB).2 hf hc)
  · exact {
      len := by simp; have := s.len; omega
      hid := fun b hb' => by
        obtain ⟨k1, k2⟩ := s.hid b hb'
        exact ⟨by simp only; rw [take_get, if_pos (List.getElem?_eq_some_iff.1 hb').1]; exact k1, k2⟩
      free := fun b hlt hf => by
        simp only
        rw [take_get, if_pos (List.getElem?_eq_some_iff.1 hf).1]
        exact s.free b (by omega) hf
      live := fun b B hB => by
        obtain ⟨B', k1, k2⟩ := s.live b B hB
        exact ⟨B', hv2 (vblk_lt hB) k1, k2⟩
      keep := fun b B hB hc => by
        obtain ⟨k1, k2⟩ := s.keep b B hB hc
        exact ⟨hv2 (vblk_lt hB) k1, k2⟩
      scp := fun b B B' hlt hB hB' => s.scp b B B' (by omega) hB (hv hB').2
      size := s.size
      old := s.old
      shp := s.shp
      img := fun b B c hB => s.img b B c (hv hB).2
      st := fun c hc => .inl (s.st c hc)
      stNew := fun c hc hs => by
        rcases hs with hs | ⟨b', B', q1, q2, q3, _⟩
        · rcases s.stNew c hc hs with h | ⟨b, B, k1, k2, k3, k4⟩
          · exact .inl h
          · obtain ⟨⟨B0, h0⟩, _⟩ := s.img b B c k2 k4 hc
            exact .inr ⟨b, B, k1, hv2 (vblk_lt h0) k2, k3, k4⟩
        · obtain ⟨⟨B0, h0⟩, _⟩ := s.img b' B' c q2 q3 hc
          have := vblk_lt h0
          omega
      os := s.os
      tape := s.tape
      output := s.output }

end
end Go.Abs
