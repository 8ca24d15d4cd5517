/- Operations that make memory: boxes, slices. -/
import Derived.Test.YtnpfhbhhbdegfaaDoorA7
namespace Go.Abs

section
variable {P : Program} {g : G} {fr : Frame} {a : Act} {lo base : Nat}

theorem ghosts_spec (x : AV) : ∀ (gh : List (Nat × Nat × Nat)) (t : Nat), (ghosts x t gh).2.length = gh.length ∧ ((∀ C ∈ (ghosts x t gh).2, C.es = []) ∧ ∀ C ∈ (ghosts x t gh).2, C.frz = false) ∧ (ghosts x t gh).1.length = x.cells.length ∧
    ∀ (j : Nat) (y : AV), (ghosts x t gh).1[j]? = some y → x.cells[j]? = some y ∨ (x.cells[j]? = some .emp ∧ ∃ k C, y = .sl C.sz (t + k) 0 0 0 ∧ (ghosts x t gh).2[k]? = some C)
  | [], t => by simp [ghosts]
  | (q, ty, sz) :: gh, t => by
    obtain ⟨h1, ⟨h2, h2'⟩, h3, h4⟩ := ghosts_spec x gh (t + 1)
    have lift : ∀ (j : Nat) (y : AV) (B : Blk), (ghosts x (t + 1) gh).1[j]? = some y → x.cells[j]? = some y ∨ (x.cells[j]? = some .emp ∧ ∃ k C, y = .sl C.sz (t + k) 0 0 0 ∧ (B :: (ghosts x (t + 1) gh).2)[k]? = some C) := by
      intro j y B hy
      rcases h4 j y hy with h | ⟨h, k, C, hk, hC⟩
      · exact .inl h
      · exact .inr ⟨h, k + 1, C, by rw [hk]; congr 1; omega, by simpa using hC⟩
    simp only [ghosts]
    split
    · rename_i hq
      refine ⟨by simp [h1], ⟨fun C hC => ?_, fun C hC => ?_⟩, by simp [h3], fun j y hy => ?_⟩
      · rcases List.mem_cons.1 hC with rfl | hC
        · rfl
        · exact h2 C hC
      · rcases List.mem_cons.1 hC with rfl | hC
        · rfl
        · exact h2' C hC
      · by_cases hj : q = j
        · subst hj
          have hlt : q < (ghosts x (t + 1) gh).1.length := by rw [h3]; exact (List.getElem?_eq_some_iff.1 hq).1
          rw [List.getElem?_set_self hlt] at hy
          cases hy
          exact .inr ⟨hq, 0, _, by simp, rfl⟩
        · rw [List.getElem?_set_ne hj] at hy
          exact lift j y _ hy
    · refine ⟨by simp [h1], ⟨fun C hC => ?_, fun C hC => ?_⟩, h3, fun j y hy => lift j y _ hy⟩
      · rcases List.mem_cons.1 hC with rfl | hC
        · rfl
        · exact h2 C hC
      · rcases List.mem_cons.1 hC with rfl | hC
        · rfl
        · exact h2' C hC

theorem alloc_at (w : World) (o : Obj) : (w.alloc o).heap[w.heap.size]? = some o := by simp [World.alloc, -World.alloc_eq]

theorem rNew_tgt (g : G) (tgt n : Nat) (c0 : Option Nat) : rNew g tgt n c0 tgt = c0 := by simp [rNew]

/-- A variable's block. -/
theorem box_ok {tgt ty sz : Nat} {gh : List (Nat × Nat × Nat)} {x v : AV} {xv : Value} {h' : Heap} (hr : HRep lo g) (hx : Rep g x xv) (hb : base ≤ tgt) (h : boxAV g.h tgt ty sz gh x = some (v, h')) :
    ∃ r' St', Rep ⟨h', r', g.w.alloc (.cells xv.cells ty), St'⟩ v (.pointer (some ⟨g.w.heap.size, 0, none⟩)) ∧ HRep lo ⟨h', r', g.w.alloc (.cells xv.cells ty), St'⟩ ∧ Step lo base g ⟨h', r', g.w.alloc (.cells xv.cells ty), St'⟩ := by
  have hcl := (rep_cells hx).1
  unfold boxAV at h
  split at h
  · rename_i hsz
    have fin : ∀ (y : AV) (gs : List Blk), place g.h tgt ({ ty, sz, frz := false, es := [y] } :: gs) = some h' → (∀ C ∈ gs, C.es = []) → (∀ C ∈ gs, C.frz = false) →
        (∀ g', Step lo base g g' → g'.h = h' → (∀ k C, gs[k]? = some C → g'.r (tgt + 1 + k) = none) → Rep g' y xv) →
        ∃ r' St', Rep ⟨h', r', g.w.alloc (.cells xv.cells ty), St'⟩ (.ptr tgt 1 0 0) (.pointer (some ⟨g.w.heap.size, 0, none⟩)) ∧ HRep lo ⟨h', r', g.w.alloc (.cells xv.cells ty), St'⟩ ∧ Step lo base g ⟨h', r', g.w.alloc (.cells xv.cells ty), St'⟩ := by
      intro y gs hp hgs hgf hy
      obtain ⟨s, hh⟩ := place_new (lo := lo) (base := base) hr hp hgs (fun C hC => by rcases List.mem_cons.1 hC with rfl | hC; exact rfl; exact hgf C hC) hb (Grows.alloc g.w (.cells xv.cells ty)) (some g.w.heap.size) (fun c hc => by cases hc; simp) g.St (fun _ h => h) (fun _ h => .inl h)
      refine ⟨_, g.St, .ptr ?_ ?_, hh ⟨fun hn => ?_, fun c hc => ?_⟩, s⟩
      · simpa using refOk_new (r' := rNew g tgt (gs.length + 1) (some g.w.heap.size)) (w' := g.w.alloc (.cells xv.cells ty)) (St' := g.St) hp (j := 0) rfl
      · intro B c hg hc
        simp only [rNew_tgt, Option.some.injEq] at hc
        subst hc
        simp
      · simp only [rNew_tgt] at hn; cases hn
      · simp only [rNew_tgt, Option.some.injEq] at hc
        subst hc
        refine ⟨xv.cells, alloc_at _ _, by simp [← hcl, hsz], fun i e he => ?_⟩
        cases i with
        | succ i => simp at he
        | zero =>
          simp at he
          subst he
          refine ⟨xv, hy _ s rfl (fun k C hk => ?_), by rw [← hcl, hsz], fun j z hz => by simpa using hz⟩
          have hlt := (List.getElem?_eq_some_iff.1 hk).1
          simp only [rNew]
          rw [if_neg (by omega), if_pos (by omega)]
    split at h
    · split at h
      · rename_i h1 hp
        cases h
        exact fin x [] hp (by simp) (by simp) fun g' s _ _ => hx.step s hr
      · cases h
    · simp only at h
      split at h
      · rename_i h1 hp
        split at h
        · rename_i ha
          cases h
          obtain ⟨k1, ⟨k2, k5⟩, k3, k4⟩ := ghosts_spec x gh (tgt + 1)
          refine fin _ _ hp k2 k5 fun g' s hg' hn => ?_
          obtain ⟨vs, rfl, h3⟩ := rep_agg hx ha
          obtain ⟨hl, hp2⟩ := rep_cells hx
          refine .agg (by rw [k3]; exact hl) (fun j y z hy hz => ?_) h3
          rcases k4 j y hy with h | ⟨he, k, C, rfl, hC⟩
          · exact (hp2 j y z h hz).step s hr
          · have h5 := hp2 j .emp z he hz
            cases h5
            have hj : ({ ty, sz, frz := false, es := [.agg (ghosts x (tgt + 1) gh).1] } :: (ghosts x (tgt + 1) gh).2)[k + 1]? = some C := by simpa using hC
            have hes := k2 C (List.mem_of_getElem? hC)
            have ok := refOk_new (r' := g'.r) (w' := g'.w) (St' := g'.St) hp hj
            have gd := good_new (r' := g'.r) hp hj
            rw [show tgt + (k + 1) = tgt + 1 + k by omega, hes] at ok gd
            have ok' : refOk g' (tgt + 1 + k) 0 := by rw [← hg'] at ok; exact ok
            refine .sl ok' (Nat.le_refl _) (Nat.le_refl _) (fun B hB => ?_) (by simp) (by simp) (fun _ B hB => ?_)
            · rw [hg'] at hB
              rw [show ([] : List AV).length = 0 from rfl, hB] at gd
              cases gd
              rfl
            · exact ⟨fun _ => rfl, fun c hc => by rw [hn k C hC] at hc; cases hc⟩
        · cases h
      · cases h
  · cases h

theorem ok_box {o : Oper} {t n tgt : Nat} {gh : List (Nat × Nat × Nat)} {x : Operand} {x' : Opd} {v : AV} {h' : Heap} (ho : o.op = .box t x) (hx : opd x = some x') (hf : FrRep g fr a) (hr : HRep lo g) (hb : base ≤ tgt)
    (h : boxAV g.h tgt t n gh (x'.get fr) = some (v, h')) : Ok P o a lo base g v h' := by
  obtain ⟨r', St', h1, h2, h3⟩ := box_ok hr (opd_rep hf hx) hb h
  refine ⟨_, _, _, r', St', ?_, .inl rfl, h1, h2, h3⟩
  simp [execOp, ho, Instr.box, newVar, newRow]

theorem ok_alloc {o : Oper} {t n tgt : Nat} {gh : List (Nat × Nat × Nat)} {z v : AV} {h' : Heap} (ho : o.op = .alloc t) (hz : zeroAV P t = some z) (hr : HRep lo g) (hb : base ≤ tgt)
    (h : boxAV g.h tgt t n gh z = some (v, h')) : Ok P o a lo base g v h' := by
  obtain ⟨zv, hzr, hzc, _⟩ := zeroAV_run hz g.w
  obtain ⟨r', St', h1, h2, h3⟩ := box_ok hr (constAV_rep hzc) hb h
  refine ⟨_, _, _, r', St', ?_, .inl rfl, h1, h2, h3⟩
  simp [execOp, ho, Instr.alloc, hzr, newVar, newRow]

end
end Go.Abs
