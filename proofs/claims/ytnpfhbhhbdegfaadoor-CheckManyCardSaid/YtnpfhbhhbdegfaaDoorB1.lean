/- Sealing and freezing; writing into a block. -/
import Derived.Test.YtnpfhbhhbdegfaaDoorA9
set_option linter.unusedSimpArgs false
set_option linter.unusedVariables false
namespace Go.Abs

section
variable {P : Program} {g : G} {fr : Frame} {a : Act} {lo base : Nat}

theorem mapO_rep {f : AV → Option AV} {xs ys : List AV} (h : mapO f xs = some ys) {i : Nat} {y : AV} (hy : ys[i]? = some y) : ∃ x, xs[i]? = some x ∧ f x = some y := by
  obtain ⟨hl, hi⟩ := mapO_some h
  have hlt := (List.getElem?_eq_some_iff.1 hy).1
  have hx := List.getElem?_eq_getElem (l := xs) (i := i) (by omega)
  obtain ⟨y', h1, h2⟩ := hi i _ hx
  rw [hy] at h1
  cases h1
  exact ⟨_, hx, h2⟩

theorem embed_rep (hr : HRep lo g) {g' : G} {m : Nat} (hm : ∀ {x : AV} {v : Value}, x.scopd m = true → Rep g x v → Rep g' x v) (hStm : ∀ c, g.St c → g'.St c) (hw : ∀ c, g'.St c → g'.w.heap[c]? = g.w.heap[c]?) (ns np : Nat) (hns : ns ≤ m) (hnp : np ≤ m) : ∀ (d : Nat) (x y : AV) (v : Value), embed g.h ns np d x = some y → Rep g x v → (∀ b ∈ slIds g.h ns d x, ∀ c, g.r b = some c → g'.St c) → Rep g' y v := by
  have hcl : ∀ {x y : AV} {v : Value}, (if x.closed = true then some x else none) = some y → Rep g x v → Rep g' y v := by
    intro x y v h hx
    split at h
    · rename_i hc; cases h; exact hm (scopd_of_closed m _ hc) hx
    · cases h
  intro d
  induction d with
  | zero => exact fun x y v h hx _ => hcl h hx
  | succ d ih =>
    intro x y v h hx hs
    simp only [embed] at h
    split at h
    · rename_i hc; cases h; exact hm (scopd_of_closed m _ hc) hx
    · rename_i hnc
      simp only [slIds, if_neg hnc] at hs
      split at h
      · rename_i sz b n off len
        simp only at hs
        split at h
        · rename_i hlt; cases h; exact hm (by simp only [AV.scopd, decide_eq_true_eq]; omega) hx
        · rename_i hlt
          simp only [if_neg hlt] at hs
          split at h
          · rename_i B hB
            simp only [hB] at hs
            split at h
            · rename_i hle
              cases hx with
              | sl r1 r2 r3 r6 r7 r4 r5 =>
                rename_i cap A
                have hBl := (good_eq.1 hB).2
                have hlen : ((B.es.drop off).take len).length = len := by simp; omega
                have hget : ∀ (i : Nat) (e : AV), ((B.es.drop off).take len)[i]? = some e → B.es[off + i]? = some e := by
                  intro i e he
                  rw [List.getElem?_take] at he
                  split at he
                  · simpa using he
                  · cases he
                obtain ⟨hn1, hn2⟩ := hr.blks b B (vblk_of (good_eq.1 hB).1)
                have mk : ∀ zs : List AV, zs.length = len → (∀ (i : Nat) (z : AV), zs[i]? = some z → ∃ e, B.es[off + i]? = some e ∧ ∀ v, Rep g e v → Rep g' z v) → (∀ c, g.r b = some c → g'.St c) → Rep g' (.ro B.sz zs) (.slice A len cap) := by
                  intro zs hzl hz hS
                  rw [← hzl]
                  rw [← hzl] at r2
                  cases hcb : g.r b with
                  | none =>
                    have he := hn1 hcb
                    have h0 : len = 0 := by rw [he] at hBl; simp at hBl; omega
                    have : zs = [] := List.length_eq_zero_iff.1 (by omega)
                    subst this
                    exact .ro (fun _ => undef) (by simp) (by simp) (by simp) (by simp)
                  | some c =>
                    obtain ⟨cells, hh, _, hes⟩ := hn2 c hcb
                    have hex : ∀ i, ∃ v : Value, ∀ e, B.es[i]? = some e → Rep g e v ∧ v.cells.size = B.sz ∧ ∀ (j : Nat) (x : Value), v.cells[j]? = some x → cells[i * B.sz + j]? = some x := by
                      intro i
                      cases he : B.es[i]? with
                      | none => exact ⟨undef, fun e h => by cases h⟩
                      | some e =>
                        obtain ⟨v, h1, h2, h3⟩ := hes i e he
                        exact ⟨v, fun e' h => by cases h; exact ⟨h1, h2, h3⟩⟩
                    refine .ro (fun i => Classical.choose (hex (off + i))) (fun i z hzi => ?_) (fun i hi => ?_) r2 fun hne => ⟨c, off * B.sz, r4 (by have := List.length_pos_iff.2 hne; omega) B c (vgood_of hB) hcb, hS c hcb, fun i j y hi hy => ?_⟩
                    · obtain ⟨e, he, hm'⟩ := hz i z hzi
                      exact hm' _ (Classical.choose_spec (hex (off + i)) e he).1
                    · obtain ⟨e, he, _⟩ := hz i _ (List.getElem?_eq_getElem hi)
                      exact (Classical.choose_spec (hex (off + i)) e he).2.1
                    · obtain ⟨e, he, _⟩ := hz i _ (List.getElem?_eq_getElem hi)
                      have := (Classical.choose_spec (hex (off + i)) e he).2.2 j y hy
                      rw [cell_at ((hw c (hS c hcb)).trans hh), ← this, Nat.add_mul]
                split at h
                · rename_i hcl'
                  simp only [if_pos hcl'] at hs
                  cases h
                  exact mk _ hlen (fun i z hz => ⟨z, hget i z hz, fun v hv => hm (scopd_of_closed m _ (closedL_iff.1 hcl' _ _ (hget i z hz))) hv⟩) (hs b (by simp))
                · rename_i hcl'
                  simp only [if_neg hcl'] at hs
                  simp only [Option.map_eq_some_iff] at h
                  obtain ⟨zs, hzs, rfl⟩ := h
                  refine mk zs (by rw [(mapO_some hzs).1, hlen]) (fun i z hz => ?_) (hs b (by simp))
                  obtain ⟨e, he, hez⟩ := mapO_rep hzs hz
                  exact ⟨e, hget i e he, fun v hv => ih e z v hez hv fun b' hb' => hs b' (List.mem_cons_of_mem _ (List.mem_flatMap.2 ⟨e, List.mem_of_getElem? he, hb'⟩))⟩
            · cases h
          · cases h
      · rename_i b n i o
        simp only at hs
        split at h
        · rename_i hlt; cases h; exact hm (by simp only [AV.scopd, decide_eq_true_eq]; omega) hx
        · rename_i hlt
          simp only [if_neg hlt] at hs
          split at h
          · rename_i B hB
            simp only [hB] at hs
            split at h
            · rename_i e he
              simp only [he] at hs
              cases hx with
              | @ptr _ _ _ _ ad r1 r2 =>
                obtain ⟨hn1, hn2⟩ := hr.blks b B (vblk_of (good_eq.1 hB).1)
                have mk : ∀ z : AV, (∀ v, Rep g e v → Rep g' z v) → (∀ c, g.r b = some c → g'.St c) → Rep g' (.rp B.sz z o) (.pointer (some ad)) := by
                  intro z hz hS
                  cases hcb : g.r b with
                  | none => rw [hn1 hcb] at he; cases he
                  | some c =>
                    obtain ⟨cells, hh, _, hes⟩ := hn2 c hcb
                    obtain ⟨u, u1, u2, u3⟩ := hes i e he
                    rw [r2 B c (vgood_of hB) hcb]
                    refine .rp (hz u u1) (hS c hcb) (fun j y hy => ?_) u2
                    rw [cell_at ((hw c (hS c hcb)).trans hh)]
                    exact u3 j y hy
                split at h
                · rename_i hcl'
                  simp only [if_pos hcl'] at hs
                  cases h
                  exact mk e (fun v hv => hm (scopd_of_closed m _ hcl') hv) (hs b (by simp))
                · rename_i hcl'
                  simp only [if_neg hcl'] at hs
                  simp only [Option.map_eq_some_iff] at h
                  obtain ⟨z, hz, rfl⟩ := h
                  exact mk z (fun v hv => ih e z v hz hv fun b' hb' => hs b' (List.mem_cons_of_mem _ hb')) (hs b (by simp))
            · cases h
          · cases h
      · simp only at hs
        simp only [Option.map_eq_some_iff] at h
        obtain ⟨zs, hzs, rfl⟩ := h
        cases hx with
        | agg h1 h2 h3 =>
          refine .agg (by rw [(mapO_some hzs).1, h1]) (fun j z u hz hu => ?_) h3
          obtain ⟨e, he, hez⟩ := mapO_rep hzs hz
          exact ih e z u hez (h2 j e u he hu) fun b hb => hs b (List.mem_flatMap.2 ⟨e, List.mem_of_getElem? he, hb⟩)
      · simp only at hs
        simp only [Option.map_eq_some_iff] at h
        obtain ⟨zs, hzs, rfl⟩ := h
        cases hx with
        | tup h1 h2 =>
          refine .tup (by rw [(mapO_some hzs).1, h1]) (fun j z u hz hu => ?_)
          obtain ⟨e, he, hez⟩ := mapO_rep hzs hz
          exact ih e z u hez (h2 j e u he hu) fun b hb => hs b (List.mem_flatMap.2 ⟨e, List.mem_of_getElem? he, hb⟩)
      · rename_i sz xs
        simp only at hs
        simp only [Option.map_eq_some_iff] at h
        obtain ⟨zs, hzs, rfl⟩ := h
        have hzl := (mapO_some hzs).1
        cases hx with
        | ro vf h1 h2 h3 h4 =>
          rw [← hzl]
          refine .ro vf (fun i z hz => ?_) (fun i hi => h2 i (by omega)) (by omega) fun hne => ?_
          · obtain ⟨e, he, hez⟩ := mapO_rep hzs hz
            exact ih e z _ hez (h1 i e he) fun b hb => hs b (List.mem_flatMap.2 ⟨e, List.mem_of_getElem? he, hb⟩)
          · have hne' : xs ≠ [] := by intro h; subst h; exact hne (List.length_eq_zero_iff.1 hzl)
            obtain ⟨c, off, hA, hS, hc⟩ := h4 hne'
            exact ⟨c, off, hA, hStm c hS, fun i j y hi hy => (cell_of_heap (hw c (hStm c hS))).trans (hc i j y (by omega) hy)⟩
      · simp only at hs
        split at h
        · rename_i zs us hzs hus
          cases h
          cases hx with
          | fn h1 h2 h3 h4 =>
            refine .fn (by rw [(mapO_some hzs).1, h1]) (fun j z u hz hu => ?_) (by rw [(mapO_some hus).1, h3]) (fun j z u hz hu => ?_)
            · obtain ⟨e, he, hez⟩ := mapO_rep hzs hz
              exact ih e z u hez (h2 j e u he hu) fun b hb => hs b (List.mem_append_left _ (List.mem_flatMap.2 ⟨e, List.mem_of_getElem? he, hb⟩))
            · obtain ⟨e, he, hez⟩ := mapO_rep hus hz
              exact ih e z u hez (h4 j e u he hu) fun b hb => hs b (List.mem_append_right _ (List.mem_flatMap.2 ⟨e, List.mem_of_getElem? he, hb⟩))
        · cases h
      · cases h

theorem freeze1_ok (hr : HRep lo g) {b : Nat} {h' : Heap} (h : freeze1 lo g.h b = some h') :
    ∃ St', Step lo base g ⟨h', g.r, g.w, St'⟩ ∧ HRep lo ⟨h', g.r, g.w, St'⟩ ∧ ∀ c, g.r b = some c → St' c := by
  unfold freeze1 at h
  split at h
  · rename_i B hB
    split at h
    · rename_i hf
      cases h
      exact ⟨g.St, Step.refl lo base g, hr, fun c hc => hr.frst b B c (vblk_of hB) hf hc⟩
    · rename_i hf
      split at h
      · rename_i hlo
        cases h
        have hblt : b < g.h.length := (List.getElem?_eq_some_iff.1 (blk_eq.1 hB)).1
        have at_ : ∀ i : Nat, i ≠ b → (g.h.set b (.live { B with frz := true }))[i]? = g.h[i]? := fun i hi => List.getElem?_set_ne (fun h => hi h.symm)
        have self : (g.h.set b (.live { B with frz := true }))[b]? = some (.live { B with frz := true }) := List.getElem?_set_self hblt
        have himg : ∀ {i : Nat} {C : Blk} {c : Nat}, vblk g.h g.r i = some C → g.r i = some c → c < g.w.heap.size := by
          intro i C c hC hc
          obtain ⟨cells, h1, _⟩ := (hr.blks i C hC).2 c hc
          exact (Array.getElem?_eq_some_iff.1 h1).1
        have cls : ∀ {i : Nat} {C : Blk}, vblk (g.h.set b (.live { B with frz := true })) g.r i = some C → (i = b ∧ C = { B with frz := true }) ∨ (i ≠ b ∧ vblk g.h g.r i = some C) := by
          intro i C hC
          by_cases hi : i = b
          · subst hi
            rw [vblk_live self] at hC
            cases hC
            exact .inl ⟨rfl, rfl⟩
          · exact .inr ⟨hi, (vblk_congr (at_ i hi) (fun _ => rfl)) ▸ hC⟩
        have s : Step lo base g ⟨g.h.set b (.live { B with frz := true }), g.r, g.w, fun c => g.St c ∨ g.r b = some c⟩ := {
          len := by simp
          hid := fun i hi => by
            by_cases h : i = b
            · subst h; rw [blk_eq.1 hB] at hi; cases hi
            · exact ⟨(at_ i h).trans hi, rfl⟩
          free := fun i _ hi => by
            by_cases h : i = b
            · subst h; rw [blk_eq.1 hB] at hi; cases hi
            · exact (at_ i h).trans hi
          live := fun i C hC => by
            by_cases h : i = b
            · subst h
              rw [vblk_of hB] at hC
              cases hC
              exact ⟨_, vblk_live self, rfl, rfl, fun _ => rfl, Nat.le_refl _, fun _ => rfl⟩
            · exact ⟨C, (vblk_congr (at_ i h) (fun _ => rfl)).trans hC, rfl, rfl, id, Nat.le_refl _, fun _ => rfl⟩
          keep := fun i C hC hc => by
            by_cases h : i = b
            · subst h
              rw [vblk_of hB] at hC
              cases hC
              rcases hc with hc | hc | hc
              · omega
              · exact absurd hc hf
              · rw [blk_eq.1 hB] at hc; cases hc
            · exact ⟨(vblk_congr (at_ i h) (fun _ => rfl)).trans hC, rfl⟩
          scp := fun i C C' _ hC hC' n hn => by
            rcases cls hC' with ⟨h, hC2⟩ | ⟨h, hC2⟩
            · subst h
              rw [vblk_of hB] at hC
              cases hC
              rw [hC2]
              exact hn
            · rw [hC] at hC2
              cases hC2
              exact hn
          size := Nat.le_refl _
          old := fun _ _ _ => rfl
          shp := fun _ _ => rfl
          img := fun i C c hC hc _ => by
            rcases cls hC with ⟨h, _⟩ | ⟨_, h⟩
            · subst h; exact ⟨⟨B, vblk_of hB⟩, hc⟩
            · exact ⟨⟨C, h⟩, hc⟩
          st := fun _ h => .inl h
          stNew := fun c _ h => by
            rcases h with h | h
            · exact .inl h
            · exact .inr ⟨b, _, hlo, vblk_live self, rfl, h⟩
          os := rfl
          tape := rfl
          output := rfl }
        refine ⟨_, s, ⟨fun i C hC => ?_, fun i i' C C' c hC hC' h1 h2 => ?_, fun i C c hi hC hfC hc hS => ?_, fun c hc => ?_, fun i C c hC hfC hc => ?_⟩, fun c hc => .inr hc⟩
        · rcases cls hC with ⟨h, hC2⟩ | ⟨h, hC2⟩
          · subst h
            subst hC2
            exact (hr.blks i B (vblk_of hB)).step s hr rfl fun _ _ => rfl
          · exact (hr.blks i C hC2).step s hr rfl fun _ _ => rfl
        · have k1 : ∃ D, vblk g.h g.r i = some D := by
            rcases cls hC with ⟨h, _⟩ | ⟨_, h⟩
            · subst h; exact ⟨B, vblk_of hB⟩
            · exact ⟨C, h⟩
          have k2 : ∃ D, vblk g.h g.r i' = some D := by
            rcases cls hC' with ⟨h, _⟩ | ⟨_, h⟩
            · subst h; exact ⟨B, vblk_of hB⟩
            · exact ⟨C', h⟩
          obtain ⟨D, hD⟩ := k1
          obtain ⟨D', hD'⟩ := k2
          exact hr.inj i i' D D' c hD hD' h1 h2
        · rcases cls hC with ⟨h, hC2⟩ | ⟨h, hC2⟩
          · rw [hC2] at hfC; cases hfC
          · rcases hS with hS | hS
            · exact hr.nost i C c hi hC2 hfC hc hS
            · exact h (hr.inj i b C B c hC2 (vblk_of hB) hc hS)
        · rcases hc with hc | hc
          · exact hr.stlt c hc
          · exact himg (vblk_of hB) hc
        · rcases cls hC with ⟨h, _⟩ | ⟨_, h⟩
          · subst h; exact .inr hc
          · exact .inl (hr.frst i C c h hfC hc)
      · cases h
  · cases h

theorem freeze_ok : ∀ (bs : List Nat) (g : G) (h' : Heap), HRep lo g → freeze lo g.h bs = some h' → ∃ St', Step lo base g ⟨h', g.r, g.w, St'⟩ ∧ HRep lo ⟨h', g.r, g.w, St'⟩ ∧ ∀ b ∈ bs, ∀ c, g.r b = some c → St' c
  | [], g, h', hr, h => by
    simp only [freeze, Option.some.injEq] at h
    subst h
    exact ⟨g.St, Step.refl lo base g, hr, by simp⟩
  | b :: bs, g, h', hr, h => by
    simp only [freeze] at h
    split at h
    · rename_i h1 he
      obtain ⟨St1, s1, r1, k1⟩ := freeze1_ok (base := base) hr he
      obtain ⟨St2, s2, r2, k2⟩ := freeze_ok bs ⟨h1, g.r, g.w, St1⟩ h' r1 h
      refine ⟨St2, s1.trans s2, r2, fun i hi c hc => ?_⟩
      rcases List.mem_cons.1 hi with rfl | hi
      · exact s2.st c (k1 c hc)
      · exact k2 i hi c hc
    · cases h

theorem setRow_at {w : World} {c : Nat} {cells cells' : Array Value} {ty : TypeId} {fz : Nat × Nat} (h : w.heap[c]? = some (.cells cells ty fz)) : (w.setRow c cells').heap[c]? = some (.cells cells' ty fz) := setRow_heap w c cells cells' ty fz h
theorem setRow_ne {w : World} {c i : Nat} {cells' : Array Value} (h : i ≠ c) : (w.setRow c cells').heap[i]? = w.heap[i]? := setRow_other w c i cells' h
theorem setRow_size (w : World) (c : Nat) (cells' : Array Value) : (w.setRow c cells').heap.size = w.heap.size := by simp [World.setRow]

/-- A block is written, in its own place. -/
theorem modify_ok (hr : HRep lo g) {b c : Nat} {B : Blk} {es' : List AV} {cells cells' : Array Value} (hB : blk g.h b = some B) (hlo : lo ≤ b) (hf : B.frz = false) (hc : g.r b = some c) (hh : g.w.heap[c]? = some (.cells cells B.ty (0, 0)))
    (hsz : cells'.size = cells.size) (hlen : B.es.length ≤ es'.length) (hscp : b < base → ∀ n, AV.scopdL n B.es = true → AV.scopdL n es' = true) :
    Step lo base g ⟨g.h.set b (.live { B with es := es' }), g.r, g.w.setRow c cells', g.St⟩ ∧
    (BlkRep ⟨g.h.set b (.live { B with es := es' }), g.r, g.w.setRow c cells', g.St⟩ b { B with es := es' } → HRep lo ⟨g.h.set b (.live { B with es := es' }), g.r, g.w.setRow c cells', g.St⟩) := by
  have hblt : b < g.h.length := (List.getElem?_eq_some_iff.1 (blk_eq.1 hB)).1
  have at_ : ∀ i : Nat, i ≠ b → (g.h.set b (.live { B with es := es' }))[i]? = g.h[i]? := fun i hi => List.getElem?_set_ne (fun h => hi h.symm)
  have self : (g.h.set b (.live { B with es := es' }))[b]? = some (.live { B with es := es' }) := List.getElem?_set_self hblt
  have cls : ∀ {i : Nat} {C : Blk}, vblk (g.h.set b (.live { B with es := es' })) g.r i = some C → (i = b ∧ C = { B with es := es' }) ∨ (i ≠ b ∧ vblk g.h g.r i = some C) := by
    intro i C hC
    by_cases hi : i = b
    · subst hi
      rw [vblk_live self] at hC
      cases hC
      exact .inl ⟨rfl, rfl⟩
    · exact .inr ⟨hi, (vblk_congr (at_ i hi) (fun _ => rfl)) ▸ hC⟩
  have himg : ∀ {i : Nat} {C : Blk} {d : Nat}, vblk g.h g.r i = some C → g.r i = some d → i ≠ b → d ≠ c := by
    intro i C d hC hd hi he
    subst he
    exact hi (hr.inj i b C B d hC (vblk_of hB) hd hc)
  have s : Step lo base g ⟨g.h.set b (.live { B with es := es' }), g.r, g.w.setRow c cells', g.St⟩ := {
    len := by simp
    hid := fun i hi => by
      by_cases h : i = b
      · subst h; rw [blk_eq.1 hB] at hi; cases hi
      · exact ⟨(at_ i h).trans hi, rfl⟩
    free := fun i _ hi => by
      by_cases h : i = b
      · subst h; rw [blk_eq.1 hB] at hi; cases hi
      · exact (at_ i h).trans hi
    live := fun i C hC => by
      by_cases h : i = b
      · subst h
        rw [vblk_of hB] at hC
        cases hC
        exact ⟨_, vblk_live self, rfl, rfl, id, hlen, fun _ => rfl⟩
      · exact ⟨C, (vblk_congr (at_ i h) (fun _ => rfl)).trans hC, rfl, rfl, id, Nat.le_refl _, fun _ => rfl⟩
    keep := fun i C hC hcc => by
      by_cases h : i = b
      · subst h
        rw [vblk_of hB] at hC
        cases hC
        rcases hcc with hcc | hcc | hcc
        · omega
        · rw [hf] at hcc; cases hcc
        · rw [blk_eq.1 hB] at hcc; cases hcc
      · exact ⟨(vblk_congr (at_ i h) (fun _ => rfl)).trans hC, rfl⟩
    scp := fun i C C' hi hC hC' n hn => by
      rcases cls hC' with ⟨h, hC2⟩ | ⟨h, hC2⟩
      · subst h
        rw [vblk_of hB] at hC
        cases hC
        rw [hC2]
        exact hscp hi n hn
      · rw [hC] at hC2
        cases hC2
        exact hn
    size := by simp [setRow_size]
    old := fun d hd hw => setRow_ne fun he => hw b B hlo hB hf (he ▸ hc)
    shp := fun d hd => by
      by_cases he : d = c
      · subst he
        simp only [World.shape?, setRow_at hh, hh, hsz]
      · exact shape_of_heap (setRow_ne he)
    img := fun i C d hC hd _ => by
      rcases cls hC with ⟨h, _⟩ | ⟨_, h⟩
      · subst h; exact ⟨⟨B, vblk_of hB⟩, hd⟩
      · exact ⟨⟨C, h⟩, hd⟩
    st := fun _ h => h
    stNew := fun _ _ h => .inl h
    os := rfl
    tape := rfl
    output := rfl }
  refine ⟨s, fun hBR => ⟨fun i C hC => ?_, fun i i' C C' d hC hC' h1 h2 => ?_, fun i C d hi hC hfC hd hS => ?_, fun d hd => by rw [setRow_size]; exact hr.stlt d hd, fun i C d hC hfC hd => ?_⟩⟩
  · rcases cls hC with ⟨h, hC2⟩ | ⟨h, hC2⟩
    · subst h
      subst hC2
      exact hBR
    · exact (hr.blks i C hC2).step s hr rfl fun d hd => setRow_ne (himg hC2 hd h)
  · have k1 : ∃ D, vblk g.h g.r i = some D := by
      rcases cls hC with ⟨h, _⟩ | ⟨_, h⟩
      · subst h; exact ⟨B, vblk_of hB⟩
      · exact ⟨C, h⟩
    have k2 : ∃ D, vblk g.h g.r i' = some D := by
      rcases cls hC' with ⟨h, _⟩ | ⟨_, h⟩
      · subst h; exact ⟨B, vblk_of hB⟩
      · exact ⟨C', h⟩
    obtain ⟨D, hD⟩ := k1
    obtain ⟨D', hD'⟩ := k2
    exact hr.inj i i' D D' d hD hD' h1 h2
  · rcases cls hC with ⟨h, hC2⟩ | ⟨h, hC2⟩
    · subst h
      exact hr.nost i B d hi (vblk_of hB) hf hd hS
    · exact hr.nost i C d hi hC2 hfC hd hS
  · rcases cls hC with ⟨h, hC2⟩ | ⟨h, hC2⟩
    · rw [hC2] at hfC
      simp only [hf] at hfC
      cases hfC
    · exact hr.frst i C d hC2 hfC hd

/-- A block grows and moves. -/
theorem regrow_ok (hr : HRep lo g) {b : Nat} {B : Blk} {es' : List AV} {w' : World} (hB : blk g.h b = some B) (hlo : lo ≤ b) (hf : B.frz = false) (hw : Grows g.w w') (hlt : g.w.heap.size < w'.heap.size) (hlen : B.es.length < es'.length)
    (hscp : b < base → ∀ n, AV.scopdL n B.es = true → AV.scopdL n es' = true) :
    Step lo base g ⟨g.h.set b (.live { B with es := es' }), ⟨fun i => if i = b then some g.w.heap.size else g.r i, g.r.hb⟩, w', g.St⟩ ∧
    (BlkRep ⟨g.h.set b (.live { B with es := es' }), ⟨fun i => if i = b then some g.w.heap.size else g.r i, g.r.hb⟩, w', g.St⟩ b { B with es := es' } → HRep lo ⟨g.h.set b (.live { B with es := es' }), ⟨fun i => if i = b then some g.w.heap.size else g.r i, g.r.hb⟩, w', g.St⟩) := by
  have hblt : b < g.h.length := (List.getElem?_eq_some_iff.1 (blk_eq.1 hB)).1
  have at_ : ∀ i : Nat, i ≠ b → (g.h.set b (.live { B with es := es' }))[i]? = g.h[i]? := fun i hi => List.getElem?_set_ne (fun h => hi h.symm)
  have self : (g.h.set b (.live { B with es := es' }))[b]? = some (.live { B with es := es' }) := List.getElem?_set_self hblt
  have cls : ∀ {i : Nat} {C : Blk}, vblk (g.h.set b (.live { B with es := es' })) ⟨fun i => if i = b then some g.w.heap.size else g.r i, g.r.hb⟩ i = some C → (i = b ∧ C = { B with es := es' }) ∨ (i ≠ b ∧ vblk g.h g.r i = some C) := by
    intro i C hC
    by_cases hi : i = b
    · subst hi
      rw [vblk_live self] at hC
      cases hC
      exact .inl ⟨rfl, rfl⟩
    · exact .inr ⟨hi, (vblk_congr (at_ i hi) (fun _ => rfl)) ▸ hC⟩
  have himg : ∀ {i : Nat} {C : Blk} {d : Nat}, vblk g.h g.r i = some C → g.r i = some d → d < g.w.heap.size := by
    intro i C d hC hd
    obtain ⟨cells, h1, _⟩ := (hr.blks i C hC).2 d hd
    exact (Array.getElem?_eq_some_iff.1 h1).1
  have s : Step lo base g ⟨g.h.set b (.live { B with es := es' }), ⟨fun i => if i = b then some g.w.heap.size else g.r i, g.r.hb⟩, w', g.St⟩ := {
    len := by simp
    hid := fun i hi => by
      by_cases h : i = b
      · subst h; rw [blk_eq.1 hB] at hi; cases hi
      · exact ⟨(at_ i h).trans hi, rfl⟩
    free := fun i _ hi => by
      by_cases h : i = b
      · subst h; rw [blk_eq.1 hB] at hi; cases hi
      · exact (at_ i h).trans hi
    live := fun i C hC => by
      by_cases h : i = b
      · subst h
        rw [vblk_of hB] at hC
        cases hC
        exact ⟨_, vblk_live self, rfl, rfl, id, Nat.le_of_lt hlen, fun he => by simp only at he; omega⟩
      · exact ⟨C, (vblk_congr (at_ i h) (fun _ => rfl)).trans hC, rfl, rfl, id, Nat.le_refl _, fun _ => by simp [h]⟩
    keep := fun i C hC hcc => by
      by_cases h : i = b
      · subst h
        rw [vblk_of hB] at hC
        cases hC
        rcases hcc with hcc | hcc | hcc
        · omega
        · rw [hf] at hcc; cases hcc
        · rw [blk_eq.1 hB] at hcc; cases hcc
      · exact ⟨(vblk_congr (at_ i h) (fun _ => rfl)).trans hC, by simp [h]⟩
    scp := fun i C C' hi hC hC' n hn => by
      rcases cls hC' with ⟨h, hC2⟩ | ⟨h, hC2⟩
      · subst h
        rw [vblk_of hB] at hC
        cases hC
        rw [hC2]
        exact hscp hi n hn
      · rw [hC] at hC2
        cases hC2
        exact hn
    size := hw.size
    old := fun d hd _ => hw.old d hd
    shp := fun d hd => shape_of_heap (hw.old d hd)
    img := fun i C d hC hd hdlt => by
      rcases cls hC with ⟨h, _⟩ | ⟨h, hC2⟩
      · subst h
        simp only [if_true, Option.some.injEq] at hd
        omega
      · simp only [if_neg h] at hd
        exact ⟨⟨C, hC2⟩, hd⟩
    st := fun _ h => h
    stNew := fun _ _ h => .inl h
    os := hw.os
    tape := hw.tape
    output := hw.output }
  refine ⟨s, fun hBR => ⟨fun i C hC => ?_, fun i i' C C' d hC hC' h1 h2 => ?_, fun i C d hi hC hfC hd hS => ?_, fun d hd => Nat.lt_trans (hr.stlt d hd) hlt, fun i C d hC hfC hd => ?_⟩⟩
  · rcases cls hC with ⟨h, hC2⟩ | ⟨h, hC2⟩
    · subst h
      subst hC2
      exact hBR
    · exact (hr.blks i C hC2).step s hr (by simp [h]) fun d hd => hw.old d (himg hC2 hd)
  · rcases cls hC with ⟨h, hC2⟩ | ⟨h, hC2⟩ <;> rcases cls hC' with ⟨h', hC2'⟩ | ⟨h', hC2'⟩
    · rw [h, h']
    · simp only [h, if_true, Option.some.injEq] at h1
      simp only [if_neg h'] at h2
      have := himg hC2' h2
      omega
    · simp only [h', if_true, Option.some.injEq] at h2
      simp only [if_neg h] at h1
      have := himg hC2 h1
      omega
    · simp only [if_neg h] at h1
      simp only [if_neg h'] at h2
      exact hr.inj i i' C C' d hC2 hC2' h1 h2
  · rcases cls hC with ⟨h, hC2⟩ | ⟨h, hC2⟩
    · simp only [h, if_true, Option.some.injEq] at hd
      have := hr.stlt d hS
      omega
    · simp only [if_neg h] at hd
      exact hr.nost i C d hi hC2 hfC hd hS
  · rcases cls hC with ⟨h, hC2⟩ | ⟨h, hC2⟩
    · rw [hC2] at hfC
      simp only [hf] at hfC
      cases hfC
    · simp only [if_neg h] at hd
      exact hr.frst i C d hC2 hfC hd

end
end Go.Abs
