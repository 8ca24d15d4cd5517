/- Sealing and freezing; writing into a block. -/
import Derived.Test.YtnpfhbhhbdegfaaDoorMA
import Derived.Laws.AppendOwn
set_option linter.unusedSimpArgs false
set_option linter.unusedVariables false
namespace Go.Abs

section
variable {P : Program} {g : G} {fr : Frame} {a : Act} {lo base : Nat}

theorem mapO_rep {f : AV → Option AV} {xs ys : List AV} (h : mapO f xs = some ys) {i : Nat} {y : AV} (hy : ys[i]? = some y) : ∃ x, xs[i]? = some x ∧ f x = some y := by
  obtain ⟨hl, hi⟩ := mapO_some h
  have hlt := (List.getElem?_eq_some_iff.1 hy).1
  have hx := List.getElem?_eq_getElem (l := xs) (i := i) (by omega)
  obtain ⟨y', h1, h2⟩ := hi i _ hx
  rw [hy] at h1
  cases h1
  exact ⟨_, hx, h2⟩

theorem embed_rep (hr : HRep lo g) {g' : G} {m : Nat} (hm : ∀ {x : AV} {v : Value}, x.scopd m = true → Rep g x v → Rep g' x v) (hStm : ∀ c, g.St c → g'.St c) (hw : ∀ c, g'.St c → g'.w.heap[c]? = g.w.heap[c]?) (ns np : Nat) (hns : ns ≤ m) (hnp : np ≤ m) : ∀ (d : Nat) (x y : AV) (v : Value), embed g.h ns np d x = some y → Rep g x v → (∀ b ∈ slIds g.h ns d x, ∀ c, g.r b = some c → g'.St c) → Rep g' y v := by
  have hcl : ∀ {x y : AV} {v : Value}, (if x.closed = true then some x else none) = some y → Rep g x v → Rep g' y v := by
    intro x y v h hx
    split at h
    · rename_i hc; cases h; exact hm (scopd_of_closed m _ hc) hx
    · cases h
  intro d
  induction d with
  | zero => exact fun x y v h hx _ => hcl h hx
  | succ d ih =>
    intro x y v h hx hs
    simp only [embed] at h
    split at h
    · rename_i hc; cases h; exact hm (scopd_of_closed m _ hc) hx
    · rename_i hnc
      simp only [slIds, if_neg hnc] at hs
      split at h
      · rename_i sz b n off len
        simp only at hs
        split at h
        · rename_i hlt; cases h; exact hm (by simp only [AV.scopd, decide_eq_true_eq]; omega) hx
        · rename_i hlt
          simp only [if_neg hlt] at hs
          split at h
          · rename_i B hB
            simp only [hB] at hs
            split at h
            · rename_i hle
              cases hx with
              | sl r1 r2 r3 r6 r7 r4 r5 =>
                rename_i cap A
                have hBl := (good_eq.1 hB).2
                have hlen : ((B.es.drop off).take len).length = len := by simp; omega
                have hget : ∀ (i : Nat) (e : AV), ((B.es.drop off).take len)[i]? = some e → B.es[off + i]? = some e := by
                  intro i e he
                  rw [List.getElem?_take] at he
                  split at he
                  · simpa using he
                  · cases he
                obtain ⟨hn1, hn2⟩ := hr.blks b B (vblk_of (good_eq.1 hB).1)
                have mk : ∀ zs : List AV, zs.length = len → (∀ (i : Nat) (z : AV), zs[i]? = some z → ∃ e, B.es[off + i]? = some e ∧ ∀ v, Rep g e v → Rep g' z v) → (∀ c, g.r b = some c → g'.St c) → Rep g' (.ro B.sz zs) (.slice A len cap) := by
                  intro zs hzl hz hS
                  rw [← hzl]
                  rw [← hzl] at r2
                  cases hcb : g.r b with
                  | none =>
                    have he := hn1 hcb
                    have h0 : len = 0 := by rw [he] at hBl; simp at hBl; omega
                    have : zs = [] := List.length_eq_zero_iff.1 (by omega)
                    subst this
                    exact .ro (fun _ => undef) (by simp) (by simp) (by simp) (by simp)
                  | some c =>
                    obtain ⟨cells, hh, _, hes⟩ := hn2 c hcb
                    have hex : ∀ i, ∃ v : Value, ∀ e, B.es[i]? = some e → Rep g e v ∧ v.cells.size = B.sz ∧ ∀ (j : Nat) (x : Value), v.cells[j]? = some x → cells[i * B.sz + j]? = some x := by
                      intro i
                      cases he : B.es[i]? with
                      | none => exact ⟨undef, fun e h => by cases h⟩
                      | some e =>
                        obtain ⟨v, h1, h2, h3⟩ := hes i e he
                        exact ⟨v, fun e' h => by cases h; exact ⟨h1, h2, h3⟩⟩
                    refine .ro (fun i => Classical.choose (hex (off + i))) (fun i z hzi => ?_) (fun i hi => ?_) r2 fun hne => ⟨c, off * B.sz, r4 (by have := List.length_pos_iff.2 hne; omega) B c (vgood_of hB) hcb, hS c hcb, fun i j y hi hy => ?_⟩
                    · obtain ⟨e, he, hm'⟩ := hz i z hzi
                      exact hm' _ (Classical.choose_spec (hex (off + i)) e he).1
                    · obtain ⟨e, he, _⟩ := hz i _ (List.getElem?_eq_getElem hi)
                      exact (Classical.choose_spec (hex (off + i)) e he).2.1
                    · obtain ⟨e, he, _⟩ := hz i _ (List.getElem?_eq_getElem hi)
                      have := (Classical.choose_spec (hex (off + i)) e he).2.2 j y hy
                      rw [cell_at ((hw c (hS c hcb)).trans hh), ← this, Nat.add_mul]
                split at h
                · rename_i hcl'
                  simp only [if_pos hcl'] at hs
                  cases h
                  exact mk _ hlen (fun i z hz => ⟨z, hget i z hz, fun v hv => hm (scopd_of_closed m _ (closedL_iff.1 hcl' _ _ (hget i z hz))) hv⟩) (hs b (by simp))
                · rename_i hcl'
                  simp only [if_neg hcl'] at hs
                  simp only [Option.map_eq_some_iff] at h
                  obtain ⟨zs, hzs, rfl⟩ := h
                  refine mk zs (by rw [(mapO_some hzs).1, hlen]) (fun i z hz => ?_) (hs b (by simp))
                  obtain ⟨e, he, hez⟩ := mapO_rep hzs hz
                  exact ⟨e, hget i e he, fun v hv => ih e z v hez hv fun b' hb' => hs b' (List.mem_cons_of_mem _ (List.mem_flatMap.2 ⟨e, List.mem_of_getElem? he, hb'⟩))⟩
            · cases h
          · cases h
      · rename_i b n i o
        simp only at hs
        split at h
        · rename_i hlt; cases h; exact hm (by simp only [AV.scopd, decide_eq_true_eq]; omega) hx
        · rename_i hlt
          simp only [if_neg hlt] at hs
          split at h
          · rename_i B hB
            simp only [hB] at hs
            split at h
            · rename_i e he
              simp only [he] at hs
              cases hx with
              | @ptr _ _ _ _ ad r1 r2 =>
                obtain ⟨hn1, hn2⟩ := hr.blks b B (vblk_of (good_eq.1 hB).1)
                have mk : ∀ z : AV, (∀ v, Rep g e v → Rep g' z v) → (∀ c, g.r b = some c → g'.St c) → Rep g' (.rp B.sz z o) (.pointer (some ad)) := by
                  intro z hz hS
                  cases hcb : g.r b with
                  | none => rw [hn1 hcb] at he; cases he
                  | some c =>
                    obtain ⟨cells, hh, _, hes⟩ := hn2 c hcb
                    obtain ⟨u, u1, u2, u3⟩ := hes i e he
                    rw [r2 B c (vgood_of hB) hcb]
                    refine .rp (hz u u1) (hS c hcb) (fun j y hy => ?_) u2
                    rw [cell_at ((hw c (hS c hcb)).trans hh)]
                    exact u3 j y hy
                split at h
                · rename_i hcl'
                  simp only [if_pos hcl'] at hs
                  cases h
                  exact mk e (fun v hv => hm (scopd_of_closed m _ hcl') hv) (hs b (by simp))
                · rename_i hcl'
                  simp only [if_neg hcl'] at hs
                  simp only [Option.map_eq_some_iff] at h
                  obtain ⟨z, hz, rfl⟩ := h
                  exact mk z (fun v hv => ih e z v hz hv fun b' hb' => hs b' (List.mem_cons_of_mem _ hb')) (hs b (by simp))
            · cases h
          · cases h
      · simp only at hs
        simp only [Option.map_eq_some_iff] at h
        obtain ⟨zs, hzs, rfl⟩ := h
        cases hx with
        | agg h1 h2 h3 =>
          refine .agg (by rw [(mapO_some hzs).1, h1]) (fun j z u hz hu => ?_) h3
          obtain ⟨e, he, hez⟩ := mapO_rep hzs hz
          exact ih e z u hez (h2 j e u he hu) fun b hb => hs b (List.mem_flatMap.2 ⟨e, List.mem_of_getElem? he, hb⟩)
      · simp only at hs
        simp only [Option.map_eq_some_iff] at h
        obtain ⟨zs, hzs, rfl⟩ := h
        cases hx with
        | tup h1 h2 =>
          refine .tup (by rw [(mapO_some hzs).1, h1]) (fun j z u hz hu => ?_)
          obtain ⟨e, he, hez⟩ := mapO_rep hzs hz
          exact ih e z u hez (h2 j e u he hu) fun b hb => hs b (List.mem_flatMap.2 ⟨e, List.mem_of_getElem? he, hb⟩)
      · rename_i sz xs
        simp only at hs
        simp only [Option.map_eq_some_iff] at h
        obtain ⟨zs, hzs, rfl⟩ := h
        have hzl := (mapO_some hzs).1
        cases hx with
        | ro vf h1 h2 h3 h4 =>
          rw [← hzl]
          refine .ro vf (fun i z hz => ?_) (fun i hi => h2 i (by omega)) (by omega) fun hne => ?_
          · obtain ⟨e, he, hez⟩ := mapO_rep hzs hz
            exact ih e z _ hez (h1 i e he) fun b hb => hs b (List.mem_flatMap.2 ⟨e, List.mem_of_getElem? he, hb⟩)
          · have hne' : xs ≠ [] := by intro h; subst h; exact hne (List.length_eq_zero_iff.1 hzl)
            obtain ⟨c, off, hA, hS, hc⟩ := h4 hne'
            exact ⟨c, off, hA, hStm c hS, fun i j y hi hy => (cell_of_heap (hw c (hStm c hS))).trans (hc i j y (by omega) hy)⟩
      · simp only at hs
        split at h
        · rename_i zs us hzs hus
          cases h
          cases hx with
          | fn h1 h2 h3 h4 =>
            refine .fn (by rw [(mapO_some hzs).1, h1]) (fun j z u hz hu => ?_) (by rw [(mapO_some hus).1, h3]) (fun j z u hz hu => ?_)
            · obtain ⟨e, he, hez⟩ := mapO_rep hzs hz
              exact ih e z u hez (h2 j e u he hu) fun b hb => hs b (List.mem_append_left _ (List.mem_flatMap.2 ⟨e, List.mem_of_getElem? he, hb⟩))
            · obtain ⟨e, he, hez⟩ := mapO_rep hus hz
              exact ih e z u hez (h4 j e u he hu) fun b hb => hs b (List.mem_append_right _ (List.mem_flatMap.2 ⟨e, List.mem_of_getElem? he, hb⟩))
        · cases h
      · cases h

theorem freeze1_ok (hr : HRep lo g) {b : Nat} {h' : Heap} (h : freeze1 lo g.h b = some h') :
    ∃ St', Step lo base g ⟨h', g.r, g.w, St'⟩ ∧ HRep lo ⟨h', g.r, g.w, St'⟩ ∧ ∀ c, g.r b = some c → St' c := by
  unfold freeze1 at h
  split at h
  · rename_i B hB
    split at h
    · rename_i hf
      cases h
      exact ⟨g.St, Step.refl lo base g, hr, fun c hc => hr.frst b B c (vblk_of hB) hf hc⟩
    · rename_i hf
      split at h
      · rename_i hlo
        cases h
        have hblt : b < g.h.length := (List.getElem?_eq_some_iff.1 (blk_eq.1 hB)).1
        have at_ : ∀ i : Nat, i ≠ b → (g.h.set b (.live { B with frz := true }))[i]? = g.h[i]? := fun i hi => List.getElem?_set_ne (fun h => hi h.symm)
        have self : (g.h.set b (.live { B with frz := true }))[b]? = some (.live { B with frz := true }) := List.getElem?_set_self hblt
        have himg : ∀ {i : Nat} {C : Blk} {c : Nat}, vblk g.h g.r i = some C → g.r i = some c → c < g.w.heap.size := by
          intro i C c hC hc
          obtain ⟨cells, h1, _⟩ := (hr.blks i C hC).2 c hc
          exact (Array.getElem?_eq_some_iff.1 h1).1
        have cls : ∀ {i : Nat} {C : Blk}, vblk (g.h.set b (.live { B with frz := true })) g.r i = some C → (i = b ∧ C = { B with frz := true }) ∨ (i ≠ b ∧ vblk g.h g.r i = some C) := by
          intro i C hC
          by_cases hi : i = b
          · subst hi
            rw [vblk_live self] at hC
            cases hC
            exact .inl ⟨rfl, rfl⟩
          · exact .inr ⟨hi, (vblk_congr (at_ i hi) (fun _ => rfl)) ▸ hC⟩
        have s : Step lo base g ⟨g.h.set b (.live { B with frz := true }), g.r, g.w, fun c => g.St c ∨ g.r b = some c⟩ := {
          len := by simp
          hid := fun i hi => by
            by_cases h : i = b
            · subst h; rw [blk_eq.1 hB] at hi; cases hi
            · exact ⟨(at_ i h).trans hi, rfl⟩
          free := fun i _ hi => by
            by_cases h : i = b
            · subst h; rw [blk_eq.1 hB] at hi; cases hi
            · exact (at_ i h).trans hi
          live := fun i C hC => by
            by_cases h : i = b
            · subst h
              rw [vblk_of hB] at hC
              cases hC
              exact ⟨_, vblk_live self, rfl, rfl, fun _ => rfl, Nat.le_refl _, fun _ => rfl⟩
            · exact ⟨C, (vblk_congr (at_ i h) (fun _ => rfl)).trans hC, rfl, rfl, id, Nat.le_refl _, fun _ => rfl⟩
          keep := fun i C hC hc => by
            by_cases h : i = b
            · subst h
              rw [vblk_of hB] at hC
              cases hC
              rcases hc with hc | hc | hc
              · omega
              · exact absurd hc hf
              · rw [blk_eq.1 hB] at hc; cases hc
            · exact ⟨(vblk_congr (at_ i h) (fun _ => rfl)).trans hC, rfl⟩
          scp := fun i C C' _ hC hC' n hn => by
            rcases cls hC' with ⟨h, hC2⟩ | ⟨h, hC2⟩
            · subst h
              rw [vblk_of hB] at hC
              cases hC
              rw [hC2]
              exact hn
            · rw [hC] at hC2
              cases hC2
              exact hn
          size := Nat.le_refl _
          old := fun _ _ _ => rfl
          shp := fun _ _ => rfl
          img := fun i C c hC hc _ => by
            rcases cls hC with ⟨h, _⟩ | ⟨_, h⟩
            · subst h; exact ⟨⟨B, vblk_of hB⟩, hc⟩
            · exact ⟨⟨C, h⟩, hc⟩
          st := fun _ h => .inl h
          stNew := fun c _ h => by
            rcases h with h | h
            · exact .inl h
            · exact .inr ⟨b, _, hlo, vblk_live self, rfl, h⟩
          os := rfl
          tape := rfl
          output := rfl }
        refine ⟨_, s, ⟨fun i C hC => ?_, fun i i' C C' c hC hC' h1 h2 => ?_, fun i C c hi hC hfC hc hS => ?_, fun c hc => ?_, fun i C c hC hfC hc => ?_⟩, fun c hc => .inr hc⟩
        · rcases cls hC with ⟨h, hC2⟩ | ⟨h, hC2⟩
          · subst h
            subst hC2
            exact (hr.blks i B (vblk_of hB)).step s hr rfl fun _ _ => rfl
          · exact (hr.blks i C hC2).step s hr rfl fun _ _ => rfl
        · have k1 : ∃ D, vblk g.h g.r i = some D := by
            rcases cls hC with ⟨h, _⟩ | ⟨_, h⟩
            · subst h; exact ⟨B, vblk_of hB⟩
            · exact ⟨C, h⟩
          have k2 : ∃ D, vblk g.h g.r i' = some D := by
            rcases cls hC' with ⟨h, _⟩ | ⟨_, h⟩
            · subst h; exact ⟨B, vblk_of hB⟩
            · exact ⟨C', h⟩
          obtain ⟨D, hD⟩ := k1
          obtain ⟨D', hD'⟩ := k2
          exact hr.inj i i' D D' c hD hD' h1 h2
        · rcases cls hC with ⟨h, hC2⟩ | ⟨h, hC2⟩
          · rw [hC2] at hfC; cases hfC
          · rcases hS with hS | hS
            · exact hr.nost i C c hi hC2 hfC hc hS
            · exact h (hr.inj i b C B c hC2 (vblk_of hB) hc hS)
        · rcases hc with hc | hc
          · exact hr.stlt c hc
          · exact himg (vblk_of hB) hc
        · rcases cls hC with ⟨h, _⟩ | ⟨_, h⟩
          · subst h; exact .inr hc
          · exact .inl (hr.frst i C c h hfC hc)
      · cases h
  · cases h

theorem freeze_ok : ∀ (bs : List Nat) (g : G) (h' : Heap), HRep lo g → freeze lo g.h bs = some h' → ∃ St', Step lo base g ⟨h', g.r, g.w, St'⟩ ∧ HRep lo ⟨h', g.r, g.w, St'⟩ ∧ ∀ b ∈ bs, ∀ c, g.r b = some c → St' c
  | [], g, h', hr, h => by
    simp only [freeze, Option.some.injEq] at h
    subst h
    exact ⟨g.St, Step.refl lo base g, hr, by simp⟩
  | b :: bs, g, h', hr, h => by
    simp only [freeze] at h
    split at h
    · rename_i h1 he
      obtain ⟨St1, s1, r1, k1⟩ := freeze1_ok (base := base) hr he
      obtain ⟨St2, s2, r2, k2⟩ := freeze_ok bs ⟨h1, g.r, g.w, St1⟩ h' r1 h
      refine ⟨St2, s1.trans s2, r2, fun i hi c hc => ?_⟩
      rcases List.mem_cons.1 hi with rfl | hi
      · exact s2.st c (k1 c hc)
      · exact k2 i hi c hc
    · cases h

theorem setRow_at {w : World} {c : Nat} {cells cells' : Array Value} {ty : TypeId} {fz : Nat × Nat} (h : w.heap[c]? = some (.cells cells ty fz)) : (w.setRow c cells').heap[c]? = some (.cells cells' ty fz) := setRow_heap w c cells cells' ty fz h
theorem setRow_ne {w : World} {c i : Nat} {cells' : Array Value} (h : i ≠ c) : (w.setRow c cells').heap[i]? = w.heap[i]? := setRow_other w c i cells' h
theorem setRow_size (w : World) (c : Nat) (cells' : Array Value) : (w.setRow c cells').heap.size = w.heap.size := by simp [World.setRow]

/-- A block is written, in its own place. -/
theorem modify_ok (hr : HRep lo g) {b c : Nat} {B : Blk} {es' : List AV} {cells cells' : Array Value} (hB : blk g.h b = some B) (hlo : lo ≤ b) (hf : B.frz = false) (hc : g.r b = some c) (hh : g.w.heap[c]? = some (.cells cells B.ty (0, 0)))
    (hsz : cells'.size = cells.size) (hlen : B.es.length ≤ es'.length) (hscp : b < base → ∀ n, AV.scopdL n B.es = true → AV.scopdL n es' = true) :
    Step lo base g ⟨g.h.set b (.live { B with es := es' }), g.r, g.w.setRow c cells', g.St⟩ ∧
    (BlkRep ⟨g.h.set b (.live { B with es := es' }), g.r, g.w.setRow c cells', g.St⟩ b { B with es := es' } → HRep lo ⟨g.h.set b (.live { B with es := es' }), g.r, g.w.setRow c cells', g.St⟩) := by
  have hblt : b < g.h.length := (List.getElem?_eq_some_iff.1 (blk_eq.1 hB)).1
  have at_ : ∀ i : Nat, i ≠ b → (g.h.set b (.live { B with es := es' }))[i]? = g.h[i]? := fun i hi => List.getElem?_set_ne (fun h => hi h.symm)
  have self : (g.h.set b (.live { B with es := es' }))[b]? = some (.live { B with es := es' }) := List.getElem?_set_self hblt
  have cls : ∀ {i : Nat} {C : Blk}, vblk (g.h.set b (.live { B with es := es' })) g.r i = some C → (i = b ∧ C = { B with es := es' }) ∨ (i ≠ b ∧ vblk g.h g.r i = some C) := by
    intro i C hC
    by_cases hi : i = b
    · subst hi
      rw [vblk_live self] at hC
      cases hC
      exact .inl ⟨rfl, rfl⟩
    · exact .inr ⟨hi, (vblk_congr (at_ i hi) (fun _ => rfl)) ▸ hC⟩
  have himg : ∀ {i : Nat} {C : Blk} {d : Nat}, vblk g.h g.r i = some C → g.r i = some d → i ≠ b → d ≠ c := by
    intro i C d hC hd hi he
    subst he
    exact hi (hr.inj i b C B d hC (vblk_of hB) hd hc)
  have s : Step lo base g ⟨g.h.set b (.live { B with es := es' }), g.r, g.w.setRow c cells', g.St⟩ := {
    len := by simp
    hid := fun i hi => by
      by_cases h : i = b
      · subst h; rw [blk_eq.1 hB] at hi; cases hi
      · exact ⟨(at_ i h).trans hi, rfl⟩
    free := fun i _ hi => by
      by_cases h : i = b
      · subst h; rw [blk_eq.1 hB] at hi; cases hi
      · exact (at_ i h).trans hi
    live := fun i C hC => by
      by_cases h : i = b
      · subst h
        rw [vblk_of hB] at hC
        cases hC
        exact ⟨_, vblk_live self, rfl, rfl, id, hlen, fun _ => rfl⟩
      · exact ⟨C, (vblk_congr (at_ i h) (fun _ => rfl)).trans hC, rfl, rfl, id, Nat.le_refl _, fun _ => rfl⟩
    keep := fun i C hC hcc => by
      by_cases h : i = b
      · subst h
        rw [vblk_of hB] at hC
        cases hC
        rcases hcc with hcc | hcc | hcc
        · omega
        · rw [hf] at hcc; cases hcc
        · rw [blk_eq.1 hB] at hcc; cases hcc
      · exact ⟨(vblk_congr (at_ i h) (fun _ => rfl)).trans hC, rfl⟩
    scp := fun i C C' hi hC hC' n hn => by
      rcases cls hC' with ⟨h, hC2⟩ | ⟨h, hC2⟩
      · subst h
        rw [vblk_of hB] at hC
        cases hC
        rw [hC2]
        exact hscp hi n hn
      · rw [hC] at hC2
        cases hC2
        exact hn
    size := by simp [setRow_size]
    old := fun d hd hw => setRow_ne fun he => hw b B hlo hB hf (he ▸ hc)
    shp := fun d hd => by
      by_cases he : d = c
      · subst he
        simp only [World.shape?, setRow_at hh, hh, hsz]
      · exact shape_of_heap (setRow_ne he)
    img := fun i C d hC hd _ => by
      rcases cls hC with ⟨h, _⟩ | ⟨_, h⟩
      · subst h; exact ⟨⟨B, vblk_of hB⟩, hd⟩
      · exact ⟨⟨C, h⟩, hd⟩
    st := fun _ h => h
    stNew := fun _ _ h => .inl h
    os := rfl
    tape := rfl
    output := rfl }
  refine ⟨s, fun hBR => ⟨fun i C hC => ?_, fun i i' C C' d hC hC' h1 h2 => ?_, fun i C d hi hC hfC hd hS => ?_, fun d hd => by rw [setRow_size]; exact hr.stlt d hd, fun i C d hC hfC hd => ?_⟩⟩
  · rcases cls hC with ⟨h, hC2⟩ | ⟨h, hC2⟩
    · subst h
      subst hC2
      exact hBR
    · exact (hr.blks i C hC2).step s hr rfl fun d hd => setRow_ne (himg hC2 hd h)
  · have k1 : ∃ D, vblk g.h g.r i = some D := by
      rcases cls hC with ⟨h, _⟩ | ⟨_, h⟩
      · subst h; exact ⟨B, vblk_of hB⟩
      · exact ⟨C, h⟩
    have k2 : ∃ D, vblk g.h g.r i' = some D := by
      rcases cls hC' with ⟨h, _⟩ | ⟨_, h⟩
      · subst h; exact ⟨B, vblk_of hB⟩
      · exact ⟨C', h⟩
    obtain ⟨D, hD⟩ := k1
    obtain ⟨D', hD'⟩ := k2
    exact hr.inj i i' D D' d hD hD' h1 h2
  · rcases cls hC with ⟨h, hC2⟩ | ⟨h, hC2⟩
    · subst h
      exact hr.nost i B d hi (vblk_of hB) hf hd hS
    · exact hr.nost i C d hi hC2 hfC hd hS
  · rcases cls hC with ⟨h, hC2⟩ | ⟨h, hC2⟩
    · rw [hC2] at hfC
      simp only [hf] at hfC
      cases hfC
    · exact hr.frst i C d hC2 hfC hd

/-- A block grows and moves. -/
theorem regrow_ok (hr : HRep lo g) {b : Nat} {B : Blk} {es' : List AV} {w' : World} (hB : blk g.h b = some B) (hlo : lo ≤ b) (hf : B.frz = false) (hw : Grows g.w w') (hlt : g.w.heap.size < w'.heap.size) (hlen : B.es.length < es'.length)
    (hscp : b < base → ∀ n, AV.scopdL n B.es = true → AV.scopdL n es' = true) :
    Step lo base g ⟨g.h.set b (.live { B with es := es' }), ⟨fun i => if i = b then some g.w.heap.size else g.r i, g.r.hb⟩, w', g.St⟩ ∧
    (BlkRep ⟨g.h.set b (.live { B with es := es' }), ⟨fun i => if i = b then some g.w.heap.size else g.r i, g.r.hb⟩, w', g.St⟩ b { B with es := es' } → HRep lo ⟨g.h.set b (.live { B with es := es' }), ⟨fun i => if i = b then some g.w.heap.size else g.r i, g.r.hb⟩, w', g.St⟩) := by
  have hblt : b < g.h.length := (List.getElem?_eq_some_iff.1 (blk_eq.1 hB)).1
  have at_ : ∀ i : Nat, i ≠ b → (g.h.set b (.live { B with es := es' }))[i]? = g.h[i]? := fun i hi => List.getElem?_set_ne (fun h => hi h.symm)
  have self : (g.h.set b (.live { B with es := es' }))[b]? = some (.live { B with es := es' }) := List.getElem?_set_self hblt
  have cls : ∀ {i : Nat} {C : Blk}, vblk (g.h.set b (.live { B with es := es' })) ⟨fun i => if i = b then some g.w.heap.size else g.r i, g.r.hb⟩ i = some C → (i = b ∧ C = { B with es := es' }) ∨ (i ≠ b ∧ vblk g.h g.r i = some C) := by
    intro i C hC
    by_cases hi : i = b
    · subst hi
      rw [vblk_live self] at hC
      cases hC
      exact .inl ⟨rfl, rfl⟩
    · exact .inr ⟨hi, (vblk_congr (at_ i hi) (fun _ => rfl)) ▸ hC⟩
  have himg : ∀ {i : Nat} {C : Blk} {d : Nat}, vblk g.h g.r i = some C → g.r i = some d → d < g.w.heap.size := by
    intro i C d hC hd
    obtain ⟨cells, h1, _⟩ := (hr.blks i C hC).2 d hd
    exact (Array.getElem?_eq_some_iff.1 h1).1
  have s : Step lo base g ⟨g.h.set b (.live { B with es := es' }), ⟨fun i => if i = b then some g.w.heap.size else g.r i, g.r.hb⟩, w', g.St⟩ := {
    len := by simp
    hid := fun i hi => by
      by_cases h : i = b
      · subst h; rw [blk_eq.1 hB] at hi; cases hi
      · exact ⟨(at_ i h).trans hi, rfl⟩
    free := fun i _ hi => by
      by_cases h : i = b
      · subst h; rw [blk_eq.1 hB] at hi; cases hi
      · exact (at_ i h).trans hi
    live := fun i C hC => by
      by_cases h : i = b
      · subst h
        rw [vblk_of hB] at hC
        cases hC
        exact ⟨_, vblk_live self, rfl, rfl, id, Nat.le_of_lt hlen, fun he => by simp only at he; omega⟩
      · exact ⟨C, (vblk_congr (at_ i h) (fun _ => rfl)).trans hC, rfl, rfl, id, Nat.le_refl _, fun _ => by simp [h]⟩
    keep := fun i C hC hcc => by
      by_cases h : i = b
      · subst h
        rw [vblk_of hB] at hC
        cases hC
        rcases hcc with hcc | hcc | hcc
        · omega
        · rw [hf] at hcc; cases hcc
        · rw [blk_eq.1 hB] at hcc; cases hcc
      · exact ⟨(vblk_congr (at_ i h) (fun _ => rfl)).trans hC, by simp [h]⟩
    scp := fun i C C' hi hC hC' n hn => by
      rcases cls hC' with ⟨h, hC2⟩ | ⟨h, hC2⟩
      · subst h
        rw [vblk_of hB] at hC
        cases hC
        rw [hC2]
        exact hscp hi n hn
      · rw [hC] at hC2
        cases hC2
        exact hn
    size := hw.size
    old := fun d hd _ => hw.old d hd
    shp := fun d hd => shape_of_heap (hw.old d hd)
    img := fun i C d hC hd hdlt => by
      rcases cls hC with ⟨h, _⟩ | ⟨h, hC2⟩
      · subst h
        simp only [if_true, Option.some.injEq] at hd
        omega
      · simp only [if_neg h] at hd
        exact ⟨⟨C, hC2⟩, hd⟩
    st := fun _ h => h
    stNew := fun _ _ h => .inl h
    os := hw.os
    tape := hw.tape
    output := hw.output }
  refine ⟨s, fun hBR => ⟨fun i C hC => ?_, fun i i' C C' d hC hC' h1 h2 => ?_, fun i C d hi hC hfC hd hS => ?_, fun d hd => Nat.lt_trans (hr.stlt d hd) hlt, fun i C d hC hfC hd => ?_⟩⟩
  · rcases cls hC with ⟨h, hC2⟩ | ⟨h, hC2⟩
    · subst h
      subst hC2
      exact hBR
    · exact (hr.blks i C hC2).step s hr (by simp [h]) fun d hd => hw.old d (himg hC2 hd)
  · rcases cls hC with ⟨h, hC2⟩ | ⟨h, hC2⟩ <;> rcases cls hC' with ⟨h', hC2'⟩ | ⟨h', hC2'⟩
    · rw [h, h']
    · simp only [h, if_true, Option.some.injEq] at h1
      simp only [if_neg h'] at h2
      have := himg hC2' h2
      omega
    · simp only [h', if_true, Option.some.injEq] at h2
      simp only [if_neg h] at h1
      have := himg hC2 h1
      omega
    · simp only [if_neg h] at h1
      simp only [if_neg h'] at h2
      exact hr.inj i i' C C' d hC2 hC2' h1 h2
  · rcases cls hC with ⟨h, hC2⟩ | ⟨h, hC2⟩
    · simp only [h, if_true, Option.some.injEq] at hd
      have := hr.stlt d hS
      omega
    · simp only [if_neg h] at hd
      exact hr.nost i C d hi hC2 hfC hd hS
  · rcases cls hC with ⟨h, hC2⟩ | ⟨h, hC2⟩
    · rw [hC2] at hfC
      simp only [hf] at hfC
      cases hfC
    · simp only [if_neg h] at hd
      exact hr.frst i C d hC2 hfC hd

end
end Go.Abs

/- Stores. -/
set_option linter.unusedSimpArgs false
set_option linter.unusedVariables false
namespace Go.Abs

section
variable {P : Program} {g : G} {fr : Frame} {a : Act} {lo base : Nat}

theorem scopd_cells (n : Nat) (x : AV) : x.scopd n = AV.scopdL n x.cells := by
  cases x <;> simp [AV.cells, AV.scopd, AV.scopdL]

theorem okCells_scopd {n : Nat} : ∀ {xs ys : List AV}, okCells xs ys = true → AV.scopdL n ys = true → AV.scopdL n xs = true
  | [], _, _, _ => rfl
  | x :: xs, [], h, _ => by simp [okCells] at h
  | x :: xs, y :: ys, h, hy => by
    simp only [okCells, Bool.and_eq_true] at h
    simp only [AV.scopdL, Bool.and_eq_true] at hy ⊢
    refine ⟨?_, okCells_scopd h.2 hy.2⟩
    have h1 := h.1
    unfold okCell at h1
    simp only [Bool.or_eq_true] at h1
    rcases h1 with h1 | h1
    · exact scopd_of_closed n x h1
    · split at h1
      · simp only [beq_iff_eq] at h1
        subst h1
        simpa [AV.scopd] using hy.1
      · cases h1

/-- A part of an element is replaced. -/
theorem putPart_rep {g : G} {n sz o : Nat} {e v e' : AV} {ve val : Value} (he : Rep g e ve) (hs : ve.cells.size = sz) (hv : Rep g v val) (h : putPart n sz o e v = some e') :
    ∃ ve', Rep g e' ve' ∧ ve'.cells.size = sz ∧ val.cells.size = n ∧ o + n ≤ sz ∧ (∀ (j : Nat) (y : Value), val.cells[j]? = some y → y.oneCell' = true) ∧
      ∀ (j : Nat) (y : Value), ve'.cells[j]? = some y → (if o ≤ j ∧ j < o + n then val.cells[j - o]? else ve.cells[j]?) = some y := by
  unfold putPart at h
  obtain ⟨hvl, hvr⟩ := rep_cells hv
  obtain ⟨hel, her⟩ := rep_cells he
  split at h
  · rename_i hc
    obtain ⟨hc1, hc2⟩ := hc
    have hone := ok_one hv hc2
    split at h
    · rename_i hw
      simp only [Bool.and_eq_true, beq_iff_eq] at hw
      obtain ⟨⟨⟨rfl, rfl⟩, _⟩, _⟩ := hw
      cases h
      refine ⟨val, hv, by omega, by omega, by omega, hone, fun j y hy => ?_⟩
      have := (Array.getElem?_eq_some_iff.1 hy).1
      rw [if_pos (by omega)]
      exact hy
    · split at h
      · rename_i hle
        split at h
        · rename_i ha
          cases h
          obtain ⟨vs, rfl, h3⟩ := rep_agg he ha
          have hcr : CR g e.cells vs := ⟨hel, her, h3⟩
          have hp := hcr.put hv hc2 (off := o) (by omega)
          obtain ⟨s1, s2⟩ := arr_foldl_put o val.cells vs
          generalize val.cells.zipIdx.foldl (fun cs (x : Value × Nat) => cs.setIfInBounds (o + x.2) x.1) vs = W at hp s1 s2
          have hs' : vs.size = sz := hs
          have hel' : e.cells.length = vs.size := hel
          refine ⟨.agg W, .agg hp.1 hp.2.1 hp.2.2, s1.trans hs', by omega, by omega, hone, fun j y hy => ?_⟩
          have hy : W[j]? = some y := hy
          show (if o ≤ j ∧ j < o + n then val.cells[j - o]? else vs[j]?) = some y
          rw [s2] at hy
          split at hy
          · rename_i hj
            rw [if_pos (by omega)]
            exact hy
          · rename_i hj
            split
            · rename_i hj'
              omega
            · exact hy
        · rename_i ha
          split at h
          · cases h
          · rename_i ha2
            cases h
            have k1 := rep_notAgg he (by simpa using ha)
            have k2 := rep_notAgg hv (by simpa using ha2)
            have hn : n = 1 := by rw [← hc1, hvl, k2]; rfl
            have hl1 : e.cells.length = 1 := by rw [hel, k1]; rfl
            have hs1 : sz = 1 := by omega
            refine ⟨val, hv, by rw [k2, hs1]; rfl, by omega, by omega, hone, fun j y hy => ?_⟩
            have := (Array.getElem?_eq_some_iff.1 hy).1
            rw [if_pos (by omega)]
            rw [show j - o = j by omega]
            exact hy
      · cases h
  · cases h

theorem writeRow_get (cells : Array Value) (p : Nat) (vs : List Value) (h : p + vs.length ≤ cells.size) (j : Nat) :
    (cells.toList.take p ++ vs ++ cells.toList.drop (p + vs.length)).toArray[j]? = if p ≤ j ∧ j < p + vs.length then vs[j - p]? else cells[j]? := by
  simp only [List.getElem?_toArray]
  by_cases h1 : j < p
  · rw [if_neg (by omega), List.append_assoc, List.getElem?_append_left (by simp; omega), List.getElem?_take, if_pos h1]
    simp
  · by_cases h2 : j < p + vs.length
    · rw [if_pos (by omega), List.append_assoc, List.getElem?_append_right (by simp; omega), List.getElem?_append_left (by simp; omega)]
      congr 1
      simp
      omega
    · rw [if_neg (by omega), List.append_assoc, List.getElem?_append_right (by simp; omega), List.getElem?_append_right (by simp; omega), List.getElem?_drop]
      rw [Array.getElem?_toList]
      congr 1
      simp
      omega
theorem writeRow_size (cells : Array Value) (p : Nat) (vs : List Value) (h : p + vs.length ≤ cells.size) :
    (cells.toList.take p ++ vs ++ cells.toList.drop (p + vs.length)).toArray.size = cells.size := by
  simp
  omega

/-- An element's part is written. -/
theorem put_ok {b i o n c : Nat} {B : Blk} {e e' v : AV} {val : Value} (hr : HRep lo g) (hB : blk g.h b = some B) (hlo : lo ≤ b) (hf : B.frz = false) (hc : g.r b = some c) (he : B.es[i]? = some e) (hv : Rep g v val)
    (hp : putPart n B.sz o e v = some e') (hscp : b < base → ∀ n, e.scopd n = true → e'.scopd n = true) :
    ∃ w', (storeCells ⟨c, i * B.sz + o, none⟩ val.cells.toList).run P g.w = .ok () w' ∧ val.cells.size = n ∧
      HRep lo ⟨g.h.set b (.live { B with es := B.es.set i e' }), g.r, w', g.St⟩ ∧ Step lo base g ⟨g.h.set b (.live { B with es := B.es.set i e' }), g.r, w', g.St⟩ := by
  obtain ⟨cells, hh, hle, hes⟩ := (hr.blks b B (vblk_of hB)).2 c hc
  obtain ⟨ve, r1, r2, r3⟩ := hes i e he
  obtain ⟨ve', q1, q2, q3, q4, q5, q6⟩ := putPart_rep r1 r2 hv hp
  have hi : i < B.es.length := (List.getElem?_eq_some_iff.1 he).1
  have hrow : (i + 1) * B.sz ≤ B.es.length * B.sz := Nat.mul_le_mul_right _ hi
  rw [Nat.add_mul] at hrow
  have hfit : i * B.sz + o + val.cells.toList.length ≤ cells.size := by simp; omega
  have hst := run_storeCells_at P c (i * B.sz + o) B.ty val.cells.toList 0 cells g.w hh (by simpa using hfit) (fun u hu => by
    obtain ⟨j, hj⟩ := List.getElem?_of_mem hu
    exact q5 j u (by simpa using hj))
  simp only [Nat.add_zero] at hst
  obtain ⟨s, hb⟩ := modify_ok (lo := lo) (base := base) (es' := B.es.set i e') (cells' := (cells.toList.take (i * B.sz + o) ++ val.cells.toList ++ cells.toList.drop (i * B.sz + o + val.cells.toList.length)).toArray) hr hB hlo hf hc hh (writeRow_size _ _ _ hfit) (by simp) (fun hlt m hm => by
    refine scopdL_iff.2 fun k x hx => ?_
    by_cases hk : i = k
    · subst hk
      rw [List.getElem?_set_self hi] at hx
      cases hx
      exact hscp hlt m (scopdL_iff.1 hm _ _ he)
    · rw [List.getElem?_set_ne hk] at hx
      exact scopdL_iff.1 hm _ _ hx)
  refine ⟨_, hst, q3, hb ⟨fun hn => (by rw [show g.r b = none from hn] at hc; cases hc), fun c' hc' => ?_⟩, s⟩
  rw [show g.r b = some c' from hc'] at hc
  cases hc
  refine ⟨_, setRow_at hh, by rw [writeRow_size _ _ _ hfit]; simpa using hle, fun k x hx => ?_⟩
  by_cases hk : i = k
  · subst hk
    rw [List.getElem?_set_self hi] at hx
    cases hx
    refine ⟨ve', q1.step s hr, q2, fun j y hy => ?_⟩
    have hj : j < B.sz := q2 ▸ (Array.getElem?_eq_some_iff.1 hy).1
    have h6 := q6 j y hy
    rw [writeRow_get _ _ _ hfit]
    simp only [Array.length_toList, q3]
    split at h6
    · rename_i hjo
      rw [if_pos (by omega)]
      rw [show i * B.sz + j - (i * B.sz + o) = j - o by omega]
      simpa using h6
    · rename_i hjo
      rw [if_neg (by omega)]
      exact r3 j y h6
  · rw [List.getElem?_set_ne hk] at hx
    obtain ⟨u, u1, u2, u3⟩ := hes k x hx
    refine ⟨u, u1.step s hr, u2, fun j y hy => ?_⟩
    have hj : j < B.sz := u2 ▸ (Array.getElem?_eq_some_iff.1 hy).1
    have hap := apart_at (i := i) (k := k) (sz := B.sz) (j := j) (fun h => hk h.symm) hj
    rw [writeRow_get _ _ _ hfit]
    simp only [Array.length_toList, q3]
    rw [if_neg (by omega)]
    exact u3 j y hy

theorem slIds_ge (h : Heap) (ns : Nat) : ∀ (d : Nat) (x : AV) (b : Nat), b ∈ slIds h ns d x → ns ≤ b
  | 0, x, b, hb => by simp [slIds] at hb
  | d + 1, x, b, hb => by
    have ih := slIds_ge h ns d
    have fm : ∀ xs : List AV, b ∈ xs.flatMap (slIds h ns d) → ns ≤ b := fun xs hx => by
      obtain ⟨y, _, hy⟩ := List.mem_flatMap.1 hx
      exact ih y b hy
    simp only [slIds] at hb
    split at hb
    · cases hb
    · split at hb
      · split at hb
        · cases hb
        · split at hb
          · split at hb
            · simp only [List.mem_singleton] at hb; omega
            · rcases List.mem_cons.1 hb with rfl | hb
              · omega
              · exact fm _ hb
          · cases hb
      · split at hb
        · cases hb
        · split at hb
          · split at hb
            · split at hb
              · simp only [List.mem_singleton] at hb; omega
              · rcases List.mem_cons.1 hb with rfl | hb
                · omega
                · exact ih _ _ hb
            · cases hb
          · cases hb
      · exact fm _ hb
      · exact fm _ hb
      · exact fm _ hb
      · rcases List.mem_append.1 hb with hb | hb
        · exact fm _ hb
        · exact fm _ hb
      · cases hb

theorem freeze_other {b : Nat} : ∀ (bs : List Nat) (h h' : Heap), freeze lo h bs = some h' → (∀ i ∈ bs, i ≠ b) → h'[b]? = h[b]?
  | [], h, h', he, _ => by simp only [freeze, Option.some.injEq] at he; rw [he]
  | i :: bs, h, h', he, hn => by
    simp only [freeze] at he
    split at he
    · rename_i h1 h2
      rw [freeze_other bs h1 h' he fun j hj => hn j (List.mem_cons_of_mem _ hj)]
      unfold freeze1 at h2
      split at h2
      · split at h2
        · cases h2; rfl
        · split at h2
          · cases h2
            exact List.getElem?_set_ne (hn i (by simp))
          · cases h2
      · cases h2
    · cases he

theorem storeVar_run {t n : Nat} {ad : Addr} {val : Value} {w w' : World} (hn : tySize P t = some n) (hs : val.cells.size = n) (h : (storeCells ad val.cells.toList).run P w = .ok () w') : (storeVar t ad val).run P w = .ok () w' := by
  simp only [storeVar, Sem.run_bind, size_run hn, Result.andThen_ok, hs]
  simp [h]

theorem ok_store {o : Oper} {t n : Nat} {x y : Operand} {x' y' : Opd} {h' : Heap} (ho : o.op = .store t x y) (hx : opd x = some x') (hy : opd y = some y') (hn : tySize P t = some n) (hf : FrRep g fr a) (hr : HRep lo g)
    (h : storeAV g.h lo base n (x'.get fr) (y'.get fr) = some h') : Ok P o a lo base g .undef h' := by
  have h1 := opd_rep hf hx
  have h2 := opd_rep hf hy
  have fin : ∀ {ad : Addr} {w' : World} {r' : RM} {St' : Nat → Prop}, a.eval x = .pointer (some ad) → (a.eval y).cells.size = n → (storeCells ad (a.eval y).cells.toList).run P g.w = .ok () w' → HRep lo ⟨h', r', w', St'⟩ → Step lo base g ⟨h', r', w', St'⟩ → Ok P o a lo base g .undef h' := by
    intro ad w' r' St' e1 e2 e3 e4 e5
    refine ⟨.skip, undef, w', r', St', ?_, .inr ⟨rfl, rfl⟩, .undef, e4, e5⟩
    have := storeVar_run hn e2 e3
    simp [execOp, ho, Instr.storeAt, Instr.sureAddr, e1, this]
  generalize hX : x'.get fr = X at h h1
  unfold storeAV at h
  split at h
  · rename_i b k i off
    split at h
    · rename_i hlo
      split at h
      · rename_i B hB
        have hBb := (good_eq.1 hB).1
        split at h
        · cases h
        · rename_i hfz
          have hfz : B.frz = false := by simpa using hfz
          split at h
          · rename_i e he
            cases hcb : g.r b with
            | none =>
              have := (hr.blks b B (vblk_of hBb)).1 hcb
              rw [this] at he
              simp at he
            | some c =>
              cases hX2 : a.eval x with
              | pointer oa =>
                rw [hX2] at h1
                cases h1 with
                | ptr r1 r2 =>
                  rename_i ad
                  have had := r2 B c (vgood_of hB) hcb
                  subst had
                  split at h
                  · rename_i hbase
                    split at h
                    · rename_i e' hp
                      cases h
                      obtain ⟨w', q1, q2, q3, q4⟩ := put_ok (P := P) (lo := lo) (base := base) hr hBb hlo hfz hcb he h2 hp (fun hlt => by omega)
                      exact fin hX2 q2 q1 q3 q4
                    · cases h
                  · rename_i hbase
                    split at h
                    · rename_i v' hv'
                      split at h
                      · rename_i h1' e' hfr hp
                        split at h
                        · rename_i hok
                          cases h
                          obtain ⟨St1, s1, hr1, hS1⟩ := freeze_ok (lo := lo) (base := base) _ g h1' hr hfr
                          have h2' : Rep ⟨h1', g.r, g.w, St1⟩ v' (a.eval y) := embed_rep hr (m := base) (fun _ hx => hx.step s1 hr) s1.st (fun _ _ => rfl) base base (Nat.le_refl _) (Nat.le_refl _) depth _ _ _ hv' h2 hS1
                          have hb1 : blk h1' b = some B := blk_eq.2 ((freeze_other _ _ _ hfr fun i hi => by have := slIds_ge _ _ _ _ _ hi; omega).trans (blk_eq.1 hBb))
                          obtain ⟨w', q1, q2, q3, q4⟩ := put_ok (P := P) (g := ⟨h1', g.r, g.w, St1⟩) (lo := lo) (base := base) hr1 hb1 hlo hfz hcb he h2' hp (fun _ m hm => by
                            rw [scopd_cells] at hm ⊢
                            exact okCells_scopd hok hm)
                          exact fin hX2 q2 q1 q3 (s1.trans q4)
                        · cases h
                      · cases h
                    · cases h
              | _ => rw [hX2] at h1; cases h1
          · cases h
      · cases h
    · cases h
  · cases h

end
end Go.Abs

/- Append, clear, the slice that keeps nothing. -/
set_option linter.unusedSimpArgs false
set_option linter.unusedVariables false
namespace Go.Abs

section
variable {P : Program} {g : G} {fr : Frame} {a : Act} {lo base : Nat}

theorem run_append_gen (w : World) (t ty e : TypeId) (i : TypeInfo) (z : Value) (ht : P.underlying t = some (.slice e)) (hi : P.info? e = some i) (hz : i.zero = some z)
    (A A2 : Option Addr) (sLen sCap n c : Nat) (olds news : Array Value) (hfo : ∀ w' : World, w'.heap = w.heap → (Builtin.firstCells i.size sLen (.slice A sLen sCap)).run P w' = .ok olds w')
    (hf : ∀ w' : World, w'.heap = w.heap → (Builtin.firstCells i.size n (.slice A2 n c)).run P w' = .ok news w')
    (hg : sCap < sLen + n) (h63 : ((sLen + n : Nat) : Int) ≤ 9223372036854775807) (hfit : Builtin.nextslicecap (sLen + n) sCap * i.bytes ≤ 281474976710656) :
    (Builtin.append_ #[t, t] ty #[.slice A sLen sCap, .slice A2 n c]).run P w =
      .ok (.slice (some ⟨w.heap.size, 0, none⟩) (sLen + n) (grownCap w (sLen + n) sCap e))
        (w.drew.alloc (.cells (olds ++ news ++ Builtin.zeroCells z.cells (grownCap w (sLen + n) sCap e - (sLen + n))) e)) := by
  have hn : ¬ (sLen + n ≤ sCap) := by omega
  have h63' : ¬ (9223372036854775807 < ((sLen : Int) + (n : Int))) := by omega
  have h48' : ¬ (281474976710656 < Builtin.nextslicecap (sLen + n) sCap * i.bytes) := by omega
  have hf := hf w.drew rfl
  have hfo := hfo w.drew rfl
  simp [Builtin.append_, run_underlying ht, sizeOf, typeInfo, zeroValue, hi, hz, Builtin.lenOf, hn, h63', h48', Question.forced, hf, hfo, newRow, grownCap]

theorem set_self {α : Type} {h : List α} {b : Nat} {x : α} (hb : h[b]? = some x) : h.set b x = h := by
  apply List.ext_getElem?
  intro i
  by_cases hi : b = i
  · subst hi
    rw [List.getElem?_set_self (List.getElem?_eq_some_iff.1 hb).1, hb]
  · rw [List.getElem?_set_ne hi]

def rowOf (vf : Nat → Value) : Nat → List Value
  | 0 => []
  | n + 1 => rowOf vf n ++ (vf n).cells.toList

theorem rowOf_spec {vf : Nat → Value} {sz : Nat} : ∀ (n : Nat), (∀ i, i < n → (vf i).cells.size = sz) → (rowOf vf n).length = n * sz ∧
    (∀ (i j : Nat) (x : Value), i < n → (vf i).cells[j]? = some x → (rowOf vf n)[i * sz + j]? = some x) ∧
    ∀ (p : Nat) (y : Value), (rowOf vf n)[p]? = some y → ∃ i j, i < n ∧ p = i * sz + j ∧ (vf i).cells[j]? = some y
  | 0, _ => ⟨by simp [rowOf], fun i j x hi => by omega, fun p y hy => by simp [rowOf] at hy⟩
  | n + 1, h => by
    obtain ⟨h1, h2, h3⟩ := rowOf_spec n fun i hi => h i (by omega)
    have hn := h n (by omega)
    refine ⟨by simp [rowOf, h1, hn, Nat.add_mul], fun i j x hi hx => ?_, fun p y hy => ?_⟩
    · by_cases hin : i = n
      · subst hin
        simp only [rowOf]
        rw [List.getElem?_append_right (by omega), h1]
        rw [show i * sz + j - i * sz = j by omega]
        simpa using hx
      · have hk := h2 i j x (by omega) hx
        simp only [rowOf]
        rw [List.getElem?_append_left ((List.getElem?_eq_some_iff.1 hk).1)]
        exact hk
    · simp only [rowOf] at hy
      by_cases hp : p < n * sz
      · rw [List.getElem?_append_left (by omega)] at hy
        obtain ⟨i, j, hi, he, hx⟩ := h3 p y hy
        exact ⟨i, j, by omega, he, hx⟩
      · rw [List.getElem?_append_right (by omega), h1] at hy
        exact ⟨n, p - n * sz, by omega, by omega, by simpa using hy⟩

theorem first_run {A : Option Addr} {cap n sz : Nat} {row : List Value} {w : World} (hl : row.length = n * sz) (h : row ≠ [] → ∃ c off, A = some ⟨c, off, none⟩ ∧ ∀ (p : Nat) (v : Value), row[p]? = some v → w.cell? ⟨c, off + p, none⟩ = some v)
    (w' : World) (hw : w'.heap = w.heap) : (Builtin.firstCells sz n (.slice A n cap)).run P w' = .ok row.toArray w' := by
  cases A with
  | none =>
    have : row = [] := by
      by_cases hr : row = []
      · exact hr
      · obtain ⟨_, _, h', _⟩ := h hr
        cases h'
    subst this
    exact run_firstCells_none w' sz n n cap
  | some ad =>
    refine run_firstCells_some w' sz n ad n cap row hl fun j v hv => ?_
    obtain ⟨c, off, h', hc⟩ := h (by intro hr; subst hr; simp at hv)
    cases h'
    rw [add_off]
    exact (cell_of_heap (w := w) (w' := w') (by rw [hw])).trans (hc j v hv)

theorem ER.append {sz : Nat} {es ys : List AV} {X Y Z : List Value} (h1 : ER g sz es X.toArray) (h2 : ER g sz ys Y.toArray) (hl : X.length = es.length * sz) : ER g sz (es ++ ys) (X ++ Y ++ Z).toArray := by
  intro i e he
  by_cases hi : i < es.length
  · rw [List.getElem?_append_left hi] at he
    obtain ⟨v, k1, k2, k3⟩ := h1 i e he
    refine ⟨v, k1, k2, fun j x hx => ?_⟩
    have := k3 j x hx
    simp only [List.getElem?_toArray] at this ⊢
    have hlt := (List.getElem?_eq_some_iff.1 this).1
    rw [List.append_assoc, List.getElem?_append_left hlt]
    exact this
  · rw [List.getElem?_append_right (by omega)] at he
    obtain ⟨v, k1, k2, k3⟩ := h2 _ e he
    refine ⟨v, k1, k2, fun j x hx => ?_⟩
    have := k3 j x hx
    simp only [List.getElem?_toArray] at this ⊢
    have hlt := (List.getElem?_eq_some_iff.1 this).1
    have hm : es.length * sz ≤ i * sz := Nat.mul_le_mul_right _ (by omega)
    have hsub : i * sz + j - X.length = (i - es.length) * sz + j := by rw [hl, Nat.sub_mul]; omega
    rw [List.append_assoc, List.getElem?_append_right (by omega), hsub, List.getElem?_append_left hlt]
    exact this

/-- A slice to be read: its row. -/
theorem readRow {sz : Nat} {y : AV} {ys : List AV} {v : Value} (hr : HRep lo g) (h : readSl g.h sz y = some ys) (hy : Rep g y v) :
    ∃ A cap row, v = .slice A ys.length cap ∧ row.length = ys.length * sz ∧ ER g sz ys row.toArray ∧ (ys.all AV.ok = true → ∀ u ∈ row, u.oneCell' = true) ∧
      (row ≠ [] → ∃ c off, A = some ⟨c, off, none⟩ ∧ ∀ (p : Nat) (u : Value), row[p]? = some u → g.w.cell? ⟨c, off + p, none⟩ = some u) := by
  obtain ⟨A, cap, rfl, _, vf, h1, h2, h3⟩ := readSl_of hr h hy
  obtain ⟨k1, k2, k3⟩ := rowOf_spec (vf := vf) (sz := sz) ys.length h2
  refine ⟨A, cap, rowOf vf ys.length, rfl, k1, fun i e he => ?_, fun hok u hu => ?_, fun hne => ?_⟩
  · have hi := (List.getElem?_eq_some_iff.1 he).1
    exact ⟨vf i, h1 i e he, h2 i hi, fun j x hx => by simpa using k2 i j x hi hx⟩
  · obtain ⟨p, hp⟩ := List.getElem?_of_mem hu
    obtain ⟨i, j, hi, _, hx⟩ := k3 p u hp
    have he := List.getElem?_eq_getElem hi
    exact ok_one (h1 i _ he) (List.all_eq_true.1 hok _ (List.getElem_mem hi)) j u hx
  · have hn : ys ≠ [] := by intro hys; subst hys; exact hne rfl
    obtain ⟨c, off, hA, hc⟩ := h3 hn
    refine ⟨c, off, hA, fun p u hp => ?_⟩
    obtain ⟨i, j, hi, rfl, hx⟩ := k3 p u hp
    rw [← Nat.add_assoc]
    exact hc i j u hi hx

/-- What append needs of the element type. -/
structure ElT (P : Program) (t e sz bs : Nat) : Prop where
  t : P.underlying t = some (.slice e)
  i : ∃ i z, P.info? e = some i ∧ i.zero = some z ∧ i.size = sz ∧ i.bytes = bs ∧ z.cells.size = sz
  bs : bs ≤ 4096
  pos : 0 < sz

theorem append_emp_ok {t e sz bs tgt : Nat} {ty : TypeId} {A A2 : Option Addr} {cap2 : Nat} {ys : List AV} {row : List Value} {v : AV} {h' : Heap} (hE : ElT P t e sz bs) (hr : HRep lo g) (hb : base ≤ tgt)
    (hl : row.length = ys.length * sz) (hER : ER g sz ys row.toArray) (hrow : row ≠ [] → ∃ c off, A2 = some ⟨c, off, none⟩ ∧ ∀ (p : Nat) (u : Value), row[p]? = some u → g.w.cell? ⟨c, off + p, none⟩ = some u)
    (hx : Rep g .emp (.slice A 0 0)) (h : appendAV g.h lo base tgt e sz .emp ys = some (v, h')) :
    ∃ v' w' r' St', (Builtin.append_ #[t, t] ty #[.slice A 0 0, .slice A2 ys.length cap2]).run P g.w = .ok v' w' ∧ Rep ⟨h', r', w', St'⟩ v v' ∧ HRep lo ⟨h', r', w', St'⟩ ∧ Step lo base g ⟨h', r', w', St'⟩ := by
  obtain ⟨ht, ⟨i, z, hi, hz, hsz, hbs, hzs⟩, hbs2, hpos⟩ := hE
  simp only [appendAV] at h
  split at h
  · rename_i he
    cases h
    have hys : ys = [] := List.isEmpty_iff.1 he
    subst hys
    have hf := first_run (P := P) (A := A2) (cap := cap2) (n := 0) (sz := i.size) (row := row) (w := g.w) (by rw [hl, hsz]; rfl) hrow
    have hrow0 : row = [] := List.length_eq_zero_iff.1 (by simpa using hl)
    have run : (Builtin.append_ #[t, t] ty #[.slice A 0 0, .slice A2 0 cap2]).run P g.w = .ok (.slice A 0 0) g.w := by
      have hf := hf g.w rfl
      subst hrow0
      cases A <;> simp [Builtin.append_, run_underlying ht, sizeOf, typeInfo, hi, Builtin.lenOf, hf, storeCells]
    exact ⟨_, g.w, g.r, g.St, run, .emp, hr, Step.refl lo base g⟩
  rename_i hne
  split at h
  · rename_i hm
    unfold most at hm
    split at h
    · rename_i h1 hp
      cases h
      have hfo := first_run (P := P) (A := A) (cap := 0) (n := 0) (sz := i.size) (row := []) (w := g.w) (by simp) (by simp)
      have hf := first_run (P := P) (A := A2) (cap := cap2) (n := ys.length) (sz := i.size) (row := row) (w := g.w) (by rw [hl, hsz]) hrow
      have h0 : ¬ ys.length = 0 := fun h => hne (List.isEmpty_iff.2 (List.length_eq_zero_iff.1 h))
      · have run := run_append_gen g.w t ty e i z ht hi hz A A2 0 0 ys.length cap2 #[] row.toArray hfo hf (by omega) (by omega)
          (growslice_fits (by omega) (by
            rw [hbs]
            have : (0 + ys.length) * bs ≤ 1073741824 * 4096 := Nat.mul_le_mul (by omega) hbs2
            omega))
        simp only [Nat.zero_add] at run
        have hge := grownCap_ge g.w ys.length 0 e
        generalize grownCap g.w ys.length 0 e = nc at run hge
        have hcells : (#[] ++ row.toArray ++ Builtin.zeroCells z.cells (nc - ys.length)) = (([] : List Value) ++ row ++ (Builtin.zeroCells z.cells (nc - ys.length)).toList).toArray := by
          simp
        rw [hcells] at run
        have hE2 := ER.append (g := g) (sz := sz) (es := []) (ys := ys) (X := []) (Y := row) (Z := (Builtin.zeroCells z.cells (nc - ys.length)).toList) (by intro i e he; simp at he) hER (by simp)
        obtain ⟨r', St', q1, q2, q3⟩ := slice_new (lo := lo) (base := base) (n := ys.length) (cap := nc) (ty := e) hr hb (Grows.drewAlloc g.w (.cells (([] : List Value) ++ row ++ (Builtin.zeroCells z.cells (nc - ys.length)).toList).toArray e))
          (by simpa [World.drew, -World.drew_eq] using alloc_at g.w.drew _) hp rfl (by
            simp [hl, size_zeroCells, hzs]
            rw [← Nat.add_mul]
            congr 1
            omega) hge hE2
        exact ⟨_, _, r', St', run, q1, q2, q3⟩
    · cases h
  · cases h

/-- Appended to a block of its own. -/
theorem append_sl_ok {t e sz bs b k : Nat} {ty : TypeId} {B : Blk} {x : Value} {A2 : Option Addr} {cap2 : Nat} {ys : List AV} {row : List Value} (hE : ElT P t e sz bs) (hr : HRep lo g)
    (hB : good g.h b k = some B) (hlo : lo ≤ b) (hf : B.frz = false) (hsz2 : B.sz = sz) (hty : B.ty = e) (hm : k + ys.length ≤ most)
    (hl : row.length = ys.length * sz) (hER : ER g sz ys row.toArray) (h1c : ∀ u ∈ row, u.oneCell' = true)
    (hrow : row ≠ [] → ∃ c off, A2 = some ⟨c, off, none⟩ ∧ ∀ (p : Nat) (u : Value), row[p]? = some u → g.w.cell? ⟨c, off + p, none⟩ = some u)
    (hx : Rep g (.sl sz b k 0 k) x) (hscp : b < base → AV.closedL ys = true) :
    ∃ v' w' r' St', (Builtin.append_ #[t, t] ty #[x, .slice A2 ys.length cap2]).run P g.w = .ok v' w' ∧ Rep ⟨g.h.set b (.live { B with es := B.es ++ ys }), r', w', St'⟩ (.sl sz b (k + ys.length) 0 (k + ys.length)) v' ∧
      HRep lo ⟨g.h.set b (.live { B with es := B.es ++ ys }), r', w', St'⟩ ∧ Step lo base g ⟨g.h.set b (.live { B with es := B.es ++ ys }), r', w', St'⟩ := by
  obtain ⟨ht, ⟨i, z, hi, hz, hsz, hbs, hzs⟩, hbs2, hpos⟩ := hE
  unfold most at hm
  subst hsz2
  subst hty
  obtain ⟨hBb, hBl⟩ := good_eq.1 hB
  have hblt : b < g.h.length := (List.getElem?_eq_some_iff.1 (blk_eq.1 hBb)).1
  have hscp' : b < base → ∀ n, AV.scopdL n B.es = true → AV.scopdL n (B.es ++ ys) = true := fun hlt n hn => by
    refine scopdL_iff.2 fun j y hy => ?_
    by_cases hj : j < B.es.length
    · rw [List.getElem?_append_left hj] at hy
      exact scopdL_iff.1 hn j y hy
    · rw [List.getElem?_append_right (by omega)] at hy
      exact scopd_of_closed n y (closedL_iff.1 (hscp hlt) _ y hy)
  have self : (g.h.set b (.live { B with es := B.es ++ ys }))[b]? = some (.live { B with es := B.es ++ ys }) := List.getElem?_set_self hblt
  have okN : ∀ (r' : RM) (w' : World) (St' : Nat → Prop), refOk ⟨g.h.set b (.live { B with es := B.es ++ ys }), r', w', St'⟩ b (k + ys.length) := fun r' w' St' => ⟨_, vblk_live self, by simp; omega⟩
  have gdN : ∀ {C : Blk} {r' : RM}, vgood (g.h.set b (.live { B with es := B.es ++ ys })) r' b (k + ys.length) = some C → C = { B with es := B.es ++ ys } := fun {C r'} hC => by
    have := (vgood_eq.1 hC).1
    rw [vblk_live self] at this
    cases this
    rfl
  cases hx with
  | sl r1 r2 r3 r6 r7 r4 r5 =>
    rename_i cap A
    obtain ⟨ha, hb⟩ := r5 rfl B (vgood_of hB)
    obtain ⟨hn1, hn2⟩ := hr.blks b B (vblk_of hBb)
    have hf2 := first_run (P := P) (A := A2) (cap := cap2) (n := ys.length) (sz := i.size) (row := row) (w := g.w) (by rw [hl, hsz]) hrow
    by_cases hroom : k + ys.length ≤ cap
    · cases hcb : g.r b with
      | none =>
        have hc0 := ha hcb
        have hk0 : k = 0 := by omega
        have hy0 : ys.length = 0 := by omega
        have hys : ys = [] := List.length_eq_zero_iff.1 hy0
        have hrow0 : row = [] := List.length_eq_zero_iff.1 (by rw [hl, hy0]; simp)
        subst hys
        subst hrow0
        subst hc0
        have hes0 : B.es = [] := hn1 hcb
        have hset : g.h.set b (.live { B with es := B.es ++ [] }) = g.h := by
          rw [List.append_nil]
          exact set_self (blk_eq.1 hBb)
        have run : (Builtin.append_ #[t, t] ty #[.slice A k 0, .slice A2 ([] : List AV).length cap2]).run P g.w = .ok (.slice A k 0) g.w := by
          have hf := hf2 g.w rfl
          simp only [List.length_nil] at hf ⊢
          subst hk0
          cases A <;> simp [Builtin.append_, run_underlying ht, sizeOf, typeInfo, hi, Builtin.lenOf, hf, storeCells]
        refine ⟨_, g.w, g.r, g.St, run, ?_, ?_, ?_⟩
        · rw [hset]
          exact .sl r1 r2 r3 r6 r7 r4 r5
        · rw [hset]; exact hr
        · rw [hset]; exact Step.refl lo base g
      | some c =>
        obtain ⟨cells, hh, hle, hes⟩ := hn2 c hcb
        obtain ⟨hA, m, hm', hcap⟩ := hb c hcb
        have hmc : m = cells.size := by
          simp only [World.shape?, hh, Option.some.injEq, Prod.mk.injEq] at hm'
          exact hm'.2.symm
        subst hmc
        have hfit : k * B.sz + row.length ≤ cells.size := by
          rw [hl, ← Nat.add_mul]
          exact Nat.le_trans (Nat.mul_le_mul_right _ hroom) hcap
        obtain ⟨s, hbr⟩ := modify_ok (lo := lo) (base := base) (es' := B.es ++ ys) (cells' := (cells.toList.take (k * B.sz) ++ row ++ cells.toList.drop (k * B.sz + row.length)).toArray) hr hBb hlo hf hcb hh (writeRow_size _ _ _ hfit) (by simp) hscp'
        have hBR : BlkRep ⟨g.h.set b (.live { B with es := B.es ++ ys }), g.r, g.w.setRow c (cells.toList.take (k * B.sz) ++ row ++ cells.toList.drop (k * B.sz + row.length)).toArray, g.St⟩ b { B with es := B.es ++ ys } := by
          refine ⟨fun hn => (by rw [show g.r b = none from hn] at hcb; cases hcb), fun c' hc' => ?_⟩
          rw [show g.r b = some c' from hc'] at hcb
          cases hcb
          refine ⟨_, setRow_at hh, by rw [writeRow_size _ _ _ hfit]; simp; rw [hBl]; exact Nat.le_trans (Nat.mul_le_mul_right _ hroom) hcap, ?_⟩
          have hX : (cells.toList.take (k * B.sz)).length = B.es.length * B.sz := by
            simp
            rw [hBl]
            omega
          have hEX : ER g B.sz B.es (cells.toList.take (k * B.sz)).toArray := fun q f hq => by
            obtain ⟨u, u1, u2, u3⟩ := hes q f hq
            refine ⟨u, u1, u2, fun j y hy => ?_⟩
            have hqlt := (List.getElem?_eq_some_iff.1 hq).1
            have hj : j < B.sz := u2 ▸ (Array.getElem?_eq_some_iff.1 hy).1
            have := row_lt (m := k * B.sz) hqlt hj (by rw [hBl]; exact Nat.le_refl _)
            have h3 := u3 j y hy
            simp only [List.getElem?_toArray]
            rw [List.getElem?_take, if_pos this]
            simpa using h3
          exact (ER.append hEX hER hX).step s hr
        by_cases hc0 : cap = 0
        · have hk0 : k = 0 := by omega
          have hy0 : ys.length = 0 := by omega
          have hrow0 : row = [] := List.length_eq_zero_iff.1 (by rw [hl, hy0]; simp)
          have run : (Builtin.append_ #[t, t] ty #[.slice A k cap, .slice A2 ys.length cap2]).run P g.w = .ok (.slice A (k + ys.length) cap) (g.w.setRow c (cells.toList.take (k * B.sz) ++ row ++ cells.toList.drop (k * B.sz + row.length)).toArray) := by
            have hsr : g.w.setRow c (cells.toList.take (k * B.sz) ++ row ++ cells.toList.drop (k * B.sz + row.length)).toArray = g.w := by
              rw [hrow0]
              simp only [List.append_nil, List.length_nil, Nat.add_zero, List.take_append_drop, Array.toArray_toList]
              exact setRow_self g.w c cells B.ty (0, 0) hh
            have hf := hf2 g.w rfl
            rw [hsr]
            rw [hrow0] at hf
            rw [hy0] at hf ⊢
            subst hk0
            subst hc0
            cases A <;> simp [Builtin.append_, run_underlying ht, sizeOf, typeInfo, hi, Builtin.lenOf, hf, storeCells]
          refine ⟨_, _, g.r, g.St, run, ?_, hbr hBR, s⟩
          refine .sl (okN _ _ _) hroom (by simp) (fun C hC => by rw [gdN hC]) (fun hp => by omega) (fun hp => by omega) (fun _ C hC => ⟨fun hn => hc0, fun d hd => ?_⟩)
          have hdc : d = c := by rw [show g.r b = some d from hd] at hcb; cases hcb; rfl
          rw [gdN hC, hdc]
          exact ⟨fun hp => by omega, cells.size, by rw [s.shp c (shape_lt hm'), hm'], hcap⟩
        · have hA := hA (by omega)
          subst hA
          have hst := run_storeCells_at P c (k * B.sz) B.ty row 0 cells g.w hh (by simpa using hfit) h1c
          simp only [Nat.add_zero] at hst
          have run : (Builtin.append_ #[t, t] ty #[.slice (some ⟨c, 0, none⟩) k cap, .slice A2 ys.length cap2]).run P g.w = .ok (.slice (some ⟨c, 0, none⟩) (k + ys.length) cap) (g.w.setRow c (cells.toList.take (k * B.sz) ++ row ++ cells.toList.drop (k * B.sz + row.length)).toArray) := by
            have hf := hf2 g.w rfl
            rw [hsz] at hf
            simp [Builtin.append_, run_underlying ht, sizeOf, typeInfo, hi, Builtin.lenOf, hroom, hf, hsz, add_off, hst]
          refine ⟨_, _, g.r, g.St, run, ?_, hbr hBR, s⟩
          refine .sl (okN _ _ _) hroom (by simp) (fun C hC => by rw [gdN hC]) (fun hp => ⟨_, rfl⟩) (fun hp C d hC hd => ?_) (fun _ C hC => ⟨fun hn => ?_, fun d hd => ?_⟩)
          · have hdc : d = c := by rw [show g.r b = some d from hd] at hcb; cases hcb; rfl
            rw [hdc]
            simp
          · rw [show g.r b = none from hn] at hcb
            cases hcb
          · have hdc : d = c := by rw [show g.r b = some d from hd] at hcb; cases hcb; rfl
            rw [gdN hC, hdc]
            exact ⟨fun _ => rfl, cells.size, by rw [s.shp c (shape_lt hm'), hm'], hcap⟩
    · have hypos : 0 < ys.length := by omega
      have hold : ∃ olds : List Value, olds.length = k * B.sz ∧ ER g B.sz B.es olds.toArray ∧ (olds ≠ [] → ∃ c off, A = some ⟨c, off, none⟩ ∧ ∀ (p : Nat) (u : Value), olds[p]? = some u → g.w.cell? ⟨c, off + p, none⟩ = some u) := by
        cases hcb : g.r b with
        | none =>
          have hes0 : B.es = [] := hn1 hcb
          have hk0 : k = 0 := by rw [← hBl, hes0]; rfl
          exact ⟨[], by rw [hk0]; simp, fun q f hq => by rw [hes0] at hq; simp at hq, fun h => absurd rfl h⟩
        | some c =>
          obtain ⟨cells, hh, hle, hes⟩ := hn2 c hcb
          rw [hBl] at hle
          refine ⟨cells.toList.take (k * B.sz), by simp; omega, fun q f hq => ?_, fun hne => ⟨c, 0, ?_, fun p u hp => ?_⟩⟩
          · obtain ⟨u, u1, u2, u3⟩ := hes q f hq
            refine ⟨u, u1, u2, fun j y hy => ?_⟩
            have hqlt := (List.getElem?_eq_some_iff.1 hq).1
            have hj : j < B.sz := u2 ▸ (Array.getElem?_eq_some_iff.1 hy).1
            have := row_lt (m := k * B.sz) hqlt hj (by rw [hBl]; exact Nat.le_refl _)
            have h3 := u3 j y hy
            simp only [List.getElem?_toArray]
            rw [List.getElem?_take, if_pos this]
            simpa using h3
          · have hk : 0 < k := by
              rcases Nat.eq_zero_or_pos k with h | h
              · subst h; simp at hne
              · exact h
            have := r4 hk B c (vgood_of hB) hcb
            rw [this]
            simp
          · rw [List.getElem?_take] at hp
            split at hp
            · rw [cell_at hh, Nat.zero_add]
              simpa using hp
            · cases hp
      obtain ⟨olds, o1, o2, o3⟩ := hold
      have hfo := first_run (P := P) (A := A) (cap := cap) (n := k) (sz := i.size) (row := olds) (w := g.w) (by rw [o1, hsz]) o3
      have run := run_append_gen g.w t ty B.ty i z ht hi hz A A2 k cap ys.length cap2 olds.toArray row.toArray hfo hf2 (by omega) (by omega)
        (growslice_fits (by omega) (by
          rw [hbs]
          have : (k + ys.length) * bs ≤ 1073741824 * 4096 := Nat.mul_le_mul (by omega) hbs2
          omega))
      have hge := grownCap_ge g.w (k + ys.length) cap B.ty
      generalize grownCap g.w (k + ys.length) cap B.ty = nc at run hge
      have hcells : (olds.toArray ++ row.toArray ++ Builtin.zeroCells z.cells (nc - (k + ys.length))) = (olds ++ row ++ (Builtin.zeroCells z.cells (nc - (k + ys.length))).toList).toArray := by simp
      rw [hcells] at run
      have hE2 := ER.append (g := g) (Z := (Builtin.zeroCells z.cells (nc - (k + ys.length))).toList) o2 hER (by rw [o1, hBl])
      have hcsz : (olds ++ row ++ (Builtin.zeroCells z.cells (nc - (k + ys.length))).toList).toArray.size = nc * B.sz := by
        simp [hl, size_zeroCells, hzs, o1]
        rw [← Nat.add_mul, ← Nat.add_mul]
        congr 1
        omega
      generalize (olds ++ row ++ (Builtin.zeroCells z.cells (nc - (k + ys.length))).toList).toArray = cs at run hE2 hcsz
      have hat : (g.w.drew.alloc (.cells cs B.ty)).heap[g.w.heap.size]? = some (.cells cs B.ty (0, 0)) := by simpa [World.drew, -World.drew_eq] using alloc_at g.w.drew (.cells cs B.ty)
      obtain ⟨s, hbr⟩ := regrow_ok (lo := lo) (base := base) (es' := B.es ++ ys) hr hBb hlo hf (Grows.drewAlloc g.w (.cells cs B.ty)) ((Array.getElem?_eq_some_iff.1 hat).1) (by simp; omega) hscp'
      have hncl : (k + ys.length) * B.sz ≤ nc * B.sz := Nat.mul_le_mul_right _ hge
      refine ⟨_, _, _, g.St, run, ?_, hbr ⟨fun hn => (by simp at hn), fun d hd => ?_⟩, s⟩
      · refine .sl (okN _ _ _) hge (by simp) (fun C hC => by rw [gdN hC]) (fun hp => ⟨_, rfl⟩) (fun hp C d hC hd => ?_) (fun _ C hC => ⟨fun hn => (by simp at hn), fun d hd => ?_⟩)
        · simp only [if_true, Option.some.injEq] at hd
          subst hd
          simp
        · simp only [if_true, Option.some.injEq] at hd
          subst hd
          rw [gdN hC]
          exact ⟨fun _ => rfl, cs.size, by simp only [World.shape?, hat], by simp only [hcsz]; exact Nat.le_refl _⟩
      · simp only [if_true, Option.some.injEq] at hd
        subst hd
        exact ⟨cs, hat, by simp only [List.length_append, hBl]; rw [hcsz]; exact hncl, fun q f hq => hE2.step s hr q f hq⟩

end
end Go.Abs

/- Append, clear and the slice that keeps nothing, as operations. -/
set_option linter.unusedSimpArgs false
set_option linter.unusedVariables false
namespace Go.Abs

section
variable {P : Program} {g : G} {fr : Frame} {a : Act} {lo base : Nat}

theorem constAV_len {v : Value} {z : AV} (h : constAV v = some z) : z.cells.length = v.cells.size := by
  unfold constAV at h
  split at h
  · rename_i cs
    cases hm : mapO constAV1 cs.toList with
    | none => rw [hm] at h; cases h
    | some ys =>
      rw [hm] at h
      cases h
      simpa [AV.cells, Value.cells] using (mapO_some hm).1
  · unfold constAV1 at h
    split at h <;> cases h <;> rfl
theorem elT_of {t e sz bs : Nat} {z : AV} (ht : elemTy P t = some e) (hsz : tySize P e = some sz) (hbs : tyBytes P e = some bs) (hz : zeroAV P e = some z) (hb : bs ≤ 4096) (hp : 0 < sz) (hzs : z.cells.length = sz) : ElT P t e sz bs := by
  obtain ⟨zv, hzc, i, hi, hzi⟩ : ∃ v, constAV v = some z ∧ ∃ i, P.info? e = some i ∧ i.zero = some v := by
    unfold zeroAV at hz
    split at hz
    · rename_i i hi
      split at hz
      · rename_i v hv
        exact ⟨v, hz, i, hi, hv⟩
      · cases hz
    · cases hz
  refine ⟨elemTy_eq ht, ⟨i, zv, hi, hzi, ?_, ?_, ?_⟩, hb, hp⟩
  · simp only [tySize, hi, Option.map_some, Option.some.injEq] at hsz
    exact hsz
  · simp only [tyBytes, hi, Option.map_some, Option.some.injEq] at hbs
    exact hbs
  · rw [← constAV_len hzc, hzs]

theorem ok_append {o : Oper} {t e sz bs tgt : Nat} {x y : Operand} {x' y' : Opd} {ys : List AV} {v : AV} {h' : Heap} {as : Array Operand} {ts : Array TypeId} (ho : o.op = .call { callee := .builtin .append, args := as, argTypes := ts }) (has : as.toList = [x, y]) (hts : ts.toList = [t, t])
    (hx : opd x = some x') (hy : opd y = some y') (hE : ElT P t e sz bs) (hf : FrRep g fr a) (hr : HRep lo g) (hb : base ≤ tgt) (hys : readSl g.h sz (y'.get fr) = some ys)
    (h : appendAV g.h lo base tgt e sz (x'.get fr) ys = some (v, h')) : Ok P o a lo base g v h' := by
  have h1 := opd_rep hf hx
  obtain ⟨A2, cap2, row, ey, hl, hER, hone, hrow⟩ := readRow hr hys (opd_rep hf hy)
  have has' : as = #[x, y] := by rw [← Array.toArray_toList (xs := as), has]
  have hts' : ts = #[t, t] := by rw [← Array.toArray_toList (xs := ts), hts]
  have fin : ∀ {v' : Value} {w' : World} {r' : RM} {St' : Nat → Prop}, (Builtin.append_ #[t, t] o.type #[a.eval x, .slice A2 ys.length cap2]).run P g.w = .ok v' w' → Rep ⟨h', r', w', St'⟩ v v' → HRep lo ⟨h', r', w', St'⟩ → Step lo base g ⟨h', r', w', St'⟩ → Ok P o a lo base g v h' := by
    intro v' w' r' St' e1 e2 e3 e4
    refine ⟨_, v', w', r', St', ?_, .inl rfl, e2, e3, e4⟩
    simp [execOp, ho, resolve, invoke, builtin, has', hts', ey, e1]
  generalize hX : x'.get fr = X at h h1
  generalize hv : a.eval x = xv at h1 fin
  cases X with
  | emp =>
    cases h1
    obtain ⟨v', w', r', St', k1, k2, k3, k4⟩ := append_emp_ok (ty := o.type) (cap2 := cap2) hE hr hb hl hER hrow .emp h
    exact fin k1 k2 k3 k4
  | sl sz' b k off len =>
    simp only [appendAV] at h
    split at h
    · rename_i hlo
      split at h
      · rename_i B hB
        split at h
        · cases h
        · rename_i hc
          simp only [Bool.or_eq_true, not_or, Bool.not_eq_true, Bool.not_eq_false', beq_iff_eq, decide_eq_true_eq] at hc
          obtain ⟨⟨⟨⟨⟨⟨c1, c2⟩, c3⟩, c4⟩, c5⟩, c6⟩, c7⟩ := hc
          subst c2
          subst c3
          have hsz' : sz' = sz := by
            cases h1 with
            | sl r1 r2 r3 r6 r7 r4 r5 => rw [← r6 B (vgood_of hB), c4]
          subst hsz'
          split at h
          · rename_i hbs
            cases h
            obtain ⟨v', w', r', St', k1, k2, k3, k4⟩ := append_sl_ok (lo := lo) (base := base) (ty := o.type) (cap2 := cap2) hE hr hB hlo c1 c4 c5 c6 hl hER (hone c7) hrow h1 (fun hlt => by omega)
            exact fin k1 k2 k3 k4
          · rename_i hbs
            split at h
            · rename_i ys' hys'
              split at h
              · rename_i h1' hfr
                split at h
                · rename_i hcl
                  cases h
                  obtain ⟨St1, s1, hr1, hS1⟩ := freeze_ok (lo := lo) (base := base) _ g h1' hr hfr
                  have hb1 : good h1' b len = some B := good_eq.2 ⟨blk_eq.2 ((freeze_other _ _ _ hfr fun i hi => by
                    obtain ⟨q, _, hq⟩ := List.mem_flatMap.1 hi
                    have := slIds_ge _ _ _ _ _ hq
                    omega).trans (blk_eq.1 (good_eq.1 hB).1)), (good_eq.1 hB).2⟩
                  have hyl := (mapO_some hys').1
                  have hER' : ER ⟨h1', g.r, g.w, St1⟩ sz' ys' row.toArray := fun i z hz => by
                    obtain ⟨e', he', hez⟩ := mapO_rep hys' hz
                    obtain ⟨u, u1, u2, u3⟩ := hER i e' he'
                    exact ⟨u, embed_rep hr (m := base) (fun _ hx => hx.step s1 hr) s1.st (fun _ _ => rfl) base base (Nat.le_refl _) (Nat.le_refl _) depth _ _ _ hez u1 (fun b' hb' => hS1 b' (List.mem_flatMap.2 ⟨e', List.mem_of_getElem? he', hb'⟩)), u2, u3⟩
                  obtain ⟨v', w', r', St', k1, k2, k3, k4⟩ := append_sl_ok (g := ⟨h1', g.r, g.w, St1⟩) (lo := lo) (base := base) (ty := o.type) (cap2 := cap2) (ys := ys') hE hr1 hb1 hlo c1 c4 c5 (by omega) (by rw [hyl]; exact hl) hER' (hone c7) hrow (h1.step s1 hr) (fun _ => hcl)
                  rw [hyl] at k1 k2
                  exact fin k1 k2 k3 (s1.trans k4)
                · cases h
              · cases h
            · cases h
      · cases h
    · cases h
  | _ => simp [appendAV] at h

theorem constAV_one {v : Value} {z : AV} (h : constAV v = some z) : ∀ (j : Nat) (y : Value), v.cells[j]? = some y → y.oneCell' = true := by
  unfold constAV at h
  split at h
  · rename_i cs
    cases hm : mapO constAV1 cs.toList with
    | none => rw [hm] at h; cases h
    | some ys =>
      obtain ⟨_, hi⟩ := mapO_some hm
      intro j y hy
      obtain ⟨_, _, he⟩ := hi j y (by simpa [Value.cells] using hy)
      exact constAV1_one he
  · have h1 := constAV1_one h
    intro j y hy
    have hc : v.cells = #[v] := by
      cases v <;> first | rfl | (simp [Value.oneCell'] at h1)
    rw [hc] at hy
    cases j with
    | zero => simp at hy; subst hy; exact h1
    | succ j => simp at hy

theorem ok_clear {o : Oper} {t e sz : Nat} {x : Operand} {x' : Opd} {z : AV} {h' : Heap} {as : Array Operand} {ts : Array TypeId} (ho : o.op = .call { callee := .builtin .clear, args := as, argTypes := ts }) (has : as.toList = [x]) (hts : ts.toList = [t])
    (hx : opd x = some x') (ht : elemTy P t = some e) (hsz : tySize P e = some sz) (hz : zeroAV P e = some z) (hf : FrRep g fr a) (hr : HRep lo g)
    (h : clearAV g.h lo z (x'.get fr) = some h') : Ok P o a lo base g .undef h' := by
  have h1 := opd_rep hf hx
  have has' : as = #[x] := by rw [← Array.toArray_toList (xs := as), has]
  have hts' : ts = #[t] := by rw [← Array.toArray_toList (xs := ts), hts]
  obtain ⟨zv, hzr, hzc, _⟩ := zeroAV_run hz g.w
  have hz1 := constAV_one hzc
  have hzl := (rep_cells (constAV_rep (g := g) hzc)).1
  have hu := elemTy_eq ht
  have fin : ∀ {w' : World} {r' : RM} {St' : Nat → Prop}, (Builtin.clear_ #[t] o.type #[a.eval x]).run P g.w = .ok (.tuple #[]) w' → HRep lo ⟨h', r', w', St'⟩ → Step lo base g ⟨h', r', w', St'⟩ → Ok P o a lo base g .undef h' := by
    intro w' r' St' e1 e2 e3
    refine ⟨_, undef, w', r', St', ?_, .inl rfl, .undef, e2, e3⟩
    simp [execOp, ho, resolve, invoke, builtin, has', hts', e1]
    rfl
  generalize hX : x'.get fr = X at h h1
  generalize hV : a.eval x = V at h1 fin
  cases X with
  | emp =>
    simp only [clearAV, Option.some.injEq] at h
    subst h
    cases h1
    rename_i A
    refine fin (w' := g.w) (r' := g.r) (St' := g.St) ?_ hr (Step.refl lo base g)
    cases A <;> simp [Builtin.clear_, run_underlying hu]
  | sl s b k off len =>
    simp only [clearAV] at h
    split at h
    · rename_i hlo
      split at h
      · rename_i B hB
        split at h
        · cases h
        · rename_i hfz
          split at h
          · rename_i hc
            obtain ⟨hc1, hc2, hc3⟩ := hc
            cases h
            cases h1 with
            | sl r1 r2 r3 r6 r7 r4 r5 =>
              rename_i cap A
              obtain ⟨hBb, hBl⟩ := good_eq.1 hB
              obtain ⟨hn1, hn2⟩ := hr.blks b B (vblk_of hBb)
              rcases Nat.eq_zero_or_pos len with h0 | hp
              · subst h0
                have hes : B.es.take off ++ List.replicate 0 z ++ B.es.drop (off + 0) = B.es := by simp
                rw [hes, show ({ B with es := B.es } : Blk) = B from rfl, set_self (blk_eq.1 hBb)] at fin
                rw [hes, show ({ B with es := B.es } : Blk) = B from rfl, set_self (blk_eq.1 hBb)]
                refine fin (w' := g.w) (r' := g.r) (St' := g.St) ?_ hr (Step.refl lo base g)
                cases A <;> simp [Builtin.clear_, run_underlying hu]
              · cases hcb : g.r b with
                | none =>
                  have := hn1 hcb
                  rw [this] at hBl
                  simp at hBl
                  omega
                | some c =>
                  obtain ⟨cells, hh, hle, hes⟩ := hn2 c hcb
                  have hA := r4 hp B c (vgood_of hB) hcb
                  subst hA
                  rw [hBl] at hle
                  have hzs : zv.cells.size = B.sz := by rw [← hzl, hc2]
                  have hzc2 : Builtin.zeroCells zv.cells len = madeCells zv.cells (len * zv.cells.size) := rfl
                  have hfit : off * B.sz + (Builtin.zeroCells zv.cells len).toList.length ≤ cells.size := by
                    rw [Array.length_toList, size_zeroCells, hzs, ← Nat.add_mul]
                    exact Nat.le_trans (Nat.mul_le_mul_right _ hc3) hle
                  have hst := run_storeCells_at P c (off * B.sz) B.ty (Builtin.zeroCells zv.cells len).toList 0 cells g.w hh (by simpa using hfit) (fun u hu => by
                    simp only [Builtin.zeroCells, Array.toList_map, List.mem_map] at hu
                    obtain ⟨i, hi, rfl⟩ := hu
                    simp at hi
                    have hlt : i % zv.cells.size < zv.cells.size := Nat.mod_lt _ (by
                      rcases Nat.eq_zero_or_pos zv.cells.size with h | h
                      · rw [h] at hi; omega
                      · exact h)
                    refine hz1 (i % zv.cells.size) _ ?_
                    rw [Array.getElem?_eq_getElem hlt]
                    simp only [getElem!_pos, hlt])
                  simp only [Nat.add_zero] at hst
                  obtain ⟨s', hbr⟩ := modify_ok (lo := lo) (base := base) (es' := B.es.take off ++ List.replicate len z ++ B.es.drop (off + len)) (cells' := (cells.toList.take (off * B.sz) ++ (Builtin.zeroCells zv.cells len).toList ++ cells.toList.drop (off * B.sz + (Builtin.zeroCells zv.cells len).toList.length)).toArray)
                    hr hBb hlo (by simpa using hfz) hcb hh (writeRow_size _ _ _ hfit) (by simp; omega) (fun _ m hm => by
                      refine scopdL_iff.2 fun i y hy => ?_
                      have hsp := splice_get B.es off (List.replicate len z) (by simp; omega) i
                      simp only [splice, List.length_replicate] at hsp
                      rw [hsp] at hy
                      split at hy
                      · rw [List.getElem?_replicate_of_lt (by omega)] at hy
                        cases hy
                        exact scopd_of_closed m z hc1
                      · exact scopdL_iff.1 hm i y hy)
                  refine fin ?_ (hbr ⟨fun hn => (by rw [show g.r b = none from hn] at hcb; cases hcb), fun d hd => ?_⟩) s'
                  · obtain ⟨l, rfl⟩ : ∃ l, len = l + 1 := ⟨len - 1, by omega⟩
                    simp [Builtin.clear_, run_underlying hu, hzr]
                    simp at hst
                    simp [hst]
                  · have hdc : d = c := by rw [show g.r b = some d from hd] at hcb; cases hcb; rfl
                    subst hdc
                    refine ⟨_, setRow_at hh, by rw [writeRow_size _ _ _ hfit]; simp; rw [show min off B.es.length + (len + (B.es.length - (off + len))) = k by omega]; exact hle, fun i y hy => ?_⟩
                    have hsp := splice_get B.es off (List.replicate len z) (by simp; omega) i
                    simp only [splice, List.length_replicate] at hsp
                    simp only at hy
                    rw [hsp] at hy
                    split at hy
                    · rename_i hi
                      rw [List.getElem?_replicate_of_lt (by omega)] at hy
                      cases hy
                      refine ⟨zv, constAV_rep hzc, hzs, fun j u hju => ?_⟩
                      have hj : j < B.sz := hzs ▸ (Array.getElem?_eq_some_iff.1 hju).1
                      have h5 := made_get zv.cells len (i - off) j u (by omega) hju
                      rw [← hzc2, hzs] at h5
                      have hlt := (Array.getElem?_eq_some_iff.1 h5).1
                      have heq : off * B.sz + ((i - off) * B.sz + j) = i * B.sz + j := by
                        rw [Nat.sub_mul]
                        have : off * B.sz ≤ i * B.sz := Nat.mul_le_mul_right _ hi.1
                        omega
                      rw [writeRow_get _ _ _ hfit, if_pos (by simp only [Array.length_toList]; omega)]
                      rw [show i * B.sz + j - off * B.sz = (i - off) * B.sz + j by omega]
                      simpa using h5
                    · rename_i hi
                      obtain ⟨u, u1, u2, u3⟩ := hes i y hy
                      refine ⟨u, u1.step s' hr, u2, fun j q hq => ?_⟩
                      have hj : j < B.sz := u2 ▸ (Array.getElem?_eq_some_iff.1 hq).1
                      rw [writeRow_get _ _ _ hfit, if_neg ?_]
                      · exact u3 j q hq
                      · rw [Array.length_toList, size_zeroCells, hzs, ← Nat.add_mul]
                        show ¬(off * B.sz ≤ i * B.sz + j ∧ i * B.sz + j < (off + len) * B.sz)
                        rcases Nat.lt_or_ge i off with h | h
                        · have := row_lt (m := off * B.sz) h hj (Nat.le_refl _)
                          omega
                        · have : (off + len) * B.sz ≤ i * B.sz := Nat.mul_le_mul_right _ (by omega)
                          omega
          · cases h
      · cases h
    · cases h
  | _ => simp [clearAV] at h

theorem yl_slMax {o : Oper} {t e sz l r n m' : Nat} {x mo : Operand} {x' m : Opd} {lo hi : Option Operand} {lo' hi' : Option Opd} {v : AV} (ho : o.op = .slice t x lo hi (some mo)) (hx : opd x = some x') (hlo : opdO lo = some lo') (hhi : opdO hi = some hi') (hmo : opd mo = some m)
    (hf : FrRep g fr a) (ht : elemTy P t = some e) (hsz : tySize P e = some sz) (hn : slLen (x'.get fr) = some n) (hl : natOpt fr 0 lo' = some l) (hr : natOpt fr n hi' = some r) (hm : natArg (m.get fr) = some m') (hmx : hi'.isNone = false)
    (h : sliceAV sz (x'.get fr) l r (some m') = some v) : Yl P o a g v := by
  have h1 := opd_rep hf hx
  obtain ⟨A, cap, e1, hcap⟩ := slLen_of hn h1
  have hu := elemTy_eq ht
  obtain ⟨k, hk⟩ := nat_of hm (opd_rep hf hmo)
  simp only [sliceAV, hn] at h
  split at h
  · rename_i hc
    obtain ⟨rfl, rfl, hle⟩ := hc
    cases h
    have hb : (Instr.sliceBounds true n cap (lo.map a.eval) (hi.map a.eval) (some (a.eval mo))).run P g.w = .ok (l, l, l) g.w := by
      cases hi with
      | none => simp [opdO] at hhi; subst hhi; simp at hmx
      | some hi =>
        have e3 := bound_run (P := P) (x := a.eval mo) (k := k) (n := l) (y := cap) (code := .slice3Acap) hk (by omega) g.w
        rcases natOpt_of hhi hf hr with ⟨h, _⟩ | ⟨y, k2, h, h'⟩
        · simp at h
        · have e4 := bound_run (P := P) (x := a.eval hi) (k := k2) (n := l) (y := l) (code := .slice3B) (by simp at h; subst h; exact h') (Nat.le_refl _) g.w
          rcases natOpt_of hlo hf hl with ⟨h, h0⟩ | ⟨y2, k3, h2, h2'⟩
          · subst h
            subst h0
            simp [Instr.sliceBounds, e3, e4]
          · subst h2
            have e5 := bound_run (P := P) (x := a.eval y2) (k := k3) (n := l) (y := l) (code := .slice3C) h2' (Nat.le_refl _) g.w
            simp [Instr.sliceBounds, e3, e4, e5]
    refine ⟨.slice A 0 0, ?_, .emp⟩
    simp only [execOp, ho, e1]
    refine run_vv ?_
    simp only [Option.map_some, Instr.sliceAt, Sem.run_bind, und_run hu, Result.andThen_ok, Instr.slice]
    simp [hb, size_run hsz]
  · cases h

end
end Go.Abs

/- Every operation but the call. -/
set_option linter.unusedSimpArgs false
set_option linter.unusedVariables false
namespace Go.Abs

section
variable {P : Program} {g : G} {fr : Frame} {a : Act} {lo base : Nat} {gh : Nat → List (Nat × Nat × Nat)}

theorem put1_eq {h h' : Heap} {x : Option AV} {v : AV} (e : put1 h x = some (v, h')) : x = some v ∧ h' = h := by
  unfold put1 at e
  split at e
  · cases e; exact ⟨rfl, rfl⟩
  · cases e
theorem putU_eq {x : Option Heap} {v : AV} {h' : Heap} (e : putU x = some (v, h')) : x = some h' ∧ v = .undef := by
  unfold putU at e
  split at e
  · cases e; exact ⟨rfl, rfl⟩
  · cases e

def AOp.isCall : AOp → Bool
  | .call .. => true
  | _ => false

theorem step_builtin {cf : CallF} {o : Oper} {c : Call} {op' : AOp} {tgt : Nat} {v : AV} {h' : Heap} (ho : o.op = .call c) (hc : cCall P c = some op') (hnc : op'.isCall = false) (hf : FrRep g fr a) (hr : HRep lo g) (hb : base ≤ tgt)
    (h : stepOp cf lo base tgt op' fr g.h = some (v, h')) : Ok P o a lo base g v h' := by
  obtain ⟨callee, as, ats⟩ := c
  unfold cCall at hc
  split at hc
  · split at hc
    · cases hc; cases hnc
    · cases hc
  · rename_i b xs hb2 hxs
    simp only at hb2 hxs
    subst hb2
    split at hc
    · rename_i x t hts
      simp only at hts
      have has : ∃ y, as = #[y] ∧ opd y = some x := by
        obtain ⟨hl, hi⟩ := mapO_some hxs
        cases hA : as.toList with
        | nil => rw [hA] at hl; simp at hl
        | cons y ys =>
          have : ys = [] := by rw [hA] at hl; simp at hl; exact hl
          subst this
          obtain ⟨z, h1, h2⟩ := hi 0 y (by rw [hA]; rfl)
          cases h1
          exact ⟨y, by rw [← Array.toArray_toList (xs := as), hA], h2⟩
      obtain ⟨y, rfl, hy⟩ := has
      have hts' : ats = #[t] := by rw [← Array.toArray_toList (xs := ats), hts]
      subst hts'
      split at hc
      · rename_i hs
        cases hc
        simp only [stepOp] at h
        split at h
        · rename_i s hX
          cases h
          exact (yl_lenStr ho hy hf hs hX).ok hr
        · cases h
      · split at hc
        · rename_i e he
          cases hc
          simp only [stepOp] at h
          split at h
          · rename_i n hn
            cases h
            exact (yl_lenSl ho hy hf he hn).ok hr
          · cases h
        · cases hc
    · rename_i x y t u hts
      simp only at hts
      split at hc
      · rename_i e he
        split at hc
        · rename_i sz bs z hsz hbs hz
          split at hc
          · rename_i hcc
            obtain ⟨rfl, c2, c3, c4⟩ := hcc
            cases hc
            have has : ∃ p q, as.toList = [p, q] ∧ opd p = some x ∧ opd q = some y := by
              obtain ⟨hl, hi⟩ := mapO_some hxs
              match hA : as.toList with
              | [p, q] =>
                rw [hA] at hi
                obtain ⟨z1, h1, h2⟩ := hi 0 p rfl
                obtain ⟨z2, h3, h4⟩ := hi 1 q rfl
                cases h1
                cases h3
                exact ⟨p, q, rfl, h2, h4⟩
              | [] => rw [hA] at hl; simp at hl
              | [_] => rw [hA] at hl; simp at hl
              | _ :: _ :: _ :: _ => rw [hA] at hl; simp at hl
            obtain ⟨p, q, hA, hp, hq⟩ := has
            simp only [stepOp] at h
            split at h
            · rename_i ys hys
              exact ok_append ho hA hts hp hq (elT_of he hsz hbs hz c2 c3 c4) hf hr hb hys h
            · cases h
          · cases hc
        · cases hc
      · cases hc
    · rename_i x t hts
      simp only at hts
      split at hc
      · rename_i e he
        split at hc
        · rename_i sz z hsz hz
          split at hc
          · cases hc
            have has : ∃ p, as.toList = [p] ∧ opd p = some x := by
              obtain ⟨hl, hi⟩ := mapO_some hxs
              match hA : as.toList with
              | [p] =>
                rw [hA] at hi
                obtain ⟨z1, h1, h2⟩ := hi 0 p rfl
                cases h1
                exact ⟨p, rfl, h2⟩
              | [] => rw [hA] at hl; simp at hl
              | _ :: _ :: _ => rw [hA] at hl; simp at hl
            obtain ⟨p, hA, hp⟩ := has
            simp only [stepOp] at h
            obtain ⟨h1, rfl⟩ := putU_eq h
            exact ok_clear ho hA hts hp he hsz hz hf hr h1
          · cases hc
        · cases hc
      · cases hc
    · rename_i x xs' _
      cases hc
      simp only [stepOp] at h
      obtain ⟨h1, rfl⟩ := put1_eq h
      exact (yl_mx ho hxs hf h1).ok hr
    · rename_i x xs' _
      cases hc
      simp only [stepOp] at h
      obtain ⟨h1, rfl⟩ := put1_eq h
      exact (yl_mn ho hxs hf h1).ok hr
    · cases hc
  · cases hc

theorem isIntT_eq {t : Nat} (h : isIntT P t = true) : ∃ k, P.underlying t = some (.int k) := by
  unfold isIntT at h
  split at h
  · exact ⟨_, by assumption⟩
  · cases h

theorem step_sound {cf : CallF} {draw : Bool} {o : Oper} {op' : AOp} {tgt : Nat} {v : AV} {h' : Heap} (hc : compileOp P gh draw o.op = some op') (hnc : op'.isCall = false) (hf : FrRep g fr a) (hr : HRep lo g) (hb : base ≤ tgt)
    (h : stepOp cf lo base tgt op' fr g.h = some (v, h')) : Ok P o a lo base g v h' := by
  cases ho : o.op with
  | move x =>
    rw [ho] at hc
    simp only [compileOp, Option.map_eq_some_iff] at hc
    obtain ⟨y, hy, rfl⟩ := hc
    cases h
    exact (yl_move (.inl ho) hy hf).ok hr
  | assign x =>
    rw [ho] at hc
    simp only [compileOp, Option.map_eq_some_iff] at hc
    obtain ⟨y, hy, rfl⟩ := hc
    cases h
    exact (yl_move (.inr ho) hy hf).ok hr
  | pick c x y =>
    rw [ho] at hc
    simp only [compileOp] at hc
    split at hc
    · rename_i c' x' y' h1 h2 h3
      cases hc
      simp only [stepOp] at h
      split at h
      · rename_i t ht
        cases h
        exact (yl_pick ho h1 h2 h3 hf ht).ok hr
      · cases h
    · cases hc
  | box t x =>
    rw [ho] at hc
    simp only [compileOp] at hc
    split at hc
    · rename_i n x' h1 h2
      cases hc
      exact ok_box ho h2 hf hr hb h
    · cases hc
  | alloc t =>
    rw [ho] at hc
    simp only [compileOp] at hc
    split at hc
    · rename_i n z h1 h2
      cases hc
      exact ok_alloc ho h2 hr hb h
    · cases hc
  | build t ps =>
    rw [ho] at hc
    simp only [compileOp] at hc
    split at hc
    · rename_i z ps' h1 h2
      split at hc
      · rename_i hk
        cases hc
        simp only [stepOp] at h
        split at h
        · rename_i cs hcs
          cases h
          exact (yl_build ho h1 h2 hk hf hcs).ok hr
        · cases h
      · cases hc
    · cases hc
  | buildSlice t len ps =>
    rw [ho] at hc
    simp only [compileOp] at hc
    split at hc
    · rename_i e he
      split at hc
      · rename_i sz z ps' h1 h2 h3
        split at hc
        · rename_i hk
          obtain ⟨k1, k2, k3⟩ := hk
          cases hc
          simp only [stepOp] at h
          split at h
          · rename_i es hes
            rw [if_pos k3] at h
            exact ok_buildSl ho he h1 h2 h3 k1 k2 k3 hf hr hb hes h
          · cases h
        · cases hc
      · cases hc
    · cases hc
  | load t x =>
    rw [ho] at hc
    simp only [compileOp] at hc
    split at hc
    · rename_i ag n x' h1 h2 h3
      cases hc
      simp only [stepOp] at h
      obtain ⟨h4, rfl⟩ := put1_eq h
      exact (yl_load ho h3 hf hr h1 h2 h4).ok hr
    · cases hc
  | store t x y =>
    rw [ho] at hc
    simp only [compileOp] at hc
    split at hc
    · rename_i n x' y' h1 h2 h3
      cases hc
      simp only [stepOp] at h
      obtain ⟨h4, rfl⟩ := putU_eq h
      exact ok_store ho h2 h3 h1 hf hr h4
    · cases hc
  | nilCheck x =>
    rw [ho] at hc
    simp only [compileOp, Option.map_eq_some_iff] at hc
    obtain ⟨x', hx, rfl⟩ := hc
    simp only [stepOp] at h
    split at h
    · rename_i b k i q hX
      cases h
      have := (yl_nilChk (P := P) ho hx hf (.inl ⟨_, _, _, _, hX⟩)).ok (lo := lo) (base := base) hr
      rwa [hX] at this
    · rename_i s e q hX
      cases h
      have := (yl_nilChk (P := P) ho hx hf (.inr ⟨_, _, _, hX⟩)).ok (lo := lo) (base := base) hr
      rwa [hX] at this
    · cases h
  | binOp op t x y u =>
    rw [ho] at hc
    simp only [compileOp] at hc
    split at hc
    · rename_i x' y' h1 h2
      unfold cBin at hc
      split at hc
      · cases hc
        simp only [stepOp] at h
        obtain ⟨h4, rfl⟩ := put1_eq h
        exact (yl_bin ho h1 h2 hf h4).ok hr
      · split at hc
        · rename_i hbt
          simp only [Option.map_eq_some_iff] at hc
          obtain ⟨n, hn, rfl⟩ := hc
          simp only [stepOp] at h
          split at h
          · rename_i p q hp hq
            cases h
            exact (yl_eqB ho h1 h2 hf hn hbt hp hq).ok hr
          · cases h
        · split at hc
          · rename_i hel
            simp only [Bool.and_eq_true, Option.isSome_iff_exists] at hel
            obtain ⟨⟨e, he⟩, hem⟩ := hel
            simp only [Option.map_eq_some_iff] at hc
            obtain ⟨n, hn, rfl⟩ := hc
            simp only [stepOp] at h
            split at h
            · rename_i b hb
              cases h
              exact (yl_isNil_nn ho h1 h2 hem hf hn he hb).ok hr
            · split at h
              · rename_i m hm
                split at h
                · cases h
                · rename_i h0
                  cases h
                  exact (yl_isNil ho h1 h2 hem hf hn he hm h0).ok hr
              · cases h
          · cases hc
    · cases hc
  | unOp op t x =>
    rw [ho] at hc
    simp only [compileOp, Option.map_eq_some_iff] at hc
    obtain ⟨x', hx, rfl⟩ := hc
    simp only [stepOp] at h
    obtain ⟨h4, rfl⟩ := put1_eq h
    exact (yl_un ho hx hf h4).ok hr
  | convert s d x =>
    rw [ho] at hc
    simp only [compileOp] at hc
    split at hc
    · rename_i x' hx
      unfold cConv at hc
      split at hc
      · rename_i ks k hs hd
        cases hc
        simp only [stepOp] at h
        split at h
        · rename_i k' n hX
          cases h
          exact (yl_conv ho hx hf hs hd hX).ok hr
        · cases h
      · rename_i e hs hd
        split at hc
        · rename_i hu
          cases hc
          simp only [stepOp] at h
          split at h
          · rename_i xs hxs
            split at h
            · rename_i l hl
              cases h
              exact (yl_b2s ho hx hf hr hs hu hd hxs hl).ok hr
            · cases h
          · cases h
        · cases hc
      · rename_i e hs hd
        split at hc
        · rename_i hu
          cases hc
          simp only [stepOp] at h
          split at h
          · rename_i l hX
            split at h
            · cases h
              exact ok_s2b ho hx hf hr hs hd hu hX
            · cases h
          · cases h
        · cases hc
      · cases hc
    · cases hc
  | makeFunc f xs cs =>
    rw [ho] at hc
    cases f with
    | func f =>
      simp only [compileOp] at hc
      split at hc
      · rename_i xs' cs' h1 h2
        cases hc
        simp only [stepOp, Option.some.injEq, Prod.mk.injEq] at h
        obtain ⟨rfl, rfl⟩ := h
        exact (yl_mkfn ho h1 h2 hf).ok hr
      · cases hc
    | _ => simp [compileOp] at hc
  | makeSlice t l c =>
    rw [ho] at hc
    simp only [compileOp] at hc
    split at hc
    · rename_i e he
      split at hc
      · rename_i sz bs z l' c' h1 h2 h3 h4 h5
        split at hc
        · rename_i hk
          obtain ⟨k1, k2, k3⟩ := hk
          cases hc
          simp only [stepOp] at h
          split at h
          · rename_i n m hn hm
            split at h
            · rename_i hq
              obtain ⟨q1, q2, q3⟩ := hq
              split at h
              · rename_i h1' hp
                cases h
                exact ok_mksl ho he h1 h2 h3 k1 h4 h5 hf hr hb hn hm q1 q2 k3 hp rfl
              · cases h
            · cases h
          · cases h
        · cases hc
      · cases hc
    · cases hc
  | slice t x l r m =>
    rw [ho] at hc
    simp only [compileOp] at hc
    split at hc
    · rename_i x' lo' hi' mx' h1 h2 h3 h4
      split at hc
      · rename_i hs
        split at hc
        · cases hc
          have hm0 : m = none := by
            cases m with
            | none => rfl
            | some m => simp [opdO] at h4
          subst hm0
          simp only [stepOp] at h
          split at h
          · rename_i s hX
            split at h
            · rename_i p q hp hq
              split at h
              · rename_i hpq
                cases h
                exact (yl_slStr ho h1 h2 h3 hf hs hX hp hq hpq.1 hpq.2).ok hr
              · cases h
            · cases h
          · cases h
        · cases hc
      · split at hc
        · rename_i e he
          split at hc
          · rename_i sz hsz
            split at hc
            · cases hc
            · rename_i hmx
              cases hc
              simp only [stepOp] at h
              split at h
              · rename_i n hn
                split at h
                · rename_i p q hp hq
                  split at h
                  · have hm0 : m = none := by
                      cases m with
                      | none => rfl
                      | some m => simp [opdO] at h4
                    subst hm0
                    obtain ⟨h5, rfl⟩ := put1_eq h
                    exact (yl_slSl ho h1 h2 h3 hf he hsz hn hp hq h5).ok hr
                  · rename_i m1
                    split at h
                    · rename_i m' hm'
                      obtain ⟨mo, rfl, hmo⟩ : ∃ mo, m = some mo ∧ opd mo = some m1 := by
                        cases m with
                        | none => simp [opdO] at h4
                        | some mo => simp only [opdO, Option.map_eq_some_iff, Option.some.injEq, exists_eq_right] at h4; exact ⟨mo, rfl, h4⟩
                      obtain ⟨h5, rfl⟩ := put1_eq h
                      exact (yl_slMax ho h1 h2 h3 hmo hf he hsz hn hp hq hm' (by cases hi' with
                        | none => simp at hmx
                        | some _ => rfl) h5).ok hr
                    · cases h
                · cases h
              · cases h
          · cases hc
        · cases hc
    · cases hc
  | fieldAddr s x f =>
    rw [ho] at hc
    simp only [compileOp] at hc
    split at hc
    · rename_i off n b x' h1 h2
      split at hc
      · cases hc
      · rename_i hn
        cases hc
        simp only [stepOp] at h
        obtain ⟨h4, rfl⟩ := put1_eq h
        exact (yl_faddr ho h2 hf h1 hn h4).ok hr
    · cases hc
  | indexAddr t x i =>
    rw [ho] at hc
    simp only [compileOp] at hc
    split at hc
    · rename_i e x' i' h1 h2 h3
      split at hc
      · rename_i sz hsz
        cases hc
        simp only [stepOp] at h
        obtain ⟨h4, rfl⟩ := put1_eq h
        exact (yl_iaddr ho h2 h3 hf h1 hsz h4).ok hr
      · cases hc
    · rename_i x' i' h1 h2 h3
      split at hc
      · rename_i len e hu
        split at hc
        · rename_i sz hsz
          split at hc
          · rename_i h1l
            cases hc
            simp only [stepOp] at h
            split at h
            · rename_i j hj
              split at h
              · rename_i hl
                obtain ⟨h4, rfl⟩ := put1_eq h
                exact (yl_aaddr ho h2 h3 hf hu hsz hj hl h1l h4).ok hr
              · cases h
            · cases h
          · cases hc
        · cases hc
      · cases hc
    · cases hc
  | index t x i =>
    rw [ho] at hc
    simp only [compileOp] at hc
    split at hc
    · rename_i x' i' h1 h2
      split at hc
      · rename_i hs
        cases hc
        simp only [stepOp] at h
        obtain ⟨h4, rfl⟩ := put1_eq h
        exact (yl_istr ho h1 h2 hf hs h4).ok hr
      · cases hc
    · cases hc
  | extract x i =>
    rw [ho] at hc
    simp only [compileOp, Option.map_eq_some_iff] at hc
    obtain ⟨x', hx, rfl⟩ := hc
    simp only [stepOp] at h
    split at h
    · rename_i vs hX
      obtain ⟨h4, rfl⟩ := put1_eq h
      exact (yl_extract ho hx hf hX h4).ok hr
    · cases h
  | call c =>
    rw [ho] at hc
    simp only [compileOp] at hc
    exact step_builtin ho hc hnc hf hr hb h
  | _ =>
    rw [ho] at hc
    simp [compileOp] at hc

end
end Go.Abs

/- Every operation, calls too; regions in the order of the text. -/
set_option linter.unusedSimpArgs false
set_option linter.unusedVariables false
namespace Go.Abs

/-- What is so behind an operation or a call. -/
def Post (lo base : Nat) (g : G) (v : AV) (h' : Heap) (v' : Value) (w' : World) : Prop :=
  ∃ r' St', Rep ⟨h', r', w', St'⟩ v v' ∧ HRep lo ⟨h', r', w', St'⟩ ∧ Step lo base g ⟨h', r', w', St'⟩

def Back (R : Value → World → Prop) : Ending → World → Prop
  | .returned v, w => R v w
  | _, _ => False

def Does (P : Program) (R : Value → World → Prop) : Result Next → Prop
  | .ok (.value v) w => R v w
  | .ok .skip w => R undef w
  | .ok (.enter f args) w => Calls P f args w (Back R)
  | _ => False

theorem Does.mono {P : Program} {R R' : Value → World → Prop} {x : Result Next} (h : Does P R x) (hR : ∀ v w, R v w → R' v w) : Does P R' x := by
  cases x with
  | ok n w =>
    cases n <;> simp only [Does] at h ⊢ <;> first
      | exact hR _ _ h
      | exact h.mono fun e w' he => by cases e <;> first | exact hR _ _ he | exact he
  | halt => exact h

theorem Does.upon {P : Program} {R : Value → World → Prop} {o : Oper} {a : Act} {next : Act → World → Prop} {Q : Exit → Act → World → Prop} {x : Result Next} (h : Does P R x) (hn : ∀ v w, R v w → next (a.put o.dst v) w) : o.upon P a next Q x := by
  cases x with
  | ok n w =>
    cases n <;> simp only [Does] at h <;> simp only [Oper.upon] <;> first
      | exact hn _ _ h
      | exact h.elim
      | exact h.mono fun e w' he => by cases e <;> first | exact hn _ _ he | exact he.elim
  | halt => exact h.elim

theorem Ok.does {P : Program} {o : Oper} {a : Act} {lo base : Nat} {g : G} {v : AV} {h' : Heap} (h : Ok P o a lo base g v h') : Does P (Post lo base g v h') ((execOp a.eval o).run P g.w) := by
  obtain ⟨n, v', w', r', St', h1, h2, h3, h4, h5⟩ := h
  rw [h1]
  rcases h2 with rfl | ⟨rfl, rfl⟩
  · exact ⟨r', St', h3, h4, h5⟩
  · exact ⟨r', St', h3, h4, h5⟩

/-- The calls do what their abstract answers say. -/
def CallSound (P : Program) (cf : CallF) : Prop :=
  ∀ (f lo base tgt : Nat) (args : List AV) (h : Heap) (v : AV) (h' : Heap), cf f lo base tgt args h = some (v, h') →
    ∀ (r : RM) (w : World) (St : Nat → Prop) (vals : Array Value), HRep lo ⟨h, r, w, St⟩ → args.length = vals.size →
      (∀ (j : Nat) (x : AV) (y : Value), args[j]? = some x → vals[j]? = some y → Rep ⟨h, r, w, St⟩ x y) → lo ≤ base → base ≤ tgt → base ≤ h.length →
      Does P (Post lo base ⟨h, r, w, St⟩ v h') ((callFunc f vals).run P w)

section
variable {P : Program} {g : G} {fr : Frame} {a : Act} {lo base : Nat} {gh : Nat → List (Nat × Nat × Nat)}

theorem op_does {cf : CallF} (hcs : CallSound P cf) {draw : Bool} {o : Oper} {op' : AOp} {tgt : Nat} {v : AV} {h' : Heap} (hc : compileOp P gh draw o.op = some op') (hf : FrRep g fr a) (hr : HRep lo g) (hlb : lo ≤ base) (hb : base ≤ tgt) (hbl : base ≤ g.h.length)
    (h : stepOp cf lo base tgt op' fr g.h = some (v, h')) : Does P (Post lo base g v h') ((execOp a.eval o).run P g.w) := by
  cases hnc : op'.isCall with
  | false => exact (step_sound hc hnc hf hr hb h).does
  | true =>
    cases op' with
    | call f args =>
      cases ho : o.op with
      | call c =>
        rw [ho] at hc
        simp only [compileOp] at hc
        obtain ⟨callee, as, ats⟩ := c
        unfold cCall at hc
        split at hc
        · rename_i cv xs hcv hxs
          simp only at hcv hxs
          subst hcv
          split at hc
          · rename_i fo hfo
            cases hc
            simp only [stepOp] at h
            split at h
            · rename_i k p q hX
              have h1 := opd_rep hf hfo
              rw [hX] at h1
              generalize hV : a.eval cv = V at h1
              cases h1 with
              | fn h2 h3 h4 h5 =>
                rename_i vp vq
                obtain ⟨l1, r1⟩ := mapOpd_rep hf hxs
                have run : (execOp a.eval o).run P g.w = (callFunc k (vp ++ as.map a.eval ++ vq)).run P g.w := by
                  simp [execOp, ho, resolve, Deferred.ofValue, hV, invoke]
                rw [run]
                refine hcs k lo base tgt _ g.h v h' h g.r g.w g.St _ hr (by simp [h2, h4]; simpa using l1) (fun j x y hx hy => ?_) hlb hb hbl
                have hl : (args.map (Opd.get fr)).length = as.size := by simpa using l1
                by_cases hj : j < p.length
                · rw [List.append_assoc, List.getElem?_append_left hj] at hx
                  rw [Array.append_assoc, Array.getElem?_append_left (by omega)] at hy
                  exact h3 j x y hx hy
                · rw [List.append_assoc, List.getElem?_append_right (by omega)] at hx
                  rw [Array.append_assoc, Array.getElem?_append_right (by omega), ← h2] at hy
                  by_cases hj2 : j - p.length < (args.map (Opd.get fr)).length
                  · rw [List.getElem?_append_left hj2] at hx
                    rw [Array.getElem?_append_left (by simp; omega)] at hy
                    exact r1 _ x y hx (by simpa [← Array.getElem?_toList] using hy)
                  · rw [List.getElem?_append_right (by omega)] at hx
                    rw [Array.getElem?_append_right (by simp; omega)] at hy
                    simp only [Array.size_map] at hy
                    rw [← hl] at hy
                    exact h5 _ x y hx hy
            · cases h
          · cases hc
        · rename_i b xs hb2 hxs
          split at hc <;> (try (simp at hc; done))
          · split at hc
            · cases hc
            · split at hc <;> cases hc
          · split at hc
            · split at hc
              · split at hc <;> cases hc
              · cases hc
            · cases hc
          · split at hc
            · split at hc
              · split at hc <;> cases hc
              · cases hc
            · cases hc
        · cases hc
      | _ =>
        exfalso
        rw [ho] at hc
        simp only [compileOp] at hc
        repeat' (first | (cases hc; done) | (simp at hc; done) | (unfold cBin at hc) | (unfold cConv at hc) | split at hc)
        all_goals (rename_i heq; cases heq)
    | _ => cases hnc

theorem FrRep.put {g' : G} {dst : Option Nat} {v : AV} {v' : Value} (hf : FrRep g fr a) (hr : HRep lo g) (s : Step lo base g g') (hv : Rep g' v v') (hd : ∀ d, dst = some d → d < a.tmps.size) : FrRep g' (updO fr dst v) (a.put dst v') := by
  intro t
  cases dst with
  | none => exact (hf t).step s hr
  | some d =>
    simp only [updO, upd, Act.put]
    by_cases ht : t = d
    · subst ht
      simpa [hd t rfl] using hv
    · rw [if_neg ht]
      have : (a.tmps.setIfInBounds d v')[t]? = a.tmps[t]? := Array.getElem?_setIfInBounds_ne (fun h => ht h.symm)
      have h1 := (hf t).step s hr
      simpa [this] using h1

theorem put_size (a : Act) (dst : Option Nat) (v : Value) : (a.put dst v).tmps.size = a.tmps.size := by
  cases dst <;> simp [Act.put]
theorem put_defers (a : Act) (dst : Option Nat) (v : Value) : (a.put dst v).defers = a.defers := by
  cases dst <;> rfl

theorem wants_eq {ops : Array Oper} {o : Oper} {q : Option (Nat × Bool)} (hf : FrRep g fr a) (h : guardOf ops o.guard = some q) : Region.wanted o (yielded ops a.tmps) = wants fr q := by
  unfold Region.wanted
  unfold guardOf at h
  split at h
  · rename_i hg
    cases h
    rw [hg]
    rfl
  · rename_i j w hg
    split at h
    · rename_i t ht
      cases h
      rw [hg]
      simp only [wants, yielded, ht, Option.bind_some]
      have h1 := hf t
      have h2 : a.tmps.getD t undef = (a.tmps[t]?).getD undef := by simp
      rw [h2] at h1
      cases hx : a.tmps[t]? with
      | none =>
        rw [hx] at h1
        simp only [Option.getD_none] at h1
        generalize fr t = X at h1
        cases X with
        | bool b => cases h1
        | _ => simp
      | some u =>
        rw [hx] at h1
        simp only [Option.getD_some] at h1
        generalize fr t = X at h1
        cases h1 with
        | bool b => simp
        | undef => simp [undef]
        | _ => simp
    · cases h

/-- A state and a place in a function's body. -/
structure SR (lo N : Nat) (g : G) (fr : Frame) (a : Act) : Prop where
  hr : HRep lo g
  fr : FrRep g fr a
  size : a.tmps.size = N
  defers : a.defers = []

def ofOut : Out → Exit
  | .normal => .normal
  | .exit id => .exit id
  | .ret => .ret

/-- What is so behind code. -/
def CQ (lo base N : Nat) (g : G) (out : Out) (fr' : Frame) (h' : Heap) (e : Exit) (a' : Act) (w' : World) : Prop :=
  e = ofOut out ∧ ∃ r' St', SR lo N ⟨h', r', w', St'⟩ fr' a' ∧ Step lo base g ⟨h', r', w', St'⟩

theorem SR.put {N : Nat} {g' : G} {dst : Option Nat} {v : AV} {v' : Value} (h : SR lo N g fr a) (hr : HRep lo g') (s : Step lo base g g') (hv : Rep g' v v') (hd : ∀ d, dst = some d → d < N) : SR lo N g' (updO fr dst v) (a.put dst v') :=
  ⟨hr, h.fr.put h.hr s hv fun d hd' => by rw [h.size]; exact hd d hd', by rw [put_size]; exact h.size, by rw [put_defers]; exact h.defers⟩

def Paired (P : Program) (gh : Nat → List (Nat × Nat × Nat)) (draw : Bool) (ops : Array Oper) : List Nat → List AOper → Prop
  | [], [] => True
  | i :: is, x :: xs => (∃ o, ops[i]? = some o ∧ compileOper P gh draw ops o = some x) ∧ Paired P gh draw ops is xs
  | _, _ => False

theorem compileOper_eq {draw : Bool} {ops : Array Oper} {o : Oper} {x : AOper} (h : compileOper P gh draw ops o = some x) : x.dst = o.dst ∧ compileOp P gh draw o.op = some x.op ∧ guardOf ops o.guard = some x.guard := by
  unfold compileOper at h
  split at h
  · rename_i op q h1 h2
    cases h
    exact ⟨rfl, h1, h2⟩
  · cases h

theorem runOps_sound {cf : CallF} (hcs : CallSound P cf) (hlb : lo ≤ base) {draw : Bool} {ops : Array Oper} {N : Nat} (hN : ∀ (i : Nat) (o : Oper) (d : Nat), ops[i]? = some o → o.dst = some d → d < N) : ∀ (xs : List AOper) (is : List Nat) (fr : Frame) (g : G) (fr' : Frame) (h' : Heap) (a : Act),
    Paired P gh draw ops is xs → runOps cf lo base xs fr g.h = some (fr', h') → SR lo N g fr a → base ≤ g.h.length → wpOps P ops (CQ lo base N g .normal fr' h') is a g.w
  | [], [], fr, g, fr', h', a, hp, h, hs, hb => by
    simp only [runOps, Option.some.injEq, Prod.mk.injEq] at h
    obtain ⟨rfl, rfl⟩ := h
    exact ⟨rfl, g.r, g.St, hs, Step.refl lo base g⟩
  | x :: xs, i :: is, fr, g, fr', h', a, hp, h, hs, hb => by
    obtain ⟨⟨o, ho, hco⟩, hp⟩ := hp
    obtain ⟨hdst, hop, hg⟩ := compileOper_eq hco
    have hw := wants_eq hs.fr hg
    simp only [wpOps, ho]
    simp only [runOps] at h
    rw [hw]
    have next : ∀ (v : AV) (h1 : Heap) (v' : Value) (w1 : World), runOps cf lo base xs (updO fr x.dst v) h1 = some (fr', h') → Post lo base g v h1 v' w1 → wpOps P ops (CQ lo base N g .normal fr' h') is (a.put o.dst v') w1 := by
      rintro v h1 v' w1 hrun ⟨r', St', q1, q2, q3⟩
      rw [hdst] at hrun
      have := runOps_sound hcs hlb hN xs is _ ⟨h1, r', w1, St'⟩ fr' h' _ hp hrun (hs.put q2 q3 q1 fun d hd => hN i o d ho hd) (Nat.le_trans hb q3.len)
      exact wpOps_mono (fun e a w ⟨k1, r2, St2, k2, k3⟩ => ⟨k1, r2, St2, k2, q3.trans k3⟩) this
    split at h
    · rename_i hwt
      rw [if_pos hwt]
      split at h
      · rename_i v h1 hst
        refine .inl ?_
        have := op_does hcs hop hs.fr hs.hr hlb hb hb hst
        exact this.upon fun v' w1 hpost => next v h1 v' w1 h hpost
      · cases h
    · rename_i hwt
      rw [if_neg hwt]
      exact next .undef g.h undef g.w h ⟨g.r, g.St, .undef, hs.hr, Step.refl lo base g⟩
  | [], _ :: _, _, _, _, _, _, hp, _, _, _ => hp.elim
  | _ :: _, [], _, _, _, _, _, hp, _, _, _ => hp.elim
where
  wpOps_mono {P : Program} {ops : Array Oper} {Q Q' : Exit → Act → World → Prop} (hq : ∀ e a w, Q e a w → Q' e a w) : ∀ {is : List Nat} {a : Act} {w : World}, wpOps P ops Q is a w → wpOps P ops Q' is a w
    | [], a, w, h => hq _ _ _ h
    | i :: is, a, w, h => by
      simp only [wpOps] at h ⊢
      split
      · rename_i ho
        simp only [ho] at h
        exact wpOps_mono hq h
      · rename_i o ho
        simp only [ho] at h
        split
        · rename_i hw
          rw [if_pos hw] at h
          rcases h with h | ⟨h, a0, w0, hl⟩
          · refine .inl ?_
            unfold Oper.wp at *
            generalize (execOp a.eval o).run P w = r at *
            cases r with
            | ok n w' =>
              cases n <;> simp only [Oper.upon] at h ⊢ <;> first
                | exact wpOps_mono hq h
                | exact h.mono fun e w'' he => by cases e <;> first | exact wpOps_mono hq he | exact hq _ _ _ he | exact he.imp fun a0 h => h.imp fun w0 h => hq _ _ _ h
                | exact h.mono fun _ _ he => wpOps_mono hq he
                | exact h
            | halt x w' => cases x <;> simp only [Oper.upon] at h ⊢ <;> first | exact hq _ _ _ h | exact h
          · exact .inr ⟨h, a0, w0, hq _ _ _ hl⟩
        · rename_i hw
          rw [if_neg hw] at h
          exact wpOps_mono hq h

end
end Go.Abs

/- Regions that draw their order: the abstract side: what may be exchanged. -/
set_option linter.unusedSimpArgs false
set_option linter.unusedVariables false
namespace Go.Abs

theorem hide_length : ∀ (ids : List Nat) (h : Heap), (hide ids h).length = h.length
  | [], _ => rfl
  | b :: bs, h => by simp [hide, hide_length bs]
theorem hide_get : ∀ (ids : List Nat) (h : Heap) (b : Nat), (hide ids h)[b]? = if b ∈ ids ∧ b < h.length then some .hid else h[b]?
  | [], h, b => by simp [hide]
  | i :: is, h, b => by
    simp only [hide]
    rw [hide_get is]
    simp only [List.length_set, List.mem_cons]
    by_cases hb : b < h.length
    · by_cases hi : b ∈ is
      · simp [hi, hb]
      · by_cases hbi : b = i
        · subst hbi
          simp [hi, hb]
        · simp [hi, hbi, List.getElem?_set_ne (fun h => hbi h.symm)]
    · simp [hb, List.getElem?_eq_none (Nat.le_of_not_lt hb)]
theorem restore_length : ∀ (ids : List Nat) (h h' : Heap), (restore ids h h').length = h'.length
  | [], _, _ => rfl
  | b :: bs, h, h' => by
    simp only [restore]
    split <;> simp [restore_length bs]
theorem restore_get : ∀ (ids : List Nat) (h h' : Heap) (b : Nat), h'.length = h.length → (restore ids h h')[b]? = if b ∈ ids then h[b]? else h'[b]?
  | [], h, h', b, hl => by simp [restore]
  | i :: is, h, h', b, hl => by
    simp only [restore]
    split
    · rename_i e he
      have hi := (List.getElem?_eq_some_iff.1 he).1
      rw [restore_get is h _ b (by simpa using hl)]
      simp only [List.mem_cons]
      by_cases hb : b ∈ is
      · simp [hb]
      · by_cases hbi : b = i
        · subst hbi
          simp [hb, he, List.getElem?_set_self (show b < h'.length by omega)]
        · simp [hb, hbi, List.getElem?_set_ne (fun h => hbi h.symm)]
    · rename_i he
      rw [restore_get is h h' b hl]
      simp only [List.mem_cons]
      by_cases hb : b ∈ is
      · simp [hb]
      · by_cases hbi : b = i
        · subst hbi
          have h0 : h[b]? = none := he
          have := List.getElem?_eq_none_iff.1 h0
          simp [hb, h0, List.getElem?_eq_none (show h'.length ≤ b by omega)]
        · simp [hb, hbi]

theorem hide_congr {ids : List Nat} {h h2 : Heap} (hl : h2.length = h.length) (he : ∀ b, b ∉ ids → h2[b]? = h[b]?) : hide ids h2 = hide ids h := by
  apply List.ext_getElem?
  intro b
  rw [hide_get, hide_get, hl]
  by_cases hb : b ∈ ids
  · by_cases hlt : b < h.length
    · simp [hb, hlt]
    · simp [hlt, List.getElem?_eq_none (Nat.le_of_not_lt hlt), List.getElem?_eq_none (show h2.length ≤ b by omega)]
  · simp [hb, he b hb]

theorem fill_none_of {h : Heap} {t : Nat} : ∀ {bs : List Blk}, (∀ j, j < bs.length → h[t + j]? = some .free) → ∃ h', fill h t bs = some h'
  | [], _ => ⟨h, rfl⟩
  | B :: bs, hf => by
    have h0 : h[t]? = some .free := hf 0 (by simp)
    simp only [fill, h0]
    exact fill_some (fun j hj => by
      have := hf (j + 1) (by simp; omega)
      rw [List.getElem?_set_ne (by omega)]
      rwa [show t + 1 + j = t + (j + 1) by omega])
where
  fill_some {h : Heap} {t : Nat} : ∀ {bs : List Blk}, (∀ j, j < bs.length → h[t + j]? = some .free) → ∃ h', fill h t bs = some h' := fill_none_of

/-- In places that were kept free. -/
theorem place_at {h h' : Heap} {t : Nat} {bs : List Blk} (ht : t < h.length) : place h t bs = some h' ↔ fill h t bs = some h' := by
  unfold place
  rw [if_neg (by omega)]
theorem fill_get {h h' : Heap} {t : Nat} {bs : List Blk} (hf : fill h t bs = some h') (b : Nat) : h'[b]? = if t ≤ b ∧ b < t + bs.length then (bs[b - t]?).map .live else h[b]? := by
  obtain ⟨h1, h2, h3, h4⟩ := fill_spec hf
  split
  · rename_i hb
    have hlt : b - t < bs.length := by omega
    have := h3 (b - t) _ (List.getElem?_eq_getElem hlt)
    rw [show t + (b - t) = b by omega] at this
    rw [this, List.getElem?_eq_getElem hlt]
    rfl
  · rename_i hb
    exact h2 b (by omega)

/-! ### What an operation looks at -/
theorem get_congr {x : Opd} {fr fr2 : Frame} (h : ∀ t ∈ x.reads, fr2 t = fr t) : x.get fr2 = x.get fr := by
  cases x with
  | tmp t => exact h t (by simp [Opd.reads])
  | val v => rfl
theorem natOpt_congr {x : Option Opd} {fr fr2 : Frame} {d : Nat} (h : ∀ t ∈ readsO x, fr2 t = fr t) : natOpt fr2 d x = natOpt fr d x := by
  cases x with
  | none => rfl
  | some x => simp only [natOpt]; rw [get_congr (by simpa [readsO] using h)]
theorem maps_congr {xs : List Opd} {fr fr2 : Frame} (h : ∀ t ∈ xs.flatMap Opd.reads, fr2 t = fr t) : xs.map (Opd.get fr2) = xs.map (Opd.get fr) :=
  List.map_congr_left fun x hx => get_congr fun t ht => h t (List.mem_flatMap.2 ⟨x, hx, ht⟩)
theorem buildCells_congr {fr fr2 : Frame} : ∀ {ps : List (Nat × Nat × Opd)} {cs : List AV}, (∀ t ∈ ps.flatMap (fun p => p.2.2.reads), fr2 t = fr t) → buildCells cs fr2 ps = buildCells cs fr ps
  | [], _, _ => rfl
  | (o, n, x) :: ps, cs, h => by
    have hx : x.get fr2 = x.get fr := get_congr fun t ht => h t (by simp [ht])
    have ih := fun cs => buildCells_congr (cs := cs) (fr := fr) (fr2 := fr2) (ps := ps) fun t ht => h t (by
      simp only [List.flatMap_cons, List.mem_append]
      exact .inr ht)
    simp only [buildCells, hx, ih]
theorem buildEls_congr {fr fr2 : Frame} {sz : Nat} : ∀ {ps : List (Nat × Opd)} {es : List AV}, (∀ t ∈ ps.flatMap (fun p => p.2.reads), fr2 t = fr t) → buildEls sz es fr2 ps = buildEls sz es fr ps
  | [], _, _ => rfl
  | (i, x) :: ps, es, h => by
    have hx : x.get fr2 = x.get fr := get_congr fun t ht => h t (by simp [ht])
    have ih := fun es => buildEls_congr (es := es) (sz := sz) (fr := fr) (fr2 := fr2) (ps := ps) fun t ht => h t (by
      simp only [List.flatMap_cons, List.mem_append]
      exact .inr ht)
    simp only [buildEls, hx, ih]

theorem stepOp_congr {cf : CallF} {lo base tgt : Nat} {op : AOp} {fr fr2 : Frame} {h : Heap} (he : ∀ t ∈ op.reads, fr2 t = fr t) : stepOp cf lo base tgt op fr2 h = stepOp cf lo base tgt op fr h := by
  have g1 : ∀ {x : Opd}, (∀ t ∈ x.reads, t ∈ op.reads) → x.get fr2 = x.get fr := fun hx => get_congr fun t ht => he t (hx t ht)
  have g2 : ∀ {x : Option Opd} {d : Nat}, (∀ t ∈ readsO x, t ∈ op.reads) → natOpt fr2 d x = natOpt fr d x := fun hx => natOpt_congr fun t ht => he t (hx t ht)
  have g3 : ∀ {xs : List Opd}, (∀ t ∈ xs.flatMap Opd.reads, t ∈ op.reads) → xs.map (Opd.get fr2) = xs.map (Opd.get fr) := fun hx => maps_congr fun t ht => he t (hx t ht)
  cases op with
  | build z ps => simp only [stepOp]; rw [buildCells_congr he]
  | buildSl a ty sz len z ps => simp only [stepOp]; rw [buildEls_congr he]
  | slStr x l r =>
    simp only [stepOp]
    rw [g1 (x := x) (fun t ht => by simp [AOp.reads, ht])]
    split
    · rw [g2 (x := l) (fun t ht => by simp [AOp.reads, ht]), g2 (x := r) (fun t ht => by simp [AOp.reads, ht])]
    · rfl
  | slSl sz x l r m =>
    simp only [stepOp]
    rw [g1 (x := x) (fun t ht => by simp [AOp.reads, ht])]
    split
    · rw [g2 (x := l) (fun t ht => by simp [AOp.reads, ht]), g2 (x := r) (fun t ht => by simp [AOp.reads, ht])]
      cases m with
      | none => rfl
      | some m => simp only [g1 (x := m) (fun t ht => by simp [AOp.reads, readsO, ht])]
    · rfl
  | mkfn f a c => simp only [stepOp, g3 (xs := a) (fun t ht => by simp only [AOp.reads, List.mem_append]; exact .inl ht), g3 (xs := c) (fun t ht => by simp only [AOp.reads, List.mem_append]; exact .inr ht)]
  | call f as => simp only [stepOp, g1 (x := f) (fun t ht => by simp [AOp.reads, ht]), g3 (xs := as) (fun t ht => by simp only [AOp.reads, List.mem_append]; exact .inr ht)]
  | mx x xs => simp only [stepOp, g1 (x := x) (fun t ht => by simp [AOp.reads, ht]), g3 (xs := xs) (fun t ht => by simp only [AOp.reads, List.mem_append]; exact .inr ht)]
  | mn x xs => simp only [stepOp, g1 (x := x) (fun t ht => by simp [AOp.reads, ht]), g3 (xs := xs) (fun t ht => by simp only [AOp.reads, List.mem_append]; exact .inr ht)]
  | move x => simp only [stepOp, g1 (x := x) (fun t ht => by simp [AOp.reads, ht])]
  | pick c x y => simp only [stepOp, g1 (x := x) (fun t ht => by simp [AOp.reads, ht]), g1 (x := y) (fun t ht => by simp [AOp.reads, ht]), g1 (x := c) (fun t ht => by simp [AOp.reads, ht])]
  | bin _ x y => simp only [stepOp, g1 (x := x) (fun t ht => by simp [AOp.reads, ht]), g1 (x := y) (fun t ht => by simp [AOp.reads, ht])]
  | eqB _ x y => simp only [stepOp, g1 (x := x) (fun t ht => by simp [AOp.reads, ht]), g1 (x := y) (fun t ht => by simp [AOp.reads, ht])]
  | eqAgg _ x y => simp only [stepOp, g1 (x := x) (fun t ht => by simp [AOp.reads, ht]), g1 (x := y) (fun t ht => by simp [AOp.reads, ht])]
  | un _ x => simp only [stepOp, g1 (x := x) (fun t ht => by simp [AOp.reads, ht])]
  | conv _ x => simp only [stepOp, g1 (x := x) (fun t ht => by simp [AOp.reads, ht])]
  | b2s x => simp only [stepOp, g1 (x := x) (fun t ht => by simp [AOp.reads, ht])]
  | s2b _ x => simp only [stepOp, g1 (x := x) (fun t ht => by simp [AOp.reads, ht])]
  | box _ _ _ x => simp only [stepOp, g1 (x := x) (fun t ht => by simp [AOp.reads, ht])]
  | alloc => rfl
  | load _ _ x => simp only [stepOp, g1 (x := x) (fun t ht => by simp [AOp.reads, ht])]
  | store _ x y => simp only [stepOp, g1 (x := x) (fun t ht => by simp [AOp.reads, ht]), g1 (x := y) (fun t ht => by simp [AOp.reads, ht])]
  | nilChk x => simp only [stepOp, g1 (x := x) (fun t ht => by simp [AOp.reads, ht])]
  | mksl _ _ _ _ x y => simp only [stepOp, g1 (x := x) (fun t ht => by simp [AOp.reads, ht]), g1 (x := y) (fun t ht => by simp [AOp.reads, ht])]
  | faddr _ x => simp only [stepOp, g1 (x := x) (fun t ht => by simp [AOp.reads, ht])]
  | field _ _ _ _ x => simp only [stepOp, g1 (x := x) (fun t ht => by simp [AOp.reads, ht])]
  | iaddr _ x y => simp only [stepOp, g1 (x := x) (fun t ht => by simp [AOp.reads, ht]), g1 (x := y) (fun t ht => by simp [AOp.reads, ht])]
  | aaddr _ _ x y => simp only [stepOp, g1 (x := x) (fun t ht => by simp [AOp.reads, ht]), g1 (x := y) (fun t ht => by simp [AOp.reads, ht])]
  | isNil _ x => simp only [stepOp, g1 (x := x) (fun t ht => by simp [AOp.reads, ht])]
  | istr x y => simp only [stepOp, g1 (x := x) (fun t ht => by simp [AOp.reads, ht]), g1 (x := y) (fun t ht => by simp [AOp.reads, ht])]
  | extract x _ => simp only [stepOp, g1 (x := x) (fun t ht => by simp [AOp.reads, ht])]
  | append _ _ _ x y => simp only [stepOp, g1 (x := x) (fun t ht => by simp [AOp.reads, ht]), g1 (x := y) (fun t ht => by simp [AOp.reads, ht])]
  | clear _ x => simp only [stepOp, g1 (x := x) (fun t ht => by simp [AOp.reads, ht])]
  | lenSl x => simp only [stepOp, g1 (x := x) (fun t ht => by simp [AOp.reads, ht])]
  | lenStr x => simp only [stepOp, g1 (x := x) (fun t ht => by simp [AOp.reads, ht])]

theorem touch_congr {op : AOp} {fr fr2 : Frame} (he : ∀ t ∈ op.reads, fr2 t = fr t) : touch fr2 op = touch fr op := by
  have g1 : ∀ {x : Opd}, (∀ t ∈ x.reads, t ∈ op.reads) → x.get fr2 = x.get fr := fun hx => get_congr fun t ht => he t (hx t ht)
  cases op with
  | load _ _ x => simp only [touch, g1 (x := x) (fun t ht => by simp [AOp.reads, ht])]
  | b2s x => simp only [touch, g1 (x := x) (fun t ht => by simp [AOp.reads, ht])]
  | store _ x y => simp only [touch, g1 (x := x) (fun t ht => by simp [AOp.reads, ht])]
  | append _ _ _ x y => simp only [touch, g1 (x := x) (fun t ht => by simp [AOp.reads, ht])]
  | clear _ x => simp only [touch, g1 (x := x) (fun t ht => by simp [AOp.reads, ht])]
  | _ => rfl
theorem callsV_congr {stOf : Nat → Bool} {op : AOp} {fr fr2 : Frame} (he : ∀ t ∈ op.reads, fr2 t = fr t) : callsV stOf fr2 op = callsV stOf fr op := by
  cases op with
  | call f as => simp only [callsV, get_congr (x := f) fun t ht => he t (by simp [AOp.reads, ht])]
  | _ => rfl

end Go.Abs

/- What operations of each class do to the heap. -/
set_option linter.unusedSimpArgs false
set_option linter.unusedVariables false
namespace Go.Abs

/-- The same content: only whether it may be written may differ. -/
def sameC : Option Ent → Option Ent → Prop
  | some (.live B), some (.live B') => B'.ty = B.ty ∧ B'.sz = B.sz ∧ B'.es = B.es
  | x, y => x = y

theorem sameC.refl : ∀ x, sameC x x
  | none => rfl
  | some .free => rfl
  | some .hid => rfl
  | some (.live B) => ⟨rfl, rfl, rfl⟩
theorem sameC.of_eq {x y : Option Ent} (h : y = x) : sameC x y := h ▸ sameC.refl x
theorem sameC.trans {x y z : Option Ent} (h1 : sameC x y) (h2 : sameC y z) : sameC x z := by
  cases x with
  | none => simp [sameC] at h1; subst h1; exact h2
  | some x =>
    cases x with
    | free => simp [sameC] at h1; subst h1; exact h2
    | hid => simp [sameC] at h1; subst h1; exact h2
    | live B =>
      cases y with
      | none => simp [sameC] at h1
      | some y =>
        cases y with
        | free => simp [sameC] at h1
        | hid => simp [sameC] at h1
        | live B' =>
          cases z with
          | none => simp [sameC] at h2
          | some z =>
            cases z with
            | free => simp [sameC] at h2
            | hid => simp [sameC] at h2
            | live B2 => exact ⟨h2.1.trans h1.1, h2.2.1.trans h1.2.1, h2.2.2.trans h1.2.2⟩
theorem sameC.live {x y : Option Ent} (h : sameC x y) {B : Blk} (hx : x = some (.live B)) : ∃ B', y = some (.live B') ∧ B'.sz = B.sz ∧ B'.es = B.es := by
  subst hx
  cases y with
  | none => simp [sameC] at h
  | some y =>
    cases y with
    | free => simp [sameC] at h
    | hid => simp [sameC] at h
    | live B' => exact ⟨B', rfl, h.2.1, h.2.2⟩
theorem sameC.back {x y : Option Ent} (h : sameC x y) {B : Blk} (hy : y = some (.live B)) : ∃ B', x = some (.live B') ∧ B'.sz = B.sz ∧ B'.es = B.es := by
  subst hy
  cases x with
  | none => simp [sameC] at h
  | some y =>
    cases y with
    | free => simp [sameC] at h
    | hid => simp [sameC] at h
    | live B' => exact ⟨B', rfl, h.2.1.symm, h.2.2.symm⟩

theorem freeze1_same {lo : Nat} {h h' : Heap} {b : Nat} (e : freeze1 lo h b = some h') : h'.length = h.length ∧ ∀ i : Nat, sameC h[i]? h'[i]? := by
  unfold freeze1 at e
  split at e
  · rename_i B hB
    split at e
    · cases e; exact ⟨rfl, fun i => .refl _⟩
    · split at e
      · cases e
        refine ⟨by simp, fun i => ?_⟩
        by_cases hi : b = i
        · subst hi
          have hb := blk_eq.1 hB
          rw [List.getElem?_set_self (List.getElem?_eq_some_iff.1 hb).1, hb]
          exact ⟨rfl, rfl, rfl⟩
        · rw [List.getElem?_set_ne hi]; exact .refl _
      · cases e
  · cases e
theorem freeze_same {lo : Nat} : ∀ {bs : List Nat} {h h' : Heap}, freeze lo h bs = some h' → h'.length = h.length ∧ ∀ i : Nat, sameC h[i]? h'[i]?
  | [], h, h', e => by simp only [freeze, Option.some.injEq] at e; subst e; exact ⟨rfl, fun i => .refl _⟩
  | b :: bs, h, h', e => by
    simp only [freeze] at e
    split at e
    · rename_i h1 e1
      obtain ⟨l1, s1⟩ := freeze1_same e1
      obtain ⟨l2, s2⟩ := freeze_same e
      exact ⟨l2.trans l1, fun i => (s1 i).trans (s2 i)⟩
    · cases e

section
variable {cf : CallF} {lo base tgt : Nat} {op : AOp} {fr : Frame} {h h' : Heap} {v : AV}

theorem P_indep (hc : clsOf op = .P) (e : stepOp cf lo base tgt op fr [] = some (v, h')) (h2 : Heap) : stepOp cf lo base tgt op fr h2 = some (v, h2) := by
  have p1 : ∀ {x : Option AV}, put1 [] x = some (v, h') → put1 h2 x = some (v, h2) := fun {x} hx => by
    obtain ⟨rfl, _⟩ := put1_eq hx
    rfl
  cases op with
  | build z ps => simp only [stepOp] at e ⊢; split at e <;> cases e; rfl
  | buildSl a ty sz len z ps =>
    cases a with
    | false => cases hc
    | true =>
      simp only [stepOp] at e ⊢
      split at e
      · split at e
        · rename_i hz
          rw [if_pos hz]
          split at e
          · rename_i h0
            cases e
            rw [if_pos h0]
          · rename_i h0
            rw [if_neg h0]
            simp only [if_true] at e ⊢
            cases e
            rfl
        · cases e
      · cases e
  | slStr x l r =>
    simp only [stepOp] at e ⊢
    split at e
    · split at e
      · split at e
        · rename_i hq; cases e; rw [if_pos hq]
        · cases e
      · cases e
    · cases e
  | slSl sz x l r m =>
    simp only [stepOp] at e ⊢
    split at e
    · split at e
      · split at e
        · exact p1 e
        · split at e
          · exact p1 e
          · cases e
      · cases e
    · cases e
  | mkfn f a c => simp only [stepOp] at e ⊢; cases e; rfl
  | mx x xs => exact p1 e
  | mn x xs => exact p1 e
  | move x => simp only [stepOp] at e ⊢; cases e; rfl
  | pick c x y => simp only [stepOp] at e ⊢; split at e <;> cases e; rfl
  | bin _ x y => exact p1 e
  | eqB _ x y => simp only [stepOp] at e ⊢; split at e <;> cases e; rfl
  | eqAgg _ x y =>
    simp only [stepOp] at e ⊢
    split at e
    · split at e
      · rename_i hq; cases e; rw [if_pos hq]
      · cases e
    · cases e
  | un _ x => exact p1 e
  | conv _ x => simp only [stepOp] at e ⊢; split at e <;> cases e; rfl
  | s2b _ x =>
    simp only [stepOp] at e ⊢
    split at e
    · split at e
      · rename_i hq; cases e; rw [if_pos hq]
      · cases e
    · cases e
  | nilChk x => simp only [stepOp] at e ⊢; split at e <;> cases e <;> rfl
  | faddr _ x => exact p1 e
  | field _ _ _ _ x =>
    simp only [stepOp] at e ⊢
    split at e
    · rename_i hx; rw [if_pos hx]; exact p1 e
    · cases e
  | iaddr _ x y => exact p1 e
  | aaddr _ _ x y =>
    simp only [stepOp] at e ⊢
    split at e
    · split at e
      · rename_i hl; rw [if_pos hl]; exact p1 e
      · cases e
    · cases e
  | isNil _ x =>
    simp only [stepOp] at e ⊢
    split at e
    · cases e; rfl
    · split at e
      · split at e
        · cases e
        · rename_i h0; rw [if_neg h0]; cases e; rfl
      · cases e
  | istr x y => exact p1 e
  | extract x _ =>
    simp only [stepOp] at e ⊢
    split at e
    · exact p1 e
    · cases e
  | lenSl x => simp only [stepOp] at e ⊢; split at e <;> cases e; rfl
  | lenStr x => simp only [stepOp] at e ⊢; split at e <;> cases e; rfl
  | _ => cases hc

/-- A reading operation reads one block. -/
theorem L_reads (hc : clsOf op = .L) (e : stepOp cf lo base tgt op fr h = some (v, h')) : h' = h ∧ (∀ b, touch fr op = some b → ∃ B, blk h b = some B ∨ v = .str []) ∧
    ∀ h2 : Heap, (∀ b B, touch fr op = some b → blk h b = some B → ∃ B2, blk h2 b = some B2 ∧ B2.sz = B.sz ∧ B2.es = B.es) → stepOp cf lo base tgt op fr h2 = some (v, h2) := by
  have gd : ∀ {b g : Nat} {B B2 : Blk} {h2 : Heap}, good h b g = some B → blk h2 b = some B2 → B2.es = B.es → good h2 b g = some B2 := fun hg hb he => good_eq.2 ⟨hb, by rw [he]; exact (good_eq.1 hg).2⟩
  cases op with
  | load ag n x =>
    simp only [stepOp] at e ⊢
    obtain ⟨e1, rfl⟩ := put1_eq e
    simp only [touch]
    generalize x.get fr = X at e1 ⊢
    unfold loadAV at e1
    split at e1
    · rename_i b g i o
      split at e1
      · rename_i B hB
        refine ⟨by first | rfl | trivial, fun b' hb' => ⟨B, .inl ?_⟩, fun h2 h3 => ?_⟩
        · simp only [ptrBlk, Option.some.injEq] at hb'
          subst hb'
          exact (good_eq.1 hB).1
        · obtain ⟨B2, q1, q2, q3⟩ := h3 b B rfl (good_eq.1 hB).1
          simp only [loadAV, gd hB q1 q3, q2, q3]
          simp only [e1]
          rfl
      · cases e1
    · refine ⟨by first | rfl | trivial, fun b hb => by simp [ptrBlk] at hb, fun h2 h3 => ?_⟩
      simp only [loadAV, e1]
      rfl
    · cases e1
  | b2s x =>
    simp only [stepOp] at e ⊢
    simp only [touch]
    generalize x.get fr = X at e ⊢
    split at e
    · rename_i xs hxs
      split at e
      · rename_i l hl
        cases e
        unfold readSl at hxs
        split at hxs
        · cases hxs
          refine ⟨by first | rfl | trivial, fun b hb => by simp [ptrBlk] at hb, fun h2 h3 => by simp [readSl, hl]⟩
        · cases hxs
          refine ⟨by first | rfl | trivial, fun b hb => by simp [ptrBlk] at hb, fun h2 h3 => by simp [readSl, hl]⟩
        · split at hxs
          · rename_i hs
            cases hxs
            refine ⟨by first | rfl | trivial, fun b hb => by simp [ptrBlk] at hb, fun h2 h3 => by simp only [readSl, if_pos hs, hl]⟩
          · cases hxs
        · rename_i s b g off len
          split at hxs
          · rename_i B hB
            refine ⟨by first | rfl | trivial, fun b' hb' => ⟨B, .inl ?_⟩, fun h2 h3 => ?_⟩
            · simp only [ptrBlk, Option.some.injEq] at hb'
              subst hb'
              exact (good_eq.1 hB).1
            · obtain ⟨B2, q1, q2, q3⟩ := h3 b B rfl (good_eq.1 hB).1
              simp only [readSl, gd hB q1 q3, q2, q3, hxs, hl]
          · cases hxs
        · cases hxs
      · cases e
    · cases e
  | buildSl a => cases a <;> cases hc
  | _ => cases hc

/-- A making operation fills its places. -/
theorem A_fills (hc : clsOf op = .A) (ht : tgt < h.length ∨ nslot op = 0) (e : stepOp cf lo base tgt op fr h = some (v, h')) : ∃ bs : List Blk, bs.length ≤ nslot op ∧ (bs ≠ [] → fill h tgt bs = some h') ∧ (bs = [] → h' = h) ∧
    ∀ h2 h2' : Heap, tgt < h2.length → (bs ≠ [] → fill h2 tgt bs = some h2') → (bs = [] → h2' = h2) → stepOp cf lo base tgt op fr h2 = some (v, h2') := by
  have bx : ∀ {ty sz : Nat} {gh : List (Nat × Nat × Nat)} {x : AV}, (tgt < h.length) → boxAV h tgt ty sz gh x = some (v, h') → ∃ bs : List Blk, bs.length ≤ 1 + gh.length ∧ (bs ≠ [] → fill h tgt bs = some h') ∧ (bs = [] → h' = h) ∧
      ∀ h2 h2' : Heap, tgt < h2.length → (bs ≠ [] → fill h2 tgt bs = some h2') → (bs = [] → h2' = h2) → boxAV h2 tgt ty sz gh x = some (v, h2') := by
    intro ty sz gh x ht e
    unfold boxAV at e
    split at e
    · rename_i hsz
      split at e
      · split at e
        · rename_i h1 hp
          cases e
          refine ⟨_, by simp, fun _ => (place_at (h' := h') ht).1 hp, by simp, fun h2 h2' ht2 hf _ => ?_⟩
          unfold boxAV
          rw [if_pos hsz]
          simp only [(place_at (h' := h2') ht2).2 (hf (by simp))]
        · cases e
      · rename_i hgh
        simp only at e
        split at e
        · rename_i h1 hp
          split at e
          · rename_i ha
            cases e
            refine ⟨_, by simp [(ghosts_spec x gh (tgt + 1)).1, Nat.add_comm], fun _ => (place_at (h' := h') ht).1 hp, by simp, fun h2 h2' ht2 hf _ => ?_⟩
            unfold boxAV
            rw [if_pos hsz]
            simp only [(place_at (h' := h2') ht2).2 (hf (by simp)), ha, if_true]
          · cases e
        · cases e
    · cases e
  have htlt : nslot op ≠ 0 → tgt < h.length := fun hn => ht.resolve_right hn
  cases op with
  | box ty sz gh x => exact bx (htlt (by simp [nslot])) e
  | alloc ty sz gh z => exact bx (htlt (by simp [nslot])) e
  | mksl ty sz bytes z l c =>
    simp only [stepOp] at e ⊢
    split at e
    · rename_i n m hn hm
      split at e
      · rename_i hq
        split at e
        · rename_i h1 hp
          cases e
          refine ⟨_, by simp [nslot], fun _ => (place_at (h' := h') (htlt (by simp [nslot]))).1 hp, by simp, fun h2 h2' ht2 hf _ => ?_⟩
          rw [if_pos hq]
          simp only [(place_at (h' := h2') ht2).2 (hf (by simp))]
        · cases e
      · cases e
    · cases e
  | buildSl a ty sz len z ps =>
    cases a with
    | true => cases hc
    | false =>
      simp only [stepOp] at e ⊢
      split at e
      · rename_i es hes
        split at e
        · rename_i hz
          split at e
          · rename_i h0
            cases e
            refine ⟨[], by simp, by simp, by simp, fun h2 h2' ht2 _ h3 => ?_⟩
            rw [if_pos hz, if_pos h0, h3 rfl]
          · rename_i h0
            simp only [Bool.false_eq_true, if_false] at e ⊢
            split at e
            · rename_i h1 hp
              cases e
              refine ⟨_, by simp [nslot], fun _ => (place_at (h' := h') (htlt (by simp [nslot]))).1 hp, by simp, fun h2 h2' ht2 hf _ => ?_⟩
              rw [if_pos hz, if_neg h0]
              simp only [(place_at (h' := h2') ht2).2 (hf (by simp))]
            · cases e
        · cases e
      · cases e
  | _ => cases hc

/-- A writing operation writes one block, and its own place. -/
theorem W_writes (hc : clsOf op = .W) (ht : nslot op = 0 ∨ tgt < h.length) (e : stepOp cf lo base tgt op fr h = some (v, h')) : h'.length = h.length ∧ ∀ b : Nat, touch fr op ≠ some b → (nslot op = 0 ∨ b ≠ tgt) → sameC h[b]? h'[b]? := by
  have st : ∀ {h1 : Heap} {b : Nat} {E : Ent} {bs : List Nat}, freeze lo h bs = some h1 → (h1.set b E).length = h.length ∧ ∀ i : Nat, some b ≠ some i → (nslot op = 0 ∨ i ≠ tgt) → sameC h[i]? (h1.set b E)[i]? := fun {h1 b E bs} hf => by
    obtain ⟨l1, s1⟩ := freeze_same hf
    refine ⟨by simpa using l1, fun i hi _ => ?_⟩
    rw [List.getElem?_set_ne (fun h => hi (by rw [h]))]
    exact s1 i
  cases op with
  | store n x y =>
    simp only [stepOp] at e
    obtain ⟨e1, _⟩ := putU_eq e
    simp only [touch]
    generalize x.get fr = X at e1 ⊢
    unfold storeAV at e1
    split at e1
    · split at e1
      · split at e1
        · split at e1
          · cases e1
          · split at e1
            · split at e1
              · split at e1
                · cases e1
                  exact st (bs := []) rfl
                · cases e1
              · split at e1
                · split at e1
                  · rename_i hf _
                    split at e1
                    · cases e1
                      exact st hf
                    · cases e1
                  · cases e1
                · cases e1
            · cases e1
        · cases e1
      · cases e1
    · cases e1
  | append ty sz bytes x y =>
    simp only [stepOp] at e
    simp only [touch]
    split at e
    · generalize x.get fr = X at e ⊢
      unfold appendAV at e
      split at e
      · split at e
        · cases e
          exact ⟨rfl, fun b _ _ => .refl _⟩
        split at e
        · split at e
          · rename_i h1 hp
            cases e
            have hf := (place_at (h' := h') (ht.resolve_left (by simp [nslot]))).1 hp
            refine ⟨(fill_spec hf).1, fun b _ hb => ?_⟩
            have hb := hb.resolve_left (by simp [nslot])
            rw [fill_get hf, if_neg (by simp; omega)]
            exact .refl _
          · cases e
        · cases e
      · split at e
        · split at e
          · split at e
            · cases e
            · split at e
              · cases e
                exact st (bs := []) rfl
              · split at e
                · split at e
                  · rename_i hf
                    split at e
                    · cases e
                      exact st hf
                    · cases e
                  · cases e
                · cases e
          · cases e
        · cases e
      · cases e
    · cases e
  | clear z x =>
    simp only [stepOp] at e
    obtain ⟨e1, _⟩ := putU_eq e
    simp only [touch]
    generalize x.get fr = X at e1 ⊢
    unfold clearAV at e1
    split at e1
    · cases e1
      exact ⟨rfl, fun _ _ _ => .refl _⟩
    · split at e1
      · split at e1
        · split at e1
          · cases e1
          · split at e1
            · cases e1
              exact st (bs := []) rfl
            · cases e1
        · cases e1
      · cases e1
    · cases e1
  | buildSl a => cases a <;> cases hc
  | _ => cases hc

end
end Go.Abs

/- Two operations of a region that draws its order may be exchanged. -/
set_option linter.unusedSimpArgs false
set_option linter.unusedVariables false
namespace Go.Abs

/-- Calls of functions that write no old block. -/
def CfV (cf : CallF) (stOf : Nat → Bool) : Prop :=
  ∀ (f lo base tgt : Nat) (args : List AV) (h : Heap) (v : AV) (h' : Heap), stOf f = false → cf f lo base tgt args h = some (v, h') → tgt < h.length →
    ∀ b : Nat, b < tgt ∨ tgt + 2 ≤ b → sameC h[b]? h'[b]?

section
variable (cf : CallF) (stOf : Nat → Bool) (lo base n0 : Nat) (fr0 : Frame)

def eff (o : DOper) (fr : Frame) (log : Nat → Option Nat) (h : Heap) : Option (AV × Heap) :=
  if wants fr o.o.guard then
    if dCond stOf fr0 o fr log = true then
      if o.cls = .P then
        match stepOp cf lo base (n0 + o.slot) o.o.op fr [] with
        | some (v, _) => some (v, h)
        | none => none
      else
        match stepOp cf lo base (n0 + o.slot) o.o.op fr (hide (dIds n0 fr0 o) h) with
        | some (v, h') => if h'.length = h.length then some (v, restore (dIds n0 fr0 o) h h') else none
        | none => none
    else none
  else some (.undef, h)
def logOf (i : Nat) (o : DOper) (fr : Frame) (log : Nat → Option Nat) : Nat → Option Nat := if wants fr o.o.guard then dLog i o fr log else log

theorem stepD_eq (i : Nat) (o : DOper) (s : DSt) : stepD cf stOf lo base n0 fr0 i o s = (eff cf stOf lo base n0 fr0 o s.fr s.log s.h).map fun r => { fr := updO s.fr o.o.dst r.1, h := r.2, log := logOf i o s.fr s.log } := by
  unfold stepD eff logOf
  split
  · split
    · split
      · rename_i hP
        have : dLog i o s.fr s.log = s.log := by simp [dLog, hP]
        split <;> simp [this, *]
      · split
        · split <;> simp [*]
        · simp [*]
    · rfl
  · rfl
end

section
variable {cf : CallF} {stOf : Nat → Bool} {lo base n0 : Nat} {fr0 : Frame}

theorem wants_congr {q : Option (Nat × Bool)} {fr fr2 : Frame} (h : ∀ t w, q = some (t, w) → fr2 t = fr t) : wants fr2 q = wants fr q := by
  cases q with
  | none => rfl
  | some p => obtain ⟨t, w⟩ := p; simp only [wants, h t w rfl]

theorem AOper.reads_op {o : AOper} {t : Nat} (h : t ∈ o.op.reads) : t ∈ o.reads := List.mem_append_right _ h
theorem AOper.reads_guard {o : AOper} {t : Nat} {w : Bool} (h : o.guard = some (t, w)) : t ∈ o.reads := List.mem_append_left _ (by rw [h]; simp)

theorem dCond_congr {o : DOper} {fr fr2 : Frame} {log : Nat → Option Nat} (h : ∀ t ∈ o.o.reads, fr2 t = fr t) : dCond stOf fr0 o fr2 log = dCond stOf fr0 o fr log := by
  have h1 : touch fr2 o.o.op = touch fr o.o.op := touch_congr fun t ht => h t (AOper.reads_op ht)
  have h2 : callsV stOf fr2 o.o.op = callsV stOf fr o.o.op := callsV_congr fun t ht => h t (AOper.reads_op ht)
  unfold dCond rootOk
  rw [h1, h2]
theorem dLog_congr {i : Nat} {o : DOper} {fr fr2 : Frame} {log : Nat → Option Nat} (h : ∀ t ∈ o.o.reads, fr2 t = fr t) : dLog i o fr2 log = dLog i o fr log := by
  have h1 : touch fr2 o.o.op = touch fr o.o.op := touch_congr fun t ht => h t (AOper.reads_op ht)
  unfold dLog
  rw [h1]
theorem logOf_congr {i : Nat} {o : DOper} {fr fr2 : Frame} {log : Nat → Option Nat} (h : ∀ t ∈ o.o.reads, fr2 t = fr t) : logOf i o fr2 log = logOf i o fr log := by
  unfold logOf
  rw [dLog_congr h, wants_congr fun t w hg => h t (AOper.reads_guard hg)]
theorem eff_congr {o : DOper} {fr fr2 : Frame} {log : Nat → Option Nat} {h : Heap} (hr : ∀ t ∈ o.o.reads, fr2 t = fr t) : eff cf stOf lo base n0 fr0 o fr2 log h = eff cf stOf lo base n0 fr0 o fr log h := by
  unfold eff
  rw [dCond_congr hr, wants_congr fun t w hg => hr t (AOper.reads_guard hg), stepOp_congr (h := []) fun t ht => hr t (AOper.reads_op ht), stepOp_congr (h := hide (dIds n0 fr0 o) h) fun t ht => hr t (AOper.reads_op ht)]

theorem apart_reads {x y : AOper} (h : writesInto x y = false) (fr : Frame) (v : AV) : (∀ t ∈ y.reads, updO fr x.dst v t = fr t) ∧ ∀ d, x.dst = some d → y.dst ≠ some d := by
  unfold writesInto at h
  cases hd : x.dst with
  | none => exact ⟨fun t _ => rfl, by simp⟩
  | some d =>
    rw [hd] at h
    simp only [Bool.or_eq_false_iff, List.contains_eq_mem, decide_eq_false_iff_not, beq_eq_false_iff_ne, ne_eq] at h
    refine ⟨fun t ht => ?_, fun e he => by cases he; exact h.2⟩
    simp only [updO, upd]
    rw [if_neg (fun he : t = d => h.1 (he ▸ ht))]
theorem updO_comm {fr : Frame} {d e : Option Nat} {v u : AV} (h : ∀ k, d = some k → e ≠ some k) : updO (updO fr d v) e u = updO (updO fr e u) d v := by
  cases d with
  | none => rfl
  | some d =>
    cases e with
    | none => rfl
    | some e =>
      have hne : d ≠ e := fun he => h d rfl (by rw [he])
      funext t
      simp only [updO, upd]
      by_cases h1 : t = e
      · by_cases h2 : t = d
        · exact absurd (h2.symm.trans h1) hne
        · have hed : ¬ e = d := fun h => hne h.symm
          simp [h1, hed]
      · simp [h1]
theorem logOf_comm {i j : Nat} {x y : DOper} {fr : Frame} {log : Nat → Option Nat} (h : i ≠ j) : logOf j y fr (logOf i x fr log) = logOf i x fr (logOf j y fr log) := by
  unfold logOf dLog
  funext k
  by_cases h1 : k = i
  · have : k ≠ j := fun h2 => h (h1.symm.trans h2)
    cases wants fr x.o.guard <;> cases wants fr y.o.guard <;> cases x.cls <;> cases y.cls <;> simp [h1, h]
  · cases wants fr x.o.guard <;> cases wants fr y.o.guard <;> cases x.cls <;> cases y.cls <;> simp [h1]

theorem restore_hide (ids : List Nat) (h : Heap) : restore ids h (hide ids h) = h := by
  apply List.ext_getElem?
  intro b
  rw [restore_get _ _ _ _ (hide_length _ _)]
  by_cases hb : b ∈ ids
  · simp [hb]
  · simp [hb, hide_get]

theorem offLog_mono {log log2 : Nat → Option Nat} {b : Option Nat} {uo : List Nat} (h : ∀ k ∈ uo, log2 k = log k ∨ log2 k = none ∨ (∀ c, b = some c → log2 k ≠ some c)) (e : offLog log b uo = true) : offLog log2 b uo = true := by
  unfold offLog at *
  cases b with
  | none => rfl
  | some b =>
    simp only [List.all_eq_true, Bool.not_eq_true', beq_eq_false_iff_ne, ne_eq] at e ⊢
    intro k hk
    rcases h k hk with h1 | h1 | h1
    · rw [h1]; exact e k hk
    · rw [h1]; simp
    · exact h1 b rfl
theorem offLog_at {log : Nat → Option Nat} {b : Nat} {uo : List Nat} (e : offLog log (some b) uo = true) {k : Nat} (hk : k ∈ uo) : log k ≠ some b := by
  unfold offLog at e
  simp only [List.all_eq_true, Bool.not_eq_true', beq_eq_false_iff_ne, ne_eq] at e
  exact e k hk

theorem slotsOf_mem {o : DOper} {k : Nat} (h : k < nslot o.o.op) : o.slot + k ∈ slotsOf o := by
  simp [slotsOf]
  exact h
theorem subL_mem {xs ys : List Nat} (h : subL xs ys = true) {k : Nat} (hk : k ∈ xs) : k ∈ ys := by
  unfold subL at h
  simp only [List.all_eq_true, List.contains_eq_mem, decide_eq_true_eq] at h
  exact h k hk
theorem hidS_dIds {o : DOper} {k : Nat} (hP : o.cls ≠ .P) (hA : o.cls ≠ .A) (h : k ∈ o.hidS) : n0 + k ∈ dIds n0 fr0 o := by
  unfold dIds
  cases hc : o.cls with
  | P => exact absurd hc hP
  | A => exact absurd hc hA
  | C => exact List.mem_append_left _ (List.mem_map.2 ⟨k, h, rfl⟩)
  | L => exact List.mem_map.2 ⟨k, h, rfl⟩
  | W => exact List.mem_map.2 ⟨k, h, rfl⟩

theorem A_nslot {op : AOp} (h : clsOf op = .A) : nslot op ≠ 0 := by
  cases op with
  | buildSl a => cases a with
    | true => cases h
    | false => simp [nslot]
  | box => simp [nslot]
  | alloc => simp [nslot]
  | mksl => simp [nslot]
  | _ => cases h

/-- A making operation as a filling of places. -/
theorem A_eff {o : DOper} {fr : Frame} {h h2 : Heap} {v : AV} {total : Nat} (hA : o.cls = .A) (hw : wfD total o = true) (hl : h.length = n0 + total) (e : stepOp cf lo base (n0 + o.slot) o.o.op fr h = some (v, h2)) :
    ∃ bs : List Blk, (∀ k, k < bs.length → o.slot + k ∈ slotsOf o) ∧ fill h (n0 + o.slot) bs = some h2 ∧ ∀ h3 h4 : Heap, h3.length = h.length → fill h3 (n0 + o.slot) bs = some h4 → stepOp cf lo base (n0 + o.slot) o.o.op fr h3 = some (v, h4) := by
  unfold wfD at hw
  simp only [Bool.and_eq_true, beq_iff_eq, List.all_eq_true, decide_eq_true_eq] at hw
  have hn := A_nslot (hw.1 ▸ hA)
  have hs := hw.2 _ (slotsOf_mem (o := o) (k := 0) (by omega))
  obtain ⟨bs, b1, b2, b3, b4⟩ := A_fills (hw.1 ▸ hA) (.inl (show n0 + o.slot < h.length by omega)) e
  refine ⟨bs, fun k hk => slotsOf_mem (by omega), ?_, fun h3 h4 hl3 hf => b4 h3 h4 (by omega) (fun _ => hf) (fun hb => ?_)⟩
  · by_cases hb : bs = []
    · subst hb; rw [b3 rfl]; rfl
    · exact b2 hb
  · subst hb
    simp only [fill, Option.some.injEq] at hf
    exact hf.symm

theorem fill_free {h h2 : Heap} {t : Nat} {bs : List Blk} (e : fill h t bs = some h2) : ∀ j, j < bs.length → h[t + j]? = some .free := fun j hj => (fill_spec e).2.2.2 (t + j) (by omega) (by omega)

/-- Filling, and an operation that does not see the filled places. -/
theorem swap_fill_X {h ha h' : Heap} {t : Nat} {bs : List Blk} {ids : List Nat} (hf : fill h t bs = some ha) (hin : ∀ k, k < bs.length → t + k ∈ ids) (hl : h'.length = h.length) :
    hide ids ha = hide ids h ∧ fill (restore ids h h') t bs = some (restore ids ha h') := by
  have hla := (fill_spec hf).1
  refine ⟨hide_congr hla fun b hb => ?_, ?_⟩
  · rw [fill_get hf, if_neg]
    rintro ⟨h1, h2⟩
    refine hb ?_
    have := hin (b - t) (by omega)
    rwa [show t + (b - t) = b by omega] at this
  · obtain ⟨h3, h3e⟩ := fill_none_of (h := restore ids h h') (t := t) (bs := bs) fun j hj => by
      rw [restore_get _ _ _ _ hl, if_pos (hin j hj)]
      exact fill_free hf j hj
    rw [h3e]
    congr 1
    apply List.ext_getElem?
    intro b
    rw [fill_get h3e, restore_get _ _ _ _ hl, restore_get _ ha _ _ (by omega), fill_get hf]
    by_cases hb : t ≤ b ∧ b < t + bs.length
    · have := hin (b - t) (by omega)
      rw [show t + (b - t) = b by omega] at this
      simp [hb, this]
    · simp [hb]

end
end Go.Abs
