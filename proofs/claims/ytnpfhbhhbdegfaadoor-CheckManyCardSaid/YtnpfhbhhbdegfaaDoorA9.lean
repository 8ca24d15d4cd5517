/- Operations that make slices. -/
import Derived.Test.YtnpfhbhhbdegfaaDoorA8
set_option linter.unusedSimpArgs false
set_option linter.unusedVariables false
namespace Go.Abs

section
variable {P : Program} {g : G} {fr : Frame} {a : Act} {lo base : Nat}

/-- Elements one behind the other in a row of cells. -/
def ER (g : G) (sz : Nat) (es : List AV) (cells : Array Value) : Prop :=
  ∀ (i : Nat) (e : AV), es[i]? = some e → ∃ v : Value, Rep g e v ∧ v.cells.size = sz ∧ ∀ (j : Nat) (x : Value), v.cells[j]? = some x → cells[i * sz + j]? = some x

theorem apart_at {i k sz j : Nat} (h : k ≠ i) (hj : j < sz) : ¬ (i * sz ≤ k * sz + j ∧ k * sz + j < i * sz + sz) := by
  intro ⟨h1, h2⟩
  rcases Nat.lt_or_gt_of_ne h with hk | hk
  · have : (k + 1) * sz ≤ i * sz := Nat.mul_le_mul_right _ hk
    rw [Nat.add_mul] at this
    omega
  · have : (i + 1) * sz ≤ k * sz := Nat.mul_le_mul_right _ hk
    rw [Nat.add_mul] at this
    omega
theorem row_lt {i n sz j m : Nat} (hi : i < n) (hj : j < sz) (hm : n * sz ≤ m) : i * sz + j < m := by
  have : (i + 1) * sz ≤ n * sz := Nat.mul_le_mul_right _ hi
  rw [Nat.add_mul] at this
  omega

theorem ER.put {sz : Nat} {es : List AV} {cells : Array Value} (h : ER g sz es cells) {x : AV} {v : Value} (hx : Rep g x v) (hs : v.cells.size = sz) {i : Nat} (hi : i < es.length) (hl : es.length * sz ≤ cells.size) :
    ER g sz (es.set i x) (v.cells.zipIdx.foldl (fun cs (x : Value × Nat) => cs.setIfInBounds (i * sz + x.2) x.1) cells) := by
  obtain ⟨s1, s2⟩ := arr_foldl_put (i * sz) v.cells cells
  intro k e he
  by_cases hk : i = k
  · subst hk
    rw [List.getElem?_set_self hi] at he
    cases he
    refine ⟨v, hx, hs, fun j y hy => ?_⟩
    have hj : j < sz := hs ▸ (Array.getElem?_eq_some_iff.1 hy).1
    rw [s2, if_pos ⟨by omega, by omega, row_lt hi hj hl⟩]
    simpa using hy
  · rw [List.getElem?_set_ne hk] at he
    obtain ⟨u, h1, h2, h3⟩ := h k e he
    refine ⟨u, h1, h2, fun j y hy => ?_⟩
    have hj : j < sz := h2 ▸ (Array.getElem?_eq_some_iff.1 hy).1
    have := apart_at (i := i) (k := k) (sz := sz) (j := j) (fun h => hk h.symm) hj
    rw [s2, if_neg (by omega)]
    exact h3 j y hy

theorem ER.step {g' : G} {sz : Nat} {es : List AV} {cells : Array Value} (h : ER g sz es cells) (s : Step lo base g g') (hr : HRep lo g) : ER g' sz es cells := fun i e he => by
  obtain ⟨v, h1, h2, h3⟩ := h i e he
  exact ⟨v, h1.step s hr, h2, h3⟩

theorem made_get (z : Array Value) (n i j : Nat) (x : Value) (hi : i < n) (hx : z[j]? = some x) : (madeCells z (n * z.size))[i * z.size + j]? = some x := by
  have hj : j < z.size := (Array.getElem?_eq_some_iff.1 hx).1
  have hlt : i * z.size + j < n * z.size := row_lt hi hj (Nat.le_refl _)
  simp only [madeCells, Array.getElem?_map, Array.getElem?_range]
  rw [if_pos hlt]
  simp only [Option.map_some, Option.some.injEq]
  have : (i * z.size + j) % z.size = j := by rw [Nat.mul_comm, Nat.mul_add_mod]; exact Nat.mod_eq_of_lt hj
  rw [this]
  simp only [getElem!_def, hx]

theorem ER.made {zv : Value} {z : AV} (hz : constAV zv = some z) (n : Nat) : ER g zv.cells.size (List.replicate n z) (madeCells zv.cells (n * zv.cells.size)) := by
  intro i e he
  have hi : i < n := by simpa using (List.getElem?_eq_some_iff.1 he).1
  rw [List.getElem?_replicate_of_lt hi] at he
  cases he
  exact ⟨zv, constAV_rep hz, rfl, fun j x hx => made_get _ _ _ _ _ hi hx⟩

theorem els_run (hf : FrRep g fr a) (sz : Nat) : ∀ (ps : List (Nat × Operand)) (ps' : List (Nat × Opd)) (es es' : List AV) (cells : Array Value), mapO elPart ps = some ps' → buildEls sz es fr ps' = some es' → ER g sz es cells → es.length * sz = cells.size →
      ∃ cells', Instr.fill (fun i => some (i * sz, sz)) cells (ps.map fun p => (p.1, a.eval p.2)) = some cells' ∧ ER g sz es' cells' ∧ es'.length = es.length ∧ cells'.size = cells.size
  | [], ps', es, es', cells, hp, hb, hr, hl => by
    simp only [mapO, Option.some.injEq] at hp
    subst hp
    simp only [buildEls, Option.some.injEq] at hb
    subst hb
    exact ⟨cells, rfl, hr, rfl, rfl⟩
  | (i, x) :: ps, ps', es, es', cells, hp, hb, hr, hl => by
    simp only [mapO] at hp
    split at hp
    · rename_i y ys hy hys
      cases hp
      unfold elPart at hy
      split at hy
      · rename_i x' hx
        cases hy
        simp only [buildEls] at hb
        split at hb
        · rename_i hc
          obtain ⟨hc1, hc2, hc3⟩ := hc
          have hx' : Rep g (x'.get fr) (a.eval x) := opd_rep hf hx
          have hvs : (a.eval x).cells.size = sz := by rw [← (rep_cells hx').1]; exact hc1
          have h' := hr.put hx' hvs hc2 (by omega)
          obtain ⟨s1, s2⟩ := arr_foldl_put (i * sz) (a.eval x).cells cells
          obtain ⟨cells', k1, k2, k3, k4⟩ := els_run hf sz ps ys _ es' _ hys hb h' (by rw [s1]; simpa using hl)
          refine ⟨cells', ?_, k2, by simpa using k3, by rw [k4, s1]⟩
          simp only [List.map_cons, Instr.fill]
          rw [if_neg, k1]
          have : (i + 1) * sz ≤ es.length * sz := Nat.mul_le_mul_right _ hc2
          rw [Nat.add_mul] at this
          simp only [Bool.or_eq_true, decide_eq_true_eq, not_or, Decidable.not_not, Nat.not_lt, ne_eq]
          omega
        · cases hb
      · cases hy
    · cases hp

/-- A new row that stays as it is: only the world and the list of what stays go on. -/
theorem stable_new {w' : World} (hr : HRep lo g) (hw : Grows g.w w') (St' : Nat → Prop) (h1 : ∀ c, g.St c → St' c) (h2 : ∀ c, St' c → g.St c ∨ (g.w.heap.size ≤ c ∧ c < w'.heap.size)) :
    Step lo base g ⟨g.h, g.r, w', St'⟩ ∧ HRep lo ⟨g.h, g.r, w', St'⟩ := by
  have no : ∀ {b : Nat} {B : Blk}, (g.h[b]? = none ∨ g.h[b]? = some .free) → vblk g.h g.r b = some B → False := by
    intro b B h3 h4
    rw [vblk_none h3] at h4
    cases h4
  have hs2 : ∀ c, c < g.w.heap.size → St' c → g.St c := fun c hc hs => by
    rcases h2 c hs with h | h
    · exact h
    · omega
  have s : Step lo base g ⟨g.h, g.r, w', St'⟩ := grow_step hw (Nat.le_refl _) rfl (fun b => .inl ⟨rfl, fun _ _ => rfl⟩) (fun b B c h3 h4 _ => (no h3 h4).elim) h1 hs2
  refine ⟨s, grow_hrep hr hw s rfl (fun b => .inl ⟨rfl, fun _ _ => rfl⟩) (fun b B c h3 h4 _ => (no h3 h4).elim) (fun b B h3 h4 => (no h3 h4).elim) (fun b b' B B' c h3 _ h4 _ _ _ => (no h3 h4).elim) hs2 (fun c hc => ⟨?_, fun b B h3 h4 => (no h3 h4).elim⟩) fun b B h3 h4 => (no h3 h4).elim⟩
  rcases h2 c hc with h | h
  · exact Nat.lt_of_lt_of_le (hr.stlt c h) hw.size
  · exact h.2

/-- A new slice: its row is a block of the abstract heap. -/
theorem slice_new {tgt ty sz n cap : Nat} {es : List AV} {cells : Array Value} {h' : Heap} {w' : World} (hr : HRep lo g) (hb : base ≤ tgt) (hw : Grows g.w w') (hc : w'.heap[g.w.heap.size]? = some (.cells cells ty (0, 0)))
    (hp : place g.h tgt [{ ty, sz, frz := false, es }] = some h') (hn : es.length = n) (hcap : cap * sz = cells.size) (hle : n ≤ cap) (he : ER g sz es cells) :
    ∃ r' St', Rep ⟨h', r', w', St'⟩ (.sl sz tgt n 0 n) (.slice (some ⟨g.w.heap.size, 0, none⟩) n cap) ∧ HRep lo ⟨h', r', w', St'⟩ ∧ Step lo base g ⟨h', r', w', St'⟩ := by
  subst hn
  have hlt : g.w.heap.size < w'.heap.size := (Array.getElem?_eq_some_iff.1 hc).1
  obtain ⟨s, hh⟩ := place_new (lo := lo) (base := base) hr hp (by simp) (by simp) hb hw (some g.w.heap.size) (fun c hc => by cases hc; exact ⟨Nat.le_refl _, hlt⟩) g.St (fun _ h => h) (fun _ h => .inl h)
  have ok := refOk_new (r' := rNew g tgt (([] : List Blk).length + 1) (some g.w.heap.size)) (w' := w') (St' := g.St) hp (j := 0) rfl
  have gd := good_new (r' := rNew g tgt (([] : List Blk).length + 1) (some g.w.heap.size)) hp (j := 0) rfl
  simp only [Nat.add_zero] at ok gd
  refine ⟨_, g.St, .sl ok hle (by simp) (fun B hB => ?_) (fun _ => ⟨_, rfl⟩) (fun hp2 B c hB hcb => ?_) (fun _ B hB => ?_), hh ⟨fun hn => ?_, fun c hcb => ?_⟩, s⟩
  · rw [gd] at hB
    cases hB
    rfl
  · simp only [rNew_tgt, Option.some.injEq] at hcb
    subst hcb
    simp
  · rw [gd] at hB
    cases hB
    refine ⟨fun hn => by (simp only [rNew_tgt] at hn; cases hn), fun c hcb => ?_⟩
    simp only [rNew_tgt, Option.some.injEq] at hcb
    subst hcb
    exact ⟨fun _ => rfl, cells.size, by simp [World.shape?, hc], Nat.le_of_eq hcap⟩
  · simp only [rNew_tgt] at hn; cases hn
  · simp only [rNew_tgt, Option.some.injEq] at hcb
    subst hcb
    have : es.length * sz ≤ cap * sz := Nat.mul_le_mul_right _ hle
    exact ⟨cells, hc, by simp only; omega, fun i e h => (he.step s hr) i e h⟩

/-- A new slice that stays as it is. -/
theorem slice_ro {sz n cap : Nat} {es : List AV} {cells : Array Value} {ty : TypeId} {fz : Nat × Nat} {w' : World} (hr : HRep lo g) (hw : Grows g.w w') (hc : w'.heap[g.w.heap.size]? = some (.cells cells ty fz))
    (hn : es.length = n) (hle : n ≤ cap) (he : ER g sz es cells) :
    ∃ r' St', Rep ⟨g.h, r', w', St'⟩ (.ro sz es) (.slice (some ⟨g.w.heap.size, 0, none⟩) n cap) ∧ HRep lo ⟨g.h, r', w', St'⟩ ∧ Step lo base g ⟨g.h, r', w', St'⟩ := by
  subst hn
  have hlt : g.w.heap.size < w'.heap.size := (Array.getElem?_eq_some_iff.1 hc).1
  obtain ⟨s, hh⟩ := stable_new (lo := lo) (base := base) (w' := w') hr hw (fun c => g.St c ∨ c = g.w.heap.size) (fun c h => .inl h) (fun c h => h.imp id fun h => by subst h; exact ⟨Nat.le_refl _, hlt⟩)
  have hex : ∀ i, ∃ v : Value, ∀ e, es[i]? = some e → Rep g e v ∧ v.cells.size = sz ∧ ∀ (j : Nat) (x : Value), v.cells[j]? = some x → cells[i * sz + j]? = some x := by
    intro i
    cases h : es[i]? with
    | none => exact ⟨undef, fun e h => by cases h⟩
    | some e =>
      obtain ⟨v, h1, h2, h3⟩ := he i e h
      exact ⟨v, fun e' h => by cases h; exact ⟨h1, h2, h3⟩⟩
  refine ⟨g.r, _, .ro (fun i => Classical.choose (hex i)) (fun i x hx => ((Classical.choose_spec (hex i)) x hx).1.step s hr) (fun i hi => ((Classical.choose_spec (hex i)) _ (List.getElem?_eq_getElem hi)).2.1) hle fun _ => ⟨g.w.heap.size, 0, rfl, .inr rfl, fun i j x hi hx => ?_⟩, hh, s⟩
  have := ((Classical.choose_spec (hex i)) _ (List.getElem?_eq_getElem hi)).2.2 j x hx
  rw [cell_at hc, Nat.zero_add]
  exact this

theorem ok_mksl {o : Oper} {t e sz bs tgt n m : Nat} {z v : AV} {l c : Operand} {l' c' : Opd} {h' : Heap} (ho : o.op = .makeSlice t l c) (ht : elemTy P t = some e) (hsz : tySize P e = some sz) (hbs : tyBytes P e = some bs) (hz : zeroAV P e = some z)
    (hb1 : bs ≤ 4096) (hl : opd l = some l') (hc : opd c = some c') (hf : FrRep g fr a) (hr : HRep lo g) (hb : base ≤ tgt) (hn : natArg (l'.get fr) = some n) (hm : natArg (c'.get fr) = some m) (hnm : n = m) (hmost : n ≤ most) (hzs : z.cells.length = sz)
    (hp : place g.h tgt [{ ty := e, sz, frz := false, es := List.replicate n z }] = some h') (hv : v = .sl sz tgt n 0 n) : Ok P o a lo base g v h' := by
  subst hnm
  subst hv
  obtain ⟨kl, el⟩ := nat_of hn (opd_rep hf hl)
  obtain ⟨kc, ec⟩ := nat_of hm (opd_rep hf hc)
  obtain ⟨zv, _, hzc, i, hi, hiz⟩ := zeroAV_run hz g.w
  have hzv : zv.cells.size = sz := by rw [← (rep_cells (constAV_rep (g := g) hzc)).1]; exact hzs
  have hsi : i.size = sz := by simpa [tySize, hi] using hsz
  have hbi : i.bytes = bs := by simpa [tyBytes, hi] using hbs
  have hmo : n ≤ 1073741824 := hmost
  have hbn : i.bytes * n ≤ 4096 * 1073741824 := Nat.mul_le_mul (by omega) hmo
  have run := run_make (P := P) g.w t e i zv (elemTy_eq ht) hi hiz kl kc n n (by omega) (by omega) (by have : ((i.bytes * n : Nat) : Int) ≤ (4096 * 1073741824 : Nat) := by exact_mod_cast hbn
                                                                                                       simp only [Int.natCast_mul] at this
                                                                                                       omega) (by omega)
  simp only [Int.toNat_natCast] at run
  rw [hsi, ← hzv] at run
  subst hzv
  obtain ⟨r', St', h1, h2, h3⟩ := slice_new (lo := lo) (base := base) (cap := n) hr hb (Grows.alloc g.w (.cells (madeCells zv.cells (n * zv.cells.size)) e)) (alloc_at _ _) hp (by simp) (by simp [size_madeCells]) (Nat.le_refl _) (ER.made hzc n)
  refine ⟨_, _, _, r', St', ?_, .inl rfl, h1, h2, h3⟩
  simp only [execOp, ho, el, ec]
  exact run_vv run

theorem ok_buildSl {o : Oper} {t e sz len tgt : Nat} {ps : Array (Nat × Operand)} {ps' : List (Nat × Opd)} {z v : AV} {es : List AV} {h' : Heap} {asRo : Bool} (ho : o.op = .buildSlice t len ps) (ht : elemTy P t = some e) (hsz : tySize P e = some sz) (hz : zeroAV P e = some z)
    (hp : mapO elPart ps.toList = some ps') (hlim : len * sz ≤ 16777216) (hpos : 0 < sz) (hzs : z.cells.length = sz) (hf : FrRep g fr a) (hr : HRep lo g) (hb : base ≤ tgt) (he : buildEls sz (List.replicate len z) fr ps' = some es)
    (h : (if len = 0 then some (AV.emp, g.h) else if asRo then some (AV.ro sz es, g.h) else match place g.h tgt [{ ty := e, sz, frz := false, es }] with
          | some h' => some (.sl sz tgt len 0 len, h')
          | none => none) = some (v, h')) : Ok P o a lo base g v h' := by
  obtain ⟨zv, hzr, hzc, _⟩ := zeroAV_run hz g.w
  have hzv : zv.cells.size = sz := by rw [← (rep_cells (constAV_rep (g := g) hzc)).1]; exact hzs
  have hm := ER.made (g := g) hzc len
  rw [hzv] at hm
  obtain ⟨cells, k1, k2, k3, k4⟩ := els_run hf sz ps.toList ps' _ es _ hp he hm (by simp [size_madeCells])
  simp only [List.length_replicate] at k3
  rw [size_madeCells] at k4
  have run : (execOp a.eval o).run P g.w = .ok (.value (.slice (some ⟨g.w.heap.size, 0, none⟩) len len)) (g.w.alloc (.cells cells e)) := by
    simp only [execOp, ho]
    refine run_vv ?_
    have hn : ¬ (len * sz > 2 ^ 24) := by omega
    by_cases h0 : len * sz = 0
    · have hmade : ∀ f : Nat → Value, (Array.range (len * sz)).map f = madeCells zv.cells (len * sz) := by
        intro f
        rw [h0]
        simp [madeCells]
      simp only [Instr.buildSlice, Sem.run_bind, und_run (elemTy_eq ht), Result.andThen_ok, size_run hsz, if_neg hn]
      simp only [if_pos h0, hmade, Array.toList_map, k1, Sem.run_pure, Result.andThen_ok]
      simp [hmade, k1, newRow]
    · have hmade : (Array.range (len * sz)).map (zv.cells[· % zv.cells.size]!) = madeCells zv.cells (len * sz) := rfl
      simp only [Instr.buildSlice, Sem.run_bind, und_run (elemTy_eq ht), Result.andThen_ok, size_run hsz, if_neg hn, Sem.run_pure]
      simp only [if_neg h0, Sem.run_bind, hzr, Sem.run_pure, Result.andThen_ok, hmade, Array.toList_map, k1]
      simp [newRow]
  split at h
  · rename_i h0
    cases h
    subst h0
    obtain ⟨s, hh⟩ := stable_new (lo := lo) (base := base) hr (Grows.alloc g.w (.cells cells e)) g.St (fun _ h => h) (fun _ h => .inl h)
    exact ⟨_, _, _, g.r, g.St, run, .inl rfl, .emp, hh, s⟩
  · split at h
    · cases h
      obtain ⟨r', St', h1, h2, h3⟩ := slice_ro (lo := lo) (base := base) hr (Grows.alloc g.w (.cells cells e)) (alloc_at _ _) k3 (Nat.le_refl _) k2
      exact ⟨_, _, _, r', St', run, .inl rfl, h1, h2, h3⟩
    · split at h
      · rename_i hp2
        cases h
        obtain ⟨r', St', h1, h2, h3⟩ := slice_new (lo := lo) (base := base) hr hb (Grows.alloc g.w (.cells cells e)) (alloc_at _ _) hp2 k3 k4.symm (Nat.le_refl _) k2
        exact ⟨_, _, _, r', St', run, .inl rfl, h1, h2, h3⟩
      · cases h

theorem isU8T_eq {t : Nat} (h : isU8T P t = true) : P.underlying t = some (.int .u8) := by
  unfold isU8T at h
  split at h
  · assumption
  · cases h

theorem ok_s2b {o : Oper} {s d e : Nat} {x : Operand} {x' : Opd} {l : List UInt8} (ho : o.op = .convert s d x) (hx : opd x = some x') (hf : FrRep g fr a) (hr : HRep lo g) (hs : P.underlying s = some .string) (hd : P.underlying d = some (.slice e)) (he : isU8T P e = true)
    (h : x'.get fr = .str l) : Ok P o a lo base g (.ro 1 (l.map fun c => .int .u8 c.toNat)) g.h := by
  have e1 := opd_rep hf hx
  rw [h] at e1
  have e1 := rep_str e1
  have run := Lib.run_convert_string_bytes (P := P) g.w s d e ⟨l.toArray⟩ hs hd (isU8T_eq he)
  have hlen : (⟨l.toArray⟩ : ByteArray).size = l.length := rfl
  rw [hlen] at run
  have hw : Grows g.w (Lib.bytesWorld g.w e ⟨l.toArray⟩) := ⟨by rw [Lib.bytesWorld_size]; omega, fun c hc => Lib.bytesWorld_at_old _ _ _ c hc, rfl, rfl, rfl⟩
  obtain ⟨r', St', h1, h2, h3⟩ := slice_ro (lo := lo) (base := base) (sz := 1) (n := l.length) (cap := grownCap g.w l.length 0 e) (es := l.map fun c => .int .u8 c.toNat) hr hw (Lib.bytesWorld_at_new _ _ _) (by simp) (grownCap_ge _ _ _ _) (fun i x hx => by
    simp only [List.getElem?_map, Option.map_eq_some_iff] at hx
    obtain ⟨c, hc, rfl⟩ := hx
    refine ⟨.int .u8 c.toNat, .int _ _, rfl, fun j y hy => ?_⟩
    cases j with
    | succ j => simp [Value.cells] at hy
    | zero =>
      simp [Value.cells] at hy
      subst hy
      have hi := (List.getElem?_eq_some_iff.1 hc).1
      have hg := (List.getElem?_eq_some_iff.1 hc).2
      simp [Lib.bytesCells, Array.getElem?_append, hi, hg])
  refine ⟨_, _, _, r', St', ?_, .inl rfl, h1, h2, h3⟩
  simp only [execOp, ho, e1]
  exact run_vv run

theorem bytesOf_spec : ∀ (xs : List AV) (l : List UInt8), bytesOf xs = some l → ∃ ns : List Int, ns.length = xs.length ∧ (∀ (i : Nat) (n : Int), ns[i]? = some n → xs[i]? = some (.int .u8 n)) ∧ l = ns.map fun n => UInt8.ofNat n.toNat
  | [], l, h => by
    simp only [bytesOf, Option.some.injEq] at h
    subst h
    exact ⟨[], rfl, by simp, rfl⟩
  | x :: xs, l, h => by
    cases x with
    | int k n =>
      cases k <;> simp only [bytesOf] at h <;> try (cases h; done)
      split at h
      · rename_i l' hl
        cases h
        obtain ⟨ns, h1, h2, h3⟩ := bytesOf_spec xs l' hl
        refine ⟨n :: ns, by simp [h1], fun i m hm => ?_, by simp [h3]⟩
        cases i with
        | zero => simp at hm; subst hm; rfl
        | succ i => simpa using h2 i m (by simpa using hm)
      · cases h
    | _ => simp [bytesOf] at h

theorem foldl_push (ns : List Int) : ∀ (s : ByteArray), ns.foldl (fun r n => r.push (UInt8.ofNat n.toNat)) s = ⟨(s.data.toList ++ ns.map fun n => UInt8.ofNat n.toNat).toArray⟩ := by
  induction ns with
  | nil => intro s; simp
  | cons n ns ih =>
    intro s
    rw [List.foldl_cons, ih]
    simp [ByteArray.push]

theorem yl_b2s {o : Oper} {s d e : Nat} {x : Operand} {x' : Opd} {l : List UInt8} {xs : List AV} (ho : o.op = .convert s d x) (hx : opd x = some x') (hf : FrRep g fr a) (hr : HRep lo g) (hs : P.underlying s = some (.slice e)) (he : isU8T P e = true) (hd : P.underlying d = some .string)
    (h : readSl g.h 1 (x'.get fr) = some xs) (hl : bytesOf xs = some l) : Yl P o a g (.str l) := by
  obtain ⟨A, cap, e1, _, vf, k1, k2, k3⟩ := readSl_of hr h (opd_rep hf hx)
  obtain ⟨ns, n1, n2, n3⟩ := bytesOf_spec xs l hl
  have run := run_convert_bytes_string (P := P) g.w s d e A xs.length cap hs (isU8T_eq he) hd
  subst n3
  have key : (Conv.bytesToString (.slice A xs.length cap)).run P g.w = .ok (.string ⟨(ns.map fun n => UInt8.ofNat n.toNat).toArray⟩) g.w := by
    by_cases hn : xs = []
    · subst hn
      have : ns = [] := List.length_eq_zero_iff.1 n1
      subst this
      cases A with
      | none => rfl
      | some ad =>
        rw [run_bytesToString (P := P) g.w ad _ cap [] (by simp [loadCells, loadCellsFrom])]
        rfl
    · obtain ⟨c, off, rfl, hc⟩ := k3 hn
      have hload : (loadCells ⟨c, off, none⟩ xs.length).run P g.w = .ok (ns.map (Value.int .u8)).toArray g.w := by
        have := run_loadCells_list (P := P) g.w ⟨c, off, none⟩ (ns.map (Value.int .u8)) (fun j y hy => by
          simp only [List.getElem?_map, Option.map_eq_some_iff] at hy
          obtain ⟨n, hn1, rfl⟩ := hy
          have hxj := n2 j n hn1
          have hv := k1 j _ hxj
          have hv := rep_int hv
          have hlt := (List.getElem?_eq_some_iff.1 hxj).1
          have := hc j 0 (.int .u8 n) hlt (by rw [hv]; rfl)
          rw [add_off]
          simpa using this)
        simpa [n1] using this
      rw [run_bytesToString (P := P) g.w _ _ cap ns hload, foldl_push]
      simp
  refine ⟨.string ⟨(ns.map fun n => UInt8.ofNat n.toNat).toArray⟩, ?_, .str _⟩
  simp only [execOp, ho, e1]
  exact run_vv (run.trans key)

end
end Go.Abs
