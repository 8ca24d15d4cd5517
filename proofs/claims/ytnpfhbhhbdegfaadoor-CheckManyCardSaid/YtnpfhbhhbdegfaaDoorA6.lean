/- Values built out of parts; function values; least and greatest; bytes to a text. -/
import Derived.Test.YtnpfhbhhbdegfaaDoorA5
namespace Go.Abs

section
variable {P : Program} {g : G} {fr : Frame} {a : Act}

theorem foldl_put (off : Nat) : ∀ (vs : List Value) (k : Nat) (cs : Array Value),
    ((vs.zipIdx k).foldl (fun cs x => cs.setIfInBounds (off + x.2) x.1) cs).size = cs.size ∧
    ∀ i, ((vs.zipIdx k).foldl (fun cs x => cs.setIfInBounds (off + x.2) x.1) cs)[i]? = if off + k ≤ i ∧ i < off + k + vs.length ∧ i < cs.size then vs[i - (off + k)]? else cs[i]?
  | [], k, cs => by
    refine ⟨rfl, fun i => ?_⟩
    simp only [List.zipIdx_nil, List.foldl_nil, List.length_nil, Nat.add_zero]
    rw [if_neg (by omega)]
  | v :: vs, k, cs => by
    obtain ⟨h1, h2⟩ := foldl_put off vs (k + 1) (cs.setIfInBounds (off + k) v)
    simp only [List.zipIdx_cons, List.foldl_cons]
    refine ⟨by rw [h1]; simp, fun i => ?_⟩
    rw [h2 i]
    simp only [Array.size_setIfInBounds, List.length_cons, Array.getElem?_setIfInBounds]
    by_cases hi : off + k = i
    · subst hi
      have hc : ¬ (off + (k + 1) ≤ off + k ∧ off + k < off + (k + 1) + vs.length ∧ off + k < cs.size) := by omega
      rw [if_neg hc]
      by_cases hs : off + k < cs.size
      · have hd : off + k ≤ off + k ∧ off + k < off + k + (vs.length + 1) ∧ off + k < cs.size := by omega
        rw [if_pos rfl, if_pos hd, if_pos hs]
        simp
      · have hd : ¬ (off + k ≤ off + k ∧ off + k < off + k + (vs.length + 1) ∧ off + k < cs.size) := by omega
        rw [if_pos rfl, if_neg hd, if_neg hs, Array.getElem?_eq_none (Nat.not_lt.1 hs)]
    · rw [if_neg hi]
      by_cases hc : off + (k + 1) ≤ i ∧ i < off + (k + 1) + vs.length ∧ i < cs.size
      · have hd : off + k ≤ i ∧ i < off + k + (vs.length + 1) ∧ i < cs.size := by omega
        rw [if_pos hc, if_pos hd]
        have : i - (off + k) = (i - (off + (k + 1))) + 1 := by omega
        rw [this]
        simp
      · have hd : ¬ (off + k ≤ i ∧ i < off + k + (vs.length + 1) ∧ i < cs.size) := by omega
        rw [if_neg hc, if_neg hd]

theorem arr_foldl_put (off : Nat) (vs cs : Array Value) :
    (vs.zipIdx.foldl (fun cs (x : Value × Nat) => cs.setIfInBounds (off + x.2) x.1) cs).size = cs.size ∧
    ∀ i, (vs.zipIdx.foldl (fun cs (x : Value × Nat) => cs.setIfInBounds (off + x.2) x.1) cs)[i]? = if off ≤ i ∧ i < off + vs.size ∧ i < cs.size then vs[i - off]? else cs[i]? := by
  have h := foldl_put off vs.toList 0 cs
  rw [← Array.foldl_toList, Array.toList_zipIdx]
  refine ⟨h.1, fun i => ?_⟩
  rw [h.2 i]
  simp

/-- Cells that stand for cells. -/
def CR (g : G) (cs : List AV) (vs : Array Value) : Prop :=
  cs.length = vs.size ∧ (∀ (j : Nat) (x : AV) (y : Value), cs[j]? = some x → vs[j]? = some y → Rep g x y) ∧ ∀ (j : Nat) (y : Value), vs[j]? = some y → y.oneCell' = true

theorem splice_get (cs : List AV) (o : Nat) (vs : List AV) (h : o + vs.length ≤ cs.length) (i : Nat) :
    (splice cs o vs)[i]? = if o ≤ i ∧ i < o + vs.length then vs[i - o]? else cs[i]? := by
  unfold splice
  by_cases h1 : i < o
  · rw [if_neg (by omega), List.append_assoc, List.getElem?_append_left (by simp; omega), List.getElem?_take, if_pos h1]
  · by_cases h2 : i < o + vs.length
    · rw [if_pos (by omega), List.append_assoc, List.getElem?_append_right (by simp; omega), List.getElem?_append_left (by simp; omega)]
      congr 1
      simp
      omega
    · rw [if_neg (by omega), List.append_assoc, List.getElem?_append_right (by simp; omega), List.getElem?_append_right (by simp; omega), List.getElem?_drop]
      congr 1
      simp
      omega
theorem splice_length (cs : List AV) (o : Nat) (vs : List AV) (h : o + vs.length ≤ cs.length) : (splice cs o vs).length = cs.length := by
  simp [splice]
  omega

theorem ok_one {x : AV} {v : Value} (h : Rep g x v) (hk : x.ok = true) : ∀ (j : Nat) (y : Value), v.cells[j]? = some y → y.oneCell' = true := by
  cases h with
  | agg h1 h2 h3 => exact h3
  | undef => simp [AV.ok] at hk
  | tup => simp [AV.ok] at hk
  | _ =>
    intro j y hy
    cases j with
    | zero => simp [Value.cells] at hy; subst hy; rfl
    | succ j => simp [Value.cells] at hy

theorem CR.put {cs : List AV} {vs : Array Value} (h : CR g cs vs) {x : AV} {v : Value} (hx : Rep g x v) (hk : x.ok = true) {off : Nat} (hl : off + x.cells.length ≤ cs.length) :
    CR g (splice cs off x.cells) (v.cells.zipIdx.foldl (fun cs (x : Value × Nat) => cs.setIfInBounds (off + x.2) x.1) vs) := by
  obtain ⟨h1, h2, h3⟩ := h
  obtain ⟨hc, hr⟩ := rep_cells hx
  obtain ⟨s1, s2⟩ := arr_foldl_put off v.cells vs
  refine ⟨by rw [s1, splice_length _ _ _ hl, h1], fun j y z hy hz => ?_, fun j z hz => ?_⟩
  · rw [splice_get _ _ _ hl] at hy
    rw [s2] at hz
    split at hy
    · rename_i hj
      rw [if_pos (by omega)] at hz
      exact hr _ _ _ hy hz
    · rename_i hj
      rw [if_neg (by omega)] at hz
      exact h2 _ _ _ hy hz
  · rw [s2] at hz
    split at hz
    · exact ok_one hx hk _ _ hz
    · exact h3 _ _ hz

theorem zeroAV_run {t : Nat} {z : AV} (h : zeroAV P t = some z) (w : World) : ∃ v, (zeroValue t).run P w = .ok v w ∧ constAV v = some z ∧ ∃ i, P.info? t = some i ∧ i.zero = some v := by
  unfold zeroAV at h
  split at h
  · rename_i i hi
    split at h
    · rename_i v hv
      exact ⟨v, by simp [zeroValue, typeInfo, program, Sem.run, hi, hv], h, i, hi, hv⟩
    · cases h
  · cases h

theorem constAV_CR {v : Value} {z : AV} (h : constAV v = some z) (ha : z.isAgg = true) : CR g z.cells v.cells := by
  obtain ⟨vs, rfl, h3⟩ := rep_agg (constAV_rep (g := g) h) ha
  obtain ⟨h1, h2⟩ := rep_cells (constAV_rep (g := g) h)
  exact ⟨h1, h2, h3⟩

theorem mapM_run {α β : Type} (f : α → Sem β) (fl : α → β) (w : World) (xs : List α) (h : ∀ x ∈ xs, (f x).run P w = .ok (fl x) w) : (xs.mapM f).run P w = .ok (xs.map fl) w := by
  induction xs with
  | nil => simp
  | cons x xs ih =>
    simp only [List.mapM_cons, Sem.run_bind, h x (by simp), Result.andThen_ok, ih (fun y hy => h y (by simp [hy]))]
    simp

theorem fill_run {t : Nat} {fs : Array Field} (hu : P.underlying t = some (.struct fs)) (place : Nat → Option (Nat × Nat))
    (hplace : ∀ i f n b, fieldOf P t i = some (f, n, b) → place i = some (f, n)) (hf : FrRep g fr a) :
    ∀ (ps : List (Nat × Operand)) (ps' : List (Nat × Nat × Opd)) (cs cs' : List AV) (vs : Array Value), mapO (buildPart P t) ps = some ps' → buildCells cs fr ps' = some cs' → CR g cs vs →
      ∃ vs', Instr.fill place vs (ps.map fun p => (p.1, a.eval p.2)) = some vs' ∧ CR g cs' vs'
  | [], ps', cs, cs', vs, hp, hb, hr => by
    simp only [mapO, Option.some.injEq] at hp
    subst hp
    simp only [buildCells, Option.some.injEq] at hb
    subst hb
    exact ⟨vs, rfl, hr⟩
  | (i, x) :: ps, ps', cs, cs', vs, hp, hb, hr => by
    simp only [mapO] at hp
    split at hp
    · rename_i y ys hy hys
      cases hp
      unfold buildPart at hy
      split at hy
      · rename_i off n b x' hfl hx
        cases hy
        simp only [buildCells] at hb
        split at hb
        · rename_i hc
          obtain ⟨hc1, hc2, hc3⟩ := hc
          have hx' : Rep g (x'.get fr) (a.eval x) := opd_rep hf hx
          have hl := (rep_cells hx').1
          have h' := hr.put hx' hc3 (off := off) (by omega)
          obtain ⟨vs', hv, hr'⟩ := fill_run hu place hplace hf ps ys _ cs' _ hys hb h'
          refine ⟨vs', ?_, hr'⟩
          simp only [List.map_cons, Instr.fill, hplace i off n b hfl]
          rw [if_neg, hv]
          have := hr.1
          simp only [Bool.or_eq_true, decide_eq_true_eq, not_or, Decidable.not_not, Nat.not_lt, ne_eq]
          omega
        · cases hb
      · cases hy
    · cases hp

theorem yl_build {o : Oper} {t : Nat} {z : List AV} {ps : Array (Nat × Operand)} {ps' : List (Nat × Nat × Opd)} {cs : List AV} (ho : o.op = .build t ps) (hz : zeroAV P t = some (.agg z)) (hp : mapO (buildPart P t) ps.toList = some ps')
    (hk : fieldsOk P t = true) (hf : FrRep g fr a) (h : buildCells z fr ps' = some cs) : Yl P o a g (.agg cs) := by
  obtain ⟨zv, hzr, hzc, _⟩ := zeroAV_run hz g.w
  have hcr : CR g z zv.cells := constAV_CR hzc rfl
  unfold fieldsOk at hk
  split at hk
  · rename_i fs hu
    have hsz : ∀ f ∈ fs.toList, ∃ n, tySize P f.type = some n := fun f hfm => Option.isSome_iff_exists.1 (List.all_eq_true.1 hk f hfm)
    have hm := mapM_run (P := P) (fun f : Field => (do pure (f.offset, ← sizeOf f.type) : Sem (Nat × Nat))) (fun f => (f.offset, (tySize P f.type).getD 0)) g.w fs.toList (fun f hfm => by
      obtain ⟨n, hn⟩ := hsz f hfm
      simp [size_run hn, hn])
    obtain ⟨vs, hv, hr⟩ := fill_run hu (fun i => ((fs.toList.map fun f => (f.offset, (tySize P f.type).getD 0)).toArray)[i]?) (fun i off n b hfl => by
      unfold fieldOf at hfl
      simp only [hu] at hfl
      split at hfl
      · rename_i fd hfd
        split at hfl
        · rename_i n' a' h1 h2
          cases hfl
          simp [hfd, h1]
        · cases hfl
      · cases hfl) hf ps.toList ps' z cs zv.cells hp h hcr
    refine ⟨.agg vs, ?_, .agg hr.1 hr.2.1 hr.2.2⟩
    simp only [execOp, ho]
    refine run_vv ?_
    simp only [Instr.build, Sem.run_bind, hzr, Result.andThen_ok, und_run hu]
    rw [Array.mapM_eq_mapM_toList]
    simp only [Sem.run_map, hm, Result.andThen_ok, Array.toList_map, hv, Sem.run_pure]
  · cases hk

theorem mapOpd_rep (hf : FrRep g fr a) {xs : List Operand} {ys : List Opd} (h : mapO opd xs = some ys) : ys.length = xs.length ∧ ∀ (j : Nat) (x : AV) (v : Value), (ys.map (Opd.get fr))[j]? = some x → (xs.map a.eval)[j]? = some v → Rep g x v := by
  obtain ⟨hl, hi⟩ := mapO_some h
  refine ⟨hl, fun j x v hx hv => ?_⟩
  simp only [List.getElem?_map, Option.map_eq_some_iff] at hx hv
  obtain ⟨y, hy, rfl⟩ := hx
  obtain ⟨z, hz, rfl⟩ := hv
  obtain ⟨y', hy', he⟩ := hi j z hz
  rw [hy] at hy'
  cases hy'
  exact opd_rep hf he

theorem yl_mkfn {o : Oper} {f : Nat} {xs cs : Array Operand} {xs' cs' : List Opd} (ho : o.op = .makeFunc (.func f) xs cs) (hx : mapO opd xs.toList = some xs') (hc : mapO opd cs.toList = some cs') (hf : FrRep g fr a) :
    Yl P o a g (.fn f (xs'.map (Opd.get fr)) (cs'.map (Opd.get fr))) := by
  obtain ⟨l1, r1⟩ := mapOpd_rep hf hx
  obtain ⟨l2, r2⟩ := mapOpd_rep hf hc
  refine ⟨.func (.func f) (xs.map a.eval) (cs.map a.eval), by simp [execOp, ho, Instr.makeFunc], .fn (by simpa using l1) (fun j x v hx hv => r1 j x v hx (by simpa [← Array.getElem?_toList] using hv)) (by simpa using l2) (fun j x v hx hv => r2 j x v hx (by simpa [← Array.getElem?_toList] using hv))⟩

theorem fold_run {f : AV → AV → Option AV} {F : Value → Value → Sem Value} (hF : ∀ {x y z : AV} {v u : Value}, f x y = some z → Rep g x v → Rep g y u → ∃ r, (F v u).run P g.w = .ok r g.w ∧ Rep g z r) :
    ∀ (ys : List AV) (us : List Value) (x z : AV) (v : Value), foldO f x ys = some z → Rep g x v → ys.length = us.length → (∀ (j : Nat) (y : AV) (u : Value), ys[j]? = some y → us[j]? = some u → Rep g y u) →
      ∃ r, (us.foldlM F v).run P g.w = .ok r g.w ∧ Rep g z r
  | [], us, x, z, v, h, hx, hl, _ => by
    simp only [foldO, Option.some.injEq] at h
    subst h
    have : us = [] := List.length_eq_zero_iff.1 hl.symm
    subst this
    exact ⟨v, rfl, hx⟩
  | y :: ys, us, x, z, v, h, hx, hl, hr => by
    cases us with
    | nil => simp at hl
    | cons u us =>
      simp only [foldO] at h
      split at h
      · rename_i z' hz
        obtain ⟨r, hr1, hr2⟩ := hF hz hx (hr 0 y u rfl rfl)
        obtain ⟨r', h1, h2⟩ := fold_run hF ys us z' z r h hr2 (by simpa using hl) (fun j y' u' hy hu => hr (j + 1) y' u' (by simpa using hy) (by simpa using hu))
        exact ⟨r', by simp [hr1, h1], h2⟩
      · cases h

theorem yl_mx {o : Oper} {x : Opd} {xs : List Opd} {as : Array Operand} {ts : Array TypeId} {v : AV} (ho : o.op = .call { callee := .builtin .max, args := as, argTypes := ts }) (hx : mapO opd as.toList = some (x :: xs)) (hf : FrRep g fr a)
    (h : foldO max2 (x.get fr) (xs.map (Opd.get fr)) = some v) : Yl P o a g v := by
  obtain ⟨l1, r1⟩ := mapOpd_rep hf hx
  have hal : as.toList.length = xs.length + 1 := by simpa using l1.symm
  cases hA : as.toList with
  | nil => rw [hA] at hal; simp at hal
  | cons b bs =>
    rw [hA] at r1 hal
    obtain ⟨r, h1, h2⟩ := fold_run (P := P) (g := g) (f := max2) (F := Builtin.max2) (fun {x y z v u} hz hx hy => by
      unfold max2 at hz
      split at hz
      · split at hz
        · cases hz
          rw [rep_int hx, rep_int hy]
          exact ⟨_, by simp [Builtin.max2], .int _ _⟩
        · cases hz
      · cases hz) (xs.map (Opd.get fr)) (bs.map a.eval) (x.get fr) v (a.eval b) h (r1 0 _ _ rfl rfl) (by simpa using hal.symm) (fun j y u hy hu => r1 (j + 1) y u (by simpa using hy) (by simpa using hu))
    refine ⟨r, ?_, h2⟩
    have e : (as.map a.eval).toList = a.eval b :: bs.map a.eval := by simp [hA]
    simp only [execOp, ho, resolve, invoke, builtin, Sem.run_bind, Sem.run_pure, Result.andThen_ok, Builtin.max_, e]
    simp [h1]

theorem yl_mn {o : Oper} {x : Opd} {xs : List Opd} {as : Array Operand} {ts : Array TypeId} {v : AV} (ho : o.op = .call { callee := .builtin .min, args := as, argTypes := ts }) (hx : mapO opd as.toList = some (x :: xs)) (hf : FrRep g fr a)
    (h : foldO min2 (x.get fr) (xs.map (Opd.get fr)) = some v) : Yl P o a g v := by
  obtain ⟨l1, r1⟩ := mapOpd_rep hf hx
  have hal : as.toList.length = xs.length + 1 := by simpa using l1.symm
  cases hA : as.toList with
  | nil => rw [hA] at hal; simp at hal
  | cons b bs =>
    rw [hA] at r1 hal
    obtain ⟨r, h1, h2⟩ := fold_run (P := P) (g := g) (f := min2) (F := Builtin.min2) (fun {x y z v u} hz hx hy => by
      unfold min2 at hz
      split at hz
      · split at hz
        · cases hz
          rw [rep_int hx, rep_int hy]
          exact ⟨_, by simp [Builtin.min2], .int _ _⟩
        · cases hz
      · cases hz) (xs.map (Opd.get fr)) (bs.map a.eval) (x.get fr) v (a.eval b) h (r1 0 _ _ rfl rfl) (by simpa using hal.symm) (fun j y u hy hu => r1 (j + 1) y u (by simpa using hy) (by simpa using hu))
    refine ⟨r, ?_, h2⟩
    have e : (as.map a.eval).toList = a.eval b :: bs.map a.eval := by simp [hA]
    simp only [execOp, ho, resolve, invoke, builtin, Sem.run_bind, Sem.run_pure, Result.andThen_ok, Builtin.min_, e]
    simp [h1]

/-- The elements of a slice that is read, and its cells. -/
theorem readSl_of {lo sz : Nat} {x : AV} {xs : List AV} {v : Value} (hr : HRep lo g) (h : readSl g.h sz x = some xs) (hx : Rep g x v) :
    ∃ A cap, v = .slice A xs.length cap ∧ xs.length ≤ cap ∧ ∃ vf : Nat → Value, (∀ (i : Nat) (e : AV), xs[i]? = some e → Rep g e (vf i)) ∧ (∀ i, i < xs.length → (vf i).cells.size = sz) ∧
      (xs ≠ [] → ∃ c off, A = some ⟨c, off, none⟩ ∧ ∀ (i j : Nat) (y : Value), i < xs.length → (vf i).cells[j]? = some y → g.w.cell? ⟨c, off + i * sz + j, none⟩ = some y) := by
  unfold readSl at h
  split at h
  · cases h
    cases hx
    exact ⟨_, _, rfl, Nat.le_refl _, fun _ => undef, by simp, by simp, by simp⟩
  · cases h
    cases hx
    exact ⟨_, _, rfl, Nat.zero_le _, fun _ => undef, by simp, by simp, by simp⟩
  · rename_i sz' ys
    split at h
    · rename_i hs
      cases h
      rcases hs with hs | hs
      · subst hs
        cases hx with
        | ro vf r1 r2 r3 r4 =>
          refine ⟨_, _, rfl, r3, vf, r1, r2, fun hn => ?_⟩
          obtain ⟨c, off, hA, _, hc⟩ := r4 hn
          exact ⟨c, off, hA, hc⟩
      · rw [List.isEmpty_iff] at hs
        subst hs
        cases hx with
        | ro vf r1 r2 r3 r4 => exact ⟨_, _, rfl, r3, vf, by simp, by simp, by simp⟩
    · cases h
  · rename_i s b n off len
    split at h
    · rename_i B hB
      split at h
      · rename_i hc
        obtain ⟨hs, hle⟩ := hc
        cases h
        cases hx with
        | sl r1 r2 r3 r6 r7 r4 r5 =>
          have hBl := (good_eq.1 hB).2
          have hlen : ((B.es.drop off).take len).length = len := by simp; omega
          have hget : ∀ (i : Nat) (e : AV), ((B.es.drop off).take len)[i]? = some e → B.es[off + i]? = some e := by
            intro i e he
            rw [List.getElem?_take] at he
            split at he
            · simpa using he
            · cases he
          obtain ⟨hn1, hn2⟩ := hr.blks b B (vblk_of (good_eq.1 hB).1)
          cases hcb : g.r b with
          | none =>
            have := hn1 hcb
            have hb0 : n = 0 := by rw [← hBl, this]; rfl
            have hl0 : len = 0 := by omega
            subst hl0
            refine ⟨_, _, by rw [hlen], by rw [hlen]; exact r2, fun _ => undef, ?_, ?_, ?_⟩ <;> simp
          | some c =>
            obtain ⟨cells, hh, _, hes⟩ := hn2 c hcb
            have hex : ∀ i, ∃ v : Value, ∀ e, B.es[i]? = some e → Rep g e v ∧ v.cells.size = B.sz ∧ ∀ (j : Nat) (x : Value), v.cells[j]? = some x → cells[i * B.sz + j]? = some x := by
              intro i
              cases he : B.es[i]? with
              | none => exact ⟨undef, fun e h => by cases h⟩
              | some e =>
                obtain ⟨v, h1, h2, h3⟩ := hes i e he
                exact ⟨v, fun e' h => by cases h; exact ⟨h1, h2, h3⟩⟩
            have hvf : ∃ vf : Nat → Value, ∀ i e, B.es[i]? = some e → Rep g e (vf i) ∧ (vf i).cells.size = B.sz ∧ ∀ (j : Nat) (x : Value), (vf i).cells[j]? = some x → cells[i * B.sz + j]? = some x :=
              ⟨fun i => Classical.choose (hex i), fun i => Classical.choose_spec (hex i)⟩
            obtain ⟨vf, hvf⟩ := hvf
            refine ⟨_, _, by rw [hlen], by rw [hlen]; exact r2, fun i => vf (off + i), fun i e he => (hvf _ _ (hget i e he)).1, fun i hi => ?_, fun hne => ?_⟩
            · rw [hlen] at hi
              have he := List.getElem?_eq_getElem (l := B.es) (i := off + i) (by omega)
              rw [(hvf _ _ he).2.1, hs]
            · have hp : 0 < len := by rw [← hlen]; exact List.length_pos_iff.2 hne
              refine ⟨c, off * sz, by rw [r4 hp B c (vgood_of hB) hcb, hs], fun i j y hi hy => ?_⟩
              rw [hlen] at hi
              have he := List.getElem?_eq_getElem (l := B.es) (i := off + i) (by omega)
              have := (hvf _ _ he).2.2 j y hy
              rw [cell_at hh, ← this, hs]
              congr 1
              rw [Nat.add_mul]
      · cases h
    · cases h
  · cases h

end
end Go.Abs
