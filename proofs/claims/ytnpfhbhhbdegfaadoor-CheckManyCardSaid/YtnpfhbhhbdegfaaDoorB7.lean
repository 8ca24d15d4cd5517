/- Regions that draw their order: the abstract side: what may be exchanged. -/
import Derived.Test.YtnpfhbhhbdegfaaDoorB6
set_option linter.unusedSimpArgs false
set_option linter.unusedVariables false
namespace Go.Abs

theorem hide_length : ∀ (ids : List Nat) (h : Heap), (hide ids h).length = h.length
  | [], _ => rfl
  | b :: bs, h => by simp [hide, hide_length bs]
theorem hide_get : ∀ (ids : List Nat) (h : Heap) (b : Nat), (hide ids h)[b]? = if b ∈ ids ∧ b < h.length then some .hid else h[b]?
  | [], h, b => by simp [hide]
  | i :: is, h, b => by
    simp only [hide]
    rw [hide_get is]
    simp only [List.length_set, List.mem_cons]
    by_cases hb : b < h.length
    · by_cases hi : b ∈ is
      · simp [hi, hb]
      · by_cases hbi : b = i
        · subst hbi
          simp [hi, hb]
        · simp [hi, hbi, List.getElem?_set_ne (fun h => hbi h.symm)]
    · simp [hb, List.getElem?_eq_none (Nat.le_of_not_lt hb)]
theorem restore_length : ∀ (ids : List Nat) (h h' : Heap), (restore ids h h').length = h'.length
  | [], _, _ => rfl
  | b :: bs, h, h' => by
    simp only [restore]
    split <;> simp [restore_length bs]
theorem restore_get : ∀ (ids : List Nat) (h h' : Heap) (b : Nat), h'.length = h.length → (restore ids h h')[b]? = if b ∈ ids then h[b]? else h'[b]?
  | [], h, h', b, hl => by simp [restore]
  | i :: is, h, h', b, hl => by
    simp only [restore]
    split
    · rename_i e he
      have hi := (List.getElem?_eq_some_iff.1 he).1
      rw [restore_get is h _ b (by simpa using hl)]
      simp only [List.mem_cons]
      by_cases hb : b ∈ is
      · simp [hb]
      · by_cases hbi : b = i
        · subst hbi
          simp [hb, he, List.getElem?_set_self (show b < h'.length by omega)]
        · simp [hb, hbi, List.getElem?_set_ne (fun h => hbi h.symm)]
    · rename_i he
      rw [restore_get is h h' b hl]
      simp only [List.mem_cons]
      by_cases hb : b ∈ is
      · simp [hb]
      · by_cases hbi : b = i
        · subst hbi
          have h0 : h[b]? = none := he
          have := List.getElem?_eq_none_iff.1 h0
          simp [hb, h0, List.getElem?_eq_none (show h'.length ≤ b by omega)]
        · simp [hb, hbi]

theorem hide_congr {ids : List Nat} {h h2 : Heap} (hl : h2.length = h.length) (he : ∀ b, b ∉ ids → h2[b]? = h[b]?) : hide ids h2 = hide ids h := by
  apply List.ext_getElem?
  intro b
  rw [hide_get, hide_get, hl]
  by_cases hb : b ∈ ids
  · by_cases hlt : b < h.length
    · simp [hb, hlt]
    · simp [hlt, List.getElem?_eq_none (Nat.le_of_not_lt hlt), List.getElem?_eq_none (show h2.length ≤ b by omega)]
  · simp [hb, he b hb]

theorem fill_none_of {h : Heap} {t : Nat} : ∀ {bs : List Blk}, (∀ j, j < bs.length → h[t + j]? = some .free) → ∃ h', fill h t bs = some h'
  | [], _ => ⟨h, rfl⟩
  | B :: bs, hf => by
    have h0 : h[t]? = some .free := hf 0 (by simp)
    simp only [fill, h0]
    exact fill_some (fun j hj => by
      have := hf (j + 1) (by simp; omega)
      rw [List.getElem?_set_ne (by omega)]
      rwa [show t + 1 + j = t + (j + 1) by omega])
where
  fill_some {h : Heap} {t : Nat} : ∀ {bs : List Blk}, (∀ j, j < bs.length → h[t + j]? = some .free) → ∃ h', fill h t bs = some h' := fill_none_of

/-- In places that were kept free. -/
theorem place_at {h h' : Heap} {t : Nat} {bs : List Blk} (ht : t < h.length) : place h t bs = some h' ↔ fill h t bs = some h' := by
  unfold place
  rw [if_neg (by omega)]
theorem fill_get {h h' : Heap} {t : Nat} {bs : List Blk} (hf : fill h t bs = some h') (b : Nat) : h'[b]? = if t ≤ b ∧ b < t + bs.length then (bs[b - t]?).map .live else h[b]? := by
  obtain ⟨h1, h2, h3, h4⟩ := fill_spec hf
  split
  · rename_i hb
    have hlt : b - t < bs.length := by omega
    have := h3 (b - t) _ (List.getElem?_eq_getElem hlt)
    rw [show t + (b - t) = b by omega] at this
    rw [this, List.getElem?_eq_getElem hlt]
    rfl
  · rename_i hb
    exact h2 b (by omega)

/-! ### What an operation looks at -/
theorem get_congr {x : Opd} {fr fr2 : Frame} (h : ∀ t ∈ x.reads, fr2 t = fr t) : x.get fr2 = x.get fr := by
  cases x with
  | tmp t => exact h t (by simp [Opd.reads])
  | val v => rfl
theorem natOpt_congr {x : Option Opd} {fr fr2 : Frame} {d : Nat} (h : ∀ t ∈ readsO x, fr2 t = fr t) : natOpt fr2 d x = natOpt fr d x := by
  cases x with
  | none => rfl
  | some x => simp only [natOpt]; rw [get_congr (by simpa [readsO] using h)]
theorem maps_congr {xs : List Opd} {fr fr2 : Frame} (h : ∀ t ∈ xs.flatMap Opd.reads, fr2 t = fr t) : xs.map (Opd.get fr2) = xs.map (Opd.get fr) :=
  List.map_congr_left fun x hx => get_congr fun t ht => h t (List.mem_flatMap.2 ⟨x, hx, ht⟩)
theorem buildCells_congr {fr fr2 : Frame} : ∀ {ps : List (Nat × Nat × Opd)} {cs : List AV}, (∀ t ∈ ps.flatMap (fun p => p.2.2.reads), fr2 t = fr t) → buildCells cs fr2 ps = buildCells cs fr ps
  | [], _, _ => rfl
  | (o, n, x) :: ps, cs, h => by
    have hx : x.get fr2 = x.get fr := get_congr fun t ht => h t (by simp [ht])
    have ih := fun cs => buildCells_congr (cs := cs) (fr := fr) (fr2 := fr2) (ps := ps) fun t ht => h t (by
      simp only [List.flatMap_cons, List.mem_append]
      exact .inr ht)
    simp only [buildCells, hx, ih]
theorem buildEls_congr {fr fr2 : Frame} {sz : Nat} : ∀ {ps : List (Nat × Opd)} {es : List AV}, (∀ t ∈ ps.flatMap (fun p => p.2.reads), fr2 t = fr t) → buildEls sz es fr2 ps = buildEls sz es fr ps
  | [], _, _ => rfl
  | (i, x) :: ps, es, h => by
    have hx : x.get fr2 = x.get fr := get_congr fun t ht => h t (by simp [ht])
    have ih := fun es => buildEls_congr (es := es) (sz := sz) (fr := fr) (fr2 := fr2) (ps := ps) fun t ht => h t (by
      simp only [List.flatMap_cons, List.mem_append]
      exact .inr ht)
    simp only [buildEls, hx, ih]

theorem stepOp_congr {cf : CallF} {lo base tgt : Nat} {op : AOp} {fr fr2 : Frame} {h : Heap} (he : ∀ t ∈ op.reads, fr2 t = fr t) : stepOp cf lo base tgt op fr2 h = stepOp cf lo base tgt op fr h := by
  have g1 : ∀ {x : Opd}, (∀ t ∈ x.reads, t ∈ op.reads) → x.get fr2 = x.get fr := fun hx => get_congr fun t ht => he t (hx t ht)
  have g2 : ∀ {x : Option Opd} {d : Nat}, (∀ t ∈ readsO x, t ∈ op.reads) → natOpt fr2 d x = natOpt fr d x := fun hx => natOpt_congr fun t ht => he t (hx t ht)
  have g3 : ∀ {xs : List Opd}, (∀ t ∈ xs.flatMap Opd.reads, t ∈ op.reads) → xs.map (Opd.get fr2) = xs.map (Opd.get fr) := fun hx => maps_congr fun t ht => he t (hx t ht)
  cases op with
  | build z ps => simp only [stepOp]; rw [buildCells_congr he]
  | buildSl a ty sz len z ps => simp only [stepOp]; rw [buildEls_congr he]
  | slStr x l r =>
    simp only [stepOp]
    rw [g1 (x := x) (fun t ht => by simp [AOp.reads, ht])]
    split
    · rw [g2 (x := l) (fun t ht => by simp [AOp.reads, ht]), g2 (x := r) (fun t ht => by simp [AOp.reads, ht])]
    · rfl
  | slSl sz x l r m =>
    simp only [stepOp]
    rw [g1 (x := x) (fun t ht => by simp [AOp.reads, ht])]
    split
    · rw [g2 (x := l) (fun t ht => by simp [AOp.reads, ht]), g2 (x := r) (fun t ht => by simp [AOp.reads, ht])]
      cases m with
      | none => rfl
      | some m => simp only [g1 (x := m) (fun t ht => by simp [AOp.reads, readsO, ht])]
    · rfl
  | mkfn f a c => simp only [stepOp, g3 (xs := a) (fun t ht => by simp only [AOp.reads, List.mem_append]; exact .inl ht), g3 (xs := c) (fun t ht => by simp only [AOp.reads, List.mem_append]; exact .inr ht)]
  | call f as => simp only [stepOp, g1 (x := f) (fun t ht => by simp [AOp.reads, ht]), g3 (xs := as) (fun t ht => by simp only [AOp.reads, List.mem_append]; exact .inr ht)]
  | mx x xs => simp only [stepOp, g1 (x := x) (fun t ht => by simp [AOp.reads, ht]), g3 (xs := xs) (fun t ht => by simp only [AOp.reads, List.mem_append]; exact .inr ht)]
  | mn x xs => simp only [stepOp, g1 (x := x) (fun t ht => by simp [AOp.reads, ht]), g3 (xs := xs) (fun t ht => by simp only [AOp.reads, List.mem_append]; exact .inr ht)]
  | move x => simp only [stepOp, g1 (x := x) (fun t ht => by simp [AOp.reads, ht])]
  | pick c x y => simp only [stepOp, g1 (x := x) (fun t ht => by simp [AOp.reads, ht]), g1 (x := y) (fun t ht => by simp [AOp.reads, ht]), g1 (x := c) (fun t ht => by simp [AOp.reads, ht])]
  | bin _ x y => simp only [stepOp, g1 (x := x) (fun t ht => by simp [AOp.reads, ht]), g1 (x := y) (fun t ht => by simp [AOp.reads, ht])]
  | eqB _ x y => simp only [stepOp, g1 (x := x) (fun t ht => by simp [AOp.reads, ht]), g1 (x := y) (fun t ht => by simp [AOp.reads, ht])]
  | eqAgg _ x y => simp only [stepOp, g1 (x := x) (fun t ht => by simp [AOp.reads, ht]), g1 (x := y) (fun t ht => by simp [AOp.reads, ht])]
  | un _ x => simp only [stepOp, g1 (x := x) (fun t ht => by simp [AOp.reads, ht])]
  | conv _ x => simp only [stepOp, g1 (x := x) (fun t ht => by simp [AOp.reads, ht])]
  | b2s x => simp only [stepOp, g1 (x := x) (fun t ht => by simp [AOp.reads, ht])]
  | s2b _ x => simp only [stepOp, g1 (x := x) (fun t ht => by simp [AOp.reads, ht])]
  | box _ _ _ x => simp only [stepOp, g1 (x := x) (fun t ht => by simp [AOp.reads, ht])]
  | alloc => rfl
  | load _ _ x => simp only [stepOp, g1 (x := x) (fun t ht => by simp [AOp.reads, ht])]
  | store _ x y => simp only [stepOp, g1 (x := x) (fun t ht => by simp [AOp.reads, ht]), g1 (x := y) (fun t ht => by simp [AOp.reads, ht])]
  | nilChk x => simp only [stepOp, g1 (x := x) (fun t ht => by simp [AOp.reads, ht])]
  | mksl _ _ _ _ x y => simp only [stepOp, g1 (x := x) (fun t ht => by simp [AOp.reads, ht]), g1 (x := y) (fun t ht => by simp [AOp.reads, ht])]
  | faddr _ x => simp only [stepOp, g1 (x := x) (fun t ht => by simp [AOp.reads, ht])]
  | field _ _ _ _ x => simp only [stepOp, g1 (x := x) (fun t ht => by simp [AOp.reads, ht])]
  | iaddr _ x y => simp only [stepOp, g1 (x := x) (fun t ht => by simp [AOp.reads, ht]), g1 (x := y) (fun t ht => by simp [AOp.reads, ht])]
  | aaddr _ _ x y => simp only [stepOp, g1 (x := x) (fun t ht => by simp [AOp.reads, ht]), g1 (x := y) (fun t ht => by simp [AOp.reads, ht])]
  | isNil _ x => simp only [stepOp, g1 (x := x) (fun t ht => by simp [AOp.reads, ht])]
  | istr x y => simp only [stepOp, g1 (x := x) (fun t ht => by simp [AOp.reads, ht]), g1 (x := y) (fun t ht => by simp [AOp.reads, ht])]
  | extract x _ => simp only [stepOp, g1 (x := x) (fun t ht => by simp [AOp.reads, ht])]
  | append _ _ _ x y => simp only [stepOp, g1 (x := x) (fun t ht => by simp [AOp.reads, ht]), g1 (x := y) (fun t ht => by simp [AOp.reads, ht])]
  | clear _ x => simp only [stepOp, g1 (x := x) (fun t ht => by simp [AOp.reads, ht])]
  | lenSl x => simp only [stepOp, g1 (x := x) (fun t ht => by simp [AOp.reads, ht])]
  | lenStr x => simp only [stepOp, g1 (x := x) (fun t ht => by simp [AOp.reads, ht])]

theorem touch_congr {op : AOp} {fr fr2 : Frame} (he : ∀ t ∈ op.reads, fr2 t = fr t) : touch fr2 op = touch fr op := by
  have g1 : ∀ {x : Opd}, (∀ t ∈ x.reads, t ∈ op.reads) → x.get fr2 = x.get fr := fun hx => get_congr fun t ht => he t (hx t ht)
  cases op with
  | load _ _ x => simp only [touch, g1 (x := x) (fun t ht => by simp [AOp.reads, ht])]
  | b2s x => simp only [touch, g1 (x := x) (fun t ht => by simp [AOp.reads, ht])]
  | store _ x y => simp only [touch, g1 (x := x) (fun t ht => by simp [AOp.reads, ht])]
  | append _ _ _ x y => simp only [touch, g1 (x := x) (fun t ht => by simp [AOp.reads, ht])]
  | clear _ x => simp only [touch, g1 (x := x) (fun t ht => by simp [AOp.reads, ht])]
  | _ => rfl
theorem callsV_congr {stOf : Nat → Bool} {op : AOp} {fr fr2 : Frame} (he : ∀ t ∈ op.reads, fr2 t = fr t) : callsV stOf fr2 op = callsV stOf fr op := by
  cases op with
  | call f as => simp only [callsV, get_congr (x := f) fun t ht => he t (by simp [AOp.reads, ht])]
  | _ => rfl

end Go.Abs
