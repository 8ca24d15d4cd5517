/- Two operations of a region that draws its order may be exchanged. -/
import Derived.Test.YtnpfhbhhbdegfaaDoorB8
set_option linter.unusedSimpArgs false
set_option linter.unusedVariables false
namespace Go.Abs

/-- Calls of functions that write no old block. -/
def CfV (cf : CallF) (stOf : Nat → Bool) : Prop :=
  ∀ (f lo base tgt : Nat) (args : List AV) (h : Heap) (v : AV) (h' : Heap), stOf f = false → cf f lo base tgt args h = some (v, h') → tgt < h.length →
    ∀ b : Nat, b < tgt ∨ tgt + 2 ≤ b → sameC h[b]? h'[b]?

section
variable (cf : CallF) (stOf : Nat → Bool) (lo base n0 : Nat) (fr0 : Frame)

def eff (o : DOper) (fr : Frame) (log : Nat → Option Nat) (h : Heap) : Option (AV × Heap) :=
  if wants fr o.o.guard then
    if dCond stOf fr0 o fr log = true then
      if o.cls = .P then
        match stepOp cf lo base (n0 + o.slot) o.o.op fr [] with
        | some (v, _) => some (v, h)
        | none => none
      else
        match stepOp cf lo base (n0 + o.slot) o.o.op fr (hide (dIds n0 fr0 o) h) with
        | some (v, h') => if h'.length = h.length then some (v, restore (dIds n0 fr0 o) h h') else none
        | none => none
    else none
  else some (.undef, h)
def logOf (i : Nat) (o : DOper) (fr : Frame) (log : Nat → Option Nat) : Nat → Option Nat := if wants fr o.o.guard then dLog i o fr log else log

theorem stepD_eq (i : Nat) (o : DOper) (s : DSt) : stepD cf stOf lo base n0 fr0 i o s = (eff cf stOf lo base n0 fr0 o s.fr s.log s.h).map fun r => { fr := updO s.fr o.o.dst r.1, h := r.2, log := logOf i o s.fr s.log } := by
  unfold stepD eff logOf
  split
  · split
    · split
      · rename_i hP
        have : dLog i o s.fr s.log = s.log := by simp [dLog, hP]
        split <;> simp [this, *]
      · split
        · split <;> simp [*]
        · simp [*]
    · rfl
  · rfl
end

section
variable {cf : CallF} {stOf : Nat → Bool} {lo base n0 : Nat} {fr0 : Frame}

theorem wants_congr {q : Option (Nat × Bool)} {fr fr2 : Frame} (h : ∀ t w, q = some (t, w) → fr2 t = fr t) : wants fr2 q = wants fr q := by
  cases q with
  | none => rfl
  | some p => obtain ⟨t, w⟩ := p; simp only [wants, h t w rfl]

theorem AOper.reads_op {o : AOper} {t : Nat} (h : t ∈ o.op.reads) : t ∈ o.reads := List.mem_append_right _ h
theorem AOper.reads_guard {o : AOper} {t : Nat} {w : Bool} (h : o.guard = some (t, w)) : t ∈ o.reads := List.mem_append_left _ (by rw [h]; simp)

theorem dCond_congr {o : DOper} {fr fr2 : Frame} {log : Nat → Option Nat} (h : ∀ t ∈ o.o.reads, fr2 t = fr t) : dCond stOf fr0 o fr2 log = dCond stOf fr0 o fr log := by
  have h1 : touch fr2 o.o.op = touch fr o.o.op := touch_congr fun t ht => h t (AOper.reads_op ht)
  have h2 : callsV stOf fr2 o.o.op = callsV stOf fr o.o.op := callsV_congr fun t ht => h t (AOper.reads_op ht)
  unfold dCond rootOk
  rw [h1, h2]
theorem dLog_congr {i : Nat} {o : DOper} {fr fr2 : Frame} {log : Nat → Option Nat} (h : ∀ t ∈ o.o.reads, fr2 t = fr t) : dLog i o fr2 log = dLog i o fr log := by
  have h1 : touch fr2 o.o.op = touch fr o.o.op := touch_congr fun t ht => h t (AOper.reads_op ht)
  unfold dLog
  rw [h1]
theorem logOf_congr {i : Nat} {o : DOper} {fr fr2 : Frame} {log : Nat → Option Nat} (h : ∀ t ∈ o.o.reads, fr2 t = fr t) : logOf i o fr2 log = logOf i o fr log := by
  unfold logOf
  rw [dLog_congr h, wants_congr fun t w hg => h t (AOper.reads_guard hg)]
theorem eff_congr {o : DOper} {fr fr2 : Frame} {log : Nat → Option Nat} {h : Heap} (hr : ∀ t ∈ o.o.reads, fr2 t = fr t) : eff cf stOf lo base n0 fr0 o fr2 log h = eff cf stOf lo base n0 fr0 o fr log h := by
  unfold eff
  rw [dCond_congr hr, wants_congr fun t w hg => hr t (AOper.reads_guard hg), stepOp_congr (h := []) fun t ht => hr t (AOper.reads_op ht), stepOp_congr (h := hide (dIds n0 fr0 o) h) fun t ht => hr t (AOper.reads_op ht)]

theorem apart_reads {x y : AOper} (h : writesInto x y = false) (fr : Frame) (v : AV) : (∀ t ∈ y.reads, updO fr x.dst v t = fr t) ∧ ∀ d, x.dst = some d → y.dst ≠ some d := by
  unfold writesInto at h
  cases hd : x.dst with
  | none => exact ⟨fun t _ => rfl, by simp⟩
  | some d =>
    rw [hd] at h
    simp only [Bool.or_eq_false_iff, List.contains_eq_mem, decide_eq_false_iff_not, beq_eq_false_iff_ne, ne_eq] at h
    refine ⟨fun t ht => ?_, fun e he => by cases he; exact h.2⟩
    simp only [updO, upd]
    rw [if_neg (fun he : t = d => h.1 (he ▸ ht))]
theorem updO_comm {fr : Frame} {d e : Option Nat} {v u : AV} (h : ∀ k, d = some k → e ≠ some k) : updO (updO fr d v) e u = updO (updO fr e u) d v := by
  cases d with
  | none => rfl
  | some d =>
    cases e with
    | none => rfl
    | some e =>
      have hne : d ≠ e := fun he => h d rfl (by rw [he])
      funext t
      simp only [updO, upd]
      by_cases h1 : t = e
      · by_cases h2 : t = d
        · exact absurd (h2.symm.trans h1) hne
        · have hed : ¬ e = d := fun h => hne h.symm
          simp [h1, hed]
      · simp [h1]
theorem logOf_comm {i j : Nat} {x y : DOper} {fr : Frame} {log : Nat → Option Nat} (h : i ≠ j) : logOf j y fr (logOf i x fr log) = logOf i x fr (logOf j y fr log) := by
  unfold logOf dLog
  funext k
  by_cases h1 : k = i
  · have : k ≠ j := fun h2 => h (h1.symm.trans h2)
    cases wants fr x.o.guard <;> cases wants fr y.o.guard <;> cases x.cls <;> cases y.cls <;> simp [h1, h]
  · cases wants fr x.o.guard <;> cases wants fr y.o.guard <;> cases x.cls <;> cases y.cls <;> simp [h1]

theorem restore_hide (ids : List Nat) (h : Heap) : restore ids h (hide ids h) = h := by
  apply List.ext_getElem?
  intro b
  rw [restore_get _ _ _ _ (hide_length _ _)]
  by_cases hb : b ∈ ids
  · simp [hb]
  · simp [hb, hide_get]

theorem offLog_mono {log log2 : Nat → Option Nat} {b : Option Nat} {uo : List Nat} (h : ∀ k ∈ uo, log2 k = log k ∨ log2 k = none ∨ (∀ c, b = some c → log2 k ≠ some c)) (e : offLog log b uo = true) : offLog log2 b uo = true := by
  unfold offLog at *
  cases b with
  | none => rfl
  | some b =>
    simp only [List.all_eq_true, Bool.not_eq_true', beq_eq_false_iff_ne, ne_eq] at e ⊢
    intro k hk
    rcases h k hk with h1 | h1 | h1
    · rw [h1]; exact e k hk
    · rw [h1]; simp
    · exact h1 b rfl
theorem offLog_at {log : Nat → Option Nat} {b : Nat} {uo : List Nat} (e : offLog log (some b) uo = true) {k : Nat} (hk : k ∈ uo) : log k ≠ some b := by
  unfold offLog at e
  simp only [List.all_eq_true, Bool.not_eq_true', beq_eq_false_iff_ne, ne_eq] at e
  exact e k hk

theorem slotsOf_mem {o : DOper} {k : Nat} (h : k < nslot o.o.op) : o.slot + k ∈ slotsOf o := by
  simp [slotsOf]
  exact h
theorem subL_mem {xs ys : List Nat} (h : subL xs ys = true) {k : Nat} (hk : k ∈ xs) : k ∈ ys := by
  unfold subL at h
  simp only [List.all_eq_true, List.contains_eq_mem, decide_eq_true_eq] at h
  exact h k hk
theorem hidS_dIds {o : DOper} {k : Nat} (hP : o.cls ≠ .P) (hA : o.cls ≠ .A) (h : k ∈ o.hidS) : n0 + k ∈ dIds n0 fr0 o := by
  unfold dIds
  cases hc : o.cls with
  | P => exact absurd hc hP
  | A => exact absurd hc hA
  | C => exact List.mem_append_left _ (List.mem_map.2 ⟨k, h, rfl⟩)
  | L => exact List.mem_map.2 ⟨k, h, rfl⟩
  | W => exact List.mem_map.2 ⟨k, h, rfl⟩

theorem A_nslot {op : AOp} (h : clsOf op = .A) : nslot op ≠ 0 := by
  cases op with
  | buildSl a => cases a with
    | true => cases h
    | false => simp [nslot]
  | box => simp [nslot]
  | alloc => simp [nslot]
  | mksl => simp [nslot]
  | _ => cases h

/-- A making operation as a filling of places. -/
theorem A_eff {o : DOper} {fr : Frame} {h h2 : Heap} {v : AV} {total : Nat} (hA : o.cls = .A) (hw : wfD total o = true) (hl : h.length = n0 + total) (e : stepOp cf lo base (n0 + o.slot) o.o.op fr h = some (v, h2)) :
    ∃ bs : List Blk, (∀ k, k < bs.length → o.slot + k ∈ slotsOf o) ∧ fill h (n0 + o.slot) bs = some h2 ∧ ∀ h3 h4 : Heap, h3.length = h.length → fill h3 (n0 + o.slot) bs = some h4 → stepOp cf lo base (n0 + o.slot) o.o.op fr h3 = some (v, h4) := by
  unfold wfD at hw
  simp only [Bool.and_eq_true, beq_iff_eq, List.all_eq_true, decide_eq_true_eq] at hw
  have hn := A_nslot (hw.1 ▸ hA)
  have hs := hw.2 _ (slotsOf_mem (o := o) (k := 0) (by omega))
  obtain ⟨bs, b1, b2, b3, b4⟩ := A_fills (hw.1 ▸ hA) (.inl (show n0 + o.slot < h.length by omega)) e
  refine ⟨bs, fun k hk => slotsOf_mem (by omega), ?_, fun h3 h4 hl3 hf => b4 h3 h4 (by omega) (fun _ => hf) (fun hb => ?_)⟩
  · by_cases hb : bs = []
    · subst hb; rw [b3 rfl]; rfl
    · exact b2 hb
  · subst hb
    simp only [fill, Option.some.injEq] at hf
    exact hf.symm

theorem fill_free {h h2 : Heap} {t : Nat} {bs : List Blk} (e : fill h t bs = some h2) : ∀ j, j < bs.length → h[t + j]? = some .free := fun j hj => (fill_spec e).2.2.2 (t + j) (by omega) (by omega)

/-- Filling, and an operation that does not see the filled places. -/
theorem swap_fill_X {h ha h' : Heap} {t : Nat} {bs : List Blk} {ids : List Nat} (hf : fill h t bs = some ha) (hin : ∀ k, k < bs.length → t + k ∈ ids) (hl : h'.length = h.length) :
    hide ids ha = hide ids h ∧ fill (restore ids h h') t bs = some (restore ids ha h') := by
  have hla := (fill_spec hf).1
  refine ⟨hide_congr hla fun b hb => ?_, ?_⟩
  · rw [fill_get hf, if_neg]
    rintro ⟨h1, h2⟩
    refine hb ?_
    have := hin (b - t) (by omega)
    rwa [show t + (b - t) = b by omega] at this
  · obtain ⟨h3, h3e⟩ := fill_none_of (h := restore ids h h') (t := t) (bs := bs) fun j hj => by
      rw [restore_get _ _ _ _ hl, if_pos (hin j hj)]
      exact fill_free hf j hj
    rw [h3e]
    congr 1
    apply List.ext_getElem?
    intro b
    rw [fill_get h3e, restore_get _ _ _ _ hl, restore_get _ ha _ _ (by omega), fill_get hf]
    by_cases hb : t ≤ b ∧ b < t + bs.length
    · have := hin (b - t) (by omega)
      rw [show t + (b - t) = b by omega] at this
      simp [hb, this]
    · simp [hb]

end
end Go.Abs
