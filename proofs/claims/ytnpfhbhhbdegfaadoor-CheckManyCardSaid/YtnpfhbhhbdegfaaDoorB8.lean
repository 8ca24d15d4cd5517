/- What operations of each class do to the heap. -/
import Derived.Test.YtnpfhbhhbdegfaaDoorB7
set_option linter.unusedSimpArgs false
set_option linter.unusedVariables false
namespace Go.Abs

/-- The same content: only whether it may be written may differ. -/
def sameC : Option Ent → Option Ent → Prop
  | some (.live B), some (.live B') => B'.ty = B.ty ∧ B'.sz = B.sz ∧ B'.es = B.es
  | x, y => x = y

theorem sameC.refl : ∀ x, sameC x x
  | none => rfl
  | some .free => rfl
  | some .hid => rfl
  | some (.live B) => ⟨rfl, rfl, rfl⟩
theorem sameC.of_eq {x y : Option Ent} (h : y = x) : sameC x y := h ▸ sameC.refl x
theorem sameC.trans {x y z : Option Ent} (h1 : sameC x y) (h2 : sameC y z) : sameC x z := by
  cases x with
  | none => simp [sameC] at h1; subst h1; exact h2
  | some x =>
    cases x with
    | free => simp [sameC] at h1; subst h1; exact h2
    | hid => simp [sameC] at h1; subst h1; exact h2
    | live B =>
      cases y with
      | none => simp [sameC] at h1
      | some y =>
        cases y with
        | free => simp [sameC] at h1
        | hid => simp [sameC] at h1
        | live B' =>
          cases z with
          | none => simp [sameC] at h2
          | some z =>
            cases z with
            | free => simp [sameC] at h2
            | hid => simp [sameC] at h2
            | live B2 => exact ⟨h2.1.trans h1.1, h2.2.1.trans h1.2.1, h2.2.2.trans h1.2.2⟩
theorem sameC.live {x y : Option Ent} (h : sameC x y) {B : Blk} (hx : x = some (.live B)) : ∃ B', y = some (.live B') ∧ B'.sz = B.sz ∧ B'.es = B.es := by
  subst hx
  cases y with
  | none => simp [sameC] at h
  | some y =>
    cases y with
    | free => simp [sameC] at h
    | hid => simp [sameC] at h
    | live B' => exact ⟨B', rfl, h.2.1, h.2.2⟩
theorem sameC.back {x y : Option Ent} (h : sameC x y) {B : Blk} (hy : y = some (.live B)) : ∃ B', x = some (.live B') ∧ B'.sz = B.sz ∧ B'.es = B.es := by
  subst hy
  cases x with
  | none => simp [sameC] at h
  | some y =>
    cases y with
    | free => simp [sameC] at h
    | hid => simp [sameC] at h
    | live B' => exact ⟨B', rfl, h.2.1.symm, h.2.2.symm⟩

theorem freeze1_same {lo : Nat} {h h' : Heap} {b : Nat} (e : freeze1 lo h b = some h') : h'.length = h.length ∧ ∀ i : Nat, sameC h[i]? h'[i]? := by
  unfold freeze1 at e
  split at e
  · rename_i B hB
    split at e
    · cases e; exact ⟨rfl, fun i => .refl _⟩
    · split at e
      · cases e
        refine ⟨by simp, fun i => ?_⟩
        by_cases hi : b = i
        · subst hi
          have hb := blk_eq.1 hB
          rw [List.getElem?_set_self (List.getElem?_eq_some_iff.1 hb).1, hb]
          exact ⟨rfl, rfl, rfl⟩
        · rw [List.getElem?_set_ne hi]; exact .refl _
      · cases e
  · cases e
theorem freeze_same {lo : Nat} : ∀ {bs : List Nat} {h h' : Heap}, freeze lo h bs = some h' → h'.length = h.length ∧ ∀ i : Nat, sameC h[i]? h'[i]?
  | [], h, h', e => by simp only [freeze, Option.some.injEq] at e; subst e; exact ⟨rfl, fun i => .refl _⟩
  | b :: bs, h, h', e => by
    simp only [freeze] at e
    split at e
    · rename_i h1 e1
      obtain ⟨l1, s1⟩ := freeze1_same e1
      obtain ⟨l2, s2⟩ := freeze_same e
      exact ⟨l2.trans l1, fun i => (s1 i).trans (s2 i)⟩
    · cases e

section
variable {cf : CallF} {lo base tgt : Nat} {op : AOp} {fr : Frame} {h h' : Heap} {v : AV}

theorem P_indep (hc : clsOf op = .P) (e : stepOp cf lo base tgt op fr [] = some (v, h')) (h2 : Heap) : stepOp cf lo base tgt op fr h2 = some (v, h2) := by
  have p1 : ∀ {x : Option AV}, put1 [] x = some (v, h') → put1 h2 x = some (v, h2) := fun {x} hx => by
    obtain ⟨rfl, _⟩ := put1_eq hx
    rfl
  cases op with
  | build z ps => simp only [stepOp] at e ⊢; split at e <;> cases e; rfl
  | buildSl a ty sz len z ps =>
    cases a with
    | false => cases hc
    | true =>
      simp only [stepOp] at e ⊢
      split at e
      · split at e
        · rename_i hz
          rw [if_pos hz]
          split at e
          · rename_i h0
            cases e
            rw [if_pos h0]
          · rename_i h0
            rw [if_neg h0]
            simp only [if_true] at e ⊢
            cases e
            rfl
        · cases e
      · cases e
  | slStr x l r =>
    simp only [stepOp] at e ⊢
    split at e
    · split at e
      · split at e
        · rename_i hq; cases e; rw [if_pos hq]
        · cases e
      · cases e
    · cases e
  | slSl sz x l r m =>
    simp only [stepOp] at e ⊢
    split at e
    · split at e
      · split at e
        · exact p1 e
        · split at e
          · exact p1 e
          · cases e
      · cases e
    · cases e
  | mkfn f a c => simp only [stepOp] at e ⊢; cases e; rfl
  | mx x xs => exact p1 e
  | mn x xs => exact p1 e
  | move x => simp only [stepOp] at e ⊢; cases e; rfl
  | pick c x y => simp only [stepOp] at e ⊢; split at e <;> cases e; rfl
  | bin _ x y => exact p1 e
  | eqB _ x y => simp only [stepOp] at e ⊢; split at e <;> cases e; rfl
  | eqAgg _ x y =>
    simp only [stepOp] at e ⊢
    split at e
    · split at e
      · rename_i hq; cases e; rw [if_pos hq]
      · cases e
    · cases e
  | un _ x => exact p1 e
  | conv _ x => simp only [stepOp] at e ⊢; split at e <;> cases e; rfl
  | s2b _ x =>
    simp only [stepOp] at e ⊢
    split at e
    · split at e
      · rename_i hq; cases e; rw [if_pos hq]
      · cases e
    · cases e
  | nilChk x => simp only [stepOp] at e ⊢; split at e <;> cases e <;> rfl
  | faddr _ x => exact p1 e
  | field _ _ _ _ x =>
    simp only [stepOp] at e ⊢
    split at e
    · rename_i hx; rw [if_pos hx]; exact p1 e
    · cases e
  | iaddr _ x y => exact p1 e
  | aaddr _ _ x y =>
    simp only [stepOp] at e ⊢
    split at e
    · split at e
      · rename_i hl; rw [if_pos hl]; exact p1 e
      · cases e
    · cases e
  | isNil _ x =>
    simp only [stepOp] at e ⊢
    split at e
    · cases e; rfl
    · split at e
      · split at e
        · cases e
        · rename_i h0; rw [if_neg h0]; cases e; rfl
      · cases e
  | istr x y => exact p1 e
  | extract x _ =>
    simp only [stepOp] at e ⊢
    split at e
    · exact p1 e
    · cases e
  | lenSl x => simp only [stepOp] at e ⊢; split at e <;> cases e; rfl
  | lenStr x => simp only [stepOp] at e ⊢; split at e <;> cases e; rfl
  | _ => cases hc

/-- A reading operation reads one block. -/
theorem L_reads (hc : clsOf op = .L) (e : stepOp cf lo base tgt op fr h = some (v, h')) : h' = h ∧ (∀ b, touch fr op = some b → ∃ B, blk h b = some B ∨ v = .str []) ∧
    ∀ h2 : Heap, (∀ b B, touch fr op = some b → blk h b = some B → ∃ B2, blk h2 b = some B2 ∧ B2.sz = B.sz ∧ B2.es = B.es) → stepOp cf lo base tgt op fr h2 = some (v, h2) := by
  have gd : ∀ {b g : Nat} {B B2 : Blk} {h2 : Heap}, good h b g = some B → blk h2 b = some B2 → B2.es = B.es → good h2 b g = some B2 := fun hg hb he => good_eq.2 ⟨hb, by rw [he]; exact (good_eq.1 hg).2⟩
  cases op with
  | load ag n x =>
    simp only [stepOp] at e ⊢
    obtain ⟨e1, rfl⟩ := put1_eq e
    simp only [touch]
    generalize x.get fr = X at e1 ⊢
    unfold loadAV at e1
    split at e1
    · rename_i b g i o
      split at e1
      · rename_i B hB
        refine ⟨by first | rfl | trivial, fun b' hb' => ⟨B, .inl ?_⟩, fun h2 h3 => ?_⟩
        · simp only [ptrBlk, Option.some.injEq] at hb'
          subst hb'
          exact (good_eq.1 hB).1
        · obtain ⟨B2, q1, q2, q3⟩ := h3 b B rfl (good_eq.1 hB).1
          simp only [loadAV, gd hB q1 q3, q2, q3]
          simp only [e1]
          rfl
      · cases e1
    · refine ⟨by first | rfl | trivial, fun b hb => by simp [ptrBlk] at hb, fun h2 h3 => ?_⟩
      simp only [loadAV, e1]
      rfl
    · cases e1
  | b2s x =>
    simp only [stepOp] at e ⊢
    simp only [touch]
    generalize x.get fr = X at e ⊢
    split at e
    · rename_i xs hxs
      split at e
      · rename_i l hl
        cases e
        unfold readSl at hxs
        split at hxs
        · cases hxs
          refine ⟨by first | rfl | trivial, fun b hb => by simp [ptrBlk] at hb, fun h2 h3 => by simp [readSl, hl]⟩
        · cases hxs
          refine ⟨by first | rfl | trivial, fun b hb => by simp [ptrBlk] at hb, fun h2 h3 => by simp [readSl, hl]⟩
        · split at hxs
          · rename_i hs
            cases hxs
            refine ⟨by first | rfl | trivial, fun b hb => by simp [ptrBlk] at hb, fun h2 h3 => by simp only [readSl, if_pos hs, hl]⟩
          · cases hxs
        · rename_i s b g off len
          split at hxs
          · rename_i B hB
            refine ⟨by first | rfl | trivial, fun b' hb' => ⟨B, .inl ?_⟩, fun h2 h3 => ?_⟩
            · simp only [ptrBlk, Option.some.injEq] at hb'
              subst hb'
              exact (good_eq.1 hB).1
            · obtain ⟨B2, q1, q2, q3⟩ := h3 b B rfl (good_eq.1 hB).1
              simp only [readSl, gd hB q1 q3, q2, q3, hxs, hl]
          · cases hxs
        · cases hxs
      · cases e
    · cases e
  | buildSl a => cases a <;> cases hc
  | _ => cases hc

/-- A making operation fills its places. -/
theorem A_fills (hc : clsOf op = .A) (ht : tgt < h.length ∨ nslot op = 0) (e : stepOp cf lo base tgt op fr h = some (v, h')) : ∃ bs : List Blk, bs.length ≤ nslot op ∧ (bs ≠ [] → fill h tgt bs = some h') ∧ (bs = [] → h' = h) ∧
    ∀ h2 h2' : Heap, tgt < h2.length → (bs ≠ [] → fill h2 tgt bs = some h2') → (bs = [] → h2' = h2) → stepOp cf lo base tgt op fr h2 = some (v, h2') := by
  have bx : ∀ {ty sz : Nat} {gh : List (Nat × Nat × Nat)} {x : AV}, (tgt < h.length) → boxAV h tgt ty sz gh x = some (v, h') → ∃ bs : List Blk, bs.length ≤ 1 + gh.length ∧ (bs ≠ [] → fill h tgt bs = some h') ∧ (bs = [] → h' = h) ∧
      ∀ h2 h2' : Heap, tgt < h2.length → (bs ≠ [] → fill h2 tgt bs = some h2') → (bs = [] → h2' = h2) → boxAV h2 tgt ty sz gh x = some (v, h2') := by
    intro ty sz gh x ht e
    unfold boxAV at e
    split at e
    · rename_i hsz
      split at e
      · split at e
        · rename_i h1 hp
          cases e
          refine ⟨_, by simp, fun _ => (place_at (h' := h') ht).1 hp, by simp, fun h2 h2' ht2 hf _ => ?_⟩
          unfold boxAV
          rw [if_pos hsz]
          simp only [(place_at (h' := h2') ht2).2 (hf (by simp))]
        · cases e
      · rename_i hgh
        simp only at e
        split at e
        · rename_i h1 hp
          split at e
          · rename_i ha
            cases e
            refine ⟨_, by simp [(ghosts_spec x gh (tgt + 1)).1, Nat.add_comm], fun _ => (place_at (h' := h') ht).1 hp, by simp, fun h2 h2' ht2 hf _ => ?_⟩
            unfold boxAV
            rw [if_pos hsz]
            simp only [(place_at (h' := h2') ht2).2 (hf (by simp)), ha, if_true]
          · cases e
        · cases e
    · cases e
  have htlt : nslot op ≠ 0 → tgt < h.length := fun hn => ht.resolve_right hn
  cases op with
  | box ty sz gh x => exact bx (htlt (by simp [nslot])) e
  | alloc ty sz gh z => exact bx (htlt (by simp [nslot])) e
  | mksl ty sz bytes z l c =>
    simp only [stepOp] at e ⊢
    split at e
    · rename_i n m hn hm
      split at e
      · rename_i hq
        split at e
        · rename_i h1 hp
          cases e
          refine ⟨_, by simp [nslot], fun _ => (place_at (h' := h') (htlt (by simp [nslot]))).1 hp, by simp, fun h2 h2' ht2 hf _ => ?_⟩
          rw [if_pos hq]
          simp only [(place_at (h' := h2') ht2).2 (hf (by simp))]
        · cases e
      · cases e
    · cases e
  | buildSl a ty sz len z ps =>
    cases a with
    | true => cases hc
    | false =>
      simp only [stepOp] at e ⊢
      split at e
      · rename_i es hes
        split at e
        · rename_i hz
          split at e
          · rename_i h0
            cases e
            refine ⟨[], by simp, by simp, by simp, fun h2 h2' ht2 _ h3 => ?_⟩
            rw [if_pos hz, if_pos h0, h3 rfl]
          · rename_i h0
            simp only [Bool.false_eq_true, if_false] at e ⊢
            split at e
            · rename_i h1 hp
              cases e
              refine ⟨_, by simp [nslot], fun _ => (place_at (h' := h') (htlt (by simp [nslot]))).1 hp, by simp, fun h2 h2' ht2 hf _ => ?_⟩
              rw [if_pos hz, if_neg h0]
              simp only [(place_at (h' := h2') ht2).2 (hf (by simp))]
            · cases e
        · cases e
      · cases e
  | _ => cases hc

/-- A writing operation writes one block, and its own place. -/
theorem W_writes (hc : clsOf op = .W) (ht : nslot op = 0 ∨ tgt < h.length) (e : stepOp cf lo base tgt op fr h = some (v, h')) : h'.length = h.length ∧ ∀ b : Nat, touch fr op ≠ some b → (nslot op = 0 ∨ b ≠ tgt) → sameC h[b]? h'[b]? := by
  have st : ∀ {h1 : Heap} {b : Nat} {E : Ent} {bs : List Nat}, freeze lo h bs = some h1 → (h1.set b E).length = h.length ∧ ∀ i : Nat, some b ≠ some i → (nslot op = 0 ∨ i ≠ tgt) → sameC h[i]? (h1.set b E)[i]? := fun {h1 b E bs} hf => by
    obtain ⟨l1, s1⟩ := freeze_same hf
    refine ⟨by simpa using l1, fun i hi _ => ?_⟩
    rw [List.getElem?_set_ne (fun h => hi (by rw [h]))]
    exact s1 i
  cases op with
  | store n x y =>
    simp only [stepOp] at e
    obtain ⟨e1, _⟩ := putU_eq e
    simp only [touch]
    generalize x.get fr = X at e1 ⊢
    unfold storeAV at e1
    split at e1
    · split at e1
      · split at e1
        · split at e1
          · cases e1
          · split at e1
            · split at e1
              · split at e1
                · cases e1
                  exact st (bs := []) rfl
                · cases e1
              · split at e1
                · split at e1
                  · rename_i hf _
                    split at e1
                    · cases e1
                      exact st hf
                    · cases e1
                  · cases e1
                · cases e1
            · cases e1
        · cases e1
      · cases e1
    · cases e1
  | append ty sz bytes x y =>
    simp only [stepOp] at e
    simp only [touch]
    split at e
    · generalize x.get fr = X at e ⊢
      unfold appendAV at e
      split at e
      · split at e
        · cases e
          exact ⟨rfl, fun b _ _ => .refl _⟩
        split at e
        · split at e
          · rename_i h1 hp
            cases e
            have hf := (place_at (h' := h') (ht.resolve_left (by simp [nslot]))).1 hp
            refine ⟨(fill_spec hf).1, fun b _ hb => ?_⟩
            have hb := hb.resolve_left (by simp [nslot])
            rw [fill_get hf, if_neg (by simp; omega)]
            exact .refl _
          · cases e
        · cases e
      · split at e
        · split at e
          · split at e
            · cases e
            · split at e
              · cases e
                exact st (bs := []) rfl
              · split at e
                · split at e
                  · rename_i hf
                    split at e
                    · cases e
                      exact st hf
                    · cases e
                  · cases e
                · cases e
          · cases e
        · cases e
      · cases e
    · cases e
  | clear z x =>
    simp only [stepOp] at e
    obtain ⟨e1, _⟩ := putU_eq e
    simp only [touch]
    generalize x.get fr = X at e1 ⊢
    unfold clearAV at e1
    split at e1
    · cases e1
      exact ⟨rfl, fun _ _ _ => .refl _⟩
    · split at e1
      · split at e1
        · split at e1
          · cases e1
          · split at e1
            · cases e1
              exact st (bs := []) rfl
            · cases e1
        · cases e1
      · cases e1
    · cases e1
  | buildSl a => cases a <;> cases hc
  | _ => cases hc

end
end Go.Abs
