/- The exchange itself, class by class. -/
import Derived.Test.YtnpfhbhhbdegfaaDoorB9
set_option linter.unusedSimpArgs false
set_option linter.unusedVariables false
namespace Go.Abs

section
variable {cf : CallF} {stOf : Nat → Bool} {lo base n0 : Nat} {fr0 : Frame}

/-- What an operation that sees memory comes to. -/
theorem eff_some {o : DOper} {fr : Frame} {log : Nat → Option Nat} {h h2 : Heap} {v : AV} (hw : wants fr o.o.guard = true) (hP : o.cls ≠ .P) (e : eff cf stOf lo base n0 fr0 o fr log h = some (v, h2)) :
    dCond stOf fr0 o fr log = true ∧ ∃ h', stepOp cf lo base (n0 + o.slot) o.o.op fr (hide (dIds n0 fr0 o) h) = some (v, h') ∧ h'.length = h.length ∧ h2 = restore (dIds n0 fr0 o) h h' := by
  unfold eff at e
  rw [if_pos hw] at e
  by_cases hd : dCond stOf fr0 o fr log = true
  · rw [if_pos hd, if_neg hP] at e
    split at e
    · rename_i v' h' he
      split at e
      · rename_i hl
        cases e
        exact ⟨hd, h', he, hl, rfl⟩
      · cases e
    · cases e
  · rw [if_neg hd] at e; cases e
theorem eff_of {o : DOper} {fr : Frame} {log : Nat → Option Nat} {h h' : Heap} {v : AV} (hw : wants fr o.o.guard = true) (hP : o.cls ≠ .P) (hd : dCond stOf fr0 o fr log = true)
    (he : stepOp cf lo base (n0 + o.slot) o.o.op fr (hide (dIds n0 fr0 o) h) = some (v, h')) (hl : h'.length = h.length) : eff cf stOf lo base n0 fr0 o fr log h = some (v, restore (dIds n0 fr0 o) h h') := by
  unfold eff
  rw [if_pos hw, if_pos hd, if_neg hP]
  simp only [he]
  rw [if_pos hl]
theorem eff_length {o : DOper} {fr : Frame} {log : Nat → Option Nat} {h h2 : Heap} {v : AV} (e : eff cf stOf lo base n0 fr0 o fr log h = some (v, h2)) : h2.length = h.length := by
  unfold eff at e
  split at e
  · split at e
    · split at e
      · split at e
        · cases e; rfl
        · cases e
      · split at e
        · split at e
          · rename_i hl
            cases e
            rw [restore_length, hl]
          · cases e
        · cases e
    · cases e
  · cases e; rfl
/-- An operation that sees nothing. -/
theorem eff_P {o : DOper} {fr : Frame} {log : Nat → Option Nat} {h h2 : Heap} {v : AV} (hP : wants fr o.o.guard = false ∨ o.cls = .P) (e : eff cf stOf lo base n0 fr0 o fr log h = some (v, h2)) :
    h2 = h ∧ (∀ log2 h3, eff cf stOf lo base n0 fr0 o fr log2 h3 = some (v, h3)) ∧ ∀ i log2, logOf i o fr log2 = log2 := by
  cases hw : wants fr o.o.guard with
  | false =>
    unfold eff at e
    rw [hw] at e
    simp only [Bool.false_eq_true, if_false, Option.some.injEq, Prod.mk.injEq] at e
    obtain ⟨rfl, rfl⟩ := e
    refine ⟨rfl, fun log2 h3 => ?_, fun i log2 => ?_⟩
    · unfold eff
      rw [hw]
      rfl
    · unfold logOf
      rw [hw]
      rfl
  | true =>
    have hP := hP.resolve_left (by rw [hw]; simp)
    have hd : ∀ log2, dCond stOf fr0 o fr log2 = true := fun log2 => by simp [dCond, hP]
    unfold eff at e
    rw [if_pos hw, if_pos (hd log), if_pos hP] at e
    split at e
    · rename_i v' h0 he
      cases e
      refine ⟨rfl, fun log2 h3 => ?_, fun i log2 => ?_⟩
      · unfold eff
        rw [if_pos hw, if_pos (hd log2), if_pos hP]
        simp only [he]
      · unfold logOf dLog
        rw [if_pos hw, hP]
    · cases e

theorem dCond_A {o : DOper} {fr : Frame} {log : Nat → Option Nat} (h : o.cls = .A) : dCond stOf fr0 o fr log = true := by simp [dCond, h]
theorem logOf_A {i : Nat} {o : DOper} {fr : Frame} {log : Nat → Option Nat} (h : o.cls = .A) : logOf i o fr log = log := by simp [logOf, dLog, h]
theorem dIds_A {o : DOper} (h : o.cls = .A) : dIds n0 fr0 o = [] := by simp [dIds, h]

/-- A making operation's step. -/
theorem A_step {o : DOper} {fr : Frame} {log : Nat → Option Nat} {h h2 : Heap} {v : AV} {total : Nat} (hw : wants fr o.o.guard = true) (hA : o.cls = .A) (hwf : wfD total o = true) (hl : h.length = n0 + total) (e : eff cf stOf lo base n0 fr0 o fr log h = some (v, h2)) :
    ∃ bs : List Blk, (∀ k, k < bs.length → o.slot + k ∈ slotsOf o) ∧ fill h (n0 + o.slot) bs = some h2 ∧ ∀ (log2 : Nat → Option Nat) (h3 h4 : Heap), h3.length = h.length → fill h3 (n0 + o.slot) bs = some h4 → eff cf stOf lo base n0 fr0 o fr log2 h3 = some (v, h4) := by
  have hP : o.cls ≠ .P := by rw [hA]; simp
  obtain ⟨_, h', e1, e2, rfl⟩ := eff_some hw hP e
  rw [dIds_A hA] at e1 ⊢
  simp only [hide, restore] at e1 ⊢
  obtain ⟨bs, b1, b2, b3⟩ := A_eff hA hwf hl e1
  refine ⟨bs, b1, b2, fun log2 h3 h4 hl3 hf => ?_⟩
  have := eff_of (cf := cf) (stOf := stOf) (lo := lo) (base := base) (n0 := n0) (fr0 := fr0) (log := log2) (h := h3) hw hP (dCond_A hA) (by rw [dIds_A hA]; exact b3 h3 h4 hl3 hf) ((fill_spec hf).1)
  rw [dIds_A hA] at this
  exact this

/-- The place of a block in a region of places. -/
def Seen (x : DOper) (fr : Frame) (h : Heap) (b : Nat) : Prop := touch fr x.o.op = some b ∧ b ∉ dIds n0 fr0 x ∧ ∃ B, h[b]? = some (.live B)

theorem L_step {o : DOper} {fr : Frame} {log : Nat → Option Nat} {h h2 : Heap} {v : AV} (hw : wants fr o.o.guard = true) (hL : o.cls = .L) {total : Nat} (hwf : wfD total o = true) (e : eff cf stOf lo base n0 fr0 o fr log h = some (v, h2)) :
    h2 = h ∧ offLog log (touch fr o.o.op) o.uo = true ∧ rootOk fr0 fr o = true ∧
      ∀ (log2 : Nat → Option Nat) (h3 : Heap), h3.length = h.length → offLog log2 (touch fr o.o.op) o.uo = true → (∀ (b : Nat) (B : Blk), touch fr o.o.op = some b → b ∉ dIds n0 fr0 o → h[b]? = some (.live B) → ∃ B2, h3[b]? = some (.live B2) ∧ B2.sz = B.sz ∧ B2.es = B.es) →
        eff cf stOf lo base n0 fr0 o fr log2 h3 = some (v, h3) := by
  have hP : o.cls ≠ .P := by rw [hL]; simp
  obtain ⟨hd, h', e1, e2, rfl⟩ := eff_some hw hP e
  unfold wfD at hwf
  simp only [Bool.and_eq_true, beq_iff_eq] at hwf
  obtain ⟨rfl, l2, l3⟩ := L_reads (hwf.1 ▸ hL) e1
  have hd2 : offLog log (touch fr o.o.op) o.uo = true ∧ rootOk fr0 fr o = true := by simpa [dCond, hL] using hd
  refine ⟨restore_hide _ _, hd2.1, hd2.2, fun log2 h3 hl ho hb => ?_⟩
  have hs := l3 (hide (dIds n0 fr0 o) h3) fun b B ht hB => by
    have hB := blk_eq.1 hB
    rw [hide_get] at hB
    split at hB
    · cases hB
    · rename_i hn
      have hlt := (List.getElem?_eq_some_iff.1 hB).1
      have hnb : b ∉ dIds n0 fr0 o := fun hm => hn ⟨hm, hlt⟩
      obtain ⟨B2, q1, q2⟩ := hb b B ht hnb hB
      refine ⟨B2, blk_eq.2 ?_, q2⟩
      rw [hide_get, if_neg (fun h => hnb h.1)]
      exact q1
  have := eff_of (cf := cf) (stOf := stOf) (lo := lo) (base := base) (n0 := n0) (fr0 := fr0) (log := log2) (h := h3) hw hP (by simp [dCond, hL, ho, hd2.2]) hs (hide_length _ _)
  rwa [restore_hide] at this

/-- What an operation that sees memory leaves as it was, for one that reads a block beside it. -/
theorem X_leaves (hV : CfV cf stOf) {x y : DOper} {fr : Frame} {log : Nat → Option Nat} {h h2 : Heap} {v : AV} {total : Nat} (hw : wants fr y.o.guard = true) (hY : y.cls = .W ∨ y.cls = .C) (hwf : wfD total y = true) (hl : h.length = n0 + total)
    (hx : x.cls = .L) (hsub : subL (slotsOf y) x.hidS = true) (hroot : y.cls = .C → rootIn x y = true) (hrx : rootOk fr0 fr x = true) (e : eff cf stOf lo base n0 fr0 y fr log h = some (v, h2))
    {b : Nat} (hb : touch fr x.o.op = some b) (hnb : b ∉ dIds n0 fr0 x) (hne : y.cls = .W → touch fr y.o.op ≠ some b) : sameC h[b]? h2[b]? := by
  have hyP : y.cls ≠ .P := by rcases hY with h | h <;> rw [h] <;> simp
  have hyA : y.cls ≠ .A := by rcases hY with h | h <;> rw [h] <;> simp
  have hxP : x.cls ≠ .P := by rw [hx]; simp
  have hxA : x.cls ≠ .A := by rw [hx]; simp
  obtain ⟨hd, h', e1, e2, rfl⟩ := eff_some hw hyP e
  rw [restore_get _ _ _ _ e2]
  split
  · exact .refl _
  · rename_i hby
    have hh : (hide (dIds n0 fr0 y) h)[b]? = h[b]? := by rw [hide_get, if_neg (fun h => hby h.1)]
    rw [← hh]
    unfold wfD at hwf
    simp only [Bool.and_eq_true, beq_iff_eq, List.all_eq_true, decide_eq_true_eq] at hwf
    have slot : ∀ k, k < nslot y.o.op → n0 + (y.slot + k) ≠ b := fun k hk he => hnb (he ▸ hidS_dIds hxP hxA (subL_mem hsub (slotsOf_mem hk)))
    rcases hY with hY | hY
    · refine (W_writes (hwf.1 ▸ hY) ?_ e1).2 b (hne hY) ?_
      · rcases Nat.eq_zero_or_pos (nslot y.o.op) with h0 | h0
        · exact .inl h0
        · refine .inr ?_
          have := hwf.2 _ (slotsOf_mem (o := y) (k := 0) h0)
          rw [hide_length]
          omega
      · rcases Nat.eq_zero_or_pos (nslot y.o.op) with h0 | h0
        · exact .inl h0
        · exact .inr fun he => slot 0 h0 (by omega)
    · have hr := hroot hY
      unfold rootIn at hr
      simp only [Bool.or_eq_true] at hr
      have hop : clsOf y.o.op = .C := hwf.1 ▸ hY
      rcases hr with hr | hr
      · exfalso
        split at hr
        · rename_i t ht
          unfold rootOk at hrx
          simp only [ht, hb, beq_iff_eq] at hrx
          refine hby ?_
          unfold dIds
          rw [hY]
          simp only [List.contains_eq_mem, decide_eq_true_eq] at hr
          exact List.mem_append_right _ (List.mem_filterMap.2 ⟨t, hr, hrx⟩)
        · cases hr
      · have hcv : callsV stOf fr y.o.op = true := by simpa [dCond, hY, hr] using hd
        cases hyo : y.o.op with
        | call f as =>
          rw [hyo] at e1 hcv slot hwf
          simp only [stepOp] at e1
          simp only [callsV] at hcv
          split at e1
          · rename_i g' p q hX
            rw [hX] at hcv
            have s0 := slot 0 (by simp [nslot])
            have s1 := slot 1 (by simp [nslot])
            have hsl : y.slot < total := by
              refine hwf.2 _ ?_
              have := slotsOf_mem (o := y) (k := 0) (by rw [hyo]; simp [nslot])
              simpa using this
            exact hV _ _ _ _ _ _ _ _ (by simpa using hcv) e1 (by rw [hide_length]; omega) b (by omega)
          · cases e1
        | buildSl a => rw [hyo] at hop; cases a <;> cases hop
        | _ => rw [hyo] at hop; cases hop

end
end Go.Abs
