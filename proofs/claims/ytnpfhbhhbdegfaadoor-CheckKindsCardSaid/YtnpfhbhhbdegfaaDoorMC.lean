/- The exchange itself, class by class. -/
import Derived.Test.YtnpfhbhhbdegfaaDoorMB
set_option linter.unusedSimpArgs false
set_option linter.unusedVariables false
namespace Go.Abs

section
variable {cf : CallF} {stOf : Nat → Bool} {lo base n0 : Nat} {fr0 : Frame}

/-- What an operation that sees memory comes to. -/
theorem eff_some {o : DOper} {fr : Frame} {log : Nat → Option Nat} {h h2 : Heap} {v : AV} (hw : wants fr o.o.guard = true) (hP : o.cls ≠ .P) (e : eff cf stOf lo base n0 fr0 o fr log h = some (v, h2)) :
    dCond stOf fr0 o fr log = true ∧ ∃ h', stepOp cf lo base (n0 + o.slot) o.o.op fr (hide (dIds n0 fr0 o) h) = some (v, h') ∧ h'.length = h.length ∧ h2 = restore (dIds n0 fr0 o) h h' := by
  unfold eff at e
  rw [if_pos hw] at e
  by_cases hd : dCond stOf fr0 o fr log = true
  · rw [if_pos hd, if_neg hP] at e
    split at e
    · rename_i v' h' he
      split at e
      · rename_i hl
        cases e
        exact ⟨hd, h', he, hl, rfl⟩
      · cases e
    · cases e
  · rw [if_neg hd] at e; cases e
theorem eff_of {o : DOper} {fr : Frame} {log : Nat → Option Nat} {h h' : Heap} {v : AV} (hw : wants fr o.o.guard = true) (hP : o.cls ≠ .P) (hd : dCond stOf fr0 o fr log = true)
    (he : stepOp cf lo base (n0 + o.slot) o.o.op fr (hide (dIds n0 fr0 o) h) = some (v, h')) (hl : h'.length = h.length) : eff cf stOf lo base n0 fr0 o fr log h = some (v, restore (dIds n0 fr0 o) h h') := by
  unfold eff
  rw [if_pos hw, if_pos hd, if_neg hP]
  simp only [he]
  rw [if_pos hl]
theorem eff_length {o : DOper} {fr : Frame} {log : Nat → Option Nat} {h h2 : Heap} {v : AV} (e : eff cf stOf lo base n0 fr0 o fr log h = some (v, h2)) : h2.length = h.length := by
  unfold eff at e
  split at e
  · split at e
    · split at e
      · split at e
        · cases e; rfl
        · cases e
      · split at e
        · split at e
          · rename_i hl
            cases e
            rw [restore_length, hl]
          · cases e
        · cases e
    · cases e
  · cases e; rfl
/-- An operation that sees nothing. -/
theorem eff_P {o : DOper} {fr : Frame} {log : Nat → Option Nat} {h h2 : Heap} {v : AV} (hP : wants fr o.o.guard = false ∨ o.cls = .P) (e : eff cf stOf lo base n0 fr0 o fr log h = some (v, h2)) :
    h2 = h ∧ (∀ log2 h3, eff cf stOf lo base n0 fr0 o fr log2 h3 = some (v, h3)) ∧ ∀ i log2, logOf i o fr log2 = log2 := by
  cases hw : wants fr o.o.guard with
  | false =>
    unfold eff at e
    rw [hw] at e
    simp only [Bool.false_eq_true, if_false, Option.some.injEq, Prod.mk.injEq] at e
    obtain ⟨rfl, rfl⟩ := e
    refine ⟨rfl, fun log2 h3 => ?_, fun i log2 => ?_⟩
    · unfold eff
      rw [hw]
      rfl
    · unfold logOf
      rw [hw]
      rfl
  | true =>
    have hP := hP.resolve_left (by rw [hw]; simp)
    have hd : ∀ log2, dCond stOf fr0 o fr log2 = true := fun log2 => by simp [dCond, hP]
    unfold eff at e
    rw [if_pos hw, if_pos (hd log), if_pos hP] at e
    split at e
    · rename_i v' h0 he
      cases e
      refine ⟨rfl, fun log2 h3 => ?_, fun i log2 => ?_⟩
      · unfold eff
        rw [if_pos hw, if_pos (hd log2), if_pos hP]
        simp only [he]
      · unfold logOf dLog
        rw [if_pos hw, hP]
    · cases e

theorem dCond_A {o : DOper} {fr : Frame} {log : Nat → Option Nat} (h : o.cls = .A) : dCond stOf fr0 o fr log = true := by simp [dCond, h]
theorem logOf_A {i : Nat} {o : DOper} {fr : Frame} {log : Nat → Option Nat} (h : o.cls = .A) : logOf i o fr log = log := by simp [logOf, dLog, h]
theorem dIds_A {o : DOper} (h : o.cls = .A) : dIds n0 fr0 o = [] := by simp [dIds, h]

/-- A making operation's step. -/
theorem A_step {o : DOper} {fr : Frame} {log : Nat → Option Nat} {h h2 : Heap} {v : AV} {total : Nat} (hw : wants fr o.o.guard = true) (hA : o.cls = .A) (hwf : wfD total o = true) (hl : h.length = n0 + total) (e : eff cf stOf lo base n0 fr0 o fr log h = some (v, h2)) :
    ∃ bs : List Blk, (∀ k, k < bs.length → o.slot + k ∈ slotsOf o) ∧ fill h (n0 + o.slot) bs = some h2 ∧ ∀ (log2 : Nat → Option Nat) (h3 h4 : Heap), h3.length = h.length → fill h3 (n0 + o.slot) bs = some h4 → eff cf stOf lo base n0 fr0 o fr log2 h3 = some (v, h4) := by
  have hP : o.cls ≠ .P := by rw [hA]; simp
  obtain ⟨_, h', e1, e2, rfl⟩ := eff_some hw hP e
  rw [dIds_A hA] at e1 ⊢
  simp only [hide, restore] at e1 ⊢
  obtain ⟨bs, b1, b2, b3⟩ := A_eff hA hwf hl e1
  refine ⟨bs, b1, b2, fun log2 h3 h4 hl3 hf => ?_⟩
  have := eff_of (cf := cf) (stOf := stOf) (lo := lo) (base := base) (n0 := n0) (fr0 := fr0) (log := log2) (h := h3) hw hP (dCond_A hA) (by rw [dIds_A hA]; exact b3 h3 h4 hl3 hf) ((fill_spec hf).1)
  rw [dIds_A hA] at this
  exact this

/-- The place of a block in a region of places. -/
def Seen (x : DOper) (fr : Frame) (h : Heap) (b : Nat) : Prop := touch fr x.o.op = some b ∧ b ∉ dIds n0 fr0 x ∧ ∃ B, h[b]? = some (.live B)

theorem L_step {o : DOper} {fr : Frame} {log : Nat → Option Nat} {h h2 : Heap} {v : AV} (hw : wants fr o.o.guard = true) (hL : o.cls = .L) {total : Nat} (hwf : wfD total o = true) (e : eff cf stOf lo base n0 fr0 o fr log h = some (v, h2)) :
    h2 = h ∧ offLog log (touch fr o.o.op) o.uo = true ∧ rootOk fr0 fr o = true ∧
      ∀ (log2 : Nat → Option Nat) (h3 : Heap), h3.length = h.length → offLog log2 (touch fr o.o.op) o.uo = true → (∀ (b : Nat) (B : Blk), touch fr o.o.op = some b → b ∉ dIds n0 fr0 o → h[b]? = some (.live B) → ∃ B2, h3[b]? = some (.live B2) ∧ B2.sz = B.sz ∧ B2.es = B.es) →
        eff cf stOf lo base n0 fr0 o fr log2 h3 = some (v, h3) := by
  have hP : o.cls ≠ .P := by rw [hL]; simp
  obtain ⟨hd, h', e1, e2, rfl⟩ := eff_some hw hP e
  unfold wfD at hwf
  simp only [Bool.and_eq_true, beq_iff_eq] at hwf
  obtain ⟨rfl, l2, l3⟩ := L_reads (hwf.1 ▸ hL) e1
  have hd2 : offLog log (touch fr o.o.op) o.uo = true ∧ rootOk fr0 fr o = true := by simpa [dCond, hL] using hd
  refine ⟨restore_hide _ _, hd2.1, hd2.2, fun log2 h3 hl ho hb => ?_⟩
  have hs := l3 (hide (dIds n0 fr0 o) h3) fun b B ht hB => by
    have hB := blk_eq.1 hB
    rw [hide_get] at hB
    split at hB
    · cases hB
    · rename_i hn
      have hlt := (List.getElem?_eq_some_iff.1 hB).1
      have hnb : b ∉ dIds n0 fr0 o := fun hm => hn ⟨hm, hlt⟩
      obtain ⟨B2, q1, q2⟩ := hb b B ht hnb hB
      refine ⟨B2, blk_eq.2 ?_, q2⟩
      rw [hide_get, if_neg (fun h => hnb h.1)]
      exact q1
  have := eff_of (cf := cf) (stOf := stOf) (lo := lo) (base := base) (n0 := n0) (fr0 := fr0) (log := log2) (h := h3) hw hP (by simp [dCond, hL, ho, hd2.2]) hs (hide_length _ _)
  rwa [restore_hide] at this

/-- What an operation that sees memory leaves as it was, for one that reads a block beside it. -/
theorem X_leaves (hV : CfV cf stOf) {x y : DOper} {fr : Frame} {log : Nat → Option Nat} {h h2 : Heap} {v : AV} {total : Nat} (hw : wants fr y.o.guard = true) (hY : y.cls = .W ∨ y.cls = .C) (hwf : wfD total y = true) (hl : h.length = n0 + total)
    (hx : x.cls = .L) (hsub : subL (slotsOf y) x.hidS = true) (hroot : y.cls = .C → rootIn x y = true) (hrx : rootOk fr0 fr x = true) (e : eff cf stOf lo base n0 fr0 y fr log h = some (v, h2))
    {b : Nat} (hb : touch fr x.o.op = some b) (hnb : b ∉ dIds n0 fr0 x) (hne : y.cls = .W → touch fr y.o.op ≠ some b) : sameC h[b]? h2[b]? := by
  have hyP : y.cls ≠ .P := by rcases hY with h | h <;> rw [h] <;> simp
  have hyA : y.cls ≠ .A := by rcases hY with h | h <;> rw [h] <;> simp
  have hxP : x.cls ≠ .P := by rw [hx]; simp
  have hxA : x.cls ≠ .A := by rw [hx]; simp
  obtain ⟨hd, h', e1, e2, rfl⟩ := eff_some hw hyP e
  rw [restore_get _ _ _ _ e2]
  split
  · exact .refl _
  · rename_i hby
    have hh : (hide (dIds n0 fr0 y) h)[b]? = h[b]? := by rw [hide_get, if_neg (fun h => hby h.1)]
    rw [← hh]
    unfold wfD at hwf
    simp only [Bool.and_eq_true, beq_iff_eq, List.all_eq_true, decide_eq_true_eq] at hwf
    have slot : ∀ k, k < nslot y.o.op → n0 + (y.slot + k) ≠ b := fun k hk he => hnb (he ▸ hidS_dIds hxP hxA (subL_mem hsub (slotsOf_mem hk)))
    rcases hY with hY | hY
    · refine (W_writes (hwf.1 ▸ hY) ?_ e1).2 b (hne hY) ?_
      · rcases Nat.eq_zero_or_pos (nslot y.o.op) with h0 | h0
        · exact .inl h0
        · refine .inr ?_
          have := hwf.2 _ (slotsOf_mem (o := y) (k := 0) h0)
          rw [hide_length]
          omega
      · rcases Nat.eq_zero_or_pos (nslot y.o.op) with h0 | h0
        · exact .inl h0
        · exact .inr fun he => slot 0 h0 (by omega)
    · have hr := hroot hY
      unfold rootIn at hr
      simp only [Bool.or_eq_true] at hr
      have hop : clsOf y.o.op = .C := hwf.1 ▸ hY
      rcases hr with hr | hr
      · exfalso
        split at hr
        · rename_i t ht
          unfold rootOk at hrx
          simp only [ht, hb, beq_iff_eq] at hrx
          refine hby ?_
          unfold dIds
          rw [hY]
          simp only [List.contains_eq_mem, decide_eq_true_eq] at hr
          exact List.mem_append_right _ (List.mem_filterMap.2 ⟨t, hr, hrx⟩)
        · cases hr
      · have hcv : callsV stOf fr y.o.op = true := by simpa [dCond, hY, hr] using hd
        cases hyo : y.o.op with
        | call f as =>
          rw [hyo] at e1 hcv slot hwf
          simp only [stepOp] at e1
          simp only [callsV] at hcv
          split at e1
          · rename_i g' p q hX
            rw [hX] at hcv
            have s0 := slot 0 (by simp [nslot])
            have s1 := slot 1 (by simp [nslot])
            have hsl : y.slot < total := by
              refine hwf.2 _ ?_
              have := slotsOf_mem (o := y) (k := 0) (by rw [hyo]; simp [nslot])
              simpa using this
            exact hV _ _ _ _ _ _ _ _ (by simpa using hcv) e1 (by rw [hide_length]; omega) b (by omega)
          · cases e1
        | buildSl a => rw [hyo] at hop; cases a <;> cases hop
        | _ => rw [hyo] at hop; cases hop

end
end Go.Abs

/- The exchange of two unordered operations. -/
set_option linter.unusedSimpArgs false
set_option linter.unusedVariables false
namespace Go.Abs

section
variable {cf : CallF} {stOf : Nat → Bool} {lo base n0 : Nat} {fr0 : Frame}

theorem slots_ids {a x : DOper} {bs : List Blk} (hxP : x.cls ≠ .P) (hxA : x.cls ≠ .A) (hsub : subL (slotsOf a) x.hidS = true) (hb : ∀ k, k < bs.length → a.slot + k ∈ slotsOf a) :
    ∀ k, k < bs.length → n0 + a.slot + k ∈ dIds n0 fr0 x := fun k hk => by
  rw [Nat.add_assoc]
  exact hidS_dIds hxP hxA (subL_mem hsub (hb k hk))

/-- First a making operation, then one that sees memory. -/
theorem swap_AX {a x : DOper} {fr : Frame} {log log2 log3 : Nat → Option Nat} {h ha hax : Heap} {va vx : AV} {total : Nat} (hwa : wants fr a.o.guard = true) (hwx : wants fr x.o.guard = true) (hA : a.cls = .A) (hxP : x.cls ≠ .P) (hxA : x.cls ≠ .A)
    (hsub : subL (slotsOf a) x.hidS = true) (wa : wfD total a = true) (hl : h.length = n0 + total) (e1 : eff cf stOf lo base n0 fr0 a fr log h = some (va, ha)) (e2 : eff cf stOf lo base n0 fr0 x fr log2 ha = some (vx, hax)) :
    ∃ hx, eff cf stOf lo base n0 fr0 x fr log2 h = some (vx, hx) ∧ eff cf stOf lo base n0 fr0 a fr log3 hx = some (va, hax) := by
  obtain ⟨bs, b1, b2, b3⟩ := A_step hwa hA wa hl e1
  obtain ⟨hd, h', k1, k2, rfl⟩ := eff_some hwx hxP e2
  have hla := (fill_spec b2).1
  obtain ⟨m1, m2⟩ := swap_fill_X (h' := h') b2 (slots_ids (n0 := n0) (fr0 := fr0) hxP hxA hsub b1) (by omega)
  rw [m1] at k1
  exact ⟨_, eff_of hwx hxP hd k1 (by omega), b3 log3 _ _ (by rw [restore_length]; omega) m2⟩

/-- First one that sees memory, then a making operation. -/
theorem swap_XA {a x : DOper} {fr : Frame} {log log2 log3 : Nat → Option Nat} {h hx hxa : Heap} {va vx : AV} {total : Nat} (hwa : wants fr a.o.guard = true) (hwx : wants fr x.o.guard = true) (hA : a.cls = .A) (hxP : x.cls ≠ .P) (hxA : x.cls ≠ .A)
    (hsub : subL (slotsOf a) x.hidS = true) (wa : wfD total a = true) (hl : h.length = n0 + total) (e1 : eff cf stOf lo base n0 fr0 x fr log h = some (vx, hx)) (e2 : eff cf stOf lo base n0 fr0 a fr log2 hx = some (va, hxa)) :
    ∃ ha, eff cf stOf lo base n0 fr0 a fr log3 h = some (va, ha) ∧ eff cf stOf lo base n0 fr0 x fr log ha = some (vx, hxa) := by
  have hlx := eff_length e1
  obtain ⟨hd, h', k1, k2, rfl⟩ := eff_some hwx hxP e1
  obtain ⟨bs, b1, b2, b3⟩ := A_step hwa hA wa (by omega) e2
  have hin := slots_ids (n0 := n0) (fr0 := fr0) hxP hxA hsub b1
  obtain ⟨ha, hf⟩ := fill_none_of (h := h) (t := n0 + a.slot) (bs := bs) fun k hk => by
    have := fill_free b2 k hk
    rwa [restore_get _ _ _ _ k2, if_pos (hin k hk)] at this
  obtain ⟨m1, m2⟩ := swap_fill_X (h' := h') hf hin k2
  rw [b2] at m2
  simp only [Option.some.injEq] at m2
  subst m2
  have hla := (fill_spec hf).1
  refine ⟨ha, b3 log3 h ha (by rw [restore_length]; omega) hf, ?_⟩
  rw [← m1] at k1
  exact eff_of hwx hxP hd k1 (by omega)

theorem swap_AA {x y : DOper} {fr : Frame} {log log2 log3 : Nat → Option Nat} {h hx hxy : Heap} {vx vy : AV} {total : Nat} (hwx : wants fr x.o.guard = true) (hwy : wants fr y.o.guard = true) (hx' : x.cls = .A) (hy' : y.cls = .A)
    (hdis : ((slotsOf x).all fun k => !((slotsOf y).contains k)) = true) (wx : wfD total x = true) (wy : wfD total y = true) (hl : h.length = n0 + total) (e1 : eff cf stOf lo base n0 fr0 x fr log h = some (vx, hx)) (e2 : eff cf stOf lo base n0 fr0 y fr log2 hx = some (vy, hxy)) :
    ∃ hy, eff cf stOf lo base n0 fr0 y fr log h = some (vy, hy) ∧ eff cf stOf lo base n0 fr0 x fr log3 hy = some (vx, hxy) := by
  obtain ⟨bs, b1, b2, b3⟩ := A_step hwx hx' wx hl e1
  have hlx := (fill_spec b2).1
  obtain ⟨cs, c1, c2, c3⟩ := A_step hwy hy' wy (by omega) e2
  have hap : ∀ k m, k < bs.length → m < cs.length → n0 + x.slot + k ≠ n0 + y.slot + m := fun k m hk hm he => by
    simp only [List.all_eq_true, Bool.not_eq_true', List.contains_eq_mem, decide_eq_false_iff_not] at hdis
    refine hdis _ (b1 k hk) ?_
    have := c1 m hm
    rwa [show y.slot + m = x.slot + k by omega] at this
  obtain ⟨hy, hf⟩ := fill_none_of (h := h) (t := n0 + y.slot) (bs := cs) fun m hm => by
    have := fill_free c2 m hm
    rw [fill_get b2] at this
    split at this
    · rename_i hc
      exact absurd (show n0 + x.slot + (n0 + y.slot + m - (n0 + x.slot)) = n0 + y.slot + m by omega) (hap _ m (by omega) hm)
    · exact this
  have hly := (fill_spec hf).1
  obtain ⟨h4, hf2⟩ := fill_none_of (h := hy) (t := n0 + x.slot) (bs := bs) fun k hk => by
    rw [fill_get hf, if_neg]
    · exact fill_free b2 k hk
    · intro hc
      exact hap k (n0 + x.slot + k - (n0 + y.slot)) hk (by omega) (by omega)
  have heq : h4 = hxy := by
    apply List.ext_getElem?
    intro b
    rw [fill_get hf2, fill_get hf, fill_get c2, fill_get b2]
    by_cases h1 : n0 + x.slot ≤ b ∧ b < n0 + x.slot + bs.length
    · by_cases h2 : n0 + y.slot ≤ b ∧ b < n0 + y.slot + cs.length
      · exact absurd (show n0 + x.slot + (b - (n0 + x.slot)) = n0 + y.slot + (b - (n0 + y.slot)) by omega) (hap _ _ (by omega) (by omega))
      · rw [if_pos h1, if_neg h2, if_pos h1]
    · rw [if_neg h1]
      by_cases h2 : n0 + y.slot ≤ b ∧ b < n0 + y.slot + cs.length
      · rw [if_pos h2, if_pos h2]
      · rw [if_neg h2, if_neg h2, if_neg h1]
  subst heq
  exact ⟨hy, c3 log h hy (by omega) hf, b3 log3 hy h4 (by omega) hf2⟩

theorem logOf_other {i k : Nat} {o : DOper} {fr : Frame} {log : Nat → Option Nat} (h : k ≠ i) : logOf i o fr log k = log k := by
  unfold logOf dLog
  cases wants fr o.o.guard
  · rfl
  · cases o.cls <;> simp [h]
theorem logOf_self {i : Nat} {o : DOper} {fr : Frame} {log : Nat → Option Nat} (hw : wants fr o.o.guard = true) (hc : o.cls = .L ∨ o.cls = .W) : logOf i o fr log i = touch fr o.o.op := by
  unfold logOf dLog
  rw [hw]
  rcases hc with h | h <;> simp [h]

theorem coreSwap (hV : CfV cf stOf) {i j : Nat} {x y : DOper} {fr : Frame} {log : Nat → Option Nat} {h hx hxy : Heap} {vx vy : AV} {total : Nat} (hne : i ≠ j) (hh : heapOk i x j y = true) (wx : wfD total x = true) (wy : wfD total y = true) (hl : h.length = n0 + total) (hlog : log i = none)
    (e1 : eff cf stOf lo base n0 fr0 x fr log h = some (vx, hx)) (e2 : eff cf stOf lo base n0 fr0 y fr (logOf i x fr log) hx = some (vy, hxy)) :
    ∃ hy, eff cf stOf lo base n0 fr0 y fr log h = some (vy, hy) ∧ eff cf stOf lo base n0 fr0 x fr (logOf j y fr log) hy = some (vx, hxy) := by
  by_cases hxP : wants fr x.o.guard = false ∨ x.cls = .P
  · obtain ⟨rfl, k2, k3⟩ := eff_P hxP e1
    rw [k3] at e2
    exact ⟨hxy, e2, k2 _ _⟩
  by_cases hyP : wants fr y.o.guard = false ∨ y.cls = .P
  · obtain ⟨rfl, k2, k3⟩ := eff_P hyP e2
    rw [k3]
    exact ⟨h, k2 _ _, e1⟩
  simp only [not_or, Bool.not_eq_false] at hxP hyP
  obtain ⟨hwx, hxP⟩ := hxP
  obtain ⟨hwy, hyP⟩ := hyP
  unfold heapOk at hh
  have hnL : ∀ {uo : List Nat} {b : Option Nat}, offLog (logOf i x fr log) b uo = true → offLog log b uo = true := fun {uo b} ho => offLog_mono (fun k hk => by
    by_cases hki : k = i
    · exact .inr (.inl (by rw [hki]; exact hlog))
    · exact .inl (logOf_other hki).symm) ho
  cases hxc : x.cls with
  | P => exact absurd hxc hxP
  | A =>
    rw [hxc] at hh
    rw [logOf_A hxc] at e2
    cases hyc : y.cls with
    | P => exact absurd hyc hyP
    | A =>
      rw [hyc] at hh
      exact swap_AA hwx hwy hxc hyc hh wx wy hl e1 e2
    | L => rw [hyc] at hh; exact swap_AX hwx hwy hxc hyP (by rw [hyc]; simp) hh wx hl e1 e2
    | W => rw [hyc] at hh; exact swap_AX hwx hwy hxc hyP (by rw [hyc]; simp) hh wx hl e1 e2
    | C => rw [hyc] at hh; exact swap_AX hwx hwy hxc hyP (by rw [hyc]; simp) hh wx hl e1 e2
  | L =>
    rw [hxc] at hh
    obtain ⟨hxh, x1, x2, x3⟩ := L_step hwx hxc wx e1
    cases hyc : y.cls with
    | P => exact absurd hyc hyP
    | A =>
      rw [hyc] at hh
      rw [logOf_A hyc]
      exact swap_XA hwy hwx hyc hxP (by rw [hxc]; simp) hh wy hl e1 e2
    | L =>
      rw [hyc] at hh
      simp only [Bool.and_eq_true, Bool.not_eq_true', List.contains_eq_mem, decide_eq_false_iff_not] at hh
      obtain ⟨hyh, y1, y2, y3⟩ := L_step hwy hyc wy e2
      subst hxh
      subst hyh
      exact ⟨hxy, y3 log hxy rfl (hnL y1) (fun b B _ _ hB => ⟨B, hB, rfl, rfl⟩), x3 _ hxy rfl (offLog_mono (fun k hk => .inl (logOf_other fun hkj => hh.1 (hkj ▸ hk))) x1) (fun b B _ _ hB => ⟨B, hB, rfl, rfl⟩)⟩
    | W =>
      rw [hyc] at hh
      simp only [Bool.and_eq_true, List.contains_eq_mem, decide_eq_true_eq] at hh
      obtain ⟨⟨hu1, hu2⟩, hsub⟩ := hh
      rw [hxh] at e2
      obtain ⟨hd, h', k1, k2, k3⟩ := eff_some hwy hyP e2
      have hd2 : offLog (logOf i x fr log) (touch fr y.o.op) y.uo = true := by simpa [dCond, hyc] using hd
      have e3 : eff cf stOf lo base n0 fr0 y fr log h = some (vy, hxy) := by
        rw [k3]
        exact eff_of hwy hyP (by simp [dCond, hyc, hnL hd2]) k1 k2
      have hne2 : ∀ b, touch fr x.o.op = some b → touch fr y.o.op ≠ some b := fun b hb hy => by
        have := offLog_at (hy ▸ hd2) hu2
        rw [logOf_self hwx (.inl hxc)] at this
        exact this hb
      refine ⟨hxy, e3, x3 _ hxy (eff_length e3) (offLog_mono (fun k hk => ?_) x1) fun b B hb hnb hB => ?_⟩
      · by_cases hkj : k = j
        · refine .inr (.inr fun c hc => ?_)
          rw [hkj, logOf_self hwy (.inr hyc)]
          exact hne2 c hc
        · exact .inl (logOf_other hkj)
      · exact (X_leaves hV hwy (.inl hyc) wy hl hxc hsub (fun h => by rw [hyc] at h; cases h) x2 e3 hb hnb (fun _ => hne2 b hb)).live hB
    | C =>
      rw [hyc] at hh
      simp only [Bool.and_eq_true] at hh
      obtain ⟨hsub, hri⟩ := hh
      rw [hxh] at e2
      obtain ⟨hd, h', k1, k2, k3⟩ := eff_some hwy hyP e2
      have e3 : eff cf stOf lo base n0 fr0 y fr log h = some (vy, hxy) := by
        rw [k3]
        exact eff_of hwy hyP (by simpa [dCond, hyc] using hd) k1 k2
      refine ⟨hxy, e3, x3 _ hxy (eff_length e3) (offLog_mono (fun k hk => .inl ?_) x1) fun b B hb hnb hB => ?_⟩
      · simp [logOf, dLog, hyc]
      · exact (X_leaves hV hwy (.inr hyc) wy hl hxc hsub (fun _ => hri) x2 e3 hb hnb (fun h => by rw [hyc] at h; cases h)).live hB
  | W =>
    rw [hxc] at hh
    cases hyc : y.cls with
    | P => exact absurd hyc hyP
    | A => rw [hyc] at hh; rw [logOf_A hyc]; exact swap_XA hwy hwx hyc hxP (by rw [hxc]; simp) hh wy hl e1 e2
    | L =>
      rw [hyc] at hh
      simp only [Bool.and_eq_true, List.contains_eq_mem, decide_eq_true_eq] at hh
      obtain ⟨⟨hu1, hu2⟩, hsub⟩ := hh
      obtain ⟨hyh, y1, y2, y3⟩ := L_step hwy hyc wy e2
      subst hyh
      have hlx := eff_length e1
      have hne2 : ∀ b, touch fr y.o.op = some b → touch fr x.o.op ≠ some b := fun b hb hx => by
        have := offLog_at (hb ▸ y1) hu2
        rw [logOf_self hwx (.inr hxc)] at this
        exact this hx
      obtain ⟨hd, h', k1, k2, k3⟩ := eff_some hwx hxP e1
      have hd2 : offLog log (touch fr x.o.op) x.uo = true := by simpa [dCond, hxc] using hd
      refine ⟨h, y3 log h hlx.symm (hnL y1) fun b B hb hnb hB => ?_, ?_⟩
      · exact (X_leaves hV hwx (.inl hxc) wx hl hyc hsub (fun h => by rw [hxc] at h; cases h) y2 e1 hb hnb (fun _ => hne2 b hb)).back hB |>.imp fun B2 h => ⟨h.1, h.2⟩
      · rw [k3]
        refine eff_of hwx hxP ?_ k1 k2
        have : offLog (logOf j y fr log) (touch fr x.o.op) x.uo = true := offLog_mono (fun k hk => by
          by_cases hkj : k = j
          · refine .inr (.inr fun c hc => ?_)
            rw [hkj, logOf_self hwy (.inl hyc)]
            exact fun hy => hne2 c hy hc
          · exact .inl (logOf_other hkj)) hd2
        simp [dCond, hxc, this]
    | W => rw [hyc] at hh; cases hh
    | C => rw [hyc] at hh; cases hh
  | C =>
    rw [hxc] at hh
    cases hyc : y.cls with
    | P => exact absurd hyc hyP
    | A => rw [hyc] at hh; rw [logOf_A hyc]; exact swap_XA hwy hwx hyc hxP (by rw [hxc]; simp) hh wy hl e1 e2
    | L =>
      rw [hyc] at hh
      simp only [Bool.and_eq_true] at hh
      obtain ⟨hsub, hri⟩ := hh
      obtain ⟨hyh, y1, y2, y3⟩ := L_step hwy hyc wy e2
      subst hyh
      have hlx := eff_length e1
      obtain ⟨hd, h', k1, k2, k3⟩ := eff_some hwx hxP e1
      refine ⟨h, y3 log h hlx.symm (hnL y1) fun b B hb hnb hB => ?_, ?_⟩
      · exact (X_leaves hV hwx (.inr hxc) wx hl hyc hsub (fun _ => hri) y2 e1 hb hnb (fun h => by rw [hxc] at h; cases h)).back hB |>.imp fun B2 h => ⟨h.1, h.2⟩
      · rw [k3]
        exact eff_of hwx hxP (by simpa [dCond, hxc] using hd) k1 k2
    | W => rw [hyc] at hh; cases hh
    | C => rw [hyc] at hh; cases hh

/-- Two unordered operations: the later one first. -/
theorem swapD (hV : CfV cf stOf) {i j : Nat} {x y : DOper} {s s1 s2 : DSt} {total : Nat} (hne : i ≠ j) (hap : apartA x.o y.o = true) (hh : heapOk i x j y = true) (wx : wfD total x = true) (wy : wfD total y = true) (hl : s.h.length = n0 + total) (hlog : s.log i = none)
    (e1 : stepD cf stOf lo base n0 fr0 i x s = some s1) (e2 : stepD cf stOf lo base n0 fr0 j y s1 = some s2) :
    ∃ s3, stepD cf stOf lo base n0 fr0 j y s = some s3 ∧ stepD cf stOf lo base n0 fr0 i x s3 = some s2 := by
  rw [stepD_eq] at e1 e2
  simp only [Option.map_eq_some_iff] at e1 e2
  obtain ⟨⟨vx, hx⟩, q1, rfl⟩ := e1
  obtain ⟨⟨vy, hxy⟩, q2, rfl⟩ := e2
  simp only at q2
  unfold apartA at hap
  simp only [Bool.and_eq_true, Bool.not_eq_true'] at hap
  obtain ⟨a1, a2⟩ := apart_reads hap.1 s.fr vx
  obtain ⟨b1, b2⟩ := apart_reads hap.2 s.fr vy
  rw [eff_congr a1] at q2
  obtain ⟨hy, r1, r2⟩ := coreSwap hV hne hh wx wy hl hlog q1 q2
  refine ⟨_, by rw [stepD_eq, r1]; rfl, ?_⟩
  rw [stepD_eq]
  simp only
  rw [eff_congr b1, r2]
  simp only [Option.map_some, Option.some.injEq, DSt.mk.injEq, true_and]
  exact ⟨updO_comm b2, by rw [logOf_congr b1, logOf_congr a1]; exact (logOf_comm hne).symm⟩

end
end Go.Abs

/- Hidden places: the state behind an operation that did not see them. -/
set_option linter.unusedSimpArgs false
set_option linter.unusedVariables false
namespace Go.Abs

/-- The same views, the same world. -/
theorem Rep.views {g g2 : G} (hv : ∀ b B, vblk g.h g.r b = some B → vblk g2.h g2.r b = some B ∧ g2.r b = g.r b) (hw : g2.w = g.w) (hS : ∀ c, g.St c → g2.St c) {x : AV} {v : Value} (h : Rep g x v) : Rep g2 x v :=
  h.under (n := g.h.length) (fun b B _ hB => ⟨B, (hv b B hB).1, rfl, rfl, rfl, (hv b B hB).2⟩) hw hS h.scopd

theorem HRep.views {lo : Nat} {g g2 : G} (hr : HRep lo g) (hv : ∀ b, vblk g2.h g2.r b = vblk g.h g.r b) (hi : ∀ b, g2.r b = g.r b) (hw : g2.w = g.w) (hS : g2.St = g.St) : HRep lo g2 where
  blks := fun b B hB => by
    rw [hv] at hB
    obtain ⟨h1, h2⟩ := hr.blks b B hB
    refine ⟨fun hn => h1 (by rw [← hi]; exact hn), fun c hc => ?_⟩
    obtain ⟨cells, k1, k2, k3⟩ := h2 c (by rw [← hi]; exact hc)
    refine ⟨cells, by rw [hw]; exact k1, k2, fun i e he => ?_⟩
    obtain ⟨v, m1, m2, m3⟩ := k3 i e he
    exact ⟨v, m1.views (fun b B hB => ⟨by rw [hv]; exact hB, hi b⟩) hw (fun c hc => by rw [hS]; exact hc), m2, m3⟩
  inj := fun b b' B B' c hB hB' hc hc' => hr.inj b b' B B' c (by rw [← hv]; exact hB) (by rw [← hv]; exact hB') (by rw [← hi]; exact hc) (by rw [← hi]; exact hc')
  nost := fun b B c hlo hB hf hc => by rw [hS]; exact hr.nost b B c hlo (by rw [← hv]; exact hB) hf (by rw [← hi]; exact hc)
  stlt := fun c hc => by rw [hw]; exact hr.stlt c (by rw [← hS]; exact hc)
  frst := fun b B c hB hf hc => by rw [hS]; exact hr.frst b B c (by rw [← hv]; exact hB) hf (by rw [← hi]; exact hc)

def rHid (ids : List Nat) (h : Heap) (r : RM) : RM := ⟨r.im, fun b => if b ∈ ids then vblk h r b else r.hb b⟩

theorem vblk_hide (ids : List Nat) (h : Heap) (r : RM) (b : Nat) : vblk (hide ids h) (rHid ids h r) b = vblk h r b := by
  by_cases hb : b ∈ ids
  · by_cases hl : b < h.length
    · have : (hide ids h)[b]? = some .hid := by rw [hide_get, if_pos ⟨hb, hl⟩]
      rw [show vblk (hide ids h) (rHid ids h r) b = (rHid ids h r).hb b by simp [vblk, this]]
      simp [rHid, hb]
    · rw [vblk_none (.inl (by rw [hide_get, if_neg (fun h => hl h.2)]; exact List.getElem?_eq_none (by omega))), vblk_none (.inl (List.getElem?_eq_none (by omega)))]
  · refine vblk_congr (by rw [hide_get, if_neg (fun h => hb h.1)]) fun _ => by simp [rHid, hb]

section
variable {P : Program} {lo base : Nat}

theorem HRep.hide {h : Heap} {r : RM} {w : World} {St : Nat → Prop} (ids : List Nat) (hr : HRep lo ⟨h, r, w, St⟩) : HRep lo ⟨Go.Abs.hide ids h, rHid ids h r, w, St⟩ :=
  hr.views (fun b => vblk_hide ids h r b) (fun _ => rfl) rfl rfl
theorem Rep.hide {h : Heap} {r : RM} {w : World} {St : Nat → Prop} (ids : List Nat) {x : AV} {v : Value} (hx : Rep ⟨h, r, w, St⟩ x v) : Rep ⟨Go.Abs.hide ids h, rHid ids h r, w, St⟩ x v :=
  Rep.views (g := ⟨h, r, w, St⟩) (g2 := ⟨Go.Abs.hide ids h, rHid ids h r, w, St⟩) (fun b B hB => ⟨by simp only [vblk_hide]; exact hB, rfl⟩) rfl (fun _ h => h) hx

theorem Post.unhide {h h' : Heap} {r : RM} {w : World} {St : Nat → Prop} {ids : List Nat} {v : AV} {v' : Value} {w' : World} (hl : h'.length = h.length) (hp : Post lo base ⟨hide ids h, rHid ids h r, w, St⟩ v h' v' w') :
    Post lo base ⟨h, r, w, St⟩ v (restore ids h h') v' w' := by
  obtain ⟨r', St', h1, h2, s⟩ := hp
  have hget : ∀ b, (restore ids h h')[b]? = if b ∈ ids then h[b]? else h'[b]? := fun b => restore_get _ _ _ _ hl
  have hin : ∀ b, b ∈ ids → b < h.length → h'[b]? = some .hid ∧ r'.hb b = vblk h r b := fun b hb hlt => by
    have := s.hid b (by simp only; rw [hide_get, if_pos ⟨hb, hlt⟩])
    refine ⟨this.1, this.2.trans ?_⟩
    simp [rHid, hb]
  let r2 : RM := ⟨r'.im, fun b => if b ∈ ids then r.hb b else r'.hb b⟩
  have hv : ∀ b, vblk (restore ids h h') r2 b = vblk h' r' b := fun b => by
    by_cases hb : b ∈ ids
    · by_cases hlt : b < h.length
      · obtain ⟨k1, k2⟩ := hin b hb hlt
        rw [show vblk h' r' b = r'.hb b by simp [vblk, k1], k2]
        refine vblk_congr (by rw [hget, if_pos hb]) fun _ => by simp [r2, hb]
      · rw [vblk_none (.inl (by rw [hget, if_pos hb]; exact List.getElem?_eq_none (by omega))), vblk_none (.inl (List.getElem?_eq_none (by omega)))]
    · exact vblk_congr (by rw [hget, if_neg hb]) fun _ => by simp [r2, hb]
  have hv0 : ∀ b, vblk (hide ids h) (rHid ids h r) b = vblk h r b := vblk_hide ids h r
  refine ⟨r2, St', Rep.views (g := ⟨h', r', w', St'⟩) (g2 := ⟨restore ids h h', r2, w', St'⟩) (fun b B hB => ⟨by simp only [hv]; exact hB, rfl⟩) rfl (fun _ h => h) h1, h2.views hv (fun _ => rfl) rfl rfl, ?_⟩
  exact {
    len := by simp only [restore_length]; omega
    hid := fun b hb => by
      simp only at hb ⊢
      by_cases hm : b ∈ ids
      · exact ⟨by rw [hget, if_pos hm]; exact hb, by simp [r2, hm]⟩
      · have := s.hid b (by simp only; rw [hide_get, if_neg (fun h => hm h.1)]; exact hb)
        simp only [rHid, if_neg hm] at this
        exact ⟨by rw [hget, if_neg hm]; exact this.1, by simp only [r2, if_neg hm]; exact this.2⟩
    free := fun b hb hf => by
      simp only at hf ⊢
      by_cases hm : b ∈ ids
      · rw [hget, if_pos hm]; exact hf
      · rw [hget, if_neg hm]
        exact s.free b hb (by simp only; rw [hide_get, if_neg (fun h => hm h.1)]; exact hf)
    live := fun b B hB => by
      obtain ⟨B', k1, k2⟩ := s.live b B (by simp only [hv0]; exact hB)
      exact ⟨B', by simp only [hv]; exact k1, k2⟩
    keep := fun b B hB hc => by
      have := s.keep b B (by simp only [hv0]; exact hB) (hc.imp id (Or.imp id fun hh => by
        simp only at hh ⊢
        rw [hide_get]
        split
        · rfl
        · exact hh))
      exact ⟨by simp only [hv]; exact this.1, this.2⟩
    scp := fun b B B' hb hB hB' => s.scp b B B' hb (by simp only [hv0]; exact hB) (by simp only [hv] at hB'; exact hB')
    size := s.size
    old := fun c hc hw => s.old c hc fun b B hlo hB hf => by
      simp only at hB
      have hB := blk_eq.1 hB
      rw [hide_get] at hB
      split at hB
      · cases hB
      · exact hw b B hlo (blk_eq.2 hB) hf
    shp := s.shp
    img := fun b B c hB hc hlt => by
      obtain ⟨⟨B0, k1⟩, k2⟩ := s.img b B c (by simp only [hv] at hB; exact hB) hc hlt
      exact ⟨⟨B0, by simp only [hv0] at k1; exact k1⟩, k2⟩
    st := s.st
    stNew := fun c hc hs => (s.stNew c hc hs).imp id fun ⟨b, B, k1, k2, k3⟩ => ⟨b, B, k1, by simp only [hv]; exact k2, k3⟩
    os := s.os
    tape := s.tape
    output := s.output }

/-! ### Places given back -/
theorem trim_split (n : Nat) (h : Heap) : ∃ T : Heap, h = trim n h ++ T ∧ ∀ e ∈ T, e = .free := by
  refine ⟨((h.drop n).reverse.takeWhile Ent.isFree).reverse, ?_, fun e he => ?_⟩
  · unfold trim
    rw [List.append_assoc, ← List.reverse_append, List.takeWhile_append_dropWhile, List.reverse_reverse, List.take_append_drop]
  · have := List.mem_reverse.1 he
    have hp : e.isFree = true := List.all_eq_true.1 (List.all_takeWhile (p := Ent.isFree) (l := (h.drop n).reverse)) e this
    cases e <;> first | rfl | cases hp
theorem trim_ge {n : Nat} {h : Heap} (hn : n ≤ h.length) : n ≤ (trim n h).length := by
  simp [trim]
  omega
theorem vblk_trim (n : Nat) (h : Heap) (r : RM) (b : Nat) : vblk (trim n h) r b = vblk h r b := by
  obtain ⟨T, hT, hf⟩ := trim_split n h
  generalize trim n h = X at hT
  by_cases hb : b < X.length
  · exact (vblk_congr (by rw [hT]; exact List.getElem?_append_left hb) fun _ => rfl).symm
  · rw [vblk_none (.inl (List.getElem?_eq_none (by omega)))]
    refine (vblk_none ?_).symm
    rw [hT, List.getElem?_append_right (by omega)]
    cases he : T[b - X.length]? with
    | none => exact .inl rfl
    | some e => exact .inr (by rw [hf e (List.mem_of_getElem? he)])
theorem trim_get {n : Nat} {h : Heap} {b : Nat} (hb : b < n) (hn : n ≤ h.length) : (trim n h)[b]? = h[b]? := by
  unfold trim
  rw [List.getElem?_append_left (by simp; omega), List.getElem?_take, if_pos hb]

theorem step_trim {g : G} {h' : Heap} {r' : RM} {w' : World} {St' : Nat → Prop} (s : Step lo base g ⟨h', r', w', St'⟩) : Step lo base g ⟨trim g.h.length h', r', w', St'⟩ where
  len := trim_ge s.len
  hid := fun b hb => by
    have := s.hid b hb
    simp only at this ⊢
    rw [trim_get (List.getElem?_eq_some_iff.1 hb).1 s.len]
    exact this
  free := fun b hb hf => by
    simp only
    rw [trim_get (List.getElem?_eq_some_iff.1 hf).1 s.len]
    exact s.free b hb hf
  live := fun b B hB => by simp only [vblk_trim]; exact s.live b B hB
  keep := fun b B hB hc => by simp only [vblk_trim]; exact s.keep b B hB hc
  scp := fun b B B' hb hB hB' => by simp only [vblk_trim] at hB'; exact s.scp b B B' hb hB hB'
  size := s.size
  old := s.old
  shp := s.shp
  img := fun b B c hB => by simp only [vblk_trim] at hB; exact s.img b B c hB
  st := s.st
  stNew := fun c hc hs => by simp only [vblk_trim]; exact s.stNew c hc hs
  os := s.os
  tape := s.tape
  output := s.output

theorem SR.trim {N n : Nat} {h' : Heap} {r' : RM} {w' : World} {St' : Nat → Prop} {fr : Frame} {a : Act} (s : SR lo N ⟨h', r', w', St'⟩ fr a) : SR lo N ⟨Go.Abs.trim n h', r', w', St'⟩ fr a :=
  ⟨s.hr.views (fun b => vblk_trim n h' r' b) (fun _ => rfl) rfl rfl, fun t => Rep.views (g := ⟨h', r', w', St'⟩) (g2 := ⟨Go.Abs.trim n h', r', w', St'⟩) (fun b B hB => ⟨by simp only [vblk_trim]; exact hB, rfl⟩) rfl (fun _ h => h) (s.fr t), s.size, s.defers⟩

/-- Places kept free. -/
theorem region_start {N total : Nat} {g : G} {fr : Frame} {a : Act} (s : SR lo N g fr a) (hb : base ≤ g.h.length) :
    SR lo N ⟨g.h ++ List.replicate total .free, g.r, { g.w with drawn := g.w.drawn + 1 }, g.St⟩ fr a ∧ Step lo base g ⟨g.h ++ List.replicate total .free, g.r, { g.w with drawn := g.w.drawn + 1 }, g.St⟩ := by
  have hg : Grows g.w { g.w with drawn := g.w.drawn + 1 } := ⟨Nat.le_refl _, fun _ _ => rfl, rfl, rfl, rfl⟩
  have hent : ∀ b : Nat, ((g.h ++ List.replicate total .free)[b]? = g.h[b]? ∧ (∀ B, vblk g.h g.r b = some B → g.r b = g.r b)) ∨ ((g.h[b]? = none ∨ g.h[b]? = some .free) ∧ base ≤ b) := fun b => by
    by_cases hlt : b < g.h.length
    · exact .inl ⟨List.getElem?_append_left hlt, fun _ _ => rfl⟩
    · exact .inr ⟨.inl (List.getElem?_eq_none (by omega)), by omega⟩
  have hno : ∀ (b : Nat) (B : Blk), (g.h[b]? = none ∨ g.h[b]? = some .free) → vblk (g.h ++ List.replicate total .free) g.r b = some B → False := fun b B h1 h2 => by
    have : vblk (g.h ++ List.replicate total .free) g.r b = none := by
      refine vblk_none ?_
      by_cases hlt : b < g.h.length
      · rw [List.getElem?_append_left hlt]; exact h1
      · rw [List.getElem?_append_right (by omega)]
        by_cases h3 : b - g.h.length < total
        · right; rw [List.getElem?_replicate_of_lt h3]
        · left; exact List.getElem?_eq_none (by simp; omega)
    rw [this] at h2
    cases h2
  have st := grow_step (lo := lo) (base := base) (g := g) (St' := g.St) (r' := g.r) hg (by simp) rfl hent (fun b B c h1 h2 _ => (hno b B h1 h2).elim) (fun _ h => h) (fun _ _ h => h)
  refine ⟨⟨grow_hrep s.hr hg st rfl hent (fun b B c h1 h2 _ => (hno b B h1 h2).elim) (fun b B h1 h2 => (hno b B h1 h2).elim) (fun b b' B B' c h1 _ h2 _ _ _ => (hno b B h1 h2).elim) (fun _ _ h => h) (fun c hc => ⟨s.hr.stlt c hc, fun b B h1 h2 => (hno b B h1 h2).elim⟩) (fun b B h1 h2 => (hno b B h1 h2).elim), fun t => (s.fr t).step st s.hr, s.size, s.defers⟩, st⟩

end
end Go.Abs

/- A region that draws its order comes to what it comes to in the order of the text. -/
set_option linter.unusedSimpArgs false
set_option linter.unusedVariables false
namespace Go.Abs

section
variable {P : Program} {gh : Nat → List (Nat × Nat × Nat)} {cf : CallF} {stOf : Nat → Bool} {lo base n0 N total : Nat} {fr0 : Frame} {ops : Array Oper} {ds : List DOper} {pre : List (List Nat)}

/-- What was checked of a region. -/
structure DOk (P : Program) (gh : Nat → List (Nat × Nat × Nat)) (ops : Array Oper) (ds : List DOper) (pre : List (List Nat)) (total : Nat) : Prop where
  len : ds.length = ops.size
  comp : ∀ (j : Nat) (x : DOper), ds[j]? = some x → ∃ o, ops[j]? = some o ∧ compileOper P gh true ops o = some x.o
  back : ∀ (j : Nat) (o : Oper), ops[j]? = some o → ∀ e ∈ o.after, e.on < j
  clo : ∀ (j : Nat) (o : Oper), ops[j]? = some o → ∀ i ∈ pre.getD j [], ∃ e ∈ o.after, Region.binds .any e = true ∧ (e.on = i ∨ i ∈ pre.getD e.on [])
  pair : ∀ (i j : Nat) (x y : DOper), i < j → ds[i]? = some x → ds[j]? = some y → i ∈ pre.getD j [] ∨ (apartA x.o y.o = true ∧ heapOk i x j y = true)
  wf : ∀ (j : Nat) (x : DOper), ds[j]? = some x → wfD total x = true

def runL (cf : CallF) (stOf : Nat → Bool) (lo base n0 : Nat) (fr0 : Frame) : List (Nat × DOper) → DSt → Option DSt
  | [], s => some s
  | (i, o) :: os, s => match stepD cf stOf lo base n0 fr0 i o s with
    | some s' => runL cf stOf lo base n0 fr0 os s'
    | none => none
def numbered {α : Type} : Nat → List α → List (Nat × α)
  | _, [] => []
  | i, x :: xs => (i, x) :: numbered (i + 1) xs
theorem runD_eq : ∀ (os : List DOper) (i : Nat) (s : DSt), runD cf stOf lo base n0 fr0 i os s = runL cf stOf lo base n0 fr0 (numbered i os) s
  | [], _, _ => rfl
  | o :: os, i, s => by
    simp only [runD, numbered, runL]
    split <;> simp [*, runD_eq os]

theorem stepD_some {i : Nat} {x : DOper} {s s1 : DSt} (h : stepD cf stOf lo base n0 fr0 i x s = some s1) : s1.h.length = s.h.length ∧ ∀ k, k ≠ i → s1.log k = s.log k := by
  rw [stepD_eq] at h
  simp only [Option.map_eq_some_iff] at h
  obtain ⟨⟨v, h2⟩, e, rfl⟩ := h
  exact ⟨eff_length e, fun k hk => logOf_other hk⟩

theorem bubble (hV : CfV cf stOf) {i : Nat} {x : DOper} (wx : wfD total x = true) : ∀ (A : List (Nat × DOper)) (s s2 : DSt), (∀ p ∈ A, p.1 ≠ i ∧ apartA p.2.o x.o = true ∧ heapOk p.1 p.2 i x = true ∧ wfD total p.2 = true) → A.Pairwise (fun p q => p.1 < q.1) →
    (∀ p ∈ A, s.log p.1 = none) → s.h.length = n0 + total → runL cf stOf lo base n0 fr0 (A ++ [(i, x)]) s = some s2 → ∃ s1, stepD cf stOf lo base n0 fr0 i x s = some s1 ∧ runL cf stOf lo base n0 fr0 A s1 = some s2
  | [], s, s2, _, _, _, _, h => by
    simp only [List.nil_append, runL] at h
    split at h
    · rename_i s' hs
      cases h
      exact ⟨_, hs, rfl⟩
    · cases h
  | (k, y) :: A, s, s2, hA, hp, hlog, hl, h => by
    simp only [List.cons_append, runL] at h
    split at h
    · rename_i s' hs
      obtain ⟨e1, e2⟩ := stepD_some hs
      obtain ⟨hk1, hk2⟩ := List.pairwise_cons.1 hp
      obtain ⟨s1', m1, m2⟩ := bubble hV wx A s' s2 (fun p hp => hA p (List.mem_cons_of_mem _ hp)) hk2 (fun p hp => by
        rw [e2 p.1 (Nat.ne_of_gt (hk1 p hp))]
        exact hlog p (List.mem_cons_of_mem _ hp)) (by omega) h
      obtain ⟨q1, q2, q3, q4⟩ := hA (k, y) (by simp)
      obtain ⟨s3, n1, n2⟩ := swapD hV q1 q2 q3 q4 wx hl (hlog (k, y) (by simp)) hs m1
      exact ⟨s3, n1, by simp only [runL, n2]; exact m2⟩
    · cases h

theorem runL_append : ∀ (A B : List (Nat × DOper)) (s : DSt), runL cf stOf lo base n0 fr0 (A ++ B) s = (runL cf stOf lo base n0 fr0 A s).bind (runL cf stOf lo base n0 fr0 B)
  | [], _, _ => rfl
  | (i, x) :: A, B, s => by
    simp only [List.cons_append, runL]
    split
    · exact runL_append A B _
    · rfl

theorem stepD_sound (hcs : CallSound P cf) (hlb : lo ≤ base) {i : Nat} {x : DOper} {o : Oper} {s s1 : DSt} {r : RM} {w : World} {St : Nat → Prop} {a : Act} {Q : Exit → Act → World → Prop} {K : Act → World → Prop}
    (hN : ∀ (i : Nat) (o : Oper) (d : Nat), ops[i]? = some o → o.dst = some d → d < N) (ho : ops[i]? = some o) (hc : compileOper P gh true ops o = some x.o) (wx : wfD total x = true) (hb : base ≤ n0) (hl : s.h.length = n0 + total)
    (hs : SR lo N ⟨s.h, r, w, St⟩ s.fr a) (h : stepD cf stOf lo base n0 fr0 i x s = some s1)
    (hK : ∀ r' w' St' a', SR lo N ⟨s1.h, r', w', St'⟩ s1.fr a' → Step lo base ⟨s.h, r, w, St⟩ ⟨s1.h, r', w', St'⟩ → K a' w') : wpOp P ops Q i K a w := by
  obtain ⟨hdst, hop, hg⟩ := compileOper_eq hc
  have hw := wants_eq hs.fr hg
  rw [stepD_eq] at h
  simp only [Option.map_eq_some_iff] at h
  obtain ⟨⟨v, h2⟩, e, rfl⟩ := h
  simp only at hK
  unfold wpOp
  simp only [ho]
  rw [hw]
  have fin : ∀ v' w', Post lo base ⟨s.h, r, w, St⟩ v h2 v' w' → K (a.put o.dst v') w' := by
    rintro v' w' ⟨r', St', p1, p2, p3⟩
    refine hK r' w' St' _ ?_ p3
    rw [hdst]
    exact hs.put p2 p3 p1 fun d hd => hN i o d ho hd
  unfold eff at e
  by_cases hwt : wants s.fr x.o.guard = true
  · rw [if_pos hwt] at e ⊢
    refine .inl ?_
    unfold Oper.wp
    by_cases hd : dCond stOf fr0 x s.fr s.log = true
    · rw [if_pos hd] at e
      unfold wfD at wx
      simp only [Bool.and_eq_true, beq_iff_eq] at wx
      by_cases hP : x.cls = .P
      · rw [if_pos hP] at e
        split at e
        · rename_i v0 h0 he
          cases e
          exact (op_does hcs hop hs.fr hs.hr hlb (show base ≤ n0 + x.slot by omega) (by simp only; omega) (P_indep (wx.1 ▸ hP) he s.h)).upon fin
        · cases e
      · rw [if_neg hP] at e
        split at e
        · rename_i v0 h' he
          split at e
          · rename_i hlen
            cases e
            have := op_does (g := ⟨hide (dIds n0 fr0 x) s.h, rHid (dIds n0 fr0 x) s.h r, w, St⟩) hcs hop (fun t => (hs.fr t).hide (dIds n0 fr0 x)) (hs.hr.hide (dIds n0 fr0 x)) hlb (show base ≤ n0 + x.slot by omega) (by simp only [hide_length]; omega) he
            exact (this.mono fun v' w' hp => hp.unhide hlen).upon fin
          · cases e
        · cases e
    · rw [if_neg hd] at e
      cases e
  · rw [if_neg hwt] at e ⊢
    cases e
    exact fin undef w ⟨r, St, .undef, hs.hr, Step.refl _ _ _⟩

theorem any_sound (hcs : CallSound P cf) (hlb : lo ≤ base) (hV : CfV cf stOf) (hD : DOk P gh ops ds pre total) (hN : ∀ (i : Nat) (o : Oper) (d : Nat), ops[i]? = some o → o.dst = some d → d < N) (hb : base ≤ n0) {Q : Exit → Act → World → Prop} {g0 : G} {sf : DSt}
    (hQ : ∀ r w St a, SR lo N ⟨sf.h, r, w, St⟩ sf.fr a → Step lo base g0 ⟨sf.h, r, w, St⟩ → Q .normal a w) :
    ∀ (fuel : Nat) (R : List (Nat × DOper)) (listed : Array Bool) (s : DSt) (a : Act) (r : RM) (w : World) (St : Nat → Prop), R.length ≤ fuel → R.Pairwise (fun p q => p.1 < q.1) → (∀ j x, (j, x) ∈ R ↔ ds[j]? = some x ∧ listed.getD j true = false) → listed.size = ops.size →
      (∀ j, listed.getD j false = true → ∀ i ∈ pre.getD j [], listed.getD i false = true) → (∀ p ∈ R, s.log p.1 = none) → s.h.length = n0 + total → runL cf stOf lo base n0 fr0 R s = some sf → SR lo N ⟨s.h, r, w, St⟩ s.fr a → Step lo base g0 ⟨s.h, r, w, St⟩ →
      wpAny P .any ops Q fuel listed a w := by
  have nil : ∀ {R : List (Nat × DOper)} {listed : Array Bool}, R = [] → (∀ j x, (j, x) ∈ R ↔ ds[j]? = some x ∧ listed.getD j true = false) → Region.ready .any ops listed = [] := by
    intro R listed hR hmem
    apply List.eq_nil_iff_forall_not_mem.2
    intro j hj
    obtain ⟨h1, o, h2, _⟩ := mem_ready.1 hj
    have hjl : j < ds.length := by rw [hD.len]; exact (Array.getElem?_eq_some_iff.1 h2).1
    have := (hmem j _).2 ⟨List.getElem?_eq_getElem hjl, h1⟩
    rw [hR] at this
    cases this
  intro fuel
  induction fuel with
  | zero =>
    intro R listed s a r w St hlen hpw hmem hsz hcl hlog hl hrun hs hst
    have hR : R = [] := List.length_eq_zero_iff.1 (by omega)
    subst hR
    simp only [runL, Option.some.injEq] at hrun
    subst hrun
    exact ⟨nil rfl hmem, hQ r w St a hs hst⟩
  | succ fuel ih =>
    intro R listed s a r w St hlen hpw hmem hsz hcl hlog hl hrun hs hst
    refine ⟨fun hre => ?_, fun i hi => ?_⟩
    · cases R with
      | nil =>
        simp only [runL, Option.some.injEq] at hrun
        subst hrun
        exact hQ r w St a hs hst
      | cons p R =>
        exfalso
        obtain ⟨j, x⟩ := p
        obtain ⟨hj1, hj2⟩ := (hmem j x).1 (by simp)
        obtain ⟨o, ho, _⟩ := hD.comp j x hj1
        have : j ∈ Region.ready .any ops listed := mem_ready.2 ⟨hj2, o, ho, fun e he _ => by
          have hlt := hD.back j o ho e he
          have hjs : j < ops.size := (Array.getElem?_eq_some_iff.1 ho).1
          cases hli : listed.getD e.on false with
          | true => rfl
          | false =>
            have hel : e.on < listed.size := by omega
            have h1 : listed.getD e.on true = false := by
              simp [Array.getD, hel] at hli ⊢
              exact hli
            have hed : e.on < ds.length := by rw [hD.len]; omega
            have := (hmem e.on _).2 ⟨List.getElem?_eq_getElem hed, h1⟩
            rcases List.mem_cons.1 this with h2 | h2
            · cases h2; omega
            · have := (List.pairwise_cons.1 hpw).1 _ h2
              simp only at this
              omega⟩
        rw [hre] at this
        cases this
    · obtain ⟨hi1, o, ho, hall⟩ := mem_ready.1 hi
      have hio : i < ops.size := (Array.getElem?_eq_some_iff.1 ho).1
      have hil : i < ds.length := by rw [hD.len]; exact hio
      obtain ⟨x, hx⟩ : ∃ x, ds[i]? = some x := ⟨_, List.getElem?_eq_getElem hil⟩
      obtain ⟨o', ho', hco⟩ := hD.comp i x hx
      rw [ho] at ho'
      cases ho'
      obtain ⟨A, B, hAB⟩ := List.append_of_mem ((hmem i x).2 ⟨hx, hi1⟩)
      subst hAB
      have hpw' := List.pairwise_append.1 hpw
      have hpwB := List.pairwise_cons.1 hpw'.2.1
      have hpre : ∀ k ∈ pre.getD i [], listed.getD k false = true := fun k hk => by
        obtain ⟨e, he, hbi, hor⟩ := hD.clo i o ho k hk
        have hle := hall e he hbi
        rcases hor with h | h
        · rw [← h]; exact hle
        · exact hcl _ hle k h
      have unl : ∀ {k : Nat}, k < ops.size → listed.getD k true = false → listed.getD k false = false := fun {k} hk hu => by
        have hks : k < listed.size := by omega
        simp [Array.getD, hks] at hu ⊢
        exact hu
      have hA : ∀ p ∈ A, p.1 ≠ i ∧ apartA p.2.o x.o = true ∧ heapOk p.1 p.2 i x = true ∧ wfD total p.2 = true := fun p hp => by
        obtain ⟨k, y⟩ := p
        have hlt : k < i := hpw'.2.2 _ hp (i, x) (by simp)
        obtain ⟨hk1, hk2⟩ := (hmem k y).1 (List.mem_append_left _ hp)
        have := hD.pair k i y x hlt hk1 hx
        rcases this with h | ⟨h1, h2⟩
        · have h3 := hpre k h
          rw [unl (by omega) hk2] at h3
          cases h3
        · exact ⟨by simp only; omega, h1, h2, hD.wf k y hk1⟩
      have hrun' : runL cf stOf lo base n0 fr0 ((A ++ [(i, x)]) ++ B) s = some sf := by rw [List.append_assoc]; exact hrun
      rw [runL_append] at hrun'
      cases hmid : runL cf stOf lo base n0 fr0 (A ++ [(i, x)]) s with
      | none => rw [hmid] at hrun'; cases hrun'
      | some s2 =>
        rw [hmid] at hrun'
        simp only [Option.bind_some] at hrun'
        obtain ⟨s1, e1, e2⟩ := bubble hV (hD.wf i x hx) A s s2 hA hpw'.1 (fun p hp => hlog p (List.mem_append_left _ hp)) hl hmid
        obtain ⟨d1, d2⟩ := stepD_some e1
        refine stepD_sound hcs hlb hN ho hco (hD.wf i x hx) hb hl hs e1 fun r' w' St' a' hs' hst' => ?_
        have hne : ∀ p ∈ A ++ B, p.1 ≠ i := fun p hp => by
          rcases List.mem_append.1 hp with h | h
          · have := hpw'.2.2 p h (i, x) (by simp)
            simp only at this
            omega
          · have := hpwB.1 p h
            simp only at this
            omega
        refine ih (A ++ B) (listed.setIfInBounds i true) s1 a' r' w' St' (by simp at hlen ⊢; omega) ?_ (fun j y => ?_) (by simpa using hsz) (fun j hj k hk => ?_) (fun p hp => ?_) (by omega) (by rw [runL_append, e2]; exact hrun') hs' (hst.trans hst')
        · refine List.pairwise_append.2 ⟨hpw'.1, hpwB.2, fun p hp q hq => hpw'.2.2 p hp q (List.mem_cons_of_mem _ hq)⟩
        · constructor
          · intro hm
            have hji := hne _ hm
            have hm2 : (j, y) ∈ A ++ (i, x) :: B := by
              rcases List.mem_append.1 hm with h | h
              · exact List.mem_append_left _ h
              · exact List.mem_append_right _ (List.mem_cons_of_mem _ h)
            obtain ⟨q1, q2⟩ := (hmem j y).1 hm2
            exact ⟨q1, by rw [getD_set_ne true (fun h => hji h.symm)]; exact q2⟩
          · rintro ⟨q1, q2⟩
            have hji : j ≠ i := fun h => by
              subst h
              have : j < listed.size := by omega
              simp [Array.getD, this] at q2
            rw [getD_set_ne true (fun h => hji h.symm)] at q2
            have := (hmem j y).2 ⟨q1, q2⟩
            rcases List.mem_append.1 this with h | h
            · exact List.mem_append_left _ h
            · rcases List.mem_cons.1 h with h | h
              · cases h; exact absurd rfl hji
              · exact List.mem_append_right _ h
        · by_cases hji : j = i
          · subst hji
            exact getD_set_true (hpre k hk)
          · rw [getD_set_ne false (fun h => hji h.symm)] at hj
            exact getD_set_true (hcl j hj k hk)
        · rw [d2 p.1 (hne p hp)]
          refine hlog p ?_
          rcases List.mem_append.1 hp with h | h
          · exact List.mem_append_left _ h
          · exact List.mem_append_right _ (List.mem_cons_of_mem _ h)

end
end Go.Abs

/- Code. -/
set_option linter.unusedSimpArgs false
set_option linter.unusedVariables false
namespace Go.Abs

section
variable {P : Program} {gh : Nat → List (Nat × Nat × Nat)} {lo base N : Nat}

theorem zipIdx'_get {α β : Type} {f : Nat → α → β} : ∀ {xs : List α} {k i : Nat}, (zipIdx' f k xs)[i]? = (xs[i]?).map (f (k + i))
  | [], k, i => by simp [zipIdx']
  | x :: xs, k, 0 => by simp [zipIdx']
  | x :: xs, k, i + 1 => by
    simp only [zipIdx', List.getElem?_cons_succ, zipIdx'_get]
    rw [show k + 1 + i = k + (i + 1) by omega]
theorem zipIdx'_length {α β : Type} {f : Nat → α → β} : ∀ {xs : List α} {k : Nat}, (zipIdx' f k xs).length = xs.length
  | [], _ => rfl
  | x :: xs, k => by simp [zipIdx', zipIdx'_length]

theorem numbered_spec {α : Type} : ∀ (xs : List α) (k : Nat), (numbered k xs).length = xs.length ∧ (numbered k xs).Pairwise (fun p q => p.1 < q.1) ∧ (∀ p ∈ numbered k xs, k ≤ p.1) ∧ ∀ j x, (j, x) ∈ numbered k xs ↔ k ≤ j ∧ xs[j - k]? = some x
  | [], k => by simp [numbered]
  | x :: xs, k => by
    obtain ⟨h1, h2, h3, h4⟩ := numbered_spec xs (k + 1)
    refine ⟨by simp [numbered, h1], List.pairwise_cons.2 ⟨fun p hp => h3 p hp, h2⟩, fun p hp => ?_, fun j y => ?_⟩
    · rcases List.mem_cons.1 hp with rfl | hp
      · exact Nat.le_refl _
      · have := h3 p hp; omega
    · simp only [numbered, List.mem_cons, Prod.mk.injEq, h4]
      constructor
      · rintro (⟨rfl, rfl⟩ | ⟨h5, h6⟩)
        · simp
        · refine ⟨by omega, ?_⟩
          rw [show j - k = (j - (k + 1)) + 1 by omega]
          simpa using h6
      · rintro ⟨h5, h6⟩
        by_cases hj : j = k
        · subst hj
          simp at h6
          exact .inl ⟨rfl, h6.symm⟩
        · refine .inr ⟨by omega, ?_⟩
          rw [show j - k = (j - (k + 1)) + 1 by omega] at h6
          simpa using h6

theorem region_draw {ops : Array Oper} {ac : ACode} (h : compileRegion P gh true ops = some ac) : ∃ total ds pre, ac = .draw total ds ∧ DOk P gh ops ds pre total := by
  unfold compileRegion at h
  split at h
  · cases h
  · rename_i as has
    simp only [if_true] at h
    split at h
    · rename_i hc
      cases h
      simp only [Bool.and_eq_true] at hc
      obtain ⟨⟨⟨hb, hpr⟩, hpa⟩, hwf⟩ := hc
      obtain ⟨hl, hi⟩ := mapO_some has
      have hal : as.length = ops.size := by simpa using hl
      generalize hpre : (List.range ops.size).map (preOf (Region.before ops) ops.size) = pre at hpr hpa
      refine ⟨_, _, pre, rfl, ?_, fun j x hx => ?_, fun j o ho e he => ?_, fun j o ho i hi => ?_, fun i j x y hij hx hy => ?_, fun j x hx => ?_⟩
      · rw [zipIdx'_length, hal]
      · rw [zipIdx'_get] at hx
        simp only [Option.map_eq_some_iff] at hx
        obtain ⟨y, hy, rfl⟩ := hx
        have hj : j < ops.size := by rw [← hal]; exact (List.getElem?_eq_some_iff.1 hy).1
        obtain ⟨z, h1, h2⟩ := hi j ops[j] (by simp [hj])
        rw [hy] at h1
        cases h1
        exact ⟨ops[j], by simp [hj], h2⟩
      · unfold backOk at hb
        simp only [List.all_eq_true, List.mem_range] at hb
        have := hb j (Array.getElem?_eq_some_iff.1 ho).1
        simp only [ho] at this
        have := Array.all_eq_true_iff_forall_mem.1 this e he
        simpa using this
      · unfold preOk at hpr
        simp only [List.all_eq_true, List.mem_range] at hpr
        have := hpr j (Array.getElem?_eq_some_iff.1 ho).1
        simp only [ho] at this
        have := List.all_eq_true.1 this i hi
        obtain ⟨e, he, hh⟩ := Array.any_eq_true'.1 this
        simp only [Bool.and_eq_true, Bool.or_eq_true, beq_iff_eq, List.contains_eq_mem, decide_eq_true_eq] at hh
        exact ⟨e, he, hh.1.1, hh.2⟩
      · unfold pairsOk at hpa
        simp only [List.all_eq_true, List.mem_range] at hpa
        have := hpa j (List.getElem?_eq_some_iff.1 hy).1 i hij
        simp only [hx, hy, Bool.or_eq_true, Bool.and_eq_true, List.contains_eq_mem, decide_eq_true_eq] at this
        exact this
      · exact List.all_eq_true.1 hwf x (List.mem_of_getElem? hx)
    · cases h

theorem region_text {ops : Array Oper} {ac : ACode} (h : compileRegion P gh false ops = some ac) : ∃ as, ac = .region as ∧ Paired P gh false ops (List.range ops.size) as := by
  unfold compileRegion at h
  split at h
  · cases h
  · rename_i as has
    simp only [Bool.false_eq_true, if_false, Option.some.injEq] at h
    refine ⟨as, h.symm, ?_⟩
    have key : ∀ (os : List Oper) (as : List AOper) (k : Nat), mapO (compileOper P gh false ops) os = some as → (∀ i o, os[i]? = some o → ops[k + i]? = some o) → Paired P gh false ops (List.range' k os.length) as := by
      intro os
      induction os with
      | nil =>
        intro as k h _
        simp only [mapO, Option.some.injEq] at h
        subst h
        trivial
      | cons o os ih =>
        intro as k h ho
        simp only [mapO] at h
        split at h
        · rename_i y ys hy hys
          cases h
          simp only [List.length_cons, List.range'_succ]
          refine ⟨⟨o, by simpa using ho 0 o rfl, hy⟩, ih ys (k + 1) hys fun i p hp => ?_⟩
          have := ho (i + 1) p (by simpa using hp)
          rwa [show k + 1 + i = k + (i + 1) by omega]
        · cases h
    have := key ops.toList as 0 has (fun i o h => by simpa using h)
    rw [List.range_eq_range']
    simpa using this

theorem regionCQ (hmix : P.follows .mixedOrders = true) {c : Ctx} (hcs : CallSound P c.cf) (hlb : lo ≤ base) (hV : CfV c.cf c.stOf) {id : Nat} {ops : Array Oper} {draw : Bool} {ac : ACode} (hc : compileRegion P gh draw ops = some ac)
    (hN : ∀ (i : Nat) (o : Oper) (d : Nat), ops[i]? = some o → o.dst = some d → d < N) {fr : Frame} {g : G} {out : Out} {fr' : Frame} {h' : Heap} (h : exec c lo base ac fr g.h = some (out, fr', h')) {a : Act} (hs : SR lo N g fr a) (hb : base ≤ g.h.length) :
    (Code.region id ops draw).wp P (CQ lo base N g out fr' h') a g.w := by
  cases draw with
  | false =>
    obtain ⟨as, rfl, hp⟩ := region_text hc
    simp only [exec] at h
    split at h
    · rename_i fr1 h1 hrun
      cases h
      exact wp_region (runOps_sound hcs hlb hN as _ fr g fr' h' a hp hrun hs hb)
    · cases h
  | true =>
    obtain ⟨total, ds, pre, rfl, hD⟩ := region_draw hc
    simp only [exec] at h
    split at h
    · rename_i sf hrun
      cases h
      obtain ⟨s1, st1⟩ := region_start (base := base) (total := total) hs hb
      refine wp_region_any hmix ?_
      rw [runD_eq] at hrun
      obtain ⟨n1, n2, n3, n4⟩ := numbered_spec ds 0
      refine any_sound (n0 := g.h.length) (total := total) (fr0 := fr) (g0 := g) (sf := sf) hcs hlb hV hD hN hb (fun r w St a hsr hst => ⟨rfl, r, St, hsr.trim, step_trim hst⟩) ops.size (numbered 0 ds) _ _ a g.r _ g.St (by rw [n1, hD.len]; exact Nat.le_refl _) n2 (fun j x => ?_) (by simp) (fun j hj => ?_) (fun _ _ => rfl) (by simp) hrun s1 st1
      · rw [n4]
        simp only [Nat.zero_le, true_and, Nat.sub_zero]
        constructor
        · intro hx
          have hj : j < ops.size := by rw [← hD.len]; exact (List.getElem?_eq_some_iff.1 hx).1
          exact ⟨hx, by simp [Array.getD, hj]⟩
        · exact fun h => h.1
      · exfalso
        simp only [Array.getD, Array.size_replicate] at hj
        split at hj
        · simp at hj
        · cases hj
    · cases h

theorem andThen_some {r : Option R} {k : Body} {out : Out} {fr' : Frame} {h' : Heap} (h : andThen r k = some (out, fr', h')) : (∃ fr1 h1, r = some (.normal, fr1, h1) ∧ k fr1 h1 = some (out, fr', h')) ∨ (out ≠ .normal ∧ r = some (out, fr', h')) := by
  unfold andThen at h
  split at h
  · exact .inl ⟨_, _, rfl, h⟩
  · rename_i hn
    subst h
    refine .inr ⟨fun ho => ?_, rfl⟩
    subst ho
    exact hn _ _ rfl

/-- Code does what its abstract run says. -/
def CodeSound (P : Program) (lo base N : Nat) (code : Code) (b : Body) : Prop :=
  ∀ (fr : Frame) (g : G) (out : Out) (fr' : Frame) (h' : Heap) (a : Act), b fr g.h = some (out, fr', h') → SR lo N g fr a → base ≤ g.h.length → code.wp P (CQ lo base N g out fr' h') a g.w

theorem loop_sound {code : Code} {b : Body} (hb : CodeSound P lo base N code b) : ∀ (k : Nat) (fr : Frame) (g : G) (out : Out) (fr' : Frame) (h' : Heap) (a : Act), iter k b fr g.h = some (out, fr', h') → SR lo N g fr a → base ≤ g.h.length → Code.rounds P code (CQ lo base N g out fr' h') k a g.w
  | 0, fr, g, out, fr', h', a, h, _, _ => by simp [iter] at h
  | k + 1, fr, g, out, fr', h', a, h, hs, hbl => by
    simp only [iter] at h
    rw [rounds_succ]
    rcases andThen_some h with ⟨fr1, h1, e1, e2⟩ | ⟨hn, e1⟩
    · refine wp_mono (hb fr g .normal fr1 h1 a e1 hs hbl) fun e a1 w1 hq => ?_
      obtain ⟨rfl, r1, St1, s1, st1⟩ := hq
      have := loop_sound hb k fr1 ⟨h1, r1, w1, St1⟩ out fr' h' a1 e2 s1 (Nat.le_trans hbl st1.len)
      exact rounds_mono (fun e a w ⟨k1, r2, St2, k2, k3⟩ => ⟨k1, r2, St2, k2, st1.trans k3⟩) this
    · refine wp_mono (hb fr g out fr' h' a e1 hs hbl) fun e a1 w1 hq => ?_
      obtain ⟨rfl, hq⟩ := hq
      cases out with
      | normal => exact absurd rfl hn
      | exit id => exact ⟨rfl, hq⟩
      | ret => exact ⟨rfl, hq⟩
where
  rounds_mono {P : Program} {code : Code} {Q Q' : Exit → Act → World → Prop} (hq : ∀ e a w, Q e a w → Q' e a w) : ∀ {k : Nat} {a : Act} {w : World}, Code.rounds P code Q k a w → Code.rounds P code Q' k a w
    | 0, _, _, h => h
    | k + 1, a, w, h => by
      rw [rounds_succ] at h ⊢
      refine wp_mono h fun e a1 w1 h1 => ?_
      cases e <;> first | exact rounds_mono hq h1 | exact hq _ _ _ h1

theorem exec_sound (hmix : P.follows .mixedOrders = true) {c : Ctx} (hcs : CallSound P c.cf) (hlb : lo ≤ base) (hV : CfV c.cf c.stOf) {k : Nat} (hit : c.it = iter k) : ∀ (code : Code) (ac : ACode), compileCode P gh code = some ac → dstsOk N code = true → CodeSound P lo base N code (exec c lo base ac) := by
  intro code
  induction code with
  | skip =>
    intro ac hc hd fr g out fr' h' a h hs hb
    simp only [compileCode, Option.some.injEq] at hc
    subst hc
    simp only [exec, Option.some.injEq, Prod.mk.injEq] at h
    obtain ⟨rfl, rfl, rfl⟩ := h
    exact wp_skip ⟨rfl, g.r, g.St, hs, Step.refl _ _ _⟩
  | ret =>
    intro ac hc hd fr g out fr' h' a h hs hb
    simp only [compileCode, Option.some.injEq] at hc
    subst hc
    simp only [exec, Option.some.injEq, Prod.mk.injEq] at h
    obtain ⟨rfl, rfl, rfl⟩ := h
    exact wp_ret ⟨rfl, g.r, g.St, hs, Step.refl _ _ _⟩
  | exit id =>
    intro ac hc hd fr g out fr' h' a h hs hb
    simp only [compileCode, Option.some.injEq] at hc
    subst hc
    simp only [exec, Option.some.injEq, Prod.mk.injEq] at h
    obtain ⟨rfl, rfl, rfl⟩ := h
    exact wp_exit ⟨rfl, g.r, g.St, hs, Step.refl _ _ _⟩
  | region id ops draw =>
    intro ac hc hd fr g out fr' h' a h hs hb
    simp only [compileCode] at hc
    refine regionCQ hmix hcs hlb hV hc (fun i o d ho hdo => ?_) h hs hb
    simp only [dstsOk] at hd
    have := Array.all_eq_true_iff_forall_mem.1 hd o (Array.mem_of_getElem? ho)
    simp only [hdo, decide_eq_true_eq] at this
    exact this
  | seq x y ihx ihy =>
    intro ac hc hd fr g out fr' h' a h hs hb
    simp only [compileCode] at hc
    split at hc
    · rename_i x' y' hx hy
      cases hc
      simp only [dstsOk, Bool.and_eq_true] at hd
      simp only [exec] at h
      refine wp_seq ?_
      rcases andThen_some h with ⟨fr1, h1, e1, e2⟩ | ⟨hn, e1⟩
      · refine wp_mono (ihx x' hx hd.1 fr g .normal fr1 h1 a e1 hs hb) fun e a1 w1 hq => ?_
        obtain ⟨rfl, r1, St1, s1, st1⟩ := hq
        exact wp_mono (ihy y' hy hd.2 fr1 ⟨h1, r1, w1, St1⟩ out fr' h' a1 e2 s1 (Nat.le_trans hb st1.len)) fun e a w ⟨k1, r2, St2, k2, k3⟩ => ⟨k1, r2, St2, k2, st1.trans k3⟩
      · refine wp_mono (ihx x' hx hd.1 fr g out fr' h' a e1 hs hb) fun e a1 w1 hq => ?_
        obtain ⟨rfl, hq⟩ := hq
        cases out with
        | normal => exact absurd rfl hn
        | exit id => exact ⟨rfl, hq⟩
        | ret => exact ⟨rfl, hq⟩
    · cases hc
  | cond t x y ihx ihy =>
    intro ac hc hd fr g out fr' h' a h hs hb
    simp only [compileCode] at hc
    split at hc
    · rename_i t' x' y' ht hx hy
      cases hc
      simp only [dstsOk, Bool.and_eq_true] at hd
      simp only [exec] at h
      split at h
      · rename_i b hb2
        have h1 := opd_rep hs.fr ht
        rw [hb2] at h1
        refine wp_cond (rep_bool h1) ?_
        cases b with
        | true => exact ihx x' hx hd.1 fr g out fr' h' a h hs hb
        | false => exact ihy y' hy hd.2 fr g out fr' h' a h hs hb
      · cases h
    · cases hc
  | block id x ih =>
    intro ac hc hd fr g out fr' h' a h hs hb
    simp only [compileCode, Option.map_eq_some_iff] at hc
    obtain ⟨x', hx, rfl⟩ := hc
    simp only [dstsOk] at hd
    simp only [exec, inBlk] at h
    refine wp_block ?_
    split at h
    · rename_i j fr1 h1 e1
      refine wp_mono (ih x' hx hd fr g (.exit j) fr1 h1 a e1 hs hb) fun e a1 w1 hq => ?_
      obtain ⟨rfl, hq⟩ := hq
      show (if j = id then _ else _)
      split at h
      · rename_i hj
        cases h
        rw [if_pos hj]
        exact ⟨rfl, hq⟩
      · rename_i hj
        cases h
        rw [if_neg hj]
        exact ⟨rfl, hq⟩
    · rename_i hn
      refine wp_mono (ih x' hx hd fr g out fr' h' a h hs hb) fun e a1 w1 hq => ?_
      obtain ⟨rfl, hq⟩ := hq
      cases out with
      | normal => exact ⟨rfl, hq⟩
      | exit j => exact absurd h (hn _ _ _)
      | ret => exact ⟨rfl, hq⟩
  | loop x ih =>
    intro ac hc hd fr g out fr' h' a h hs hb
    simp only [compileCode, Option.map_eq_some_iff] at hc
    obtain ⟨x', hx, rfl⟩ := hc
    simp only [dstsOk] at hd
    simp only [exec, hit] at h
    exact wp_loop_rounds k (loop_sound (ih x' hx hd) k fr g out fr' h' a h hs hb)
  | _ => intro ac hc; simp [compileCode] at hc

end
end Go.Abs

/- A function's body. -/
set_option linter.unusedSimpArgs false
set_option linter.unusedVariables false
namespace Go.Abs

section
variable {P : Program} {gh : Nat → List (Nat × Nat × Nat)} {lo base : Nat}

theorem dstsOk_mono {n N : Nat} (hn : n ≤ N) : ∀ c : Code, dstsOk n c = true → dstsOk N c = true := by
  intro c
  induction c with
  | region id ops draw =>
    intro h
    simp only [dstsOk] at h ⊢
    refine Array.all_eq_true_iff_forall_mem.2 fun o ho => ?_
    have := Array.all_eq_true_iff_forall_mem.1 h o ho
    cases hd : o.dst with
    | none => rfl
    | some d =>
      simp only [hd, decide_eq_true_eq] at this ⊢
      exact Nat.lt_of_lt_of_le this hn
  | seq a b iha ihb =>
    intro h
    simp only [dstsOk, Bool.and_eq_true] at h ⊢
    exact ⟨iha h.1, ihb h.2⟩
  | cond c a b iha ihb =>
    intro h
    simp only [dstsOk, Bool.and_eq_true] at h ⊢
    exact ⟨iha h.1, ihb h.2⟩
  | block id a ih => intro h; simp only [dstsOk] at h ⊢; exact ih h
  | loop a ih => intro h; simp only [dstsOk] at h ⊢; exact ih h
  | _ => intro _; rfl

/-- Values that stand for abstract ones, one by one. -/
def RepL (g : G) (xs : List AV) (vs : Array Value) : Prop := xs.length = vs.size ∧ ∀ (j : Nat) (x : AV) (y : Value), xs[j]? = some x → vs[j]? = some y → Rep g x y

theorem entry {N : Nat} {g : G} {args : List AV} {vals : Array Value} {k : Nat} (hr : HRep lo g) (ha : RepL g args vals) :
    SR lo (vals.size + (k - vals.size)) g (initFr args) { tmps := vals ++ Array.replicate (k - vals.size) undef, defers := [] } := by
  refine ⟨hr, fun t => ?_, by simp, rfl⟩
  simp only [initFr]
  by_cases ht : t < vals.size
  · have h1 : args[t]? = some (args[t]'(by rw [ha.1]; exact ht)) := List.getElem?_eq_getElem _
    have h2 : vals[t]? = some vals[t] := Array.getElem?_eq_getElem ht
    have := ha.2 t _ _ h1 h2
    have e1 : args.getD t .undef = args[t]'(by rw [ha.1]; exact ht) := by simp [List.getD, h1]
    have e2 : (vals ++ Array.replicate (k - vals.size) undef).getD t undef = vals[t] := by
      simp [Array.getD_eq_getD_getElem?, Array.getElem?_append_left ht, h2]
    rw [e1, e2]
    exact this
  · have h1 : args[t]? = none := List.getElem?_eq_none (by rw [ha.1]; omega)
    have e1 : args.getD t .undef = .undef := by simp [List.getD, h1]
    have e2 : (vals ++ Array.replicate (k - vals.size) undef).getD t undef = undef := by
      rw [Array.getD_eq_getD_getElem?, Array.getElem?_append_right (by omega)]
      by_cases h3 : t - vals.size < k - vals.size
      · simp [h3]
      · simp [h3]
    rw [e1, e2]
    exact .undef

theorem amapM_run {α β : Type} (f : α → Sem β) (w : World) (xs : Array α) (ys : List β) (hl : ys.length = xs.size) (h : ∀ (i : Nat) (x : α) (y : β), xs[i]? = some x → ys[i]? = some y → (f x).run P w = .ok y w) : (xs.mapM f).run P w = .ok ys.toArray w := by
  obtain ⟨xs⟩ := xs
  have key : ∀ (xs : List α) (ys : List β), ys.length = xs.length → (∀ (i : Nat) (x : α) (y : β), xs[i]? = some x → ys[i]? = some y → (f x).run P w = .ok y w) → (xs.mapM f).run P w = .ok ys w := by
    intro xs
    induction xs with
    | nil =>
      intro ys hl _
      have : ys = [] := List.length_eq_zero_iff.1 (by simpa using hl)
      subst this
      simp
    | cons x xs ih =>
      intro ys hl h
      cases ys with
      | nil => simp at hl
      | cons y ys =>
        simp only [List.mapM_cons, Sem.run_bind, h 0 x y rfl rfl, Result.andThen_ok, ih ys (by simpa using hl) (fun i a b ha hb => h (i + 1) a b (by simpa using ha) (by simpa using hb)), Sem.run_pure]
  have := key xs ys (by simpa using hl) (fun i x y hx hy => h i x y (by simpa using hx) hy)
  rw [List.mapM_toArray]
  simp only [Sem.run_map, this]
  rfl

def resOne (a : Act) : ResultVar → Sem Value
  | .tmp t => pure (a.tmps.getD t undef)
  | .cell c t => do loadVar t (← asAddr (a.tmps.getD c undef))
theorem results_eq (fn : Func) (a : Act) : results fn a.tmps = (do
    let vs ← fn.results.mapM (resOne a)
    pure (if h : vs.size = 1 then vs[0] else .tuple vs)) := by
  unfold results
  congr 1

/-- The results. -/
theorem results_rep {fn : Func} {rs : List ARes} {g : G} {fr : Frame} {a : Act} {N : Nat} {v : AV} (hs : SR lo N g fr a) (hc : mapO (compileRes P) fn.results.toList = some rs) (h : resultAV g.h fr rs = some v) :
    ∃ v', (results fn a.tmps).run P g.w = .ok v' g.w ∧ Rep g v v' := by
  unfold resultAV at h
  obtain ⟨hl, hi⟩ := mapO_some hc
  have hex : ∀ vs, mapO (resAV g.h fr) rs = some vs → ∃ us : List Value, us.length = rs.length ∧ (∀ (i : Nat) (x : AV) (u : Value), vs[i]? = some x → us[i]? = some u → Rep g x u) ∧
      ∀ (i : Nat) (q : ResultVar) (u : Value), fn.results[i]? = some q → us[i]? = some u → (resOne a q).run P g.w = .ok u g.w := by
    intro vs hvs
    obtain ⟨ml, mi⟩ := mapO_some hvs
    have each : ∀ (i : Nat), ∃ u : Value, ∀ q, fn.results[i]? = some q → (∀ x, vs[i]? = some x → Rep g x u) ∧ (resOne a q).run P g.w = .ok u g.w := by
      intro i
      cases hq : fn.results[i]? with
      | none => exact ⟨undef, fun q h => by cases h⟩
      | some q =>
        obtain ⟨r, hr1, hr2⟩ := hi i q (by simpa using hq)
        obtain ⟨x, hx1, hx2⟩ := mi i r hr1
        cases q with
        | tmp t =>
          simp only [compileRes, Option.some.injEq] at hr2
          subst hr2
          simp only [resAV, Option.some.injEq] at hx2
          subst hx2
          refine ⟨a.tmps.getD t undef, fun q' hq' => ?_⟩
          cases hq'
          exact ⟨fun y hy => by rw [hx1] at hy; cases hy; exact hs.fr t, by simp [resOne]⟩
        | cell c t =>
          simp only [compileRes] at hr2
          split at hr2
          · rename_i ag n hag hn
            cases hr2
            simp only [resAV] at hx2
            obtain ⟨ad, he, v', hv, hrep⟩ := load_rep hs.hr (hs.fr c) hag hn hx2
            refine ⟨v', fun q' hq' => ?_⟩
            cases hq'
            refine ⟨fun y hy => by rw [hx1] at hy; cases hy; exact hrep, ?_⟩
            simp only [resOne, he, asAddr, Sem.run_bind, Sem.run_pure, Result.andThen_ok, hv]
          · cases hr2
    refine ⟨(List.range rs.length).map fun i => Classical.choose (each i), by simp, fun i x u hx hu => ?_, fun i q u hq hu => ?_⟩
    · have hilt : i < rs.length := by rw [← ml]; exact (List.getElem?_eq_some_iff.1 hx).1
      simp only [List.getElem?_map, List.getElem?_range hilt, Option.map_some, Option.some.injEq] at hu
      subst hu
      have hq : i < fn.results.size := by rw [hl] at hilt; simpa using hilt
      exact (Classical.choose_spec (each i) _ (Array.getElem?_eq_getElem hq)).1 x hx
    · have hq2 : i < fn.results.size := (Array.getElem?_eq_some_iff.1 hq).1
      have hilt : i < rs.length := by rw [hl]; simpa using hq2
      simp only [List.getElem?_map, List.getElem?_range hilt, Option.map_some, Option.some.injEq] at hu
      subst hu
      exact (Classical.choose_spec (each i) q hq).2
  have run : ∀ us : List Value, us.length = rs.length → (∀ (i : Nat) (q : ResultVar) (u : Value), fn.results[i]? = some q → us[i]? = some u → (resOne a q).run P g.w = .ok u g.w) → (results fn a.tmps).run P g.w = .ok (if h : us.toArray.size = 1 then us.toArray[0] else .tuple us.toArray) g.w := by
    intro us hul hus
    rw [results_eq, Sem.run_bind, amapM_run _ g.w fn.results us (by rw [hul, hl]; simp) hus]
    rfl
  split at h
  · rename_i x hvs
    cases h
    obtain ⟨us, h1, h2, h3⟩ := hex _ hvs
    have hlen : us.length = 1 := by rw [h1, ← (mapO_some hvs).1]; rfl
    match us, hlen with
    | [u], _ => exact ⟨u, by rw [run [u] h1 h3]; rfl, h2 0 v u rfl rfl⟩
  · rename_i vs hn hvs
    cases h
    obtain ⟨us, h1, h2, h3⟩ := hex _ hvs
    have hvl := (mapO_some hvs).1
    have hlen : us.length ≠ 1 := fun h => by
      have hv1 : vs.length = 1 := by omega
      match vs, hv1 with
      | [x], _ => exact hn x rfl
    refine ⟨.tuple us.toArray, by rw [run us h1 h3, dif_neg (by simpa using hlen)], .tup (by simp; omega) fun j x u hx hu => h2 j x u hx (by simpa using hu)⟩
  · cases h

/-- A body: what it comes to. -/
theorem body_sound (hmix : P.follows .mixedOrders = true) {c : Ctx} (hcs : CallSound P c.cf) (hlb : lo ≤ base) (hV : CfV c.cf c.stOf) {k : Nat} (hit : c.it = iter k) {f : Nat} {fn : Func} {af : AFn} (hfn : P.funcs[f]? = some fn) (hcf : compileFn P gh fn = some af)
    {args : List AV} {vals : Array Value} {g : G} {v : AV} {h1 : Heap} (hr : HRep lo g) (ha : RepL g args vals) (hb : base ≤ g.h.length) (h : bodyAV c af lo base args g.h = some (v, h1)) :
    Calls P f vals g.w (Back (Post lo base g v h1)) ∧ (fn.name == "runtime.NumGoroutine") = false ∧ fn.body.isNone = false := by
  unfold compileFn at hcf
  split at hcf
  · cases hcf
  · rename_i code hbody
    split at hcf
    · rename_i hd
      simp only [Bool.and_eq_true, Bool.not_eq_true'] at hd
      split at hcf
      · rename_i rs ac hrs hac
        cases hcf
        refine ⟨?_, hd.2, by rw [hbody]; rfl⟩
        have hent := entry (N := 0) (k := fn.ntmps) hr ha
        have hd2 := dstsOk_mono (n := fn.ntmps) (N := vals.size + (fn.ntmps - vals.size)) (by omega) code hd.1
        have hex := exec_sound (N := vals.size + (fn.ntmps - vals.size)) (lo := lo) (base := base) hmix hcs hlb hV hit code ac hac hd2
        refine calls_of_wp hfn hbody ?_
        unfold bodyAV at h
        have fin : ∀ (out : Out) (fr' : Frame) (h' : Heap), out = .normal ∨ out = .ret → exec c lo base ac (initFr args) g.h = some (out, fr', h') → put1 h' (resultAV h' fr' rs) = some (v, h1) →
            code.wp P (bodyPost P fn (Back (Post lo base g v h1))) { tmps := vals ++ Array.replicate (fn.ntmps - vals.size) undef, defers := [] } g.w := by
          intro out fr' h' ho he hp
          obtain ⟨hp1, rfl⟩ := put1_eq hp
          refine wp_mono (hex (initFr args) g out fr' h1 _ he hent hb) fun e a1 w1 hq => ?_
          obtain ⟨rfl, r1, St1, s1, st1⟩ := hq
          obtain ⟨v', k1, k2⟩ := results_rep s1 hrs hp1
          rcases ho with rfl | rfl
          · exact ⟨s1.defers, v', k1, r1, St1, k2, s1.hr, st1⟩
          · exact ⟨s1.defers, v', k1, r1, St1, k2, s1.hr, st1⟩
        split at h
        · rename_i fr' h' he
          exact fin .normal fr' h' (.inl rfl) he h
        · rename_i fr' h' he
          exact fin .ret fr' h' (.inr rfl) he h
        · cases h
      · cases hcf
    · cases hcf

end
end Go.Abs

/- Results behind a call. -/
set_option linter.unusedSimpArgs false
set_option linter.unusedVariables false
namespace Go.Abs

section
variable {lo1 n : Nat} {g1 gF : G}

theorem embed_sl {h : Heap} {np : Nat} {d : Nat} {x : AV} {sz b k off len : Nat} (e : embed h n np d x = some (.sl sz b k off len)) : x = .sl sz b k off len ∧ b < n := by
  cases d with
  | zero =>
    simp only [embed] at e
    split at e
    · rename_i hc; cases e; simp [AV.closed] at hc
    · cases e
  | succ d =>
    simp only [embed] at e
    split at e
    · rename_i hc; cases e; simp [AV.closed] at hc
    · split at e
      · split at e
        · rename_i hlt; cases e; exact ⟨rfl, hlt⟩
        · split at e
          · split at e
            · split at e
              · cases e
              · simp only [Option.map_eq_some_iff] at e
                obtain ⟨_, _, h⟩ := e
                cases h
            · cases e
          · cases e
      · split at e
        · cases e
        · split at e
          · split at e
            · split at e
              · cases e
              · simp only [Option.map_eq_some_iff] at e
                obtain ⟨_, _, h⟩ := e
                cases h
            · cases e
          · cases e
      all_goals first
        | (simp only [Option.map_eq_some_iff] at e; obtain ⟨_, _, h⟩ := e; cases h; done)
        | (split at e <;> cases e; done)
        | cases e

theorem embed_closed {h : Heap} {np d : Nat} {x : AV} (hc : x.closed = true) : embed h n np (d + 1) x = some x ∧ slIds h n (d + 1) x = [] := by
  simp [embed, slIds, hc]

/-- One result. -/
theorem seal1_rep (hr : HRep lo1 g1) {keep : Bool} {tgt : Nat} {v r : AV} {bs : List Blk} {v1 : Value} (hv : Rep g1 v v1) (h : seal1 keep g1.h n tgt v = some (r, bs)) {Gd : AV → Prop} {Em : Nat → Prop}
    (HE : ∀ x y u, embed g1.h n n depth x = some y → Rep g1 x u → (∀ b ∈ slIds g1.h n depth x, Em b) → Gd y → Rep gF y u)
    (HS : ∀ sz b k off len u, b < n → Rep g1 (.sl sz b k off len) u → Rep gF (.sl sz b k off len) u) (F2 : gF.w = g1.w) (hEm : ∀ b ∈ embIds1 keep g1.h n v, Em b)
    (hGr : (∀ s b k o l, r ≠ .sl s b k o l) → Gd r) (hGb : ∀ B ∈ bs, ∀ e ∈ B.es, Gd e)
    (F5 : ∀ B, bs = [B] → vblk gF.h gF.r tgt = some B ∧ ∀ kb, keptOf n v = [kb] → gF.r tgt = g1.r kb) :
    Rep gF r v1 ∧ ((bs = [] ∧ (keep = true → keptOf n v = [])) ∨ ∃ B kb B0, bs = [B] ∧ keep = true ∧ keptOf n v = [kb] ∧ vblk g1.h g1.r kb = some B0 ∧ B0.frz = false ∧ B.frz = false ∧ n ≤ kb ∧ BlkRep gF tgt B) := by
  have emb : ∀ {y : AV}, embed g1.h n n depth v = some y → (∀ b ∈ slIds g1.h n depth v, Em b) → ((∀ s b k o l, y ≠ .sl s b k o l) → Gd y) → Rep gF y v1 := by
    intro y hy hm hg
    cases y with
    | sl s b k o l =>
      obtain ⟨rfl, hlt⟩ := embed_sl hy
      exact HS _ _ _ _ _ _ hlt hv
    | _ => exact HE _ _ _ hy hv hm (hg (by simp))
  unfold seal1 at h
  split at h
  · rename_i sz b k off len
    split at h
    · rename_i hbn
      split at h
      · rename_i B hB
        split at h
        · cases h
        · rename_i hc
          simp only [Bool.or_eq_true, not_or, Bool.not_eq_true, Bool.not_eq_false', beq_iff_eq, decide_eq_true_eq] at hc
          obtain ⟨⟨c1, c2⟩, c3⟩ := hc
          subst c2
          obtain ⟨hBb, hBl⟩ := good_eq.1 hB
          have hBv : vblk g1.h g1.r b = some B := vblk_of hBb
          split at h
          · rename_i es hes
            cases h
            have hkept : keptOf n (.sl sz b k 0 len) = [b] := by simp [keptOf, hbn]
            obtain ⟨f1, f2⟩ := F5 _ rfl
            have f2 := f2 b hkept
            have hesl : es.length = len ∧ ∀ (i : Nat) (y : AV), es[i]? = some y → ∃ x, B.es[i]? = some x ∧ embed g1.h n n depth x = some y ∧ ∀ b ∈ slIds g1.h n depth x, Em b := by
              split at hes
              · rename_i hcl
                cases hes
                refine ⟨by simp; omega, fun i y hy => ?_⟩
                rw [List.getElem?_take] at hy
                split at hy
                · have hyc := closedL_iff.1 hcl i y hy
                  refine ⟨y, hy, (embed_closed hyc).1, fun b hb => ?_⟩
                  rw [show slIds g1.h n depth y = [] from (embed_closed (np := n) hyc).2] at hb
                  cases hb
                · cases hy
              · rename_i hcl
                obtain ⟨ml, mi⟩ := mapO_some hes
                refine ⟨by rw [ml]; simp; omega, fun i y hy => ?_⟩
                obtain ⟨x, hx, hxy⟩ := mapO_rep hes hy
                have hx2 := hx
                rw [List.getElem?_take] at hx2
                split at hx2
                · refine ⟨x, hx2, hxy, fun b' hb' => hEm b' ?_⟩
                  simp only [embIds1, if_pos hbn, hB, if_neg hcl]
                  exact List.mem_flatMap.2 ⟨x, List.mem_of_getElem? hx, hb'⟩
                · cases hx2
            obtain ⟨e1, e2⟩ := hesl
            cases hv with
            | sl r1 r2 r3 r6 r7 r4 r5 =>
              rename_i cap A
              have gd1 : vgood g1.h g1.r b k = some B := vgood_of hB
              refine ⟨.sl ⟨_, f1, by simp [e1]⟩ r2 (by simp) (fun C hC => ?_) r7 (fun hp C c hC hcc => ?_) (fun _ C hC => ?_), .inr ⟨_, b, B, rfl, rfl, hkept, hBv, c1, c1, hbn, ?_⟩⟩
              · have := (vgood_eq.1 hC).1
                rw [f1] at this
                cases this
                rfl
              · rw [f2] at hcc
                have := r4 hp B c gd1 hcc
                simpa using this
              · have := (vgood_eq.1 hC).1
                rw [f1] at this
                cases this
                obtain ⟨ha, hb⟩ := r5 rfl B gd1
                rw [F2, f2]
                exact ⟨ha, hb⟩
              · obtain ⟨hn1, hn2⟩ := hr.blks b B hBv
                refine ⟨fun hn => ?_, fun c hcc => ?_⟩
                · rw [f2] at hn
                  have := hn1 hn
                  rw [this] at hBl
                  simp only at hBl ⊢
                  exact List.length_eq_zero_iff.1 (by simp at hBl; omega)
                · rw [f2] at hcc
                  obtain ⟨cells, k1, k2, k3⟩ := hn2 c hcc
                  refine ⟨cells, by rw [F2]; exact k1, Nat.le_trans (Nat.mul_le_mul_right _ (by simp only; omega)) k2, fun i y hy => ?_⟩
                  obtain ⟨x, hx, hxy, hm⟩ := e2 i y hy
                  obtain ⟨u, u1, u2, u3⟩ := k3 i x hx
                  exact ⟨u, HE x y u hxy u1 hm (hGb _ (by simp) y (List.mem_of_getElem? hy)), u2, u3⟩
          · cases h
      · cases h
    · rename_i hbn
      cases h
      exact ⟨HS _ _ _ _ _ _ (by omega) hv, .inl ⟨rfl, fun _ => by simp [keptOf, hbn]⟩⟩
  · rename_i hnk
    split at h
    · rename_i y hy
      cases h
      have hk : keep = true → keptOf n v = [] := fun hk => by
        subst hk
        cases v with
        | sl s b k o l => exact absurd rfl (hnk s b k o l rfl)
        | _ => rfl
      refine ⟨emb hy (fun b hb => hEm b ?_) hGr, .inl ⟨rfl, hk⟩⟩
      unfold embIds1
      split
      · rename_i s b' k o l
        exact absurd rfl (hnk s b' k o l rfl)
      · exact hb
    · cases h

end
end Go.Abs

/- Results behind a call: several. -/
set_option linter.unusedSimpArgs false
set_option linter.unusedVariables false
namespace Go.Abs

section
variable {lo1 n : Nat} {g1 gF : G}

/-- A kept block and what it was. -/
def KeptAt (n : Nat) (g1 gF : G) (tgt : Nat) (K : List Nat) (bs : List Blk) : Prop :=
  bs.length = K.length ∧ ∀ (j : Nat) (B : Blk), bs[j]? = some B → ∃ kb B0, K[j]? = some kb ∧ vblk g1.h g1.r kb = some B0 ∧ B0.frz = false ∧ B.frz = false ∧ n ≤ kb ∧ BlkRep gF (tgt + j) B
def Placed (g1 gF : G) (tgt : Nat) (K : List Nat) (bs : List Blk) : Prop :=
  ∀ (j : Nat) (B : Blk), bs[j]? = some B → vblk gF.h gF.r (tgt + j) = some B ∧ ∀ kb, K[j]? = some kb → gF.r (tgt + j) = g1.r kb

theorem seal1_emb {keep : Bool} {h : Heap} {tgt : Nat} {v r : AV} {bs : List Blk} (e : seal1 keep h n tgt v = some (r, bs)) (hn : keep = false ∨ ∀ s b k o l, v ≠ .sl s b k o l) : bs = [] := by
  unfold seal1 at e
  split at e
  · rename_i s b k o l
    rcases hn with hn | hn
    · cases hn
    · exact absurd rfl (hn s b k o l)
  · split at e
    · cases e; rfl
    · cases e
theorem seal1_len {h : Heap} {tgt : Nat} {v r : AV} {bs : List Blk} (e : seal1 true h n tgt v = some (r, bs)) : bs.length = (keptOf n v).length := by
  cases v with
  | sl sz b k off len =>
    simp only [seal1] at e
    split at e
    · rename_i hbn
      split at e
      · split at e
        · cases e
        · split at e
          · cases e; simp [keptOf, hbn]
          · cases e
      · cases e
    · rename_i hbn; cases e; simp [keptOf, hbn]
  | _ => rw [seal1_emb e (.inr (by simp))]; rfl

theorem seal1_kept (hr : HRep lo1 g1) {keep : Bool} {tgt : Nat} {v r : AV} {bs : List Blk} {v1 : Value} (hv : Rep g1 v v1) (h : seal1 keep g1.h n tgt v = some (r, bs)) {Gd : AV → Prop} {Em : Nat → Prop}
    (HE : ∀ x y u, embed g1.h n n depth x = some y → Rep g1 x u → (∀ b ∈ slIds g1.h n depth x, Em b) → Gd y → Rep gF y u)
    (HS : ∀ sz b k off len u, b < n → Rep g1 (.sl sz b k off len) u → Rep gF (.sl sz b k off len) u) (F2 : gF.w = g1.w) (hEm : ∀ b ∈ embIds1 keep g1.h n v, Em b)
    (hGr : (∀ s b k o l, r ≠ .sl s b k o l) → Gd r) (hGb : ∀ B ∈ bs, ∀ e ∈ B.es, Gd e) (F5 : Placed g1 gF tgt (if keep then keptOf n v else []) bs) :
    Rep gF r v1 ∧ KeptAt n g1 gF tgt (if keep then keptOf n v else []) bs := by
  obtain ⟨h1, h2⟩ := seal1_rep hr hv h HE HS F2 hEm hGr hGb (fun B hB => by
    subst hB
    obtain ⟨k1, k2⟩ := F5 0 B rfl
    refine ⟨k1, fun kb hk => ?_⟩
    cases keep with
    | true => exact k2 kb (by simp [hk])
    | false =>
      exfalso
      have := seal1_emb h (.inl rfl)
      cases this)
  refine ⟨h1, ?_⟩
  rcases h2 with ⟨rfl, hk⟩ | ⟨B, kb, B0, rfl, rfl, q1, q2, q3, q4, q5, q6⟩
  · refine ⟨?_, by simp⟩
    cases keep with
    | true => simp [hk rfl]
    | false => rfl
  · refine ⟨by simp [q1], fun j C hC => ?_⟩
    cases j with
    | zero =>
      simp at hC
      subst hC
      exact ⟨kb, B0, by simp [q1], q2, q3, q4, q5, q6⟩
    | succ j => simp at hC

theorem sealL_rep (hr : HRep lo1 g1) {Gd : AV → Prop} {Em : Nat → Prop}
    (HE : ∀ x y u, embed g1.h n n depth x = some y → Rep g1 x u → (∀ b ∈ slIds g1.h n depth x, Em b) → Gd y → Rep gF y u)
    (HS : ∀ sz b k off len u, b < n → Rep g1 (.sl sz b k off len) u → Rep gF (.sl sz b k off len) u) (F2 : gF.w = g1.w) :
    ∀ (vs : List AV) (us : List Value) (tgt : Nat) (xs : List AV) (bs : List Blk), vs.length = us.length → (∀ (j : Nat) (x : AV) (u : Value), vs[j]? = some x → us[j]? = some u → Rep g1 x u) → sealL true g1.h n tgt vs = some (xs, bs) →
      (∀ b ∈ vs.flatMap (embIds1 true g1.h n), Em b) → (∀ x ∈ xs, (∀ s b k o l, x ≠ .sl s b k o l) → Gd x) → (∀ B ∈ bs, ∀ e ∈ B.es, Gd e) → Placed g1 gF tgt (vs.flatMap (keptOf n)) bs →
      xs.length = vs.length ∧ (∀ (j : Nat) (x : AV) (u : Value), xs[j]? = some x → us[j]? = some u → Rep gF x u) ∧ KeptAt n g1 gF tgt (vs.flatMap (keptOf n)) bs
  | [], us, tgt, xs, bs, hl, hv, h, _, _, _, _ => by
    simp only [sealL, Option.some.injEq, Prod.mk.injEq] at h
    obtain ⟨rfl, rfl⟩ := h
    exact ⟨rfl, by simp, rfl, by simp⟩
  | v :: vs, [], tgt, xs, bs, hl, _, _, _, _, _, _ => by simp at hl
  | v :: vs, u :: us, tgt, xs, bs, hl, hv, h, hEm, hG, hGb, hP => by
    simp only [sealL] at h
    split at h
    · rename_i x b1 h1
      split at h
      · rename_i ys b2 h2
        cases h
        -- the first one's blocks are as many as it keeps
        have hlen : b1.length = (keptOf n v).length := seal1_len h1
        obtain ⟨q1, q2⟩ := seal1_kept (keep := true) hr (hv 0 v u rfl rfl) h1 HE HS F2 (fun b hb => hEm b (List.mem_flatMap.2 ⟨v, by simp, hb⟩)) (hG x (by simp)) (fun B hB => hGb B (List.mem_append_left _ hB)) (fun j B hB => by
          have hj := (List.getElem?_eq_some_iff.1 hB).1
          obtain ⟨k1, k2⟩ := hP j B (by rw [List.getElem?_append_left hj]; exact hB)
          refine ⟨k1, fun kb hk => k2 kb ?_⟩
          simp only [if_true] at hk
          rw [List.flatMap_cons, List.getElem?_append_left (by omega)]
          exact hk)
        simp only [if_true] at q2
        obtain ⟨p1, p2, p3⟩ := sealL_rep hr HE HS F2 vs us (tgt + b1.length) ys b2 (by simpa using hl) (fun j x u hx hu => hv (j + 1) x u (by simpa using hx) (by simpa using hu)) h2 (fun b hb => hEm b (by
          rw [List.flatMap_cons]; exact List.mem_append_right _ hb)) (fun x hx => hG x (List.mem_cons_of_mem _ hx)) (fun B hB => hGb B (List.mem_append_right _ hB)) (fun j B hB => by
          obtain ⟨k1, k2⟩ := hP (b1.length + j) B (by rw [List.getElem?_append_right (by omega)]; simpa using hB)
          rw [← Nat.add_assoc] at k1 k2
          refine ⟨k1, fun kb hk => k2 kb ?_⟩
          rw [List.flatMap_cons, List.getElem?_append_right (by omega)]
          rw [show b1.length + j - (keptOf n v).length = j by omega]
          exact hk)
        refine ⟨by simp [p1], fun j y w hy hw => ?_, by simp [List.flatMap_cons, hlen, p3.1], fun j B hB => ?_⟩
        · cases j with
          | zero =>
            simp at hy hw
            subst hy
            subst hw
            exact q1
          | succ j => exact p2 j y w (by simpa using hy) (by simpa using hw)
        · by_cases hj : j < b1.length
          · rw [List.getElem?_append_left hj] at hB
            obtain ⟨kb, B0, m1, m2⟩ := q2.2 j B hB
            exact ⟨kb, B0, by rw [List.flatMap_cons, List.getElem?_append_left (by omega)]; exact m1, m2⟩
          · rw [List.getElem?_append_right (by omega)] at hB
            obtain ⟨kb, B0, m1, m2, m3, m4, m5, m6⟩ := p3.2 _ B hB
            refine ⟨kb, B0, ?_, m2, m3, m4, m5, ?_⟩
            · rw [List.flatMap_cons, List.getElem?_append_right (by omega), ← hlen]
              exact m1
            · rwa [show tgt + b1.length + (j - b1.length) = tgt + j by omega] at m6
      · cases h
    · cases h

/-- All results of a call. -/
theorem sealAV_rep (hr : HRep lo1 g1) {keep : Bool} {tgt : Nat} {v r : AV} {bs : List Blk} {v1 : Value} (hv : Rep g1 v v1) (h : sealAV keep g1.h n tgt v = some (r, bs)) {Gd : AV → Prop} {Em : Nat → Prop}
    (HE : ∀ x y u, embed g1.h n n depth x = some y → Rep g1 x u → (∀ b ∈ slIds g1.h n depth x, Em b) → Gd y → Rep gF y u)
    (HS : ∀ sz b k off len u, b < n → Rep g1 (.sl sz b k off len) u → Rep gF (.sl sz b k off len) u) (F2 : gF.w = g1.w) (hEm : ∀ b ∈ embIds keep g1.h n v, Em b)
    (hGr : ∀ x, (x = r ∨ ∃ xs, r = .tup xs ∧ x ∈ xs) → (∀ s b k o l, x ≠ .sl s b k o l) → Gd x) (hGb : ∀ B ∈ bs, ∀ e ∈ B.es, Gd e) (F5 : Placed g1 gF tgt (keptIds keep n v) bs) :
    Rep gF r v1 ∧ KeptAt n g1 gF tgt (keptIds keep n v) bs := by
  unfold sealAV at h
  split at h
  · rename_i vs
    split at h
    · rename_i xs bs' hx
      cases h
      cases hv with
      | tup t1 t2 =>
        rename_i us
        obtain ⟨p1, p2, p3⟩ := sealL_rep hr HE HS F2 vs us.toList tgt xs bs (by simpa using t1) (fun j x u hx hu => t2 j x u hx (by simpa using hu)) hx hEm (fun x hx => hGr x (.inr ⟨xs, rfl, hx⟩)) hGb F5
        exact ⟨.tup (by rw [p1, t1]) fun j x u hx hu => p2 j x u hx (by simpa using hu), p3⟩
    · cases h
  · rename_i hnt
    have hk : keptIds keep n v = if keep then keptOf n v else [] := by
      cases keep with
      | false => rfl
      | true =>
        cases v with
        | tup vs => exact absurd rfl (hnt vs rfl)
        | _ => rfl
    have he : embIds keep g1.h n v = embIds1 keep g1.h n v := by
      cases keep with
      | false => cases v <;> rfl
      | true =>
        cases v with
        | tup vs => exact absurd rfl (hnt vs rfl)
        | _ => rfl
    rw [hk] at F5 ⊢
    rw [he] at hEm
    exact seal1_kept hr hv h HE HS F2 hEm (hGr r (.inl rfl)) hGb F5

end
end Go.Abs

/- Kept blocks get their places. -/
set_option linter.unusedSimpArgs false
set_option linter.unusedVariables false
namespace Go.Abs

section
variable {lo base : Nat}

def rAd (gM : G) (tgt k : Nat) (im : Nat → Option Nat) : RM := ⟨fun b => if tgt ≤ b ∧ b < tgt + k then im (b - tgt) else gM.r b, gM.r.hb⟩

theorem adopt {g gM : G} (hr : HRep lo gM) (s : Step lo base g gM) {tgt : Nat} {bs : List Blk} {h3 : Heap} (hp : place gM.h tgt bs = some h3) (hb : base ≤ tgt) {im : Nat → Option Nat} (hfz : ∀ B ∈ bs, B.frz = false)
    (hdis : ∀ (j c : Nat), j < bs.length → im j = some c → g.w.heap.size ≤ c ∧ ¬ gM.St c ∧ ∀ b B, vblk gM.h gM.r b = some B → gM.r b ≠ some c)
    (hinj : ∀ (i j c : Nat), i < bs.length → j < bs.length → im i = some c → im j = some c → i = j)
    (hBR : ∀ (j : Nat) (B : Blk), bs[j]? = some B → BlkRep ⟨h3, rAd gM tgt bs.length im, gM.w, gM.St⟩ (tgt + j) B) :
    HRep lo ⟨h3, rAd gM tgt bs.length im, gM.w, gM.St⟩ ∧ Step lo base g ⟨h3, rAd gM tgt bs.length im, gM.w, gM.St⟩ := by
  obtain ⟨p1, p2, p3, p4⟩ := place_spec hp
  have out : ∀ {b : Nat}, ¬ (tgt ≤ b ∧ b < tgt + bs.length) → h3[b]? = gM.h[b]? ∧ rAd gM tgt bs.length im b = gM.r b := fun {b} hb => ⟨p2 b (by omega), by simp only [rAd]; rw [if_neg hb]⟩
  have vout : ∀ {b : Nat}, ¬ (tgt ≤ b ∧ b < tgt + bs.length) → vblk h3 (rAd gM tgt bs.length im) b = vblk gM.h gM.r b := fun {b} hb => vblk_congr (out hb).1 fun _ => rfl
  have vin : ∀ {b : Nat}, tgt ≤ b → b < tgt + bs.length → vblk gM.h gM.r b = none := fun {b} h1 h2 => vblk_none ((p4 b h1 h2).symm)
  have old : ∀ {b : Nat} {B : Blk}, vblk gM.h gM.r b = some B → vblk h3 (rAd gM tgt bs.length im) b = some B ∧ rAd gM tgt bs.length im b = gM.r b := fun {b B} hB => by
    have hn : ¬ (tgt ≤ b ∧ b < tgt + bs.length) := fun h => by rw [vin h.1 h.2] at hB; cases hB
    exact ⟨(vout hn).trans hB, (out hn).2⟩
  have cls : ∀ {b : Nat} {B : Blk}, vblk h3 (rAd gM tgt bs.length im) b = some B → (vblk gM.h gM.r b = some B ∧ rAd gM tgt bs.length im b = gM.r b) ∨ (tgt ≤ b ∧ b < tgt + bs.length ∧ bs[b - tgt]? = some B ∧ rAd gM tgt bs.length im b = im (b - tgt)) := fun {b B} hB => by
    by_cases h : tgt ≤ b ∧ b < tgt + bs.length
    · refine .inr ⟨h.1, h.2, ?_, by simp only [rAd]; rw [if_pos h]⟩
      have hlt : b - tgt < bs.length := by omega
      have := vblk_live (r := rAd gM tgt bs.length im) (p3 (b - tgt) _ (List.getElem?_eq_getElem hlt))
      rw [show tgt + (b - tgt) = b by omega, hB] at this
      rw [List.getElem?_eq_getElem hlt, this]
    · rw [vout h] at hB
      exact .inl ⟨hB, (out h).2⟩
  have mrep : ∀ {x : AV} {v : Value}, Rep gM x v → Rep ⟨h3, rAd gM tgt bs.length im, gM.w, gM.St⟩ x v := fun hx =>
    Rep.views (g2 := ⟨h3, rAd gM tgt bs.length im, gM.w, gM.St⟩) (fun b B hB => old hB) rfl (fun _ h => h) hx
  refine ⟨⟨fun b B hB => ?_, fun b b' B B' c hB hB' hc hc' => ?_, fun b B c hlo hB hf hc => ?_, fun c hc => hr.stlt c hc, fun b B c hB hf hc => ?_⟩, ?_⟩
  · rcases cls hB with ⟨h1, h2⟩ | ⟨h1, h2, h3', h4⟩
    · obtain ⟨k1, k2⟩ := hr.blks b B h1
      refine ⟨fun hn => k1 (by rw [← h2]; exact hn), fun c hc => ?_⟩
      obtain ⟨cells, m1, m2, m3⟩ := k2 c (by rw [← h2]; exact hc)
      refine ⟨cells, m1, m2, fun i e he => ?_⟩
      obtain ⟨v, q1, q2, q3⟩ := m3 i e he
      exact ⟨v, mrep q1, q2, q3⟩
    · have := hBR (b - tgt) B h3'
      rwa [show tgt + (b - tgt) = b by omega] at this
  · simp only at hB hB' hc hc'
    rcases cls hB with ⟨h1, h2⟩ | ⟨h1, h2, h3', h4⟩ <;> rcases cls hB' with ⟨k1, k2⟩ | ⟨k1, k2, k3, k4⟩
    · exact hr.inj b b' B B' c h1 k1 (h2 ▸ hc) (k2 ▸ hc')
    · exact absurd (h2 ▸ hc) ((hdis _ c (by omega) (k4 ▸ hc')).2.2 b B h1)
    · exact absurd (k2 ▸ hc') ((hdis _ c (by omega) (h4 ▸ hc)).2.2 b' B' k1)
    · have := hinj _ _ c (show b - tgt < bs.length by omega) (show b' - tgt < bs.length by omega) (h4 ▸ hc) (k4 ▸ hc')
      omega
  · simp only at hB hc
    rcases cls hB with ⟨h1, h2⟩ | ⟨h1, h2, h3', h4⟩
    · exact hr.nost b B c hlo h1 hf (h2 ▸ hc)
    · exact (hdis _ c (by omega) (h4 ▸ hc)).2.1
  · simp only at hB hc
    rcases cls hB with ⟨h1, h2⟩ | ⟨h1, h2, h3', h4⟩
    · exact hr.frst b B c h1 hf (h2 ▸ hc)
    · rw [hfz B (List.mem_of_getElem? h3')] at hf
      cases hf
  · exact {
      len := Nat.le_trans s.len p1
      hid := fun b hb' => by
        obtain ⟨k1, k2⟩ := s.hid b hb'
        have hn : ¬ (tgt ≤ b ∧ b < tgt + bs.length) := fun h => by
          rcases p4 b h.1 h.2 with h5 | h5 <;> rw [h5] at k1 <;> cases k1
        exact ⟨(out hn).1.trans k1, k2⟩
      free := fun b hlt hf => by
        have hn : ¬ (tgt ≤ b ∧ b < tgt + bs.length) := by omega
        exact (out hn).1.trans (s.free b hlt hf)
      live := fun b B hB => by
        obtain ⟨B', k1, k2, k3, k4, k5, k6⟩ := s.live b B hB
        obtain ⟨m1, m2⟩ := old k1
        exact ⟨B', m1, k2, k3, k4, k5, fun he => m2.trans (k6 he)⟩
      keep := fun b B hB hc => by
        obtain ⟨k1, k2⟩ := s.keep b B hB hc
        obtain ⟨m1, m2⟩ := old k1
        exact ⟨m1, m2.trans k2⟩
      scp := fun b B B' hlt hB hB' => by
        simp only at hB'
        rcases cls hB' with ⟨h1, _⟩ | ⟨h1, _, _, _⟩
        · exact s.scp b B B' hlt hB h1
        · omega
      size := s.size
      old := s.old
      shp := s.shp
      img := fun b B c hB hc hlt => by
        simp only at hB hc
        rcases cls hB with ⟨h1, h2⟩ | ⟨h1, h2, h3', h4⟩
        · exact s.img b B c h1 (h2 ▸ hc) hlt
        · have := (hdis _ c (by omega) (h4 ▸ hc)).1
          omega
      st := s.st
      stNew := fun c hc hs => (s.stNew c hc hs).imp id fun ⟨b, B, k1, k2, k3, k4⟩ => by
        obtain ⟨m1, m2⟩ := old k2
        exact ⟨b, B, k1, m1, k3, m2.trans k4⟩
      os := s.os
      tape := s.tape
      output := s.output }

theorem slIds_good (h : Heap) (ns : Nat) : ∀ (d : Nat) (x : AV) (b : Nat), b ∈ slIds h ns d x → ∃ B, blk h b = some B
  | 0, x, b, hb => by simp [slIds] at hb
  | d + 1, x, b, hb => by
    have ih := slIds_good h ns d
    have fm : ∀ xs : List AV, b ∈ xs.flatMap (slIds h ns d) → ∃ B, blk h b = some B := fun xs hx => by
      obtain ⟨y, _, hy⟩ := List.mem_flatMap.1 hx
      exact ih y b hy
    simp only [slIds] at hb
    split at hb
    · cases hb
    · split at hb
      · split at hb
        · cases hb
        · split at hb
          · rename_i B hB
            split at hb
            · simp only [List.mem_singleton] at hb; subst hb; exact ⟨B, (good_eq.1 hB).1⟩
            · rcases List.mem_cons.1 hb with rfl | hb
              · exact ⟨B, (good_eq.1 hB).1⟩
              · exact fm _ hb
          · cases hb
      · split at hb
        · cases hb
        · split at hb
          · rename_i B hB
            split at hb
            · split at hb
              · simp only [List.mem_singleton] at hb; subst hb; exact ⟨B, (good_eq.1 hB).1⟩
              · rcases List.mem_cons.1 hb with rfl | hb
                · exact ⟨B, (good_eq.1 hB).1⟩
                · exact ih _ _ hb
            · cases hb
          · cases hb
      · exact fm _ hb
      · exact fm _ hb
      · exact fm _ hb
      · rcases List.mem_append.1 hb with hb | hb
        · exact fm _ hb
        · exact fm _ hb
      · cases hb

theorem embIds_good {keep : Bool} {h : Heap} {n : Nat} {v : AV} {b : Nat} (hb : b ∈ embIds keep h n v) : n ≤ b ∧ ∃ B, blk h b = some B := by
  have one : ∀ {k : Bool} {x : AV}, b ∈ embIds1 k h n x → n ≤ b ∧ ∃ B, blk h b = some B := fun {k x} hx => by
    unfold embIds1 at hx
    split at hx
    · split at hx
      · split at hx
        · split at hx
          · cases hx
          · obtain ⟨y, _, hy⟩ := List.mem_flatMap.1 hx
            exact ⟨slIds_ge _ _ _ _ _ hy, slIds_good _ _ _ _ _ hy⟩
        · cases hx
      · cases hx
    · exact ⟨slIds_ge _ _ _ _ _ hx, slIds_good _ _ _ _ _ hx⟩
  unfold embIds at hb
  split at hb
  · obtain ⟨y, _, hy⟩ := List.mem_flatMap.1 hb
    exact one hy
  · exact one hb

end
end Go.Abs
