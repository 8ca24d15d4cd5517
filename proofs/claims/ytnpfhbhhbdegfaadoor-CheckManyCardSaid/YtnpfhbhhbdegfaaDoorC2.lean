/- The exchange of two unordered operations. -/
import Derived.Test.YtnpfhbhhbdegfaaDoorC1
set_option linter.unusedSimpArgs false
set_option linter.unusedVariables false
namespace Go.Abs

section
variable {cf : CallF} {stOf : Nat → Bool} {lo base n0 : Nat} {fr0 : Frame}

theorem slots_ids {a x : DOper} {bs : List Blk} (hxP : x.cls ≠ .P) (hxA : x.cls ≠ .A) (hsub : subL (slotsOf a) x.hidS = true) (hb : ∀ k, k < bs.length → a.slot + k ∈ slotsOf a) :
    ∀ k, k < bs.length → n0 + a.slot + k ∈ dIds n0 fr0 x := fun k hk => by
  rw [Nat.add_assoc]
  exact hidS_dIds hxP hxA (subL_mem hsub (hb k hk))

/-- First a making operation, then one that sees memory. -/
theorem swap_AX {a x : DOper} {fr : Frame} {log log2 log3 : Nat → Option Nat} {h ha hax : Heap} {va vx : AV} {total : Nat} (hwa : wants fr a.o.guard = true) (hwx : wants fr x.o.guard = true) (hA : a.cls = .A) (hxP : x.cls ≠ .P) (hxA : x.cls ≠ .A)
    (hsub : subL (slotsOf a) x.hidS = true) (wa : wfD total a = true) (hl : h.length = n0 + total) (e1 : eff cf stOf lo base n0 fr0 a fr log h = some (va, ha)) (e2 : eff cf stOf lo base n0 fr0 x fr log2 ha = some (vx, hax)) :
    ∃ hx, eff cf stOf lo base n0 fr0 x fr log2 h = some (vx, hx) ∧ eff cf stOf lo base n0 fr0 a fr log3 hx = some (va, hax) := by
  obtain ⟨bs, b1, b2, b3⟩ := A_step hwa hA wa hl e1
  obtain ⟨hd, h', k1, k2, rfl⟩ := eff_some hwx hxP e2
  have hla := (fill_spec b2).1
  obtain ⟨m1, m2⟩ := swap_fill_X (h' := h') b2 (slots_ids (n0 := n0) (fr0 := fr0) hxP hxA hsub b1) (by omega)
  rw [m1] at k1
  exact ⟨_, eff_of hwx hxP hd k1 (by omega), b3 log3 _ _ (by rw [restore_length]; omega) m2⟩

/-- First one that sees memory, then a making operation. -/
theorem swap_XA {a x : DOper} {fr : Frame} {log log2 log3 : Nat → Option Nat} {h hx hxa : Heap} {va vx : AV} {total : Nat} (hwa : wants fr a.o.guard = true) (hwx : wants fr x.o.guard = true) (hA : a.cls = .A) (hxP : x.cls ≠ .P) (hxA : x.cls ≠ .A)
    (hsub : subL (slotsOf a) x.hidS = true) (wa : wfD total a = true) (hl : h.length = n0 + total) (e1 : eff cf stOf lo base n0 fr0 x fr log h = some (vx, hx)) (e2 : eff cf stOf lo base n0 fr0 a fr log2 hx = some (va, hxa)) :
    ∃ ha, eff cf stOf lo base n0 fr0 a fr log3 h = some (va, ha) ∧ eff cf stOf lo base n0 fr0 x fr log ha = some (vx, hxa) := by
  have hlx := eff_length e1
  obtain ⟨hd, h', k1, k2, rfl⟩ := eff_some hwx hxP e1
  obtain ⟨bs, b1, b2, b3⟩ := A_step hwa hA wa (by omega) e2
  have hin := slots_ids (n0 := n0) (fr0 := fr0) hxP hxA hsub b1
  obtain ⟨ha, hf⟩ := fill_none_of (h := h) (t := n0 + a.slot) (bs := bs) fun k hk => by
    have := fill_free b2 k hk
    rwa [restore_get _ _ _ _ k2, if_pos (hin k hk)] at this
  obtain ⟨m1, m2⟩ := swap_fill_X (h' := h') hf hin k2
  rw [b2] at m2
  simp only [Option.some.injEq] at m2
  subst m2
  have hla := (fill_spec hf).1
  refine ⟨ha, b3 log3 h ha (by rw [restore_length]; omega) hf, ?_⟩
  rw [← m1] at k1
  exact eff_of hwx hxP hd k1 (by omega)

theorem swap_AA {x y : DOper} {fr : Frame} {log log2 log3 : Nat → Option Nat} {h hx hxy : Heap} {vx vy : AV} {total : Nat} (hwx : wants fr x.o.guard = true) (hwy : wants fr y.o.guard = true) (hx' : x.cls = .A) (hy' : y.cls = .A)
    (hdis : ((slotsOf x).all fun k => !((slotsOf y).contains k)) = true) (wx : wfD total x = true) (wy : wfD total y = true) (hl : h.length = n0 + total) (e1 : eff cf stOf lo base n0 fr0 x fr log h = some (vx, hx)) (e2 : eff cf stOf lo base n0 fr0 y fr log2 hx = some (vy, hxy)) :
    ∃ hy, eff cf stOf lo base n0 fr0 y fr log h = some (vy, hy) ∧ eff cf stOf lo base n0 fr0 x fr log3 hy = some (vx, hxy) := by
  obtain ⟨bs, b1, b2, b3⟩ := A_step hwx hx' wx hl e1
  have hlx := (fill_spec b2).1
  obtain ⟨cs, c1, c2, c3⟩ := A_step hwy hy' wy (by omega) e2
  have hap : ∀ k m, k < bs.length → m < cs.length → n0 + x.slot + k ≠ n0 + y.slot + m := fun k m hk hm he => by
    simp only [List.all_eq_true, Bool.not_eq_true', List.contains_eq_mem, decide_eq_false_iff_not] at hdis
    refine hdis _ (b1 k hk) ?_
    have := c1 m hm
    rwa [show y.slot + m = x.slot + k by omega] at this
  obtain ⟨hy, hf⟩ := fill_none_of (h := h) (t := n0 + y.slot) (bs := cs) fun m hm => by
    have := fill_free c2 m hm
    rw [fill_get b2] at this
    split at this
    · rename_i hc
      exact absurd (show n0 + x.slot + (n0 + y.slot + m - (n0 + x.slot)) = n0 + y.slot + m by omega) (hap _ m (by omega) hm)
    · exact this
  have hly := (fill_spec hf).1
  obtain ⟨h4, hf2⟩ := fill_none_of (h := hy) (t := n0 + x.slot) (bs := bs) fun k hk => by
    rw [fill_get hf, if_neg]
    · exact fill_free b2 k hk
    · intro hc
      exact hap k (n0 + x.slot + k - (n0 + y.slot)) hk (by omega) (by omega)
  have heq : h4 = hxy := by
    apply List.ext_getElem?
    intro b
    rw [fill_get hf2, fill_get hf, fill_get c2, fill_get b2]
    by_cases h1 : n0 + x.slot ≤ b ∧ b < n0 + x.slot + bs.length
    · by_cases h2 : n0 + y.slot ≤ b ∧ b < n0 + y.slot + cs.length
      · exact absurd (show n0 + x.slot + (b - (n0 + x.slot)) = n0 + y.slot + (b - (n0 + y.slot)) by omega) (hap _ _ (by omega) (by omega))
      · rw [if_pos h1, if_neg h2, if_pos h1]
    · rw [if_neg h1]
      by_cases h2 : n0 + y.slot ≤ b ∧ b < n0 + y.slot + cs.length
      · rw [if_pos h2, if_pos h2]
      · rw [if_neg h2, if_neg h2, if_neg h1]
  subst heq
  exact ⟨hy, c3 log h hy (by omega) hf, b3 log3 hy h4 (by omega) hf2⟩

theorem logOf_other {i k : Nat} {o : DOper} {fr : Frame} {log : Nat → Option Nat} (h : k ≠ i) : logOf i o fr log k = log k := by
  unfold logOf dLog
  cases wants fr o.o.guard
  · rfl
  · cases o.cls <;> simp [h]
theorem logOf_self {i : Nat} {o : DOper} {fr : Frame} {log : Nat → Option Nat} (hw : wants fr o.o.guard = true) (hc : o.cls = .L ∨ o.cls = .W) : logOf i o fr log i = touch fr o.o.op := by
  unfold logOf dLog
  rw [hw]
  rcases hc with h | h <;> simp [h]

theorem coreSwap (hV : CfV cf stOf) {i j : Nat} {x y : DOper} {fr : Frame} {log : Nat → Option Nat} {h hx hxy : Heap} {vx vy : AV} {total : Nat} (hne : i ≠ j) (hh : heapOk i x j y = true) (wx : wfD total x = true) (wy : wfD total y = true) (hl : h.length = n0 + total) (hlog : log i = none)
    (e1 : eff cf stOf lo base n0 fr0 x fr log h = some (vx, hx)) (e2 : eff cf stOf lo base n0 fr0 y fr (logOf i x fr log) hx = some (vy, hxy)) :
    ∃ hy, eff cf stOf lo base n0 fr0 y fr log h = some (vy, hy) ∧ eff cf stOf lo base n0 fr0 x fr (logOf j y fr log) hy = some (vx, hxy) := by
  by_cases hxP : wants fr x.o.guard = false ∨ x.cls = .P
  · obtain ⟨rfl, k2, k3⟩ := eff_P hxP e1
    rw [k3] at e2
    exact ⟨hxy, e2, k2 _ _⟩
  by_cases hyP : wants fr y.o.guard = false ∨ y.cls = .P
  · obtain ⟨rfl, k2, k3⟩ := eff_P hyP e2
    rw [k3]
    exact ⟨h, k2 _ _, e1⟩
  simp only [not_or, Bool.not_eq_false] at hxP hyP
  obtain ⟨hwx, hxP⟩ := hxP
  obtain ⟨hwy, hyP⟩ := hyP
  unfold heapOk at hh
  have hnL : ∀ {uo : List Nat} {b : Option Nat}, offLog (logOf i x fr log) b uo = true → offLog log b uo = true := fun {uo b} ho => offLog_mono (fun k hk => by
    by_cases hki : k = i
    · exact .inr (.inl (by rw [hki]; exact hlog))
    · exact .inl (logOf_other hki).symm) ho
  cases hxc : x.cls with
  | P => exact absurd hxc hxP
  | A =>
    rw [hxc] at hh
    rw [logOf_A hxc] at e2
    cases hyc : y.cls with
    | P => exact absurd hyc hyP
    | A =>
      rw [hyc] at hh
      exact swap_AA hwx hwy hxc hyc hh wx wy hl e1 e2
    | L => rw [hyc] at hh; exact swap_AX hwx hwy hxc hyP (by rw [hyc]; simp) hh wx hl e1 e2
    | W => rw [hyc] at hh; exact swap_AX hwx hwy hxc hyP (by rw [hyc]; simp) hh wx hl e1 e2
    | C => rw [hyc] at hh; exact swap_AX hwx hwy hxc hyP (by rw [hyc]; simp) hh wx hl e1 e2
  | L =>
    rw [hxc] at hh
    obtain ⟨hxh, x1, x2, x3⟩ := L_step hwx hxc wx e1
    cases hyc : y.cls with
    | P => exact absurd hyc hyP
    | A =>
      rw [hyc] at hh
      rw [logOf_A hyc]
      exact swap_XA hwy hwx hyc hxP (by rw [hxc]; simp) hh wy hl e1 e2
    | L =>
      rw [hyc] at hh
      simp only [Bool.and_eq_true, Bool.not_eq_true', List.contains_eq_mem, decide_eq_false_iff_not] at hh
      obtain ⟨hyh, y1, y2, y3⟩ := L_step hwy hyc wy e2
      subst hxh
      subst hyh
      exact ⟨hxy, y3 log hxy rfl (hnL y1) (fun b B _ _ hB => ⟨B, hB, rfl, rfl⟩), x3 _ hxy rfl (offLog_mono (fun k hk => .inl (logOf_other fun hkj => hh.1 (hkj ▸ hk))) x1) (fun b B _ _ hB => ⟨B, hB, rfl, rfl⟩)⟩
    | W =>
      rw [hyc] at hh
      simp only [Bool.and_eq_true, List.contains_eq_mem, decide_eq_true_eq] at hh
      obtain ⟨⟨hu1, hu2⟩, hsub⟩ := hh
      rw [hxh] at e2
      obtain ⟨hd, h', k1, k2, k3⟩ := eff_some hwy hyP e2
      have hd2 : offLog (logOf i x fr log) (touch fr y.o.op) y.uo = true := by simpa [dCond, hyc] using hd
      have e3 : eff cf stOf lo base n0 fr0 y fr log h = some (vy, hxy) := by
        rw [k3]
        exact eff_of hwy hyP (by simp [dCond, hyc, hnL hd2]) k1 k2
      have hne2 : ∀ b, touch fr x.o.op = some b → touch fr y.o.op ≠ some b := fun b hb hy => by
        have := offLog_at (hy ▸ hd2) hu2
        rw [logOf_self hwx (.inl hxc)] at this
        exact this hb
      refine ⟨hxy, e3, x3 _ hxy (eff_length e3) (offLog_mono (fun k hk => ?_) x1) fun b B hb hnb hB => ?_⟩
      · by_cases hkj : k = j
        · refine .inr (.inr fun c hc => ?_)
          rw [hkj, logOf_self hwy (.inr hyc)]
          exact hne2 c hc
        · exact .inl (logOf_other hkj)
      · exact (X_leaves hV hwy (.inl hyc) wy hl hxc hsub (fun h => by rw [hyc] at h; cases h) x2 e3 hb hnb (fun _ => hne2 b hb)).live hB
    | C =>
      rw [hyc] at hh
      simp only [Bool.and_eq_true] at hh
      obtain ⟨hsub, hri⟩ := hh
      rw [hxh] at e2
      obtain ⟨hd, h', k1, k2, k3⟩ := eff_some hwy hyP e2
      have e3 : eff cf stOf lo base n0 fr0 y fr log h = some (vy, hxy) := by
        rw [k3]
        exact eff_of hwy hyP (by simpa [dCond, hyc] using hd) k1 k2
      refine ⟨hxy, e3, x3 _ hxy (eff_length e3) (offLog_mono (fun k hk => .inl ?_) x1) fun b B hb hnb hB => ?_⟩
      · simp [logOf, dLog, hyc]
      · exact (X_leaves hV hwy (.inr hyc) wy hl hxc hsub (fun _ => hri) x2 e3 hb hnb (fun h => by rw [hyc] at h; cases h)).live hB
  | W =>
    rw [hxc] at hh
    cases hyc : y.cls with
    | P => exact absurd hyc hyP
    | A => rw [hyc] at hh; rw [logOf_A hyc]; exact swap_XA hwy hwx hyc hxP (by rw [hxc]; simp) hh wy hl e1 e2
    | L =>
      rw [hyc] at hh
      simp only [Bool.and_eq_true, List.contains_eq_mem, decide_eq_true_eq] at hh
      obtain ⟨⟨hu1, hu2⟩, hsub⟩ := hh
      obtain ⟨hyh, y1, y2, y3⟩ := L_step hwy hyc wy e2
      subst hyh
      have hlx := eff_length e1
      have hne2 : ∀ b, touch fr y.o.op = some b → touch fr x.o.op ≠ some b := fun b hb hx => by
        have := offLog_at (hb ▸ y1) hu2
        rw [logOf_self hwx (.inr hxc)] at this
        exact this hx
      obtain ⟨hd, h', k1, k2, k3⟩ := eff_some hwx hxP e1
      have hd2 : offLog log (touch fr x.o.op) x.uo = true := by simpa [dCond, hxc] using hd
      refine ⟨h, y3 log h hlx.symm (hnL y1) fun b B hb hnb hB => ?_, ?_⟩
      · exact (X_leaves hV hwx (.inl hxc) wx hl hyc hsub (fun h => by rw [hxc] at h; cases h) y2 e1 hb hnb (fun _ => hne2 b hb)).back hB |>.imp fun B2 h => ⟨h.1, h.2⟩
      · rw [k3]
        refine eff_of hwx hxP ?_ k1 k2
        have : offLog (logOf j y fr log) (touch fr x.o.op) x.uo = true := offLog_mono (fun k hk => by
          by_cases hkj : k = j
          · refine .inr (.inr fun c hc => ?_)
            rw [hkj, logOf_self hwy (.inl hyc)]
            exact fun hy => hne2 c hy hc
          · exact .inl (logOf_other hkj)) hd2
        simp [dCond, hxc, this]
    | W => rw [hyc] at hh; cases hh
    | C => rw [hyc] at hh; cases hh
  | C =>
    rw [hxc] at hh
    cases hyc : y.cls with
    | P => exact absurd hyc hyP
    | A => rw [hyc] at hh; rw [logOf_A hyc]; exact swap_XA hwy hwx hyc hxP (by rw [hxc]; simp) hh wy hl e1 e2
    | L =>
      rw [hyc] at hh
      simp only [Bool.and_eq_true] at hh
      obtain ⟨hsub, hri⟩ := hh
      obtain ⟨hyh, y1, y2, y3⟩ := L_step hwy hyc wy e2
      subst hyh
      have hlx := eff_length e1
      obtain ⟨hd, h', k1, k2, k3⟩ := eff_some hwx hxP e1
      refine ⟨h, y3 log h hlx.symm (hnL y1) fun b B hb hnb hB => ?_, ?_⟩
      · exact (X_leaves hV hwx (.inr hxc) wx hl hyc hsub (fun _ => hri) y2 e1 hb hnb (fun h => by rw [hxc] at h; cases h)).back hB |>.imp fun B2 h => ⟨h.1, h.2⟩
      · rw [k3]
        exact eff_of hwx hxP (by simpa [dCond, hxc] using hd) k1 k2
    | W => rw [hyc] at hh; cases hh
    | C => rw [hyc] at hh; cases hh

/-- Two unordered operations: the later one first. -/
theorem swapD (hV : CfV cf stOf) {i j : Nat} {x y : DOper} {s s1 s2 : DSt} {total : Nat} (hne : i ≠ j) (hap : apartA x.o y.o = true) (hh : heapOk i x j y = true) (wx : wfD total x = true) (wy : wfD total y = true) (hl : s.h.length = n0 + total) (hlog : s.log i = none)
    (e1 : stepD cf stOf lo base n0 fr0 i x s = some s1) (e2 : stepD cf stOf lo base n0 fr0 j y s1 = some s2) :
    ∃ s3, stepD cf stOf lo base n0 fr0 j y s = some s3 ∧ stepD cf stOf lo base n0 fr0 i x s3 = some s2 := by
  rw [stepD_eq] at e1 e2
  simp only [Option.map_eq_some_iff] at e1 e2
  obtain ⟨⟨vx, hx⟩, q1, rfl⟩ := e1
  obtain ⟨⟨vy, hxy⟩, q2, rfl⟩ := e2
  simp only at q2
  unfold apartA at hap
  simp only [Bool.and_eq_true, Bool.not_eq_true'] at hap
  obtain ⟨a1, a2⟩ := apart_reads hap.1 s.fr vx
  obtain ⟨b1, b2⟩ := apart_reads hap.2 s.fr vy
  rw [eff_congr a1] at q2
  obtain ⟨hy, r1, r2⟩ := coreSwap hV hne hh wx wy hl hlog q1 q2
  refine ⟨_, by rw [stepD_eq, r1]; rfl, ?_⟩
  rw [stepD_eq]
  simp only
  rw [eff_congr b1, r2]
  simp only [Option.map_some, Option.some.injEq, DSt.mk.injEq, true_and]
  exact ⟨updO_comm b2, by rw [logOf_congr b1, logOf_congr a1]; exact (logOf_comm hne).symm⟩

end
end Go.Abs
