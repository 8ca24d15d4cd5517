/- Code. -/
import Derived.Test.YtnpfhbhhbdegfaaDoorC4
set_option linter.unusedSimpArgs false
set_option linter.unusedVariables false
namespace Go.Abs

section
variable {P : Program} {gh : Nat → List (Nat × Nat × Nat)} {lo base N : Nat}

theorem zipIdx'_get {α β : Type} {f : Nat → α → β} : ∀ {xs : List α} {k i : Nat}, (zipIdx' f k xs)[i]? = (xs[i]?).map (f (k + i))
  | [], k, i => by simp [zipIdx']
  | x :: xs, k, 0 => by simp [zipIdx']
  | x :: xs, k, i + 1 => by
    simp only [zipIdx', List.getElem?_cons_succ, zipIdx'_get]
    rw [show k + 1 + i = k + (i + 1) by omega]
theorem zipIdx'_length {α β : Type} {f : Nat → α → β} : ∀ {xs : List α} {k : Nat}, (zipIdx' f k xs).length = xs.length
  | [], _ => rfl
  | x :: xs, k => by simp [zipIdx', zipIdx'_length]

theorem numbered_spec {α : Type} : ∀ (xs : List α) (k : Nat), (numbered k xs).length = xs.length ∧ (numbered k xs).Pairwise (fun p q => p.1 < q.1) ∧ (∀ p ∈ numbered k xs, k ≤ p.1) ∧ ∀ j x, (j, x) ∈ numbered k xs ↔ k ≤ j ∧ xs[j - k]? = some x
  | [], k => by simp [numbered]
  | x :: xs, k => by
    obtain ⟨h1, h2, h3, h4⟩ := numbered_spec xs (k + 1)
    refine ⟨by simp [numbered, h1], List.pairwise_cons.2 ⟨fun p hp => h3 p hp, h2⟩, fun p hp => ?_, fun j y => ?_⟩
    · rcases List.mem_cons.1 hp with rfl | hp
      · exact Nat.le_refl _
      · have := h3 p hp; omega
    · simp only [numbered, List.mem_cons, Prod.mk.injEq, h4]
      constructor
      · rintro (⟨rfl, rfl⟩ | ⟨h5, h6⟩)
        · simp
        · refine ⟨by omega, ?_⟩
          rw [show j - k = (j - (k + 1)) + 1 by omega]
          simpa using h6
      · rintro ⟨h5, h6⟩
        by_cases hj : j = k
        · subst hj
          simp at h6
          exact .inl ⟨rfl, h6.symm⟩
        · refine .inr ⟨by omega, ?_⟩
          rw [show j - k = (j - (k + 1)) + 1 by omega] at h6
          simpa using h6

theorem region_draw {ops : Array Oper} {ac : ACode} (h : compileRegion P gh true ops = some ac) : ∃ total ds pre, ac = .draw total ds ∧ DOk P gh ops ds pre total := by
  unfold compileRegion at h
  split at h
  · cases h
  · rename_i as has
    simp only [if_true] at h
    split at h
    · rename_i hc
      cases h
      simp only [Bool.and_eq_true] at hc
      obtain ⟨⟨⟨hb, hpr⟩, hpa⟩, hwf⟩ := hc
      obtain ⟨hl, hi⟩ := mapO_some has
      have hal : as.length = ops.size := by simpa using hl
      generalize hpre : (List.range ops.size).map (preOf (Region.before ops) ops.size) = pre at hpr hpa
      refine ⟨_, _, pre, rfl, ?_, fun j x hx => ?_, fun j o ho e he => ?_, fun j o ho i hi => ?_, fun i j x y hij hx hy => ?_, fun j x hx => ?_⟩
      · rw [zipIdx'_length, hal]
      · rw [zipIdx'_get] at hx
        simp only [Option.map_eq_some_iff] at hx
        obtain ⟨y, hy, rfl⟩ := hx
        have hj : j < ops.size := by rw [← hal]; exact (List.getElem?_eq_some_iff.1 hy).1
        obtain ⟨z, h1, h2⟩ := hi j ops[j] (by simp [hj])
        rw [hy] at h1
        cases h1
        exact ⟨ops[j], by simp [hj], h2⟩
      · unfold backOk at hb
        simp only [List.all_eq_true, List.mem_range] at hb
        have := hb j (Array.getElem?_eq_some_iff.1 ho).1
        simp only [ho] at this
        have := Array.all_eq_true_iff_forall_mem.1 this e he
        simpa using this
      · unfold preOk at hpr
        simp only [List.all_eq_true, List.mem_range] at hpr
        have := hpr j (Array.getElem?_eq_some_iff.1 ho).1
        simp only [ho] at this
        have := List.all_eq_true.1 this i hi
        obtain ⟨e, he, hh⟩ := Array.any_eq_true'.1 this
        simp only [Bool.and_eq_true, Bool.or_eq_true, beq_iff_eq, List.contains_eq_mem, decide_eq_true_eq] at hh
        exact ⟨e, he, hh.1.1, hh.2⟩
      · unfold pairsOk at hpa
        simp only [List.all_eq_true, List.mem_range] at hpa
        have := hpa j (List.getElem?_eq_some_iff.1 hy).1 i hij
        simp only [hx, hy, Bool.or_eq_true, Bool.and_eq_true, List.contains_eq_mem, decide_eq_true_eq] at this
        exact this
      · exact List.all_eq_true.1 hwf x (List.mem_of_getElem? hx)
    · cases h

theorem region_text {ops : Array Oper} {ac : ACode} (h : compileRegion P gh false ops = some ac) : ∃ as, ac = .region as ∧ Paired P gh false ops (List.range ops.size) as := by
  unfold compileRegion at h
  split at h
  · cases h
  · rename_i as has
    simp only [Bool.false_eq_true, if_false, Option.some.injEq] at h
    refine ⟨as, h.symm, ?_⟩
    have key : ∀ (os : List Oper) (as : List AOper) (k : Nat), mapO (compileOper P gh false ops) os = some as → (∀ i o, os[i]? = some o → ops[k + i]? = some o) → Paired P gh false ops (List.range' k os.length) as := by
      intro os
      induction os with
      | nil =>
        intro as k h _
        simp only [mapO, Option.some.injEq] at h
        subst h
        trivial
      | cons o os ih =>
        intro as k h ho
        simp only [mapO] at h
        split at h
        · rename_i y ys hy hys
          cases h
          simp only [List.length_cons, List.range'_succ]
          refine ⟨⟨o, by simpa using ho 0 o rfl, hy⟩, ih ys (k + 1) hys fun i p hp => ?_⟩
          have := ho (i + 1) p (by simpa using hp)
          rwa [show k + 1 + i = k + (i + 1) by omega]
        · cases h
    have := key ops.toList as 0 has (fun i o h => by simpa using h)
    rw [List.range_eq_range']
    simpa using this

theorem regionCQ (hmix : P.follows .mixedOrders = true) {c : Ctx} (hcs : CallSound P c.cf) (hlb : lo ≤ base) (hV : CfV c.cf c.stOf) {id : Nat} {ops : Array Oper} {draw : Bool} {ac : ACode} (hc : compileRegion P gh draw ops = some ac)
    (hN : ∀ (i : Nat) (o : Oper) (d : Nat), ops[i]? = some o → o.dst = some d → d < N) {fr : Frame} {g : G} {out : Out} {fr' : Frame} {h' : Heap} (h : exec c lo base ac fr g.h = some (out, fr', h')) {a : Act} (hs : SR lo N g fr a) (hb : base ≤ g.h.length) :
    (Code.region id ops draw).wp P (CQ lo base N g out fr' h') a g.w := by
  cases draw with
  | false =>
    obtain ⟨as, rfl, hp⟩ := region_text hc
    simp only [exec] at h
    split at h
    · rename_i fr1 h1 hrun
      cases h
      exact wp_region (runOps_sound hcs hlb hN as _ fr g fr' h' a hp hrun hs hb)
    · cases h
  | true =>
    obtain ⟨total, ds, pre, rfl, hD⟩ := region_draw hc
    simp only [exec] at h
    split at h
    · rename_i sf hrun
      cases h
      obtain ⟨s1, st1⟩ := region_start (base := base) (total := total) hs hb
      refine wp_region_any hmix ?_
      rw [runD_eq] at hrun
      obtain ⟨n1, n2, n3, n4⟩ := numbered_spec ds 0
      refine any_sound (n0 := g.h.length) (total := total) (fr0 := fr) (g0 := g) (sf := sf) hcs hlb hV hD hN hb (fun r w St a hsr hst => ⟨rfl, r, St, hsr.trim, step_trim hst⟩) ops.size (numbered 0 ds) _ _ a g.r _ g.St (by rw [n1, hD.len]; exact Nat.le_refl _) n2 (fun j x => ?_) (by simp) (fun j hj => ?_) (fun _ _ => rfl) (by simp) hrun s1 st1
      · rw [n4]
        simp only [Nat.zero_le, true_and, Nat.sub_zero]
        constructor
        · intro hx
          have hj : j < ops.size := by rw [← hD.len]; exact (List.getElem?_eq_some_iff.1 hx).1
          exact ⟨hx, by simp [Array.getD, hj]⟩
        · exact fun h => h.1
      · exfalso
        simp only [Array.getD, Array.size_replicate] at hj
        split at hj
        · simp at hj
        · cases hj
    · cases h

theorem andThen_some {r : Option R} {k : Body} {out : Out} {fr' : Frame} {h' : Heap} (h : andThen r k = some (out, fr', h')) : (∃ fr1 h1, r = some (.normal, fr1, h1) ∧ k fr1 h1 = some (out, fr', h')) ∨ (out ≠ .normal ∧ r = some (out, fr', h')) := by
  unfold andThen at h
  split at h
  · exact .inl ⟨_, _, rfl, h⟩
  · rename_i hn
    subst h
    refine .inr ⟨fun ho => ?_, rfl⟩
    subst ho
    exact hn _ _ rfl

/-- Code does what its abstract run says. -/
def CodeSound (P : Program) (lo base N : Nat) (code : Code) (b : Body) : Prop :=
  ∀ (fr : Frame) (g : G) (out : Out) (fr' : Frame) (h' : Heap) (a : Act), b fr g.h = some (out, fr', h') → SR lo N g fr a → base ≤ g.h.length → code.wp P (CQ lo base N g out fr' h') a g.w

theorem loop_sound {code : Code} {b : Body} (hb : CodeSound P lo base N code b) : ∀ (k : Nat) (fr : Frame) (g : G) (out : Out) (fr' : Frame) (h' : Heap) (a : Act), iter k b fr g.h = some (out, fr', h') → SR lo N g fr a → base ≤ g.h.length → Code.rounds P code (CQ lo base N g out fr' h') k a g.w
  | 0, fr, g, out, fr', h', a, h, _, _ => by simp [iter] at h
  | k + 1, fr, g, out, fr', h', a, h, hs, hbl => by
    simp only [iter] at h
    rw [rounds_succ]
    rcases andThen_some h with ⟨fr1, h1, e1, e2⟩ | ⟨hn, e1⟩
    · refine wp_mono (hb fr g .normal fr1 h1 a e1 hs hbl) fun e a1 w1 hq => ?_
      obtain ⟨rfl, r1, St1, s1, st1⟩ := hq
      have := loop_sound hb k fr1 ⟨h1, r1, w1, St1⟩ out fr' h' a1 e2 s1 (Nat.le_trans hbl st1.len)
      exact rounds_mono (fun e a w ⟨k1, r2, St2, k2, k3⟩ => ⟨k1, r2, St2, k2, st1.trans k3⟩) this
    · refine wp_mono (hb fr g out fr' h' a e1 hs hbl) fun e a1 w1 hq => ?_
      obtain ⟨rfl, hq⟩ := hq
      cases out with
      | normal => exact absurd rfl hn
      | exit id => exact ⟨rfl, hq⟩
      | ret => exact ⟨rfl, hq⟩
where
  rounds_mono {P : Program} {code : Code} {Q Q' : Exit → Act → World → Prop} (hq : ∀ e a w, Q e a w → Q' e a w) : ∀ {k : Nat} {a : Act} {w : World}, Code.rounds P code Q k a w → Code.rounds P code Q' k a w
    | 0, _, _, h => h
    | k + 1, a, w, h => by
      rw [rounds_succ] at h ⊢
      refine wp_mono h fun e a1 w1 h1 => ?_
      cases e <;> first | exact rounds_mono hq h1 | exact hq _ _ _ h1

theorem exec_sound (hmix : P.follows .mixedOrders = true) {c : Ctx} (hcs : CallSound P c.cf) (hlb : lo ≤ base) (hV : CfV c.cf c.stOf) {k : Nat} (hit : c.it = iter k) : ∀ (code : Code) (ac : ACode), compileCode P gh code = some ac → dstsOk N code = true → CodeSound P lo base N code (exec c lo base ac) := by
  intro code
  induction code with
  | skip =>
    intro ac hc hd fr g out fr' h' a h hs hb
    simp only [compileCode, Option.some.injEq] at hc
    subst hc
    simp only [exec, Option.some.injEq, Prod.mk.injEq] at h
    obtain ⟨rfl, rfl, rfl⟩ := h
    exact wp_skip ⟨rfl, g.r, g.St, hs, Step.refl _ _ _⟩
  | ret =>
    intro ac hc hd fr g out fr' h' a h hs hb
    simp only [compileCode, Option.some.injEq] at hc
    subst hc
    simp only [exec, Option.some.injEq, Prod.mk.injEq] at h
    obtain ⟨rfl, rfl, rfl⟩ := h
    exact wp_ret ⟨rfl, g.r, g.St, hs, Step.refl _ _ _⟩
  | exit id =>
    intro ac hc hd fr g out fr' h' a h hs hb
    simp only [compileCode, Option.some.injEq] at hc
    subst hc
    simp only [exec, Option.some.injEq, Prod.mk.injEq] at h
    obtain ⟨rfl, rfl, rfl⟩ := h
    exact wp_exit ⟨rfl, g.r, g.St, hs, Step.refl _ _ _⟩
  | region id ops draw =>
    intro ac hc hd fr g out fr' h' a h hs hb
    simp only [compileCode] at hc
    refine regionCQ hmix hcs hlb hV hc (fun i o d ho hdo => ?_) h hs hb
    simp only [dstsOk] at hd
    have := Array.all_eq_true_iff_forall_mem.1 hd o (Array.mem_of_getElem? ho)
    simp only [hdo, decide_eq_true_eq] at this
    exact this
  | seq x y ihx ihy =>
    intro ac hc hd fr g out fr' h' a h hs hb
    simp only [compileCode] at hc
    split at hc
    · rename_i x' y' hx hy
      cases hc
      simp only [dstsOk, Bool.and_eq_true] at hd
      simp only [exec] at h
      refine wp_seq ?_
      rcases andThen_some h with ⟨fr1, h1, e1, e2⟩ | ⟨hn, e1⟩
      · refine wp_mono (ihx x' hx hd.1 fr g .normal fr1 h1 a e1 hs hb) fun e a1 w1 hq => ?_
        obtain ⟨rfl, r1, St1, s1, st1⟩ := hq
        exact wp_mono (ihy y' hy hd.2 fr1 ⟨h1, r1, w1, St1⟩ out fr' h' a1 e2 s1 (Nat.le_trans hb st1.len)) fun e a w ⟨k1, r2, St2, k2, k3⟩ => ⟨k1, r2, St2, k2, st1.trans k3⟩
      · refine wp_mono (ihx x' hx hd.1 fr g out fr' h' a e1 hs hb) fun e a1 w1 hq => ?_
        obtain ⟨rfl, hq⟩ := hq
        cases out with
        | normal => exact absurd rfl hn
        | exit id => exact ⟨rfl, hq⟩
        | ret => exact ⟨rfl, hq⟩
    · cases hc
  | cond t x y ihx ihy =>
    intro ac hc hd fr g out fr' h' a h hs hb
    simp only [compileCode] at hc
    split at hc
    · rename_i t' x' y' ht hx hy
      cases hc
      simp only [dstsOk, Bool.and_eq_true] at hd
      simp only [exec] at h
      split at h
      · rename_i b hb2
        have h1 := opd_rep hs.fr ht
        rw [hb2] at h1
        refine wp_cond (rep_bool h1) ?_
        cases b with
        | true => exact ihx x' hx hd.1 fr g out fr' h' a h hs hb
        | false => exact ihy y' hy hd.2 fr g out fr' h' a h hs hb
      · cases h
    · cases hc
  | block id x ih =>
    intro ac hc hd fr g out fr' h' a h hs hb
    simp only [compileCode, Option.map_eq_some_iff] at hc
    obtain ⟨x', hx, rfl⟩ := hc
    simp only [dstsOk] at hd
    simp only [exec, inBlk] at h
    refine wp_block ?_
    split at h
    · rename_i j fr1 h1 e1
      refine wp_mono (ih x' hx hd fr g (.exit j) fr1 h1 a e1 hs hb) fun e a1 w1 hq => ?_
      obtain ⟨rfl, hq⟩ := hq
      show (if j = id then _ else _)
      split at h
      · rename_i hj
        cases h
        rw [if_pos hj]
        exact ⟨rfl, hq⟩
      · rename_i hj
        cases h
        rw [if_neg hj]
        exact ⟨rfl, hq⟩
    · rename_i hn
      refine wp_mono (ih x' hx hd fr g out fr' h' a h hs hb) fun e a1 w1 hq => ?_
      obtain ⟨rfl, hq⟩ := hq
      cases out with
      | normal => exact ⟨rfl, hq⟩
      | exit j => exact absurd h (hn _ _ _)
      | ret => exact ⟨rfl, hq⟩
  | loop x ih =>
    intro ac hc hd fr g out fr' h' a h hs hb
    simp only [compileCode, Option.map_eq_some_iff] at hc
    obtain ⟨x', hx, rfl⟩ := hc
    simp only [dstsOk] at hd
    simp only [exec, hit] at h
    exact wp_loop_rounds k (loop_sound (ih x' hx hd) k fr g out fr' h' a h hs hb)
  | _ => intro ac hc; simp [compileCode] at hc

end
end Go.Abs
