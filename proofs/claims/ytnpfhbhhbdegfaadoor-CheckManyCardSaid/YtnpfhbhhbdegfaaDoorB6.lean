/- Every operation, calls too; regions in the order of the text. -/
import Derived.Test.YtnpfhbhhbdegfaaDoorB5
set_option linter.unusedSimpArgs false
set_option linter.unusedVariables false
namespace Go.Abs

/-- What is so behind an operation or a call. -/
def Post (lo base : Nat) (g : G) (v : AV) (h' : Heap) (v' : Value) (w' : World) : Prop :=
  ∃ r' St', Rep ⟨h', r', w', St'⟩ v v' ∧ HRep lo ⟨h', r', w', St'⟩ ∧ Step lo base g ⟨h', r', w', St'⟩

def Back (R : Value → World → Prop) : Ending → World → Prop
  | .returned v, w => R v w
  | _, _ => False

def Does (P : Program) (R : Value → World → Prop) : Result Next → Prop
  | .ok (.value v) w => R v w
  | .ok .skip w => R undef w
  | .ok (.enter f args) w => Calls P f args w (Back R)
  | _ => False

theorem Does.mono {P : Program} {R R' : Value → World → Prop} {x : Result Next} (h : Does P R x) (hR : ∀ v w, R v w → R' v w) : Does P R' x := by
  cases x with
  | ok n w =>
    cases n <;> simp only [Does] at h ⊢ <;> first
      | exact hR _ _ h
      | exact h.mono fun e w' he => by cases e <;> first | exact hR _ _ he | exact he
  | halt => exact h

theorem Does.upon {P : Program} {R : Value → World → Prop} {o : Oper} {a : Act} {next : Act → World → Prop} {Q : Exit → Act → World → Prop} {x : Result Next} (h : Does P R x) (hn : ∀ v w, R v w → next (a.put o.dst v) w) : o.upon P a next Q x := by
  cases x with
  | ok n w =>
    cases n <;> simp only [Does] at h <;> simp only [Oper.upon] <;> first
      | exact hn _ _ h
      | exact h.elim
      | exact h.mono fun e w' he => by cases e <;> first | exact hn _ _ he | exact he.elim
  | halt => exact h.elim

theorem Ok.does {P : Program} {o : Oper} {a : Act} {lo base : Nat} {g : G} {v : AV} {h' : Heap} (h : Ok P o a lo base g v h') : Does P (Post lo base g v h') ((execOp a.eval o).run P g.w) := by
  obtain ⟨n, v', w', r', St', h1, h2, h3, h4, h5⟩ := h
  rw [h1]
  rcases h2 with rfl | ⟨rfl, rfl⟩
  · exact ⟨r', St', h3, h4, h5⟩
  · exact ⟨r', St', h3, h4, h5⟩

/-- The calls do what their abstract answers say. -/
def CallSound (P : Program) (cf : CallF) : Prop :=
  ∀ (f lo base tgt : Nat) (args : List AV) (h : Heap) (v : AV) (h' : Heap), cf f lo base tgt args h = some (v, h') →
    ∀ (r : RM) (w : World) (St : Nat → Prop) (vals : Array Value), HRep lo ⟨h, r, w, St⟩ → args.length = vals.size →
      (∀ (j : Nat) (x : AV) (y : Value), args[j]? = some x → vals[j]? = some y → Rep ⟨h, r, w, St⟩ x y) → lo ≤ base → base ≤ tgt → base ≤ h.length →
      Does P (Post lo base ⟨h, r, w, St⟩ v h') ((callFunc f vals).run P w)

section
variable {P : Program} {g : G} {fr : Frame} {a : Act} {lo base : Nat} {gh : Nat → List (Nat × Nat × Nat)}

theorem op_does {cf : CallF} (hcs : CallSound P cf) {draw : Bool} {o : Oper} {op' : AOp} {tgt : Nat} {v : AV} {h' : Heap} (hc : compileOp P gh draw o.op = some op') (hf : FrRep g fr a) (hr : HRep lo g) (hlb : lo ≤ base) (hb : base ≤ tgt) (hbl : base ≤ g.h.length)
    (h : stepOp cf lo base tgt op' fr g.h = some (v, h')) : Does P (Post lo base g v h') ((execOp a.eval o).run P g.w) := by
  cases hnc : op'.isCall with
  | false => exact (step_sound hc hnc hf hr hb h).does
  | true =>
    cases op' with
    | call f args =>
      cases ho : o.op with
      | call c =>
        rw [ho] at hc
        simp only [compileOp] at hc
        obtain ⟨callee, as, ats⟩ := c
        unfold cCall at hc
        split at hc
        · rename_i cv xs hcv hxs
          simp only at hcv hxs
          subst hcv
          split at hc
          · rename_i fo hfo
            cases hc
            simp only [stepOp] at h
            split at h
            · rename_i k p q hX
              have h1 := opd_rep hf hfo
              rw [hX] at h1
              generalize hV : a.eval cv = V at h1
              cases h1 with
              | fn h2 h3 h4 h5 =>
                rename_i vp vq
                obtain ⟨l1, r1⟩ := mapOpd_rep hf hxs
                have run : (execOp a.eval o).run P g.w = (callFunc k (vp ++ as.map a.eval ++ vq)).run P g.w := by
                  simp [execOp, ho, resolve, Deferred.ofValue, hV, invoke]
                rw [run]
                refine hcs k lo base tgt _ g.h v h' h g.r g.w g.St _ hr (by simp [h2, h4]; simpa using l1) (fun j x y hx hy => ?_) hlb hb hbl
                have hl : (args.map (Opd.get fr)).length = as.size := by simpa using l1
                by_cases hj : j < p.length
                · rw [List.append_assoc, List.getElem?_append_left hj] at hx
                  rw [Array.append_assoc, Array.getElem?_append_left (by omega)] at hy
                  exact h3 j x y hx hy
                · rw [List.append_assoc, List.getElem?_append_right (by omega)] at hx
                  rw [Array.append_assoc, Array.getElem?_append_right (by omega), ← h2] at hy
                  by_cases hj2 : j - p.length < (args.map (Opd.get fr)).length
                  · rw [List.getElem?_append_left hj2] at hx
                    rw [Array.getElem?_append_left (by simp; omega)] at hy
                    exact r1 _ x y hx (by simpa [← Array.getElem?_toList] using hy)
                  · rw [List.getElem?_append_right (by omega)] at hx
                    rw [Array.getElem?_append_right (by simp; omega)] at hy
                    simp only [Array.size_map] at hy
                    rw [← hl] at hy
                    exact h5 _ x y hx hy
            · cases h
          · cases hc
        · rename_i b xs hb2 hxs
          split at hc <;> (try (simp at hc; done))
          · split at hc
            · cases hc
            · split at hc <;> cases hc
          · split at hc
            · split at hc
              · split at hc <;> cases hc
              · cases hc
            · cases hc
          · split at hc
            · split at hc
              · split at hc <;> cases hc
              · cases hc
            · cases hc
        · cases hc
      | _ =>
        exfalso
        rw [ho] at hc
        simp only [compileOp] at hc
        repeat' (first | (cases hc; done) | (simp at hc; done) | (unfold cBin at hc) | (unfold cConv at hc) | split at hc)
        all_goals (rename_i heq; cases heq)
    | _ => cases hnc

theorem FrRep.put {g' : G} {dst : Option Nat} {v : AV} {v' : Value} (hf : FrRep g fr a) (hr : HRep lo g) (s : Step lo base g g') (hv : Rep g' v v') (hd : ∀ d, dst = some d → d < a.tmps.size) : FrRep g' (updO fr dst v) (a.put dst v') := by
  intro t
  cases dst with
  | none => exact (hf t).step s hr
  | some d =>
    simp only [updO, upd, Act.put]
    by_cases ht : t = d
    · subst ht
      simpa [hd t rfl] using hv
    · rw [if_neg ht]
      have : (a.tmps.setIfInBounds d v')[t]? = a.tmps[t]? := Array.getElem?_setIfInBounds_ne (fun h => ht h.symm)
      have h1 := (hf t).step s hr
      simpa [this] using h1

theorem put_size (a : Act) (dst : Option Nat) (v : Value) : (a.put dst v).tmps.size = a.tmps.size := by
  cases dst <;> simp [Act.put]
theorem put_defers (a : Act) (dst : Option Nat) (v : Value) : (a.put dst v).defers = a.defers := by
  cases dst <;> rfl

theorem wants_eq {ops : Array Oper} {o : Oper} {q : Option (Nat × Bool)} (hf : FrRep g fr a) (h : guardOf ops o.guard = some q) : Region.wanted o (yielded ops a.tmps) = wants fr q := by
  unfold Region.wanted
  unfold guardOf at h
  split at h
  · rename_i hg
    cases h
    rw [hg]
    rfl
  · rename_i j w hg
    split at h
    · rename_i t ht
      cases h
      rw [hg]
      simp only [wants, yielded, ht, Option.bind_some]
      have h1 := hf t
      have h2 : a.tmps.getD t undef = (a.tmps[t]?).getD undef := by simp
      rw [h2] at h1
      cases hx : a.tmps[t]? with
      | none =>
        rw [hx] at h1
        simp only [Option.getD_none] at h1
        generalize fr t = X at h1
        cases X with
        | bool b => cases h1
        | _ => simp
      | some u =>
        rw [hx] at h1
        simp only [Option.getD_some] at h1
        generalize fr t = X at h1
        cases h1 with
        | bool b => simp
        | undef => simp [undef]
        | _ => simp
    · cases h

/-- A state and a place in a function's body. -/
structure SR (lo N : Nat) (g : G) (fr : Frame) (a : Act) : Prop where
  hr : HRep lo g
  fr : FrRep g fr a
  size : a.tmps.size = N
  defers : a.defers = []

def ofOut : Out → Exit
  | .normal => .normal
  | .exit id => .exit id
  | .ret => .ret

/-- What is so behind code. -/
def CQ (lo base N : Nat) (g : G) (out : Out) (fr' : Frame) (h' : Heap) (e : Exit) (a' : Act) (w' : World) : Prop :=
  e = ofOut out ∧ ∃ r' St', SR lo N ⟨h', r', w', St'⟩ fr' a' ∧ Step lo base g ⟨h', r', w', St'⟩

theorem SR.put {N : Nat} {g' : G} {dst : Option Nat} {v : AV} {v' : Value} (h : SR lo N g fr a) (hr : HRep lo g') (s : Step lo base g g') (hv : Rep g' v v') (hd : ∀ d, dst = some d → d < N) : SR lo N g' (updO fr dst v) (a.put dst v') :=
  ⟨hr, h.fr.put h.hr s hv fun d hd' => by rw [h.size]; exact hd d hd', by rw [put_size]; exact h.size, by rw [put_defers]; exact h.defers⟩

def Paired (P : Program) (gh : Nat → List (Nat × Nat × Nat)) (draw : Bool) (ops : Array Oper) : List Nat → List AOper → Prop
  | [], [] => True
  | i :: is, x :: xs => (∃ o, ops[i]? = some o ∧ compileOper P gh draw ops o = some x) ∧ Paired P gh draw ops is xs
  | _, _ => False

theorem compileOper_eq {draw : Bool} {ops : Array Oper} {o : Oper} {x : AOper} (h : compileOper P gh draw ops o = some x) : x.dst = o.dst ∧ compileOp P gh draw o.op = some x.op ∧ guardOf ops o.guard = some x.guard := by
  unfold compileOper at h
  split at h
  · rename_i op q h1 h2
    cases h
    exact ⟨rfl, h1, h2⟩
  · cases h

theorem runOps_sound {cf : CallF} (hcs : CallSound P cf) (hlb : lo ≤ base) {draw : Bool} {ops : Array Oper} {N : Nat} (hN : ∀ (i : Nat) (o : Oper) (d : Nat), ops[i]? = some o → o.dst = some d → d < N) : ∀ (xs : List AOper) (is : List Nat) (fr : Frame) (g : G) (fr' : Frame) (h' : Heap) (a : Act),
    Paired P gh draw ops is xs → runOps cf lo base xs fr g.h = some (fr', h') → SR lo N g fr a → base ≤ g.h.length → wpOps P ops (CQ lo base N g .normal fr' h') is a g.w
  | [], [], fr, g, fr', h', a, hp, h, hs, hb => by
    simp only [runOps, Option.some.injEq, Prod.mk.injEq] at h
    obtain ⟨rfl, rfl⟩ := h
    exact ⟨rfl, g.r, g.St, hs, Step.refl lo base g⟩
  | x :: xs, i :: is, fr, g, fr', h', a, hp, h, hs, hb => by
    obtain ⟨⟨o, ho, hco⟩, hp⟩ := hp
    obtain ⟨hdst, hop, hg⟩ := compileOper_eq hco
    have hw := wants_eq hs.fr hg
    simp only [wpOps, ho]
    simp only [runOps] at h
    rw [hw]
    have next : ∀ (v : AV) (h1 : Heap) (v' : Value) (w1 : World), runOps cf lo base xs (updO fr x.dst v) h1 = some (fr', h') → Post lo base g v h1 v' w1 → wpOps P ops (CQ lo base N g .normal fr' h') is (a.put o.dst v') w1 := by
      rintro v h1 v' w1 hrun ⟨r', St', q1, q2, q3⟩
      rw [hdst] at hrun
      have := runOps_sound hcs hlb hN xs is _ ⟨h1, r', w1, St'⟩ fr' h' _ hp hrun (hs.put q2 q3 q1 fun d hd => hN i o d ho hd) (Nat.le_trans hb q3.len)
      exact wpOps_mono (fun e a w ⟨k1, r2, St2, k2, k3⟩ => ⟨k1, r2, St2, k2, q3.trans k3⟩) this
    split at h
    · rename_i hwt
      rw [if_pos hwt]
      split at h
      · rename_i v h1 hst
        refine .inl ?_
        have := op_does hcs hop hs.fr hs.hr hlb hb hb hst
        exact this.upon fun v' w1 hpost => next v h1 v' w1 h hpost
      · cases h
    · rename_i hwt
      rw [if_neg hwt]
      exact next .undef g.h undef g.w h ⟨g.r, g.St, .undef, hs.hr, Step.refl lo base g⟩
  | [], _ :: _, _, _, _, _, _, hp, _, _, _ => hp.elim
  | _ :: _, [], _, _, _, _, _, hp, _, _, _ => hp.elim
where
  wpOps_mono {P : Program} {ops : Array Oper} {Q Q' : Exit → Act → World → Prop} (hq : ∀ e a w, Q e a w → Q' e a w) : ∀ {is : List Nat} {a : Act} {w : World}, wpOps P ops Q is a w → wpOps P ops Q' is a w
    | [], a, w, h => hq _ _ _ h
    | i :: is, a, w, h => by
      simp only [wpOps] at h ⊢
      split
      · rename_i ho
        simp only [ho] at h
        exact wpOps_mono hq h
      · rename_i o ho
        simp only [ho] at h
        split
        · rename_i hw
          rw [if_pos hw] at h
          rcases h with h | ⟨h, a0, w0, hl⟩
          · refine .inl ?_
            unfold Oper.wp at *
            generalize (execOp a.eval o).run P w = r at *
            cases r with
            | ok n w' =>
              cases n <;> simp only [Oper.upon] at h ⊢ <;> first
                | exact wpOps_mono hq h
                | exact h.mono fun e w'' he => by cases e <;> first | exact wpOps_mono hq he | exact hq _ _ _ he | exact he.imp fun a0 h => h.imp fun w0 h => hq _ _ _ h
                | exact h.mono fun _ _ he => wpOps_mono hq he
                | exact h
            | halt x w' => cases x <;> simp only [Oper.upon] at h ⊢ <;> first | exact hq _ _ _ h | exact h
          · exact .inr ⟨h, a0, w0, hq _ _ _ hl⟩
        · rename_i hw
          rw [if_neg hw] at h
          exact wpOps_mono hq h

end
end Go.Abs
