/- Whole programs. -/
import Derived.Test.YtnpfhbhhbdegfaaDoorD3
set_option linter.unusedSimpArgs false
set_option linter.unusedVariables false
namespace Go.Abs

/-- What an abstract program says of a loaded one. -/
structure PrgOk (P : Program) (gh : Nat → List (Nat × Nat × Nat)) (Q : Prg) : Prop where
  mixed : P.follows .mixedOrders = true
  fns : ∀ (f : Nat) (af : AFn), Q.ext f = none → Q.fns f = some af → ∃ fn, P.funcs[f]? = some fn ∧ compileFn P gh fn = some af
  ext : ∀ (f : Nat) (e : Nat → Nat → Nat → List AV → Heap → Option (AV × Heap)), Q.ext f = some e → ∀ (lo base tgt : Nat) (args : List AV) (g : G) (vals : Array Value) (v : AV) (h' : Heap), e lo base tgt args g.h = some (v, h') →
    lo ≤ base → base ≤ tgt → base ≤ g.h.length → HRep lo g → RepL g args vals → Does P (Post lo base g v h') ((callFunc f vals).run P g.w)
  extV : ∀ (f : Nat) (e : Nat → Nat → Nat → List AV → Heap → Option (AV × Heap)), Q.ext f = some e → (Q.pol f).st = false → (Q.pol f).raw = false → ∀ (lo base tgt : Nat) (args : List AV) (h : Heap) (v : AV) (h' : Heap), e lo base tgt args h = some (v, h') → tgt < h.length →
    ∀ b : Nat, b < tgt ∨ tgt + 2 ≤ b → sameC h[b]? h'[b]?

section
variable {P : Program} {gh : Nat → List (Nat × Nat × Nat)} {Q : Prg}

theorem place_same {h h' : Heap} {tgt : Nat} {bs : List Blk} (ht : tgt < h.length) (hl : bs.length ≤ 2) (hp : place h tgt bs = some h') : ∀ b : Nat, b < tgt ∨ tgt + 2 ≤ b → sameC h[b]? h'[b]? := fun b hb => by
  rw [(place_spec hp).2.1 b (by omega)]
  exact .refl _

theorem callPol_V {p : Pol} {body : Nat → Nat → List AV → Heap → Option (AV × Heap)} {lo base tgt : Nat} {args : List AV} {h h' : Heap} {v : AV} (h1 : p.st = false) (h2 : p.raw = false) (e : callPol p body lo base tgt args h = some (v, h')) (ht : tgt < h.length) :
    ∀ b : Nat, b < tgt ∨ tgt + 2 ≤ b → sameC h[b]? h'[b]? := by
  unfold callPol at e
  rw [h1, h2] at e
  simp only [Bool.false_eq_true, if_false] at e
  have pp : ∀ {r : AV} {x : Option Heap}, callPol.put1' r x = some (v, h') → x = some h' := fun {r x} e => by
    unfold callPol.put1' at e
    split at e
    · cases e; rfl
    · cases e
  split at e
  · split at e
    · split at e
      · split at e
        · rename_i hc
          simp only [Bool.and_eq_true, decide_eq_true_eq] at hc
          split at e
          · exact place_same ht hc.2 (pp e)
          · split at e
            · rename_i h2 hfr
              obtain ⟨l1, s1⟩ := freeze_same hfr
              exact fun b hb => (s1 b).trans (place_same (by omega) hc.2 (pp e) b hb)
            · cases e
        · cases e
      · cases e
    · cases e
  · cases e

theorem callN_V (hQ : PrgOk P gh Q) : ∀ k : Nat, CfV (callN Q k) (fun g => (Q.pol g).st || (Q.pol g).raw) := by
  intro k f lo base tgt args h v h' hs e ht
  simp only [Bool.or_eq_false_iff] at hs
  cases k with
  | zero => simp [callN] at e
  | succ k =>
    simp only [callN] at e
    split at e
    · rename_i ex hex
      exact hQ.extV f ex hex hs.1 hs.2 lo base tgt args h v h' e ht
    · split at e
      · exact callPol_V hs.1 hs.2 e ht
      · cases e

theorem callN_sound (hQ : PrgOk P gh Q) : ∀ k : Nat, CallSound P (callN Q k) := by
  intro k
  induction k with
  | zero => intro f lo base tgt args h v h' e; simp [callN] at e
  | succ k ih =>
    intro f lo base tgt args h v h' e r w St vals hr hl ha hlb hbt hbl
    simp only [callN] at e
    split at e
    · rename_i ex hex
      exact hQ.ext f ex hex lo base tgt args ⟨h, r, w, St⟩ vals v h' e hlb hbt hbl hr ⟨hl, ha⟩
    · rename_i hex
      split at e
      · rename_i af haf
        obtain ⟨fn, hfn, hcf⟩ := hQ.fns f af hex haf
        have hbody : BodySound P f (bodyAV { cf := callN Q k, it := iter k, stOf := fun g => (Q.pol g).st || (Q.pol g).raw } af) := fun lo base args g vals v h1 h2 h3 h4 h5 h6 =>
          (body_sound (gh := gh) hQ.mixed (c := { cf := callN Q k, it := iter k, stOf := fun g => (Q.pol g).st || (Q.pol g).raw }) ih h2 (callN_V hQ k) rfl hfn hcf h4 h5 h3 h6).1
        have hc := callPol_sound hbody (g := ⟨h, r, w, St⟩) hlb hbt hbl hr ⟨hl, ha⟩ e
        have hname : (fn.name == "runtime.NumGoroutine") = false ∧ fn.body.isNone = false := by
          unfold compileFn at hcf
          split at hcf
          · cases hcf
          · rename_i code hbd
            split at hcf
            · rename_i hd
              simp only [Bool.and_eq_true, Bool.not_eq_true'] at hd
              exact ⟨hd.2, by rw [hbd]; rfl⟩
            · cases hcf
        have run : (callFunc f vals).run P w = .ok (.enter f vals) w := by
          simp only [callFunc, program, Sem.run_bind, Sem.run, Result.andThen_ok, hfn, hname.1, hname.2, Bool.false_eq_true, if_false]
          rfl
        rw [run]
        exact hc
      · cases e

/-- A call at the top: from nothing abstract. -/
theorem top_sound (hQ : PrgOk P gh Q) {k f : Nat} {af : AFn} (hex : Q.ext f = none) (haf : Q.fns f = some af) {args : List AV} {vals : Array Value} {w : World} {St : Nat → Prop} {v : AV} {h' : Heap} (hst : ∀ c, St c → c < w.heap.size)
    (ha : RepL ⟨[], ⟨fun _ => none, fun _ => none⟩, w, St⟩ args vals) (h : callN Q (k + 1) f 0 0 0 args [] = some (v, h')) :
    Calls P f vals w (Back fun v' w' => (∃ g', Rep g' v v') ∧ Grows w w') := by
  have hr : HRep 0 ⟨[], ⟨fun _ => none, fun _ => none⟩, w, St⟩ := ⟨fun b B hB => by simp [vblk] at hB, fun b b' B B' c hB => by simp [vblk] at hB, fun b B c _ hB => by simp [vblk] at hB, hst, fun b B c hB => by simp [vblk] at hB⟩
  have := callN_sound hQ (k + 1) f 0 0 0 args [] v h' h ⟨fun _ => none, fun _ => none⟩ w St vals hr ha.1 ha.2 (Nat.le_refl _) (Nat.le_refl _) (Nat.le_refl _)
  obtain ⟨fn, hfn, hcf⟩ := hQ.fns f af hex haf
  have hname : (fn.name == "runtime.NumGoroutine") = false ∧ fn.body.isNone = false := by
    unfold compileFn at hcf
    split at hcf
    · cases hcf
    · rename_i code hbd
      split at hcf
      · rename_i hd
        simp only [Bool.and_eq_true, Bool.not_eq_true'] at hd
        exact ⟨hd.2, by rw [hbd]; rfl⟩
      · cases hcf
  have run : (callFunc f vals).run P w = .ok (.enter f vals) w := by
    simp only [callFunc, program, Sem.run_bind, Sem.run, Result.andThen_ok, hfn, hname.1, hname.2, Bool.false_eq_true, if_false]
    rfl
  rw [run] at this
  refine Calls.mono this (Back.mono ?_)
  rintro v' w' ⟨r', St', h1, h2, s⟩
  exact ⟨⟨_, h1⟩, s.size, fun c hc => s.old c hc (fun b B _ hB => by simp [blk] at hB), s.os, s.tape, s.output⟩

end
end Go.Abs
