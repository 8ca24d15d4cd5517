/- Enough fuel: what a call answers with some fuel, as a function without fuel. -/
import Derived.Test.YtnpfhbhhbdegfaaDoorD4
set_option linter.unusedSimpArgs false
set_option linter.unusedVariables false
namespace Go.Abs

def CfLe (c d : CallF) : Prop := ∀ f lo base tgt args h r, c f lo base tgt args h = some r → d f lo base tgt args h = some r
def BLe (b d : Body) : Prop := ∀ fr h r, b fr h = some r → d fr h = some r
def ItLe (i j : Body → Body) : Prop := ∀ b d, BLe b d → BLe (i b) (j d)

theorem stepOp_mono {c d : CallF} (hc : CfLe c d) {lo base tgt : Nat} {op : AOp} {fr : Frame} {h : Heap} {r : AV × Heap} (e : stepOp c lo base tgt op fr h = some r) : stepOp d lo base tgt op fr h = some r := by
  cases op with
  | call f args =>
    simp only [stepOp] at e ⊢
    split at e
    · exact hc _ _ _ _ _ _ _ e
    · cases e
  | _ => exact e

theorem runOps_mono {c d : CallF} (hc : CfLe c d) {lo base : Nat} : ∀ (os : List AOper) (fr : Frame) (h : Heap) (r : Frame × Heap), runOps c lo base os fr h = some r → runOps d lo base os fr h = some r
  | [], fr, h, r, e => e
  | o :: os, fr, h, r, e => by
    simp only [runOps] at e ⊢
    split at e
    · rename_i hw
      rw [if_pos hw]
      split at e
      · rename_i v h' hs
        rw [stepOp_mono hc hs]
        exact runOps_mono hc os _ _ _ e
      · cases e
    · rename_i hw
      rw [if_neg hw]
      exact runOps_mono hc os _ _ _ e

theorem stepD_mono {c d : CallF} (hc : CfLe c d) {st : Nat → Bool} {lo base n0 : Nat} {fr0 : Frame} {i : Nat} {o : DOper} {s s' : DSt} (e : stepD c st lo base n0 fr0 i o s = some s') : stepD d st lo base n0 fr0 i o s = some s' := by
  unfold stepD at e ⊢
  split at e
  · rename_i hw
    rw [if_pos hw]
    split at e
    · rename_i hd
      rw [if_pos hd]
      split at e
      · rename_i hP
        rw [if_pos hP]
        split at e
        · rename_i v h' hs
          rw [stepOp_mono hc hs]
          exact e
        · cases e
      · rename_i hP
        rw [if_neg hP]
        split at e
        · rename_i v h' hs
          rw [stepOp_mono hc hs]
          exact e
        · cases e
    · cases e
  · rename_i hw
    rw [if_neg hw]
    exact e

theorem runD_mono {c d : CallF} (hc : CfLe c d) {st : Nat → Bool} {lo base n0 : Nat} {fr0 : Frame} : ∀ (os : List DOper) (i : Nat) (s s' : DSt), runD c st lo base n0 fr0 i os s = some s' → runD d st lo base n0 fr0 i os s = some s'
  | [], i, s, s', e => e
  | o :: os, i, s, s', e => by
    simp only [runD] at e ⊢
    split at e
    · rename_i s1 h1
      rw [stepD_mono hc h1]
      exact runD_mono hc os _ _ _ e
    · cases e

theorem andThen_mono {r : Option R} {r' : Option R} {k k' : Body} (hr : ∀ x, r = some x → r' = some x) (hk : BLe k k') : ∀ x, andThen r k = some x → andThen r' k' = some x := by
  intro x e
  unfold andThen at e
  split at e
  · rename_i fr h
    rw [hr _ rfl]
    exact hk _ _ _ e
  · rename_i r hn
    rw [hr _ e]
    unfold andThen
    split
    · rename_i fr h he
      cases he
      exact absurd e (by
        intro e
        exact hn fr h e)
    · rfl

theorem exec_mono {c d : Ctx} (hc : CfLe c.cf d.cf) (hi : ItLe c.it d.it) (hs : c.stOf = d.stOf) {lo base : Nat} : ∀ (code : ACode), BLe (exec c lo base code) (exec d lo base code) := by
  intro code
  induction code with
  | skip => intro fr h r e; exact e
  | region ops =>
    intro fr h r e
    simp only [exec] at e ⊢
    split at e
    · rename_i fr' h' he
      rw [runOps_mono hc _ _ _ _ he]
      exact e
    · cases e
  | draw total ops =>
    intro fr h r e
    simp only [exec] at e ⊢
    split at e
    · rename_i s he
      rw [← hs, runD_mono hc _ _ _ _ he]
      exact e
    · cases e
  | seq a b iha ihb =>
    intro fr h r e
    simp only [exec] at e ⊢
    exact andThen_mono (iha fr h) ihb _ e
  | cond t a b iha ihb =>
    intro fr h r e
    simp only [exec] at e ⊢
    split at e
    · split at e
      · rename_i hx; simp only [hx]; exact iha _ _ _ e
      · rename_i hx; simp only [hx]; exact ihb _ _ _ e
    · cases e
  | block id a ih =>
    intro fr h r e
    simp only [exec] at e ⊢
    unfold inBlk at e
    split at e
    · rename_i j fr' h' he
      rw [ih _ _ _ he]
      exact e
    · rename_i r' hn
      rw [ih _ _ _ e]
      unfold inBlk
      split
      · rename_i j fr' h' he
        cases he
        exact absurd e (hn j fr' h')
      · rfl
  | loop a ih =>
    intro fr h r e
    exact hi _ _ ih fr h r e
  | exit id => intro fr h r e; exact e
  | ret => intro fr h r e; exact e

theorem iter_mono {b d : Body} (hb : BLe b d) : ∀ {n m : Nat}, n ≤ m → BLe (iter n b) (iter m d)
  | 0, m, _ => by intro fr h r e; simp [iter] at e
  | n + 1, 0, h => by omega
  | n + 1, m + 1, h => by
    intro fr hp r e
    simp only [iter] at e ⊢
    exact andThen_mono (hb fr hp) (iter_mono hb (by omega)) _ e

theorem bodyAV_mono {c d : Ctx} (hc : CfLe c.cf d.cf) (hi : ItLe c.it d.it) (hs : c.stOf = d.stOf) {fn : AFn} {lo base : Nat} {args : List AV} {h : Heap} {r : AV × Heap} (e : bodyAV c fn lo base args h = some r) : bodyAV d fn lo base args h = some r := by
  unfold bodyAV at e ⊢
  split at e
  · rename_i fr h' he
    rw [exec_mono hc hi hs _ _ _ _ he]
    exact e
  · rename_i fr h' he
    rw [exec_mono hc hi hs _ _ _ _ he]
    exact e
  · cases e

theorem callPol_mono {p : Pol} {b d : Nat → Nat → List AV → Heap → Option (AV × Heap)} (hb : ∀ lo base args h r, b lo base args h = some r → d lo base args h = some r) {lo base tgt : Nat} {args : List AV} {h : Heap} {r : AV × Heap}
    (e : callPol p b lo base tgt args h = some r) : callPol p d lo base tgt args h = some r := by
  unfold callPol at e ⊢
  split at e
  · rename_i hr; rw [if_pos hr]; exact hb _ _ _ _ _ e
  · rename_i hr
    rw [if_neg hr]
    split at e
    · rename_i hst
      rw [if_pos hst]
      split at e
      · rename_i h2 args' hfr hargs
        split at e
        · rename_i hcond
          simp only [hfr, hargs, if_pos hcond]
          split at e
          · rename_i v1 h1 he
            rw [hb _ _ _ _ _ he]
            exact e
          · cases e
        · cases e
      · cases e
    · rename_i hst
      rw [if_neg hst]
      split at e
      · rename_i args' hargs
        split at e
        · rename_i v1 h1 he
          rw [hb _ _ _ _ _ he]
          exact e
        · cases e
      · cases e

section
variable (Q : Prg)

def ctxN (k : Nat) : Ctx := { cf := callN Q k, it := iter k, stOf := fun g => (Q.pol g).st || (Q.pol g).raw }

theorem iter_itLe {k m : Nat} (h : k ≤ m) : ItLe (iter k) (iter m) := fun _ _ hb => iter_mono hb h

theorem callN_mono : ∀ {k m : Nat}, k ≤ m → CfLe (callN Q k) (callN Q m)
  | 0, m, _ => by intro f lo base tgt args h r e; simp [callN] at e
  | k + 1, 0, h => by omega
  | k + 1, m + 1, hkm => by
    intro f lo base tgt args h r e
    simp only [callN] at e ⊢
    split at e
    · exact e
    · split at e
      · exact callPol_mono (b := bodyAV { cf := callN Q k, it := iter k, stOf := fun g => (Q.pol g).st || (Q.pol g).raw } _) (d := bodyAV { cf := callN Q m, it := iter m, stOf := fun g => (Q.pol g).st || (Q.pol g).raw } _) (fun lo base args h r e => bodyAV_mono (c := ctxN Q k) (d := ctxN Q m) (callN_mono (by omega)) (iter_itLe (by omega)) rfl e) e
      · cases e

open Classical in
/-- A call with as much fuel as it wants. -/
noncomputable def callW : CallF := fun f lo base tgt args h => if hx : ∃ r k, callN Q k f lo base tgt args h = some r then some (Classical.choose hx) else none
open Classical in
noncomputable def itW (b : Body) : Body := fun fr h => if hx : ∃ r k, iter k b fr h = some r then some (Classical.choose hx) else none
noncomputable def ctxW : Ctx := { cf := callW Q, it := itW, stOf := fun g => (Q.pol g).st || (Q.pol g).raw }

variable {Q}
theorem callW_iff {f lo base tgt : Nat} {args : List AV} {h : Heap} {r : AV × Heap} : callW Q f lo base tgt args h = some r ↔ ∃ k, callN Q k f lo base tgt args h = some r := by
  unfold callW
  constructor
  · intro e
    split at e
    · rename_i hx
      cases e
      exact Classical.choose_spec hx
    · cases e
  · rintro ⟨k, hk⟩
    have hx : ∃ r k, callN Q k f lo base tgt args h = some r := ⟨r, k, hk⟩
    rw [dif_pos hx]
    obtain ⟨m, hm⟩ := Classical.choose_spec hx
    have h1 := callN_mono Q (Nat.le_max_left k m) _ _ _ _ _ _ _ hk
    have h2 := callN_mono Q (Nat.le_max_right k m) _ _ _ _ _ _ _ hm
    rw [h1] at h2
    exact h2.symm
theorem itW_iff {b : Body} {fr : Frame} {h : Heap} {r : R} : itW b fr h = some r ↔ ∃ k, iter k b fr h = some r := by
  unfold itW
  constructor
  · intro e
    split at e
    · rename_i hx
      cases e
      exact Classical.choose_spec hx
    · cases e
  · rintro ⟨k, hk⟩
    have hx : ∃ r k, iter k b fr h = some r := ⟨r, k, hk⟩
    rw [dif_pos hx]
    obtain ⟨m, hm⟩ := Classical.choose_spec hx
    have h1 := iter_mono (b := b) (d := b) (fun _ _ _ h => h) (Nat.le_max_left k m) _ _ _ hk
    have h2 := iter_mono (b := b) (d := b) (fun _ _ _ h => h) (Nat.le_max_right k m) _ _ _ hm
    rw [h1] at h2
    exact h2.symm

theorem itW_eq (b : Body) (fr : Frame) (h : Heap) : itW b fr h = andThen (b fr h) (itW b) := by
  have key : ∀ r, itW b fr h = some r ↔ andThen (b fr h) (itW b) = some r := by
    intro r
    rw [itW_iff]
    constructor
    · rintro ⟨k, hk⟩
      cases k with
      | zero => simp [iter] at hk
      | succ k =>
        simp only [iter] at hk
        exact andThen_mono (fun _ h => h) (fun fr h r e => itW_iff.2 ⟨k, e⟩) _ hk
    · intro e
      unfold andThen at e
      split at e
      · rename_i fr1 h1 hb
        obtain ⟨k, hk⟩ := itW_iff.1 e
        exact ⟨k + 1, by simp only [iter, hb, andThen]; exact hk⟩
      · rename_i r' hn
        refine ⟨1, ?_⟩
        simp only [iter]
        unfold andThen
        split
        · rename_i fr1 h1 hb
          exact absurd hb (hn fr1 h1)
        · exact e
  cases hx : itW b fr h with
  | some r => exact ((key r).1 hx).symm
  | none =>
    cases hy : andThen (b fr h) (itW b) with
    | none => rfl
    | some r => rw [(key r).2 hy] at hx; cases hx

theorem runOps_lim {lo base : Nat} : ∀ (os : List AOper) (fr : Frame) (h : Heap) (r : Frame × Heap), runOps (callW Q) lo base os fr h = some r → ∃ k, ∀ m, k ≤ m → runOps (callN Q m) lo base os fr h = some r
  | [], fr, h, r, e => ⟨0, fun _ _ => e⟩
  | o :: os, fr, h, r, e => by
    simp only [runOps] at e ⊢
    split at e
    · rename_i hw
      simp only [if_pos hw]
      split at e
      · rename_i v h' hs
        obtain ⟨k2, h2⟩ := runOps_lim os _ _ _ e
        have hs2 : ∃ k, ∀ m, k ≤ m → stepOp (callN Q m) lo base h.length o.op fr h = some (v, h') := by
          generalize o.op = op at hs
          cases op with
          | call f args =>
            simp only [stepOp] at hs ⊢
            split at hs
            · obtain ⟨k, hk⟩ := callW_iff.1 hs
              exact ⟨k, fun m hm => callN_mono Q hm _ _ _ _ _ _ _ hk⟩
            · cases hs
          | _ => exact ⟨0, fun _ _ => hs⟩
        obtain ⟨k1, h1⟩ := hs2
        exact ⟨max k1 k2, fun m hm => by rw [h1 m (by omega)]; exact h2 m (by omega)⟩
      · cases e
    · rename_i hw
      simp only [if_neg hw]
      exact runOps_lim os _ _ _ e

theorem stepOp_lim {lo base tgt : Nat} {op : AOp} {fr : Frame} {h : Heap} {r : AV × Heap} (hs : stepOp (callW Q) lo base tgt op fr h = some r) : ∃ k, ∀ m, k ≤ m → stepOp (callN Q m) lo base tgt op fr h = some r := by
  cases op with
  | call f args =>
    simp only [stepOp] at hs ⊢
    split at hs
    · obtain ⟨k, hk⟩ := callW_iff.1 hs
      exact ⟨k, fun m hm => callN_mono Q hm _ _ _ _ _ _ _ hk⟩
    · cases hs
  | _ => exact ⟨0, fun _ _ => hs⟩

theorem stepD_lim {st : Nat → Bool} {lo base n0 : Nat} {fr0 : Frame} {i : Nat} {o : DOper} {s s' : DSt} (e : stepD (callW Q) st lo base n0 fr0 i o s = some s') : ∃ k, ∀ m, k ≤ m → stepD (callN Q m) st lo base n0 fr0 i o s = some s' := by
  unfold stepD at e
  split at e
  · rename_i hw
    split at e
    · rename_i hd
      split at e
      · rename_i hP
        split at e
        · rename_i v h' hs
          obtain ⟨k, hk⟩ := stepOp_lim hs
          exact ⟨k, fun m hm => by unfold stepD; rw [if_pos hw, if_pos hd, if_pos hP, hk m hm]; exact e⟩
        · cases e
      · rename_i hP
        split at e
        · rename_i v h' hs
          obtain ⟨k, hk⟩ := stepOp_lim hs
          exact ⟨k, fun m hm => by unfold stepD; rw [if_pos hw, if_pos hd, if_neg hP, hk m hm]; exact e⟩
        · cases e
    · cases e
  · rename_i hw
    exact ⟨0, fun m _ => by unfold stepD; rw [if_neg hw]; exact e⟩

theorem runD_lim {st : Nat → Bool} {lo base n0 : Nat} {fr0 : Frame} : ∀ (os : List DOper) (i : Nat) (s s' : DSt), runD (callW Q) st lo base n0 fr0 i os s = some s' → ∃ k, ∀ m, k ≤ m → runD (callN Q m) st lo base n0 fr0 i os s = some s'
  | [], i, s, s', e => ⟨0, fun _ _ => e⟩
  | o :: os, i, s, s', e => by
    simp only [runD] at e ⊢
    split at e
    · rename_i s1 h1
      obtain ⟨k1, hk1⟩ := stepD_lim h1
      obtain ⟨k2, hk2⟩ := runD_lim os _ _ _ e
      exact ⟨max k1 k2, fun m hm => by rw [hk1 m (by omega)]; exact hk2 m (by omega)⟩
    · cases e

theorem exec_lim {lo base : Nat} : ∀ (code : ACode) (fr : Frame) (h : Heap) (r : R), exec (ctxW Q) lo base code fr h = some r → ∃ k, ∀ m, k ≤ m → exec (ctxN Q m) lo base code fr h = some r := by
  intro code
  induction code with
  | skip => intro fr h r e; exact ⟨0, fun _ _ => e⟩
  | region ops =>
    intro fr h r e
    simp only [exec] at e ⊢
    split at e
    · rename_i fr' h' he
      obtain ⟨k, hk⟩ := runOps_lim _ _ _ _ he
      exact ⟨k, fun m hm => by rw [show runOps (ctxN Q m).cf lo base ops fr h = some (fr', h') from hk m hm]; exact e⟩
    · cases e
  | draw total ops =>
    intro fr h r e
    simp only [exec] at e ⊢
    split at e
    · rename_i s he
      obtain ⟨k, hk⟩ := runD_lim _ _ _ _ he
      exact ⟨k, fun m hm => by
        have := hk m hm
        simp only [ctxN, ctxW] at this ⊢
        rw [this]
        exact e⟩
    · cases e
  | seq a b iha ihb =>
    intro fr h r e
    simp only [exec] at e ⊢
    unfold andThen at e
    split at e
    · rename_i fr1 h1 ha
      obtain ⟨k1, hk1⟩ := iha _ _ _ ha
      obtain ⟨k2, hk2⟩ := ihb _ _ _ e
      exact ⟨max k1 k2, fun m hm => by rw [hk1 m (by omega)]; simp only [andThen]; exact hk2 m (by omega)⟩
    · rename_i r' hn
      obtain ⟨k1, hk1⟩ := iha _ _ _ e
      refine ⟨k1, fun m hm => ?_⟩
      rw [hk1 m hm]
      unfold andThen
      split
      · rename_i fr1 h1 hb
        cases hb
        exact absurd e (hn fr1 h1)
      · rfl
  | cond t a b iha ihb =>
    intro fr h r e
    simp only [exec] at e ⊢
    split at e
    · split at e
      · rename_i hx; simp only [hx]; exact iha _ _ _ e
      · rename_i hx; simp only [hx]; exact ihb _ _ _ e
    · cases e
  | block id a ih =>
    intro fr h r e
    simp only [exec] at e ⊢
    unfold inBlk at e
    split at e
    · rename_i j fr' h' he
      obtain ⟨k1, hk1⟩ := ih _ _ _ he
      exact ⟨k1, fun m hm => by rw [hk1 m hm]; exact e⟩
    · rename_i r' hn
      obtain ⟨k1, hk1⟩ := ih _ _ _ e
      refine ⟨k1, fun m hm => ?_⟩
      rw [hk1 m hm]
      unfold inBlk
      split
      · rename_i j fr' h' he
        cases he
        exact absurd e (hn j fr' h')
      · rfl
  | loop a ih =>
    intro fr h r e
    simp only [exec] at e ⊢
    obtain ⟨n, hn⟩ := itW_iff.1 (show itW (exec (ctxW Q) lo base a) fr h = some r from e)
    clear e
    induction n generalizing fr h with
    | zero => simp [iter] at hn
    | succ n ihn =>
      simp only [iter] at hn
      unfold andThen at hn
      split at hn
      · rename_i fr1 h1 ha
        obtain ⟨k1, hk1⟩ := ih _ _ _ ha
        obtain ⟨k2, hk2⟩ := ihn _ _ hn
        refine ⟨max k1 k2 + 1, fun m hm => ?_⟩
        obtain ⟨m, rfl⟩ : ∃ m', m = m' + 1 := ⟨m - 1, by omega⟩
        have h2 : iter m (exec (ctxN Q m) lo base a) fr1 h1 = some r := hk2 m (by omega)
        show iter (m + 1) (exec (ctxN Q (m + 1)) lo base a) fr h = some r
        simp only [iter]
        rw [hk1 (m + 1) (by omega)]
        simp only [andThen]
        exact iter_mono (b := exec (ctxN Q m) lo base a) (exec_mono (c := ctxN Q m) (d := ctxN Q (m + 1)) (callN_mono Q (Nat.le_succ m)) (iter_itLe (Nat.le_succ m)) rfl a) (Nat.le_refl m) _ _ _ h2
      · rename_i r' hne
        obtain ⟨k1, hk1⟩ := ih _ _ _ hn
        refine ⟨k1 + 1, fun m hm => ?_⟩
        obtain ⟨m, rfl⟩ : ∃ m', m = m' + 1 := ⟨m - 1, by omega⟩
        show iter (m + 1) (exec (ctxN Q (m + 1)) lo base a) fr h = some r
        simp only [iter]
        rw [hk1 (m + 1) (by omega)]
        unfold andThen
        split
        · rename_i fr1 h1 hb
          cases hb
          exact absurd hn (hne fr1 h1)
        · rfl
  | exit id => intro fr h r e; exact ⟨0, fun _ _ => e⟩
  | ret => intro fr h r e; exact ⟨0, fun _ _ => e⟩

/-- A function's body, with as much fuel as it wants. -/
noncomputable def bodyW (Q : Prg) (fn : AFn) : Nat → Nat → List AV → Heap → Option (AV × Heap) := bodyAV (ctxW Q) fn

theorem body_lim {fn : AFn} {lo base : Nat} {args : List AV} {h : Heap} {r : AV × Heap} (e : bodyW Q fn lo base args h = some r) : ∃ k, ∀ m, k ≤ m → bodyAV (ctxN Q m) fn lo base args h = some r := by
  unfold bodyW bodyAV at e
  split at e
  · rename_i fr h' he
    obtain ⟨k, hk⟩ := exec_lim _ _ _ _ he
    exact ⟨k, fun m hm => by unfold bodyAV; rw [hk m hm]; exact e⟩
  · rename_i fr h' he
    obtain ⟨k, hk⟩ := exec_lim _ _ _ _ he
    exact ⟨k, fun m hm => by unfold bodyAV; rw [hk m hm]; exact e⟩
  · cases e

theorem callW_eq {f : Nat} {fn : AFn} (hx : Q.ext f = none) (hf : Q.fns f = some fn) {lo base tgt : Nat} {args : List AV} {h : Heap} {r : AV × Heap} (e : callPol (Q.pol f) (bodyW Q fn) lo base tgt args h = some r) : callW Q f lo base tgt args h = some r := by
  refine callW_iff.2 ?_
  have key : ∃ k, callPol (Q.pol f) (bodyAV (ctxN Q k) fn) lo base tgt args h = some r := by
    unfold callPol at e
    split at e
    · rename_i hr
      obtain ⟨k, hk⟩ := body_lim e
      exact ⟨k, by unfold callPol; rw [if_pos hr]; exact hk k (Nat.le_refl _)⟩
    · rename_i hr
      split at e
      · rename_i hst
        split at e
        · rename_i h2 args' hfr hargs
          split at e
          · rename_i hcond
            split at e
            · rename_i v1 h1 he
              obtain ⟨k, hk⟩ := body_lim he
              exact ⟨k, by unfold callPol; rw [if_neg hr, if_pos hst]; simp only [hfr, hargs, if_pos hcond, hk k (Nat.le_refl _)]; exact e⟩
            · cases e
          · cases e
        · cases e
      · rename_i hst
        split at e
        · rename_i args' hargs
          split at e
          · rename_i v1 h1 he
            obtain ⟨k, hk⟩ := body_lim he
            exact ⟨k, by unfold callPol; rw [if_neg hr, if_neg hst]; simp only [hargs, hk k (Nat.le_refl _)]; exact e⟩
          · cases e
        · cases e
  obtain ⟨k, hk⟩ := key
  exact ⟨k + 1, by simp only [callN, hx, hf]; exact hk⟩

theorem callW_ext {f : Nat} {ex : Nat → Nat → Nat → List AV → Heap → Option (AV × Heap)} (hx : Q.ext f = some ex) {lo base tgt : Nat} {args : List AV} {h : Heap} {r : AV × Heap} (e : ex lo base tgt args h = some r) : callW Q f lo base tgt args h = some r :=
  callW_iff.2 ⟨1, by simp only [callN, hx]; exact e⟩
theorem callW_N {f k : Nat} {lo base tgt : Nat} {args : List AV} {h : Heap} {r : AV × Heap} (e : callN Q k f lo base tgt args h = some r) : callW Q f lo base tgt args h = some r := callW_iff.2 ⟨k, e⟩

end
end Go.Abs
