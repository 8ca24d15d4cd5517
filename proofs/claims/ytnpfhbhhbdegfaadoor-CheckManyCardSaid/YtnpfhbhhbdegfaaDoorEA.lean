/- Runs by the kernel, some functions by what is known of them. -/
import Derived.Test.YtnpfhbhhbdegfaaDoorE9
set_option linter.unusedSimpArgs false
set_option linter.unusedVariables false
namespace Go.Abs

/-- The program with some functions told. -/
def Prg.told (Q : Prg) (x : Nat → Option (Nat → Nat → Nat → List AV → Heap → Option (AV × Heap))) : Prg := { fns := Q.fns, pol := Q.pol, ext := fun f => match x f with
  | some e => some e
  | none => Q.ext f }

theorem told_le {Q : Prg} {x : Nat → Option (Nat → Nat → Nat → List AV → Heap → Option (AV × Heap))} (hx : ∀ f e, x f = some e → ∀ lo base tgt args h r, e lo base tgt args h = some r → callW Q f lo base tgt args h = some r) : ∀ k, CfLe (callN (Q.told x) k) (callW Q) := by
  intro k
  induction k with
  | zero => intro f lo base tgt args h r e; simp [callN] at e
  | succ k ih =>
    intro f lo base tgt args h r e
    simp only [callN] at e
    split at e
    · rename_i ex hex
      simp only [Prg.told] at hex
      split at hex
      · rename_i e' he'
        cases hex
        exact hx f ex he' _ _ _ _ _ _ e
      · exact callW_ext hex e
    · rename_i hex
      simp only [Prg.told] at hex
      split at hex
      · cases hex
      · rename_i hn
        split at e
        · rename_i fn hfn
          refine callW_eq hex hfn (callPol_mono (b := bodyAV { cf := callN (Q.told x) k, it := iter k, stOf := fun g => ((Q.told x).pol g).st || ((Q.told x).pol g).raw } fn) (fun lo base args h r e => ?_) e)
          unfold bodyW
          refine bodyAV_mono (c := ctxN (Q.told x) k) (d := ctxW Q) ih ?_ rfl e
          intro b d hbd fr h r e
          show itW d fr h = some r
          exact itW_iff.2 ⟨k, iter_mono hbd (Nat.le_refl k) fr h r e⟩
        · cases e

theorem Val.of_told {Q : Prg} {x : Nat → Option (Nat → Nat → Nat → List AV → Heap → Option (AV × Heap))} (hx : ∀ f e, x f = some e → ∀ lo base tgt args h r, e lo base tgt args h = some r → callW Q f lo base tgt args h = some r) {f k : Nat} {fn : AFn} {xs : List AV} {r : AV}
    (h1 : Q.ext f = none) (h2 : Q.fns f = some fn) (h3 : Q.pol f = polP) (h : ((bodyAV (ctxN (Q.told x) k) fn 0 0 xs []).bind fun x => (embed x.2 0 0 depth x.1).map AV.canon) = some r) : Val Q f xs r := by
  cases hb : bodyAV (ctxN (Q.told x) k) fn 0 0 xs [] with
  | none => rw [hb] at h; cases h
  | some x' =>
    obtain ⟨v, h'⟩ := x'
    rw [hb, Option.bind_some, Option.map_eq_some_iff] at h
    obtain ⟨r0, hr0, hc⟩ := h
    refine ⟨fn, v, h', r0, h1, h2, h3, ?_, hr0, hc⟩
    unfold bodyW
    refine bodyAV_mono (c := ctxN (Q.told x) k) (d := ctxW Q) (told_le hx k) ?_ rfl hb
    intro b d hbd fr h r e
    show itW d fr h = some r
    exact itW_iff.2 ⟨k, iter_mono hbd (Nat.le_refl k) fr h r e⟩
def nameX (_ _ _ : Nat) (args : List AV) (h : Heap) : Option (AV × Heap) :=
  match args with
  | [.str s] => some (.bool (nameS s), h)
  | _ => none
def trueX (_ _ _ : Nat) (args : List AV) (h : Heap) : Option (AV × Heap) :=
  match args with
  | [] => some (.bool true, h)
  | _ => none

def isT : Option (AV × Heap) → Bool
  | some (.bool b, _) => b
  | _ => false
theorem isT_spec {r : Option (AV × Heap)} (h : isT r = true) : ∃ h', r = some (.bool true, h') := by
  unfold isT at h
  split at h
  · subst h; exact ⟨_, rfl⟩
  · cases h
theorem told_true {Q : Prg} {x : Nat → Option (Nat → Nat → Nat → List AV → Heap → Option (AV × Heap))} (hx : ∀ f e, x f = some e → ∀ lo base tgt args h r, e lo base tgt args h = some r → callW Q f lo base tgt args h = some r) {f k : Nat} {args : List AV}
    (h : isT (callN (Q.told x) k f 0 0 0 args []) = true) : ∃ h', callW Q f 0 0 0 args [] = some (.bool true, h') := by
  obtain ⟨h', e⟩ := isT_spec h
  exact ⟨h', told_le hx k _ _ _ _ _ _ _ e⟩
end Go.Abs
