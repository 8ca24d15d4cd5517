/- Concrete runs of the laws: what is known; CheckNames. -/
import Derived.Test.YtnpfhbhhbdegfaaDoorT1
import Derived.Test.YtnpfhbhhbdegfaaDoorEA
set_option maxRecDepth 100000
namespace Go.Abs.T
open Go.Proofs.YtnpfhbhhbdegfaaDoor
def toldK (f : Nat) : Option (Nat → Nat → Nat → List AV → Heap → Option (AV × Heap)) := if f == 25 then some nameX else none
theorem toldK_ok : ∀ f e, toldK f = some e → ∀ lo base tgt args h r, e lo base tgt args h = some r → callW prg f lo base tgt args h = some r := by
  intro f e he lo base tgt args h r hr
  unfold toldK at he
  split at he
  · rename_i hf
    have hf : f = 25 := by simpa using hf
    subst hf
    cases he
    unfold nameX at hr
    split at hr
    · cases hr; exact cName _ _ _ _ _
    · cases hr
  · cases he
theorem vKnown : Val prg 8 [] (.bool true) := Val.of_told (k := 60) (fn := gc8) toldK_ok rfl rfl rfl (by kernel_rfl)
theorem cKnown (lo base tgt : Nat) (h : Heap) : callW prg 8 lo base tgt [] h = some (.bool true, h) := vKnown.call rfl rfl
def toldT (f : Nat) : Option (Nat → Nat → Nat → List AV → Heap → Option (AV × Heap)) := if f == 8 then some trueX else toldK f
theorem toldT_ok : ∀ f e, toldT f = some e → ∀ lo base tgt args h r, e lo base tgt args h = some r → callW prg f lo base tgt args h = some r := by
  intro f e he lo base tgt args h r hr
  unfold toldT at he
  split at he
  · rename_i hf
    have hf : f = 8 := by simpa using hf
    subst hf
    cases he
    unfold trueX at hr
    split at hr
    · cases hr; exact cKnown _ _ _ _
    · cases hr
  · exact toldK_ok f e he lo base tgt args h r hr
end Go.Abs.T
