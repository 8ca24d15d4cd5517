/- What the rows share: the listed tables' world. -/
import Derived.Test.YtnpfhbhhbdegfaaDoorL0
import Derived.Test.YtnpfhbhhbdegfaaDoorCards
import Derived.Test.YtnpfhbhhbdegfaaDoorTie
set_option maxRecDepth 100000
namespace Go.Proofs.YtnpfhbhhbdegfaaDoor
open Go.ChangeShapes Go.WideShapes Go.ChangeAt Go.RowKit Go.Abs

theorem own' : ownKnob Tryd.prog.godebug = none := by kernel_rfl
theorem laidOut' : laidOutB Tryd.prog = true := by kernel_rfl
def laidL : List (String × DataW Unit) := [("unicode/utf8.acceptRanges", Rows.laid_unicode_utf8_acceptRanges), ("unicode/utf8.first", Rows.laid_unicode_utf8_first)]
theorem laid_met (os : Os) (args : Array Value) : laidMetH Tryd.prog laidL ((World.laidAll Tryd.prog os laidL).forCall (fun _ _ => 0) ⟨#[], args, []⟩).memory := by
  refine laidMetH_of_parts ?_ (by kernel_rfl)
  have e : (laidL.filter fun x => x.2.handleName?.isNone) = laidL := List.filter_eq_self.2 fun x hx => by
    have : laidL.all (fun x => x.2.handleName?.isNone) = true := by kernel_rfl
    exact List.all_eq_true.1 this x hx
  rw [e]
  exact laidMet_laidAll args (by kernel_rfl) (by kernel_rfl)
theorem laid_shaped (os : Os) (args : Array Value) : ((World.laidAll Tryd.prog os laidL).forCall (fun _ _ => 0) ⟨#[], args, []⟩).Shaped Tryd.prog :=
  World.shaped_of_ZipB (by kernel_rfl) (by kernel_rfl)

end Go.Proofs.YtnpfhbhhbdegfaaDoor
