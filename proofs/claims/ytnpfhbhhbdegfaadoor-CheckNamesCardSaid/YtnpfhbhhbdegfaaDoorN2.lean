/- CheckNames. -/
import Derived.Test.YtnpfhbhhbdegfaaDoorN1
set_option maxRecDepth 100000
namespace Go.Abs.T
open Go.Proofs.YtnpfhbhhbdegfaaDoor
theorem names_run0 (a b : Bool) : isT (callN (prg.told toldT) 60 3 0 0 0 [I 0, .bool a, .bool b] []) = true := by cases a <;> cases b <;> kernel_rfl
theorem names_run1 (a b : Bool) : isT (callN (prg.told toldT) 60 3 0 0 0 [I 1, .bool a, .bool b] []) = true := by cases a <;> cases b <;> kernel_rfl
theorem names_run2 (a b : Bool) : isT (callN (prg.told toldT) 60 3 0 0 0 [I 2, .bool a, .bool b] []) = true := by cases a <;> cases b <;> kernel_rfl
theorem names_run3 (a b : Bool) : isT (callN (prg.told toldT) 60 3 0 0 0 [I 3, .bool a, .bool b] []) = true := by cases a <;> cases b <;> kernel_rfl
theorem names_true (n : Int) (a b : Bool) : ∃ h', callW prg 3 0 0 0 [I n, .bool a, .bool b] [] = some (.bool true, h') := by
  by_cases h0 : n < 0
  · have : Val prg 3 [I n, .bool a, .bool b] (.bool true) := by
      refine Val.of_sat (fn := gc3) rfl rfl rfl ?_
      simp [gc3, h0]
    exact ⟨[], this.call rfl rfl⟩
  · by_cases h3 : 3 < n
    · have : Val prg 3 [I n, .bool a, .bool b] (.bool true) := by
        refine Val.of_sat (fn := gc3) rfl rfl rfl ?_
        simp [gc3, h0, h3]
      exact ⟨[], this.call rfl rfl⟩
    · have : n = 0 ∨ n = 1 ∨ n = 2 ∨ n = 3 := by omega
      rcases this with rfl | rfl | rfl | rfl
      · exact told_true toldT_ok (names_run0 a b)
      · exact told_true toldT_ok (names_run1 a b)
      · exact told_true toldT_ok (names_run2 a b)
      · exact told_true toldT_ok (names_run3 a b)
end Go.Abs.T
