/- CheckMany. -/
import Derived.Test.YtnpfhbhhbdegfaaDoorN1
set_option maxRecDepth 100000
namespace Go.Abs.T
open Go.Proofs.YtnpfhbhhbdegfaaDoor
def manyRun (n k : Nat) : Bool := isT (callN (prg.told toldT) 60 5 0 0 0 [I (n : Int), I (k : Int)] [])
theorem many_run0 : (List.range 10).all (fun n => manyRun n 0) = true := by kernel_rfl
theorem many_run1 : (List.range 10).all (fun n => manyRun n 1) = true := by kernel_rfl
theorem many_run2 : (List.range 10).all (fun n => manyRun n 2) = true := by kernel_rfl
theorem many_run3 : (List.range 10).all (fun n => manyRun n 3) = true := by kernel_rfl
theorem many_run4 : (List.range 10).all (fun n => manyRun n 4) = true := by kernel_rfl
theorem many_out (n k : Int) (h : n < 0 ∨ 9 < n ∨ k < 0 ∨ 4 < k) : Val prg 5 [I n, I k] (.bool true) := by
  refine Val.of_sat (fn := gc5) rfl rfl rfl ?_
  by_cases h0 : n < 0
  · simp [gc5, h0]
  · by_cases h1 : 9 < n
    · simp [gc5, h0, h1]
    · by_cases h2 : k < 0
      · simp [gc5, h0, h1, h2]
      · have h3 : 4 < k := by omega
        simp [gc5, h0, h1, h2, h3]
theorem many_true (n k : Int) : ∃ h', callW prg 5 0 0 0 [I n, I k] [] = some (.bool true, h') := by
  by_cases h : n < 0 ∨ 9 < n ∨ k < 0 ∨ 4 < k
  · exact ⟨[], (many_out n k h).call rfl rfl⟩
  · obtain ⟨m, rfl⟩ : ∃ m : Nat, n = (m : Int) := ⟨n.toNat, by omega⟩
    have hm : m ∈ List.range 10 := by rw [List.mem_range]; omega
    have : k = 0 ∨ k = 1 ∨ k = 2 ∨ k = 3 ∨ k = 4 := by omega
    rcases this with rfl | rfl | rfl | rfl | rfl
    · exact told_true toldT_ok (List.all_eq_true.1 many_run0 m hm)
    · exact told_true toldT_ok (List.all_eq_true.1 many_run1 m hm)
    · exact told_true toldT_ok (List.all_eq_true.1 many_run2 m hm)
    · exact told_true toldT_ok (List.all_eq_true.1 many_run3 m hm)
    · exact told_true toldT_ok (List.all_eq_true.1 many_run4 m hm)
end Go.Abs.T
