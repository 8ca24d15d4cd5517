/- The functions' code for the abstract interpreter, by program; each is what the translation makes of the loaded function. -/
import Derived.Test.YtnpfhbhhbdegfaaDoorMA
import Derived.Test.YtnpfhbhhbdegfaaDoorProg
import Derived.KernelRfl
set_option maxRecDepth 100000
namespace Go.Proofs.YtnpfhbhhbdegfaaDoor
open Go Go.Abs Go.Proofs
def gh : Nat → List (Nat × Nat × Nat) := fun _ => []
-- gosem.cut.init
def gc2 : AFn := ⟨[],
 .region [
 ⟨(some 0), .call (.val (.fn 1 [] [])) [], none⟩]⟩
theorem ok2 : Tryd.prog.funcs[2]? = some Tryd.f2 ∧ compileFn Tryd.prog gh Tryd.f2 = some gc2 := ⟨Tryd.func2, by kernel_rfl⟩
-- meddler/meddlerlaw7.CheckNames
def gl3_1 : ACode := .seq (.seq (.region [
 ⟨(some 25), .move (.tmp 10), none⟩,
 ⟨(some 26), .move (.tmp 9), none⟩,
 ⟨(some 27), .bin .lss (.tmp 25) (.tmp 26), none⟩])
 (.cond (.tmp 27)
 (.skip)
 (.exit 0)))
 (.seq (.block 1
 (.seq (.region [
 ⟨(some 30), .move (.tmp 0), none⟩])
 (.block 2
 (.seq (.region [
 ⟨(some 37), .bin .eql (.tmp 30) (.val (.int .i64 0)), none⟩,
 ⟨(some 36), .move (.tmp 37), none⟩])
 (.cond (.tmp 36)
 (.region [
 ⟨(some 38), .faddr 0 (.tmp 7), none⟩,
 ⟨(some 39), .load false 1 (.tmp 38), none⟩,
 ⟨(some 40), .build [.str [], .int .i64 0] [(0, (1, (.val (.str [120]))))], none⟩,
 ⟨(some 41), .buildSl false 32 2 1 (.agg [.str [], .int .i64 0]) [(0, (.tmp 40))], none⟩,
 ⟨(some 42), .append 32 2 24 (.tmp 39) (.tmp 41), none⟩,
 ⟨(some 43), .faddr 0 (.tmp 7), none⟩,
 ⟨none, .store 1 (.tmp 43) (.tmp 42), none⟩])
 (.seq (.region [
 ⟨(some 45), .bin .eql (.tmp 30) (.val (.int .i64 1)), none⟩,
 ⟨(some 44), .move (.tmp 45), none⟩])
 (.cond (.tmp 44)
 (.region [
 ⟨(some 46), .faddr 1 (.tmp 7), none⟩,
 ⟨(some 47), .load false 1 (.tmp 46), none⟩,
 ⟨(some 48), .build [.str [], .int .i64 0] [(0, (1, (.val (.str [120])))), (1, (1, (.val (.int .i64 2))))], none⟩,
 ⟨(some 49), .buildSl false 34 2 1 (.agg [.str [], .int .i64 0]) [(0, (.tmp 48))], none⟩,
 ⟨(some 50), .append 34 2 24 (.tmp 47) (.tmp 49), none⟩,
 ⟨(some 51), .faddr 1 (.tmp 7), none⟩,
 ⟨none, .store 1 (.tmp 51) (.tmp 50), none⟩])
 (.seq (.region [
 ⟨(some 53), .bin .eql (.tmp 30) (.val (.int .i64 2)), none⟩,
 ⟨(some 52), .move (.tmp 53), none⟩])
 (.cond (.tmp 52)
 (.region [
 ⟨(some 54), .faddr 2 (.tmp 7), none⟩,
 ⟨(some 55), .load false 1 (.tmp 54), none⟩,
 ⟨(some 56), .buildSl false 9 1 1 (.str []) [(0, (.val (.str [120])))], none⟩,
 ⟨(some 57), .append 9 1 16 (.tmp 55) (.tmp 56), none⟩,
 ⟨(some 58), .faddr 2 (.tmp 7), none⟩,
 ⟨none, .store 1 (.tmp 58) (.tmp 57), none⟩])
 (.region [
 ⟨(some 31), .faddr 1 (.tmp 8), none⟩,
 ⟨(some 32), .load false 1 (.tmp 31), none⟩,
 ⟨(some 33), .buildSl false 9 1 1 (.str []) [(0, (.val (.str [120])))], none⟩,
 ⟨(some 34), .append 9 1 16 (.tmp 32) (.tmp 33), none⟩,
 ⟨(some 35), .faddr 1 (.tmp 8), none⟩,
 ⟨none, .store 1 (.tmp 35) (.tmp 34), none⟩]))))))))))
 (.region [
 ⟨(some 28), .move (.tmp 10), none⟩,
 ⟨(some 29), .bin .add (.tmp 28) (.val (.int .i64 1)), none⟩,
 ⟨(some 10), .move (.tmp 29), none⟩]))
def gc3 : AFn := ⟨[.tmp 6],
 .seq (.region [
 ⟨(some 6), .move (.val (.bool false)), none⟩])
 (.seq (.seq (.region [
 ⟨(some 15), .move (.tmp 0), none⟩,
 ⟨(some 16), .bin .lss (.tmp 15) (.val (.int .i64 0)), none⟩,
 ⟨(some 17), .move (.tmp 16), none⟩,
 ⟨(some 18), .move (.tmp 0), (some (17, false))⟩,
 ⟨(some 19), .bin .gtr (.tmp 18) (.val (.int .i64 3)), (some (17, false))⟩,
 ⟨(some 20), .pick (.tmp 17) (.val (.bool true)) (.tmp 19), none⟩])
 (.cond (.tmp 20)
 (.seq (.region [
 ⟨(some 6), .move (.val (.bool true)), none⟩])
 (.ret))
 (.skip)))
 (.seq (.region [
 ⟨(some 21), .build [.emp, .emp, .emp, .emp] [], none⟩,
 ⟨(some 7), .alloc 27 4 [] (.agg [.emp, .emp, .emp, .emp]), none⟩,
 ⟨none, .store 4 (.tmp 7) (.tmp 21), none⟩])
 (.seq (.region [
 ⟨(some 22), .build [.str [], .emp, .emp] [(0, (1, (.val (.str [116]))))], none⟩,
 ⟨(some 8), .alloc 30 3 [] (.agg [.str [], .emp, .emp]), none⟩,
 ⟨none, .store 3 (.tmp 8) (.tmp 22), none⟩])
 (.seq (.region [
 ⟨(some 9), .move (.val (.int .i64 1)), none⟩])
 (.seq (.seq (.region [
 ⟨(some 23), .move (.tmp 1), none⟩])
 (.cond (.tmp 23)
 (.region [
 ⟨(some 9), .move (.val (.int .i64 2)), none⟩])
 (.skip)))
 (.seq (.seq (.region [
 ⟨(some 24), .move (.tmp 2), none⟩])
 (.cond (.tmp 24)
 (.region [
 ⟨(some 9), .move (.val (.int .i64 0)), none⟩])
 (.skip)))
 (.seq (.seq (.region [
 ⟨(some 10), .move (.val (.int .i64 0)), none⟩])
 (.block 0
 (.loop gl3_1)))
 (.seq (.region [
 ⟨(some 59), .build [.int .i64 0, .int .i64 0, .int .i64 0, .str [], .emp] [(0, (1, (.val (.int .i64 1)))), (1, (1, (.val (.int .i64 1))))], none⟩,
 ⟨(some 11), .alloc 37 5 [] (.agg [.int .i64 0, .int .i64 0, .int .i64 0, .str [], .emp]), none⟩,
 ⟨none, .store 5 (.tmp 11) (.tmp 59), none⟩])
 (.seq (.region [
 ⟨(some 60), .buildSl false 3 1 4 (.int .i64 0) [(0, (.val (.int .i64 1))), (1, (.val (.int .i64 2))), (2, (.val (.int .i64 4))), (3, (.val (.int .i64 1)))], none⟩,
 ⟨(some 61), .move (.tmp 0), none⟩,
 ⟨(some 62), .iaddr 1 (.tmp 60) (.tmp 61), none⟩,
 ⟨(some 63), .load false 1 (.tmp 62), none⟩,
 ⟨(some 64), .build [.int .i64 0, .str [], .int .i64 0, .int .i64 0, .int .i64 0, .str [], .emp, .int .i64 0, .int .i64 0, .int .i64 0, .str [], .emp, .int .i64 0, .int .i64 0, .emp, .emp, .emp, .emp] [(0, (1, (.tmp 63))), (1, (1, (.val (.str [120]))))], none⟩,
 ⟨(some 12), .alloc 43 18 [] (.agg [.int .i64 0, .str [], .int .i64 0, .int .i64 0, .int .i64 0, .str [], .emp, .int .i64 0, .int .i64 0, .int .i64 0, .str [], .emp, .int .i64 0, .int .i64 0, .emp, .emp, .emp, .emp]), none⟩,
 ⟨none, .store 18 (.tmp 12) (.tmp 64), none⟩])
 (.seq (.seq (.region [
 ⟨(some 65), .move (.tmp 0), none⟩,
 ⟨(some 66), .bin .neq (.tmp 65) (.val (.int .i64 2)), none⟩])
 (.cond (.tmp 66)
 (.region [
 ⟨(some 67), .load true 5 (.tmp 11), none⟩,
 ⟨(some 68), .faddr 7 (.tmp 12), none⟩,
 ⟨none, .store 5 (.tmp 68) (.tmp 67), none⟩])
 (.skip)))
 (.seq (.seq (.region [
 ⟨(some 69), .move (.tmp 0), none⟩,
 ⟨(some 70), .bin .eql (.tmp 69) (.val (.int .i64 1)), none⟩])
 (.cond (.tmp 70)
 (.region [
 ⟨(some 71), .load true 5 (.tmp 11), none⟩,
 ⟨(some 72), .faddr 2 (.tmp 12), none⟩,
 ⟨none, .store 5 (.tmp 72) (.tmp 71), none⟩])
 (.skip)))
 (.seq (.region [
 ⟨(some 73), .load true 18 (.tmp 12), none⟩,
 ⟨(some 74), .buildSl false 43 18 1 (.agg [.int .i64 0, .str [], .int .i64 0, .int .i64 0, .int .i64 0, .str [], .emp, .int .i64 0, .int .i64 0, .int .i64 0, .str [], .emp, .int .i64 0, .int .i64 0, .emp, .emp, .emp, .emp]) [(0, (.tmp 73))], none⟩,
 ⟨(some 75), .faddr 2 (.tmp 8), none⟩,
 ⟨none, .store 1 (.tmp 75) (.tmp 74), none⟩])
 (.seq (.region [
 ⟨(some 76), .load true 3 (.tmp 8), none⟩,
 ⟨(some 77), .buildSl false 30 3 1 (.agg [.str [], .emp, .emp]) [(0, (.tmp 76))], none⟩,
 ⟨(some 78), .faddr 3 (.tmp 7), none⟩,
 ⟨none, .store 1 (.tmp 78) (.tmp 77), none⟩])
 (.seq (.region [
 ⟨(some 79), .load true 4 (.tmp 7), none⟩,
 ⟨(some 80), .call (.val (.fn 7 [] [])) [(.tmp 79)], none⟩,
 ⟨(some 13), .move (.tmp 80), none⟩])
 (.seq (.region [
 ⟨(some 81), .buildSl false 44 1 3 (.int .i64 0) [(0, (.val (.int .i64 6))), (1, (.val (.int .i64 0))), (2, (.val (.int .i64 5)))], none⟩,
 ⟨(some 82), .move (.tmp 9), none⟩,
 ⟨(some 83), .iaddr 1 (.tmp 81) (.tmp 82), none⟩,
 ⟨(some 84), .load false 1 (.tmp 83), none⟩,
 ⟨(some 14), .move (.tmp 84), none⟩])
 (.seq (.region [
 ⟨(some 85), .move (.tmp 13), none⟩,
 ⟨(some 86), .move (.tmp 14), none⟩,
 ⟨(some 87), .bin .eql (.tmp 85) (.tmp 86), none⟩,
 ⟨(some 88), .move (.tmp 87), none⟩,
 ⟨(some 89), .call (.val (.fn 8 [] [])) [], (some (88, true))⟩,
 ⟨(some 90), .pick (.tmp 88) (.tmp 89) (.val (.bool false)), none⟩,
 ⟨(some 6), .move (.tmp 90), none⟩])
 (.ret)))))))))))))))))⟩
theorem ok3 : Tryd.prog.funcs[3]? = some Tryd.f3 ∧ compileFn Tryd.prog gh Tryd.f3 = some gc3 := ⟨Tryd.func3, by kernel_rfl⟩
-- meddler/meddlerlaw7.CheckKinds
def gc4 : AFn := ⟨[.tmp 4],
 .seq (.region [
 ⟨(some 4), .move (.val (.bool false)), none⟩])
 (.seq (.seq (.region [
 ⟨(some 10), .move (.tmp 1), none⟩,
 ⟨(some 11), .bin .lss (.tmp 10) (.val (.int .i64 0)), none⟩,
 ⟨(some 12), .move (.tmp 11), none⟩,
 ⟨(some 13), .move (.tmp 1), (some (12, false))⟩,
 ⟨(some 14), .bin .gtr (.tmp 13) (.val (.int .i64 2)), (some (12, false))⟩,
 ⟨(some 15), .pick (.tmp 12) (.val (.bool true)) (.tmp 14), none⟩])
 (.cond (.tmp 15)
 (.seq (.region [
 ⟨(some 4), .move (.val (.bool true)), none⟩])
 (.ret))
 (.skip)))
 (.seq (.region [
 ⟨(some 16), .build [.str [], .int .i64 0] [(0, (1, (.val (.str [103]))))], none⟩,
 ⟨(some 17), .buildSl false 32 2 1 (.agg [.str [], .int .i64 0]) [(0, (.tmp 16))], none⟩,
 ⟨(some 18), .build [.str [], .int .i64 0] [(0, (1, (.val (.str [97])))), (1, (1, (.val (.int .i64 1))))], none⟩,
 ⟨(some 19), .buildSl false 34 2 1 (.agg [.str [], .int .i64 0]) [(0, (.tmp 18))], none⟩,
 ⟨(some 20), .buildSl false 9 1 1 (.str []) [(0, (.val (.str [109])))], none⟩,
 ⟨(some 21), .build [.emp, .emp, .emp, .emp] [(0, (1, (.tmp 17))), (1, (1, (.tmp 19))), (2, (1, (.tmp 20)))], none⟩,
 ⟨(some 5), .alloc 27 4 [] (.agg [.emp, .emp, .emp, .emp]), none⟩,
 ⟨none, .store 4 (.tmp 5) (.tmp 21), none⟩])
 (.seq (.region [
 ⟨(some 22), .move (.tmp 0), none⟩,
 ⟨(some 23), .build [.int .i64 0, .int .i64 0, .int .i64 0, .str [], .emp] [(0, (1, (.val (.int .i64 2)))), (3, (1, (.tmp 22)))], none⟩,
 ⟨(some 6), .alloc 37 5 [] (.agg [.int .i64 0, .int .i64 0, .int .i64 0, .str [], .emp]), none⟩,
 ⟨none, .store 5 (.tmp 6) (.tmp 23), none⟩])
 (.seq (.region [
 ⟨(some 24), .move (.tmp 0), none⟩,
 ⟨(some 25), .bin .eql (.tmp 24) (.val (.str [103])), none⟩,
 ⟨(some 26), .move (.tmp 25), none⟩,
 ⟨(some 27), .move (.tmp 0), (some (26, false))⟩,
 ⟨(some 28), .bin .eql (.tmp 27) (.val (.str [118])), (some (26, false))⟩,
 ⟨(some 29), .pick (.tmp 26) (.val (.bool true)) (.tmp 28), none⟩,
 ⟨(some 7), .move (.tmp 29), none⟩])
 (.seq (.region [
 ⟨(some 30), .load true 5 (.tmp 6), none⟩,
 ⟨(some 31), .build [.int .i64 0, .str [], .int .i64 0, .int .i64 0, .int .i64 0, .str [], .emp, .int .i64 0, .int .i64 0, .int .i64 0, .str [], .emp, .int .i64 0, .int .i64 0, .emp, .emp, .emp, .emp] [(0, (1, (.val (.int .i64 1)))), (1, (1, (.val (.str [118])))), (7, (5, (.tmp 30)))], none⟩,
 ⟨(some 8), .alloc 43 18 [] (.agg [.int .i64 0, .str [], .int .i64 0, .int .i64 0, .int .i64 0, .str [], .emp, .int .i64 0, .int .i64 0, .int .i64 0, .str [], .emp, .int .i64 0, .int .i64 0, .emp, .emp, .emp, .emp]), none⟩,
 ⟨none, .store 18 (.tmp 8) (.tmp 31), none⟩])
 (.seq (.seq (.region [
 ⟨(some 32), .move (.tmp 1), none⟩,
 ⟨(some 33), .bin .eql (.tmp 32) (.val (.int .i64 1)), none⟩])
 (.cond (.tmp 33)
 (.seq (.region [
 ⟨(some 34), .move (.tmp 0), none⟩,
 ⟨(some 35), .build [.int .i64 0, .str [], .int .i64 0, .int .i64 0, .int .i64 0, .str [], .emp, .int .i64 0, .int .i64 0, .int .i64 0, .str [], .emp, .int .i64 0, .int .i64 0, .emp, .emp, .emp, .emp] [(0, (1, (.val (.int .i64 3)))), (1, (1, (.tmp 34)))], none⟩,
 ⟨none, .store 18 (.tmp 8) (.tmp 35), none⟩])
 (.region [
 ⟨(some 36), .move (.tmp 0), none⟩,
 ⟨(some 37), .bin .eql (.tmp 36) (.val (.str [109])), none⟩,
 ⟨(some 7), .move (.tmp 37), none⟩]))
 (.skip)))
 (.seq (.seq (.region [
 ⟨(some 38), .move (.tmp 1), none⟩,
 ⟨(some 39), .bin .eql (.tmp 38) (.val (.int .i64 2)), none⟩])
 (.cond (.tmp 39)
 (.seq (.region [
 ⟨(some 40), .move (.tmp 0), none⟩,
 ⟨(some 41), .build [.int .i64 0, .int .i64 0, .int .i64 0, .str [], .emp] [(0, (1, (.val (.int .i64 1))))], none⟩,
 ⟨(some 42), .buildSl false 37 5 1 (.agg [.int .i64 0, .int .i64 0, .int .i64 0, .str [], .emp]) [(0, (.tmp 41))], none⟩,
 ⟨(some 43), .build [.int .i64 0, .int .i64 0, .int .i64 0, .str [], .emp] [(0, (1, (.val (.int .i64 3)))), (3, (1, (.tmp 40))), (4, (1, (.tmp 42)))], none⟩,
 ⟨(some 44), .faddr 7 (.tmp 8), none⟩,
 ⟨none, .store 5 (.tmp 44) (.tmp 43), none⟩])
 (.region [
 ⟨(some 45), .move (.tmp 0), none⟩,
 ⟨(some 46), .bin .eql (.tmp 45) (.val (.str [97])), none⟩,
 ⟨(some 7), .move (.tmp 46), none⟩]))
 (.skip)))
 (.seq (.region [
 ⟨(some 47), .buildSl false 9 1 1 (.str []) [(0, (.val (.str [118])))], none⟩,
 ⟨(some 48), .load true 18 (.tmp 8), none⟩,
 ⟨(some 49), .buildSl false 43 18 1 (.agg [.int .i64 0, .str [], .int .i64 0, .int .i64 0, .int .i64 0, .str [], .emp, .int .i64 0, .int .i64 0, .int .i64 0, .str [], .emp, .int .i64 0, .int .i64 0, .emp, .emp, .emp, .emp]) [(0, (.tmp 48))], none⟩,
 ⟨(some 50), .build [.str [], .emp, .emp] [(0, (1, (.val (.str [116])))), (1, (1, (.tmp 47))), (2, (1, (.tmp 49)))], none⟩,
 ⟨(some 51), .buildSl false 30 3 1 (.agg [.str [], .emp, .emp]) [(0, (.tmp 50))], none⟩,
 ⟨(some 52), .faddr 3 (.tmp 5), none⟩,
 ⟨none, .store 1 (.tmp 52) (.tmp 51), none⟩])
 (.seq (.region [
 ⟨(some 53), .load true 4 (.tmp 5), none⟩,
 ⟨(some 54), .call (.val (.fn 7 [] [])) [(.tmp 53)], none⟩,
 ⟨(some 9), .move (.tmp 54), none⟩])
 (.seq (.seq (.region [
 ⟨(some 55), .move (.tmp 0), none⟩,
 ⟨(some 56), .lenStr (.tmp 55), none⟩,
 ⟨(some 57), .bin .gtr (.tmp 56) (.val (.int .i64 60)), none⟩])
 (.cond (.tmp 57)
 (.seq (.region [
 ⟨(some 4), .move (.val (.bool true)), none⟩])
 (.ret))
 (.skip)))
 (.seq (.seq (.region [
 ⟨(some 58), .load true 4 (.tmp 5), none⟩,
 ⟨(some 59), .call (.val (.fn 9 [] [])) [(.tmp 58)], none⟩,
 ⟨(some 60), .bin .eql (.tmp 59) (.val (.int .i64 2)), none⟩])
 (.cond (.tmp 60)
 (.seq (.region [
 ⟨(some 61), .move (.tmp 9), none⟩,
 ⟨(some 62), .bin .eql (.tmp 61) (.val (.int .i64 2)), none⟩,
 ⟨(some 63), .move (.tmp 62), none⟩,
 ⟨(some 64), .call (.val (.fn 8 [] [])) [], (some (63, true))⟩,
 ⟨(some 65), .pick (.tmp 63) (.tmp 64) (.val (.bool false)), none⟩,
 ⟨(some 4), .move (.tmp 65), none⟩])
 (.ret))
 (.skip)))
 (.seq (.region [
 ⟨(some 66), .faddr 3 (.tmp 5), none⟩,
 ⟨(some 67), .load false 1 (.tmp 66), none⟩,
 ⟨(some 68), .buildSl false 9 1 2 (.str []) [(0, (.val (.str [118]))), (1, (.val (.str [103])))], none⟩,
 ⟨(some 69), .iaddr 3 (.tmp 67) (.val (.int .i64 0)), none⟩,
 ⟨(some 70), .faddr 1 (.tmp 69), none⟩,
 ⟨none, .store 1 (.tmp 70) (.tmp 68), none⟩])
 (.seq (.region [
 ⟨(some 71), .move (.tmp 9), none⟩,
 ⟨(some 72), .bin .eql (.tmp 71) (.val (.int .i64 0)), none⟩,
 ⟨(some 73), .move (.tmp 7), none⟩,
 ⟨(some 74), .eqB false (.tmp 72) (.tmp 73), none⟩,
 ⟨(some 75), .move (.tmp 74), none⟩,
 ⟨(some 76), .move (.tmp 7), (some (75, true))⟩,
 ⟨(some 77), .move (.tmp 76), (some (75, true))⟩,
 ⟨(some 78), .move (.tmp 9), (some (77, false))⟩,
 ⟨(some 79), .bin .eql (.tmp 78) (.val (.int .i64 6)), (some (77, false))⟩,
 ⟨(some 80), .pick (.tmp 77) (.val (.bool true)) (.tmp 79), (some (75, true))⟩,
 ⟨(some 81), .pick (.tmp 75) (.tmp 80) (.val (.bool false)), none⟩,
 ⟨(some 82), .move (.tmp 81), none⟩,
 ⟨(some 83), .load true 4 (.tmp 5), (some (82, true))⟩,
 ⟨(some 84), .call (.val (.fn 7 [] [])) [(.tmp 83)], (some (82, true))⟩,
 ⟨(some 85), .bin .eql (.tmp 84) (.val (.int .i64 5)), (some (82, true))⟩,
 ⟨(some 86), .pick (.tmp 82) (.tmp 85) (.val (.bool false)), none⟩,
 ⟨(some 87), .move (.tmp 86), none⟩,
 ⟨(some 88), .call (.val (.fn 8 [] [])) [], (some (87, true))⟩,
 ⟨(some 89), .pick (.tmp 87) (.tmp 88) (.val (.bool false)), none⟩,
 ⟨(some 4), .move (.tmp 89), none⟩])
 (.ret))))))))))))))⟩
theorem ok4 : Tryd.prog.funcs[4]? = some Tryd.f4 ∧ compileFn Tryd.prog gh Tryd.f4 = some gc4 := ⟨Tryd.func4, by kernel_rfl⟩
-- meddler/meddlerlaw7.CheckMany
def gl5_1 : ACode := .seq (.seq (.region [
 ⟨(some 30), .move (.tmp 6), none⟩,
 ⟨(some 31), .move (.tmp 0), none⟩,
 ⟨(some 32), .bin .lss (.tmp 30) (.tmp 31), none⟩])
 (.cond (.tmp 32)
 (.skip)
 (.exit 0)))
 (.seq (.block 1
 (.seq (.region [
 ⟨(some 35), .move (.tmp 6), none⟩,
 ⟨(some 36), .bin .add (.val (.int .i64 97)) (.tmp 35), none⟩,
 ⟨(some 37), .conv .u8 (.tmp 36), none⟩,
 ⟨(some 38), .buildSl false 5 1 1 (.int .u8 0) [(0, (.tmp 37))], none⟩,
 ⟨(some 39), .b2s (.tmp 38), none⟩,
 ⟨(some 7), .move (.tmp 39), none⟩])
 (.seq (.region [
 ⟨(some 40), .move (.tmp 1), none⟩])
 (.block 2
 (.seq (.region [
 ⟨(some 54), .bin .eql (.tmp 40) (.val (.int .i64 0)), none⟩,
 ⟨(some 53), .move (.tmp 54), none⟩])
 (.cond (.tmp 53)
 (.region [
 ⟨(some 55), .faddr 0 (.tmp 5), none⟩,
 ⟨(some 56), .load false 1 (.tmp 55), none⟩,
 ⟨(some 57), .move (.tmp 7), none⟩,
 ⟨(some 58), .build [.str [], .int .i64 0] [(0, (1, (.tmp 57)))], none⟩,
 ⟨(some 59), .buildSl false 32 2 1 (.agg [.str [], .int .i64 0]) [(0, (.tmp 58))], none⟩,
 ⟨(some 60), .append 32 2 24 (.tmp 56) (.tmp 59), none⟩,
 ⟨(some 61), .faddr 0 (.tmp 5), none⟩,
 ⟨none, .store 1 (.tmp 61) (.tmp 60), none⟩])
 (.seq (.region [
 ⟨(some 63), .bin .eql (.tmp 40) (.val (.int .i64 1)), none⟩,
 ⟨(some 62), .move (.tmp 63), none⟩])
 (.cond (.tmp 62)
 (.region [
 ⟨(some 64), .faddr 1 (.tmp 5), none⟩,
 ⟨(some 65), .load false 1 (.tmp 64), none⟩,
 ⟨(some 66), .move (.tmp 7), none⟩,
 ⟨(some 67), .move (.tmp 6), none⟩,
 ⟨(some 68), .bin .add (.val (.int .i64 1)) (.tmp 67), none⟩,
 ⟨(some 69), .build [.str [], .int .i64 0] [(0, (1, (.tmp 66))), (1, (1, (.tmp 68)))], none⟩,
 ⟨(some 70), .buildSl false 34 2 1 (.agg [.str [], .int .i64 0]) [(0, (.tmp 69))], none⟩,
 ⟨(some 71), .append 34 2 24 (.tmp 65) (.tmp 70), none⟩,
 ⟨(some 72), .faddr 1 (.tmp 5), none⟩,
 ⟨none, .store 1 (.tmp 72) (.tmp 71), none⟩])
 (.seq (.region [
 ⟨(some 74), .bin .eql (.tmp 40) (.val (.int .i64 2)), none⟩,
 ⟨(some 73), .move (.tmp 74), none⟩])
 (.cond (.tmp 73)
 (.region [
 ⟨(some 75), .faddr 2 (.tmp 5), none⟩,
 ⟨(some 76), .load false 1 (.tmp 75), none⟩,
 ⟨(some 77), .move (.tmp 7), none⟩,
 ⟨(some 78), .buildSl false 9 1 1 (.str []) [(0, (.tmp 77))], none⟩,
 ⟨(some 79), .append 9 1 16 (.tmp 76) (.tmp 78), none⟩,
 ⟨(some 80), .faddr 2 (.tmp 5), none⟩,
 ⟨none, .store 1 (.tmp 80) (.tmp 79), none⟩])
 (.seq (.region [
 ⟨(some 82), .bin .eql (.tmp 40) (.val (.int .i64 3)), none⟩,
 ⟨(some 81), .move (.tmp 82), none⟩])
 (.cond (.tmp 81)
 (.region [
 ⟨(some 83), .faddr 3 (.tmp 5), none⟩,
 ⟨(some 84), .load false 1 (.tmp 83), none⟩,
 ⟨(some 85), .move (.tmp 7), none⟩,
 ⟨(some 86), .build [.str [], .emp, .emp] [(0, (1, (.tmp 85)))], none⟩,
 ⟨(some 87), .buildSl false 30 3 1 (.agg [.str [], .emp, .emp]) [(0, (.tmp 86))], none⟩,
 ⟨(some 88), .append 30 3 64 (.tmp 84) (.tmp 87), none⟩,
 ⟨(some 89), .faddr 3 (.tmp 5), none⟩,
 ⟨none, .store 1 (.tmp 89) (.tmp 88), none⟩])
 (.draw 1 [
 ⟨⟨(some 41), .faddr 3 (.tmp 5), none⟩, .P, 0, [], [], false, none, []⟩,
 ⟨⟨(some 42), .load false 1 (.tmp 41), none⟩, .L, 0, [0], [], false, none, [9]⟩,
 ⟨⟨(some 43), .faddr 3 (.tmp 5), none⟩, .P, 0, [], [], false, none, []⟩,
 ⟨⟨(some 44), .load false 1 (.tmp 43), none⟩, .L, 0, [], [], false, none, []⟩,
 ⟨⟨(some 45), .iaddr 3 (.tmp 44) (.val (.int .i64 0)), none⟩, .P, 0, [], [], false, none, []⟩,
 ⟨⟨(some 46), .faddr 1 (.tmp 45), none⟩, .P, 0, [], [], false, none, []⟩,
 ⟨⟨(some 47), .load false 1 (.tmp 46), none⟩, .L, 0, [], [], false, none, []⟩,
 ⟨⟨(some 48), .move (.tmp 7), none⟩, .P, 0, [], [], false, none, []⟩,
 ⟨⟨(some 49), .buildSl true 9 1 1 (.str []) [(0, (.tmp 48))], none⟩, .P, 0, [], [], false, none, []⟩,
 ⟨⟨(some 50), .append 9 1 16 (.tmp 47) (.tmp 49), none⟩, .W, 0, [], [], false, none, [1]⟩,
 ⟨⟨(some 51), .iaddr 3 (.tmp 42) (.val (.int .i64 0)), none⟩, .P, 1, [], [], false, none, []⟩,
 ⟨⟨(some 52), .faddr 1 (.tmp 51), none⟩, .P, 1, [], [], false, none, []⟩,
 ⟨⟨none, .store 1 (.tmp 52) (.tmp 50), none⟩, .W, 1, [], [], false, none, []⟩])))))))))))))
 (.region [
 ⟨(some 33), .move (.tmp 6), none⟩,
 ⟨(some 34), .bin .add (.tmp 33) (.val (.int .i64 1)), none⟩,
 ⟨(some 6), .move (.tmp 34), none⟩]))
def gc5 : AFn := ⟨[.tmp 4],
 .seq (.region [
 ⟨(some 4), .move (.val (.bool false)), none⟩])
 (.seq (.seq (.region [
 ⟨(some 10), .move (.tmp 0), none⟩,
 ⟨(some 11), .bin .lss (.tmp 10) (.val (.int .i64 0)), none⟩,
 ⟨(some 12), .move (.tmp 11), none⟩,
 ⟨(some 13), .move (.tmp 0), (some (12, false))⟩,
 ⟨(some 14), .bin .gtr (.tmp 13) (.val (.int .i64 9)), (some (12, false))⟩,
 ⟨(some 15), .pick (.tmp 12) (.val (.bool true)) (.tmp 14), none⟩,
 ⟨(some 16), .move (.tmp 15), none⟩,
 ⟨(some 17), .move (.tmp 1), (some (16, false))⟩,
 ⟨(some 18), .bin .lss (.tmp 17) (.val (.int .i64 0)), (some (16, false))⟩,
 ⟨(some 19), .pick (.tmp 16) (.val (.bool true)) (.tmp 18), none⟩,
 ⟨(some 20), .move (.tmp 19), none⟩,
 ⟨(some 21), .move (.tmp 1), (some (20, false))⟩,
 ⟨(some 22), .bin .gtr (.tmp 21) (.val (.int .i64 4)), (some (20, false))⟩,
 ⟨(some 23), .pick (.tmp 20) (.val (.bool true)) (.tmp 22), none⟩])
 (.cond (.tmp 23)
 (.seq (.region [
 ⟨(some 4), .move (.val (.bool true)), none⟩])
 (.ret))
 (.skip)))
 (.seq (.region [
 ⟨(some 24), .build [.str [], .emp, .emp] [(0, (1, (.val (.str [116]))))], none⟩,
 ⟨(some 25), .buildSl false 30 3 1 (.agg [.str [], .emp, .emp]) [(0, (.tmp 24))], none⟩,
 ⟨(some 26), .build [.emp, .emp, .emp, .emp] [(3, (1, (.tmp 25)))], none⟩,
 ⟨(some 5), .alloc 27 4 [] (.agg [.emp, .emp, .emp, .emp]), none⟩,
 ⟨none, .store 4 (.tmp 5) (.tmp 26), none⟩])
 (.seq (.seq (.region [
 ⟨(some 27), .move (.tmp 1), none⟩,
 ⟨(some 28), .bin .eql (.tmp 27) (.val (.int .i64 3)), none⟩])
 (.cond (.tmp 28)
 (.region [
 ⟨(some 29), .faddr 3 (.tmp 5), none⟩,
 ⟨none, .store 1 (.tmp 29) (.val (.emp)), none⟩])
 (.skip)))
 (.seq (.seq (.region [
 ⟨(some 6), .move (.val (.int .i64 0)), none⟩])
 (.block 0
 (.loop gl5_1)))
 (.seq (.region [
 ⟨(some 90), .load true 4 (.tmp 5), none⟩,
 ⟨(some 91), .call (.val (.fn 7 [] [])) [(.tmp 90)], none⟩,
 ⟨(some 8), .move (.tmp 91), none⟩])
 (.seq (.region [
 ⟨(some 92), .buildSl false 3 1 5 (.int .i64 0) [(0, (.val (.int .i64 6))), (1, (.val (.int .i64 3))), (2, (.val (.int .i64 6))), (3, (.val (.int .i64 4))), (4, (.val (.int .i64 6)))], none⟩,
 ⟨(some 93), .move (.tmp 1), none⟩,
 ⟨(some 94), .iaddr 1 (.tmp 92) (.tmp 93), none⟩,
 ⟨(some 95), .load false 1 (.tmp 94), none⟩,
 ⟨(some 9), .move (.tmp 95), none⟩])
 (.seq (.block 3
 (.seq (.region [
 ⟨(some 97), .move (.tmp 0), none⟩,
 ⟨(some 98), .move (.tmp 9), none⟩,
 ⟨(some 99), .bin .gtr (.tmp 97) (.tmp 98), none⟩,
 ⟨(some 96), .move (.tmp 99), none⟩])
 (.cond (.tmp 96)
 (.seq (.region [
 ⟨(some 100), .move (.tmp 8), none⟩,
 ⟨(some 101), .bin .eql (.tmp 100) (.val (.int .i64 4)), none⟩,
 ⟨(some 102), .move (.tmp 101), none⟩,
 ⟨(some 103), .call (.val (.fn 8 [] [])) [], (some (102, true))⟩,
 ⟨(some 104), .pick (.tmp 102) (.tmp 103) (.val (.bool false)), none⟩,
 ⟨(some 4), .move (.tmp 104), none⟩])
 (.ret))
 (.seq (.region [
 ⟨(some 106), .move (.tmp 1), none⟩,
 ⟨(some 107), .bin .eql (.tmp 106) (.val (.int .i64 3)), none⟩,
 ⟨(some 108), .move (.tmp 107), none⟩,
 ⟨(some 109), .move (.tmp 0), (some (108, true))⟩,
 ⟨(some 110), .bin .eql (.tmp 109) (.val (.int .i64 0)), (some (108, true))⟩,
 ⟨(some 111), .pick (.tmp 108) (.tmp 110) (.val (.bool false)), none⟩,
 ⟨(some 105), .move (.tmp 111), none⟩])
 (.cond (.tmp 105)
 (.seq (.region [
 ⟨(some 112), .move (.tmp 8), none⟩,
 ⟨(some 113), .bin .eql (.tmp 112) (.val (.int .i64 2)), none⟩,
 ⟨(some 114), .move (.tmp 113), none⟩,
 ⟨(some 115), .call (.val (.fn 8 [] [])) [], (some (114, true))⟩,
 ⟨(some 116), .pick (.tmp 114) (.tmp 115) (.val (.bool false)), none⟩,
 ⟨(some 4), .move (.tmp 116), none⟩])
 (.ret))
 (.skip))))))
 (.seq (.region [
 ⟨(some 117), .move (.tmp 8), none⟩,
 ⟨(some 118), .bin .eql (.tmp 117) (.val (.int .i64 0)), none⟩,
 ⟨(some 119), .move (.tmp 118), none⟩,
 ⟨(some 120), .call (.val (.fn 8 [] [])) [], (some (119, true))⟩,
 ⟨(some 121), .pick (.tmp 119) (.tmp 120) (.val (.bool false)), none⟩,
 ⟨(some 4), .move (.tmp 121), none⟩])
 (.ret)))))))))⟩
theorem ok5 : Tryd.prog.funcs[5]? = some Tryd.f5 ∧ compileFn Tryd.prog gh Tryd.f5 = some gc5 := ⟨Tryd.func5, by kernel_rfl⟩
-- meddler/meddlerlaw7.CheckDeep
def gl6_1 : ACode := .seq (.seq (.region [
 ⟨(some 34), .move (.tmp 8), none⟩,
 ⟨(some 35), .move (.tmp 0), none⟩,
 ⟨(some 36), .lenSl (.tmp 35), none⟩,
 ⟨(some 37), .bin .lss (.tmp 34) (.tmp 36), none⟩])
 (.cond (.tmp 37)
 (.skip)
 (.exit 0)))
 (.seq (.block 1
 (.seq (.region [
 ⟨(some 40), .move (.tmp 0), none⟩,
 ⟨(some 41), .move (.tmp 8), none⟩,
 ⟨(some 42), .iaddr 1 (.tmp 40) (.tmp 41), none⟩,
 ⟨(some 43), .load false 1 (.tmp 42), none⟩,
 ⟨(some 44), .bin .and (.tmp 43) (.val (.int .i64 3)), none⟩])
 (.block 2
 (.seq (.region [
 ⟨(some 46), .bin .eql (.tmp 44) (.val (.int .i64 0)), none⟩,
 ⟨(some 45), .move (.tmp 46), none⟩])
 (.cond (.tmp 45)
 (.region [
 ⟨(some 47), .load true 5 (.tmp 6), none⟩,
 ⟨(some 48), .load true 5 (.tmp 6), none⟩,
 ⟨(some 49), .buildSl false 37 5 2 (.agg [.int .i64 0, .int .i64 0, .int .i64 0, .str [], .emp]) [(0, (.tmp 47)), (1, (.tmp 48))], none⟩,
 ⟨(some 50), .build [.int .i64 0, .int .i64 0, .emp, .emp] [(0, (1, (.val (.int .i64 1)))), (1, (1, (.val (.int .i64 1)))), (2, (1, (.tmp 49)))], none⟩,
 ⟨(some 51), .load true 18 (.tmp 7), none⟩,
 ⟨(some 52), .buildSl false 43 18 1 (.agg [.int .i64 0, .str [], .int .i64 0, .int .i64 0, .int .i64 0, .str [], .emp, .int .i64 0, .int .i64 0, .int .i64 0, .str [], .emp, .int .i64 0, .int .i64 0, .emp, .emp, .emp, .emp]) [(0, (.tmp 51))], none⟩,
 ⟨(some 53), .build [.int .i64 0, .str [], .int .i64 0, .int .i64 0, .int .i64 0, .str [], .emp, .int .i64 0, .int .i64 0, .int .i64 0, .str [], .emp, .int .i64 0, .int .i64 0, .emp, .emp, .emp, .emp] [(0, (1, (.val (.int .i64 5)))), (12, (4, (.tmp 50))), (17, (1, (.tmp 52)))], none⟩,
 ⟨none, .store 18 (.tmp 7) (.tmp 53), none⟩])
 (.seq (.region [
 ⟨(some 55), .bin .eql (.tmp 44) (.val (.int .i64 1)), none⟩,
 ⟨(some 54), .move (.tmp 55), none⟩])
 (.cond (.tmp 54)
 (.region [
 ⟨(some 56), .load true 5 (.tmp 6), none⟩,
 ⟨(some 57), .load true 5 (.tmp 6), none⟩,
 ⟨(some 58), .buildSl false 37 5 2 (.agg [.int .i64 0, .int .i64 0, .int .i64 0, .str [], .emp]) [(0, (.tmp 56)), (1, (.tmp 57))], none⟩,
 ⟨(some 59), .build [.int .i64 0, .int .i64 0, .emp, .emp] [(0, (1, (.val (.int .i64 1)))), (1, (1, (.val (.int .i64 1)))), (2, (1, (.tmp 58)))], none⟩,
 ⟨(some 60), .build [.int .i64 0, .str [], .int .i64 0, .int .i64 0, .int .i64 0, .str [], .emp, .int .i64 0, .int .i64 0, .int .i64 0, .str [], .emp, .int .i64 0, .int .i64 0, .emp, .emp, .emp, .emp] [(0, (1, (.val (.int .i64 8))))], none⟩,
 ⟨(some 61), .load true 18 (.tmp 7), none⟩,
 ⟨(some 62), .buildSl false 43 18 2 (.agg [.int .i64 0, .str [], .int .i64 0, .int .i64 0, .int .i64 0, .str [], .emp, .int .i64 0, .int .i64 0, .int .i64 0, .str [], .emp, .int .i64 0, .int .i64 0, .emp, .emp, .emp, .emp]) [(0, (.tmp 60)), (1, (.tmp 61))], none⟩,
 ⟨(some 63), .build [.int .i64 0, .str [], .int .i64 0, .int .i64 0, .int .i64 0, .str [], .emp, .int .i64 0, .int .i64 0, .int .i64 0, .str [], .emp, .int .i64 0, .int .i64 0, .emp, .emp, .emp, .emp] [(0, (1, (.val (.int .i64 6)))), (12, (4, (.tmp 59))), (16, (1, (.tmp 62)))], none⟩,
 ⟨none, .store 18 (.tmp 7) (.tmp 63), none⟩])
 (.seq (.region [
 ⟨(some 65), .bin .eql (.tmp 44) (.val (.int .i64 2)), none⟩,
 ⟨(some 64), .move (.tmp 65), none⟩])
 (.cond (.tmp 64)
 (.region [
 ⟨(some 66), .load true 5 (.tmp 5), none⟩,
 ⟨(some 67), .buildSl false 37 5 1 (.agg [.int .i64 0, .int .i64 0, .int .i64 0, .str [], .emp]) [(0, (.tmp 66))], none⟩,
 ⟨(some 68), .build [.int .i64 0, .int .i64 0, .int .i64 0, .str [], .emp] [(0, (1, (.val (.int .i64 6)))), (4, (1, (.tmp 67)))], none⟩,
 ⟨(some 69), .faddr 7 (.tmp 7), none⟩,
 ⟨none, .store 5 (.tmp 69) (.tmp 68), none⟩])
 (.skip))))))))))
 (.region [
 ⟨(some 38), .move (.tmp 8), none⟩,
 ⟨(some 39), .bin .add (.tmp 38) (.val (.int .i64 1)), none⟩,
 ⟨(some 8), .move (.tmp 39), none⟩]))
def gc6 : AFn := ⟨[.tmp 4],
 .seq (.region [
 ⟨(some 4), .move (.val (.bool false)), none⟩])
 (.seq (.seq (.region [
 ⟨(some 11), .move (.tmp 0), none⟩,
 ⟨(some 12), .lenSl (.tmp 11), none⟩,
 ⟨(some 13), .bin .gtr (.tmp 12) (.val (.int .i64 9)), none⟩,
 ⟨(some 14), .move (.tmp 13), none⟩,
 ⟨(some 15), .move (.tmp 1), (some (14, false))⟩,
 ⟨(some 16), .lenStr (.tmp 15), (some (14, false))⟩,
 ⟨(some 17), .bin .neq (.tmp 16) (.val (.int .i64 1)), (some (14, false))⟩,
 ⟨(some 18), .pick (.tmp 14) (.val (.bool true)) (.tmp 17), none⟩,
 ⟨(some 19), .move (.tmp 18), none⟩,
 ⟨(some 20), .move (.tmp 1), (some (19, false))⟩,
 ⟨(some 21), .istr (.tmp 20) (.val (.int .i64 0)), (some (19, false))⟩,
 ⟨(some 22), .bin .lss (.tmp 21) (.val (.int .u8 97)), (some (19, false))⟩,
 ⟨(some 23), .pick (.tmp 19) (.val (.bool true)) (.tmp 22), none⟩,
 ⟨(some 24), .move (.tmp 23), none⟩,
 ⟨(some 25), .move (.tmp 1), (some (24, false))⟩,
 ⟨(some 26), .istr (.tmp 25) (.val (.int .i64 0)), (some (24, false))⟩,
 ⟨(some 27), .bin .gtr (.tmp 26) (.val (.int .u8 122)), (some (24, false))⟩,
 ⟨(some 28), .pick (.tmp 24) (.val (.bool true)) (.tmp 27), none⟩])
 (.cond (.tmp 28)
 (.seq (.region [
 ⟨(some 4), .move (.val (.bool true)), none⟩])
 (.ret))
 (.skip)))
 (.seq (.region [
 ⟨(some 29), .move (.tmp 1), none⟩,
 ⟨(some 30), .build [.int .i64 0, .int .i64 0, .int .i64 0, .str [], .emp] [(0, (1, (.val (.int .i64 2)))), (3, (1, (.tmp 29)))], none⟩,
 ⟨(some 5), .alloc 37 5 [] (.agg [.int .i64 0, .int .i64 0, .int .i64 0, .str [], .emp]), none⟩,
 ⟨none, .store 5 (.tmp 5) (.tmp 30), none⟩])
 (.seq (.region [
 ⟨(some 31), .build [.int .i64 0, .int .i64 0, .int .i64 0, .str [], .emp] [(0, (1, (.val (.int .i64 1)))), (1, (1, (.val (.int .i64 1))))], none⟩,
 ⟨(some 6), .alloc 37 5 [] (.agg [.int .i64 0, .int .i64 0, .int .i64 0, .str [], .emp]), none⟩,
 ⟨none, .store 5 (.tmp 6) (.tmp 31), none⟩])
 (.seq (.region [
 ⟨(some 32), .load true 5 (.tmp 5), none⟩,
 ⟨(some 33), .build [.int .i64 0, .str [], .int .i64 0, .int .i64 0, .int .i64 0, .str [], .emp, .int .i64 0, .int .i64 0, .int .i64 0, .str [], .emp, .int .i64 0, .int .i64 0, .emp, .emp, .emp, .emp] [(0, (1, (.val (.int .i64 1)))), (1, (1, (.val (.str [118])))), (7, (5, (.tmp 32)))], none⟩,
 ⟨(some 7), .alloc 43 18 [] (.agg [.int .i64 0, .str [], .int .i64 0, .int .i64 0, .int .i64 0, .str [], .emp, .int .i64 0, .int .i64 0, .int .i64 0, .str [], .emp, .int .i64 0, .int .i64 0, .emp, .emp, .emp, .emp]), none⟩,
 ⟨none, .store 18 (.tmp 7) (.tmp 33), none⟩])
 (.seq (.seq (.region [
 ⟨(some 8), .move (.val (.int .i64 0)), none⟩])
 (.block 0
 (.loop gl6_1)))
 (.seq (.region [
 ⟨(some 70), .buildSl false 9 1 1 (.str []) [(0, (.val (.str [118])))], none⟩,
 ⟨(some 71), .load true 18 (.tmp 7), none⟩,
 ⟨(some 72), .buildSl false 43 18 1 (.agg [.int .i64 0, .str [], .int .i64 0, .int .i64 0, .int .i64 0, .str [], .emp, .int .i64 0, .int .i64 0, .int .i64 0, .str [], .emp, .int .i64 0, .int .i64 0, .emp, .emp, .emp, .emp]) [(0, (.tmp 71))], none⟩,
 ⟨(some 73), .build [.str [], .emp, .emp] [(0, (1, (.val (.str [116])))), (1, (1, (.tmp 70))), (2, (1, (.tmp 72)))], none⟩,
 ⟨(some 74), .buildSl false 30 3 1 (.agg [.str [], .emp, .emp]) [(0, (.tmp 73))], none⟩,
 ⟨(some 75), .build [.emp, .emp, .emp, .emp] [(3, (1, (.tmp 74)))], none⟩,
 ⟨(some 9), .alloc 27 4 [] (.agg [.emp, .emp, .emp, .emp]), none⟩,
 ⟨none, .store 4 (.tmp 9) (.tmp 75), none⟩])
 (.seq (.seq (.region [
 ⟨(some 76), .load true 4 (.tmp 9), none⟩,
 ⟨(some 77), .call (.val (.fn 9 [] [])) [(.tmp 76)], none⟩,
 ⟨(some 78), .bin .eql (.tmp 77) (.val (.int .i64 2)), none⟩])
 (.cond (.tmp 78)
 (.seq (.region [
 ⟨(some 79), .load true 4 (.tmp 9), none⟩,
 ⟨(some 80), .call (.val (.fn 7 [] [])) [(.tmp 79)], none⟩,
 ⟨(some 81), .bin .eql (.tmp 80) (.val (.int .i64 2)), none⟩,
 ⟨(some 82), .move (.tmp 81), none⟩,
 ⟨(some 83), .call (.val (.fn 8 [] [])) [], (some (82, true))⟩,
 ⟨(some 84), .pick (.tmp 82) (.tmp 83) (.val (.bool false)), none⟩,
 ⟨(some 4), .move (.tmp 84), none⟩])
 (.ret))
 (.skip)))
 (.seq (.region [
 ⟨(some 85), .load true 4 (.tmp 9), none⟩,
 ⟨(some 86), .call (.val (.fn 7 [] [])) [(.tmp 85)], none⟩,
 ⟨(some 10), .move (.tmp 86), none⟩])
 (.seq (.region [
 ⟨(some 87), .move (.tmp 10), none⟩,
 ⟨(some 88), .bin .eql (.tmp 87) (.val (.int .i64 0)), none⟩,
 ⟨(some 89), .move (.tmp 1), none⟩,
 ⟨(some 90), .bin .eql (.tmp 89) (.val (.str [118])), none⟩,
 ⟨(some 91), .eqB false (.tmp 88) (.tmp 90), none⟩,
 ⟨(some 92), .move (.tmp 91), none⟩,
 ⟨(some 93), .move (.tmp 10), (some (92, true))⟩,
 ⟨(some 94), .bin .eql (.tmp 93) (.val (.int .i64 0)), (some (92, true))⟩,
 ⟨(some 95), .move (.tmp 94), (some (92, true))⟩,
 ⟨(some 96), .move (.tmp 10), (some (95, false))⟩,
 ⟨(some 97), .bin .eql (.tmp 96) (.val (.int .i64 6)), (some (95, false))⟩,
 ⟨(some 98), .pick (.tmp 95) (.val (.bool true)) (.tmp 97), (some (92, true))⟩,
 ⟨(some 99), .pick (.tmp 92) (.tmp 98) (.val (.bool false)), none⟩,
 ⟨(some 100), .move (.tmp 99), none⟩,
 ⟨(some 101), .call (.val (.fn 8 [] [])) [], (some (100, true))⟩,
 ⟨(some 102), .pick (.tmp 100) (.tmp 101) (.val (.bool false)), none⟩,
 ⟨(some 4), .move (.tmp 102), none⟩])
 (.ret))))))))))⟩
theorem ok6 : Tryd.prog.funcs[6]? = some Tryd.f6 ∧ compileFn Tryd.prog gh Tryd.f6 = some gc6 := ⟨Tryd.func6, by kernel_rfl⟩
-- meddler/check.Check
def gc7 : AFn := ⟨[.tmp 2],
 .seq (.region [
 ⟨(some 1), .box 27 4 [] (.tmp 0), none⟩,
 ⟨(some 2), .move (.val (.int .i64 0)), none⟩])
 (.seq (.block 0
 (.seq (.region [
 ⟨(some 4), .load true 4 (.tmp 1), none⟩,
 ⟨(some 5), .call (.val (.fn 10 [] [])) [(.tmp 4)], none⟩,
 ⟨(some 6), .un .not (.tmp 5), none⟩,
 ⟨(some 3), .move (.tmp 6), none⟩])
 (.cond (.tmp 3)
 (.seq (.region [
 ⟨(some 2), .move (.val (.int .i64 4)), none⟩])
 (.ret))
 (.seq (.region [
 ⟨(some 8), .load true 4 (.tmp 1), none⟩,
 ⟨(some 9), .call (.val (.fn 11 [] [])) [(.tmp 8)], none⟩,
 ⟨(some 10), .un .not (.tmp 9), none⟩,
 ⟨(some 7), .move (.tmp 10), none⟩])
 (.cond (.tmp 7)
 (.seq (.region [
 ⟨(some 2), .move (.val (.int .i64 2)), none⟩])
 (.ret))
 (.seq (.region [
 ⟨(some 12), .load true 4 (.tmp 1), none⟩,
 ⟨(some 13), .call (.val (.fn 12 [] [])) [(.tmp 12)], none⟩,
 ⟨(some 14), .un .not (.tmp 13), none⟩,
 ⟨(some 11), .move (.tmp 14), none⟩])
 (.cond (.tmp 11)
 (.seq (.region [
 ⟨(some 2), .move (.val (.int .i64 5)), none⟩])
 (.ret))
 (.seq (.region [
 ⟨(some 16), .faddr 3 (.tmp 1), none⟩,
 ⟨(some 17), .load false 1 (.tmp 16), none⟩,
 ⟨(some 18), .mkfn 14 [] [(.tmp 1)], none⟩,
 ⟨(some 19), .call (.val (.fn 13 [] [])) [(.tmp 17), (.tmp 18)], none⟩,
 ⟨(some 20), .un .not (.tmp 19), none⟩,
 ⟨(some 15), .move (.tmp 20), none⟩])
 (.cond (.tmp 15)
 (.seq (.region [
 ⟨(some 2), .move (.val (.int .i64 6)), none⟩])
 (.ret))
 (.skip))))))))))
 (.seq (.region [
 ⟨(some 2), .move (.val (.int .i64 0)), none⟩])
 (.ret)))⟩
theorem ok7 : Tryd.prog.funcs[7]? = some Tryd.f7 ∧ compileFn Tryd.prog gh Tryd.f7 = some gc7 := ⟨Tryd.func7, by kernel_rfl⟩
-- meddler/meddlerlaw7.known
def gc8 : AFn := ⟨[.tmp 0],
 .seq (.region [
 ⟨(some 0), .move (.val (.bool false)), none⟩])
 (.seq (.region [
 ⟨(some 3), .build [.int .i64 0, .str [], .int .i64 0, .int .i64 0, .int .i64 0, .str [], .emp, .int .i64 0, .int .i64 0, .int .i64 0, .str [], .emp, .int .i64 0, .int .i64 0, .emp, .emp, .emp, .emp] [(0, (1, (.val (.int .i64 3)))), (1, (1, (.val (.str [109]))))], none⟩,
 ⟨(some 4), .buildSl false 43 18 1 (.agg [.int .i64 0, .str [], .int .i64 0, .int .i64 0, .int .i64 0, .str [], .emp, .int .i64 0, .int .i64 0, .int .i64 0, .str [], .emp, .int .i64 0, .int .i64 0, .emp, .emp, .emp, .emp]) [(0, (.tmp 3))], none⟩,
 ⟨(some 5), .build [.str [], .emp, .emp] [(0, (1, (.val (.str [116])))), (2, (1, (.tmp 4)))], none⟩,
 ⟨(some 6), .buildSl false 30 3 1 (.agg [.str [], .emp, .emp]) [(0, (.tmp 5))], none⟩,
 ⟨(some 7), .build [.emp, .emp, .emp, .emp] [(3, (1, (.tmp 6)))], none⟩,
 ⟨(some 1), .alloc 27 4 [] (.agg [.emp, .emp, .emp, .emp]), none⟩,
 ⟨none, .store 4 (.tmp 1) (.tmp 7), none⟩])
 (.seq (.region [
 ⟨(some 8), .load true 4 (.tmp 1), none⟩,
 ⟨(some 9), .call (.val (.fn 7 [] [])) [(.tmp 8)], none⟩,
 ⟨(some 2), .move (.tmp 9), none⟩])
 (.seq (.region [
 ⟨(some 10), .buildSl false 9 1 1 (.str []) [(0, (.val (.str [109])))], none⟩,
 ⟨(some 11), .faddr 2 (.tmp 1), none⟩,
 ⟨none, .store 1 (.tmp 11) (.tmp 10), none⟩])
 (.seq (.region [
 ⟨(some 12), .move (.tmp 2), none⟩,
 ⟨(some 13), .bin .eql (.tmp 12) (.val (.int .i64 6)), none⟩,
 ⟨(some 14), .move (.tmp 13), none⟩,
 ⟨(some 15), .load true 4 (.tmp 1), (some (14, true))⟩,
 ⟨(some 16), .call (.val (.fn 7 [] [])) [(.tmp 15)], (some (14, true))⟩,
 ⟨(some 17), .bin .eql (.tmp 16) (.val (.int .i64 0)), (some (14, true))⟩,
 ⟨(some 18), .pick (.tmp 14) (.tmp 17) (.val (.bool false)), none⟩,
 ⟨(some 19), .move (.tmp 18), none⟩,
 ⟨(some 20), .load true 4 (.tmp 1), (some (19, true))⟩,
 ⟨(some 21), .call (.val (.fn 17 [] [])) [(.tmp 20), (.val (.str [109]))], (some (19, true))⟩,
 ⟨(some 22), .bin .eql (.tmp 21) (.val (.int .i64 0)), (some (19, true))⟩,
 ⟨(some 23), .pick (.tmp 19) (.tmp 22) (.val (.bool false)), none⟩,
 ⟨(some 24), .move (.tmp 23), none⟩,
 ⟨(some 25), .load true 4 (.tmp 1), (some (24, true))⟩,
 ⟨(some 26), .call (.val (.fn 17 [] [])) [(.tmp 25), (.val (.str [110]))], (some (24, true))⟩,
 ⟨(some 27), .bin .eql (.tmp 26) (.val (.int .i64 (-1))), (some (24, true))⟩,
 ⟨(some 28), .pick (.tmp 24) (.tmp 27) (.val (.bool false)), none⟩,
 ⟨(some 0), .move (.tmp 28), none⟩])
 (.ret)))))⟩
theorem ok8 : Tryd.prog.funcs[8]? = some Tryd.f8 ∧ compileFn Tryd.prog gh Tryd.f8 = some gc8 := ⟨Tryd.func8, by kernel_rfl⟩
-- meddler/meddlerref7.Check
def gl9_1 : ACode := .seq (.seq (.region [
 ⟨(some 28), .move (.tmp 4), none⟩,
 ⟨(some 29), .faddr 3 (.tmp 1), none⟩,
 ⟨(some 30), .load false 1 (.tmp 29), none⟩,
 ⟨(some 31), .lenSl (.tmp 30), none⟩,
 ⟨(some 32), .bin .lss (.tmp 28) (.tmp 31), none⟩])
 (.cond (.tmp 32)
 (.skip)
 (.exit 0)))
 (.seq (.block 1
 (.region [
 ⟨(some 35), .move (.tmp 3), none⟩,
 ⟨(some 36), .move (.tmp 35), none⟩,
 ⟨(some 37), .faddr 3 (.tmp 1), (some (36, false))⟩,
 ⟨(some 38), .load false 1 (.tmp 37), (some (36, false))⟩,
 ⟨(some 39), .move (.tmp 4), (some (36, false))⟩,
 ⟨(some 40), .iaddr 3 (.tmp 38) (.tmp 39), (some (36, false))⟩,
 ⟨(some 41), .faddr 1 (.tmp 40), (some (36, false))⟩,
 ⟨(some 42), .load false 1 (.tmp 41), (some (36, false))⟩,
 ⟨(some 43), .lenSl (.tmp 42), (some (36, false))⟩,
 ⟨(some 44), .bin .gtr (.tmp 43) (.val (.int .i64 6)), (some (36, false))⟩,
 ⟨(some 45), .pick (.tmp 36) (.val (.bool true)) (.tmp 44), none⟩,
 ⟨(some 3), .move (.tmp 45), none⟩]))
 (.region [
 ⟨(some 33), .move (.tmp 4), none⟩,
 ⟨(some 34), .bin .add (.tmp 33) (.val (.int .i64 1)), none⟩,
 ⟨(some 4), .move (.tmp 34), none⟩]))
def gl9_2 : ACode := .seq (.seq (.region [
 ⟨(some 56), .move (.tmp 5), none⟩,
 ⟨(some 57), .faddr 3 (.tmp 1), none⟩,
 ⟨(some 58), .load false 1 (.tmp 57), none⟩,
 ⟨(some 59), .lenSl (.tmp 58), none⟩,
 ⟨(some 60), .bin .lss (.tmp 56) (.tmp 59), none⟩])
 (.cond (.tmp 60)
 (.skip)
 (.exit 3)))
 (.seq (.block 4
 (.seq (.draw 2 [
 ⟨⟨(some 63), .load true 4 (.tmp 1), none⟩, .L, 0, [], [], false, none, []⟩,
 ⟨⟨(some 64), .faddr 3 (.tmp 1), none⟩, .P, 0, [], [], false, none, []⟩,
 ⟨⟨(some 65), .load false 1 (.tmp 64), none⟩, .L, 0, [], [], false, none, []⟩,
 ⟨⟨(some 66), .move (.tmp 5), none⟩, .P, 0, [], [], false, none, []⟩,
 ⟨⟨(some 67), .iaddr 3 (.tmp 65) (.tmp 66), none⟩, .P, 0, [], [], false, none, []⟩,
 ⟨⟨(some 68), .load true 3 (.tmp 67), none⟩, .L, 0, [], [], false, none, []⟩,
 ⟨⟨(some 69), .faddr 3 (.tmp 1), none⟩, .P, 0, [], [], false, none, []⟩,
 ⟨⟨(some 70), .load false 1 (.tmp 69), none⟩, .L, 0, [], [], false, none, []⟩,
 ⟨⟨(some 71), .move (.tmp 5), none⟩, .P, 0, [], [], false, none, []⟩,
 ⟨⟨(some 72), .iaddr 3 (.tmp 70) (.tmp 71), none⟩, .P, 0, [], [], false, none, []⟩,
 ⟨⟨(some 73), .faddr 2 (.tmp 72), none⟩, .P, 0, [], [], false, none, []⟩,
 ⟨⟨(some 74), .load false 1 (.tmp 73), none⟩, .L, 0, [], [], false, none, []⟩,
 ⟨⟨(some 75), .call (.val (.fn 20 [] [])) [(.tmp 63), (.tmp 68), (.tmp 74)], none⟩, .C, 0, [], [], false, none, []⟩,
 ⟨⟨(some 76), .un .not (.tmp 75), none⟩, .P, 2, [], [], false, none, []⟩])
 (.cond (.tmp 76)
 (.seq (.region [
 ⟨(some 2), .move (.val (.int .i64 6)), none⟩])
 (.ret))
 (.skip))))
 (.region [
 ⟨(some 61), .move (.tmp 5), none⟩,
 ⟨(some 62), .bin .add (.tmp 61) (.val (.int .i64 1)), none⟩,
 ⟨(some 5), .move (.tmp 62), none⟩]))
def gc9 : AFn := ⟨[.tmp 2],
 .seq (.region [
 ⟨(some 1), .box 27 4 [] (.tmp 0), none⟩,
 ⟨(some 2), .move (.val (.int .i64 0)), none⟩])
 (.seq (.region [
 ⟨(some 6), .faddr 0 (.tmp 1), none⟩,
 ⟨(some 7), .load false 1 (.tmp 6), none⟩,
 ⟨(some 8), .lenSl (.tmp 7), none⟩,
 ⟨(some 9), .bin .gtr (.tmp 8) (.val (.int .i64 6)), none⟩,
 ⟨(some 10), .move (.tmp 9), none⟩,
 ⟨(some 11), .faddr 1 (.tmp 1), (some (10, false))⟩,
 ⟨(some 12), .load false 1 (.tmp 11), (some (10, false))⟩,
 ⟨(some 13), .lenSl (.tmp 12), (some (10, false))⟩,
 ⟨(some 14), .bin .gtr (.tmp 13) (.val (.int .i64 3)), (some (10, false))⟩,
 ⟨(some 15), .pick (.tmp 10) (.val (.bool true)) (.tmp 14), none⟩,
 ⟨(some 16), .move (.tmp 15), none⟩,
 ⟨(some 17), .faddr 2 (.tmp 1), (some (16, false))⟩,
 ⟨(some 18), .load false 1 (.tmp 17), (some (16, false))⟩,
 ⟨(some 19), .lenSl (.tmp 18), (some (16, false))⟩,
 ⟨(some 20), .bin .gtr (.tmp 19) (.val (.int .i64 6)), (some (16, false))⟩,
 ⟨(some 21), .pick (.tmp 16) (.val (.bool true)) (.tmp 20), none⟩,
 ⟨(some 22), .move (.tmp 21), none⟩,
 ⟨(some 23), .faddr 3 (.tmp 1), (some (22, false))⟩,
 ⟨(some 24), .load false 1 (.tmp 23), (some (22, false))⟩,
 ⟨(some 25), .lenSl (.tmp 24), (some (22, false))⟩,
 ⟨(some 26), .bin .gtr (.tmp 25) (.val (.int .i64 4)), (some (22, false))⟩,
 ⟨(some 27), .pick (.tmp 22) (.val (.bool true)) (.tmp 26), none⟩,
 ⟨(some 3), .move (.tmp 27), none⟩])
 (.seq (.seq (.region [
 ⟨(some 4), .move (.val (.int .i64 0)), none⟩])
 (.block 0
 (.loop gl9_1)))
 (.seq (.block 2
 (.seq (.region [
 ⟨(some 47), .move (.tmp 3), none⟩,
 ⟨(some 46), .move (.tmp 47), none⟩])
 (.cond (.tmp 46)
 (.seq (.region [
 ⟨(some 2), .move (.val (.int .i64 4)), none⟩])
 (.ret))
 (.seq (.region [
 ⟨(some 49), .load true 4 (.tmp 1), none⟩,
 ⟨(some 50), .call (.val (.fn 18 [] [])) [(.tmp 49)], none⟩,
 ⟨(some 51), .un .not (.tmp 50), none⟩,
 ⟨(some 48), .move (.tmp 51), none⟩])
 (.cond (.tmp 48)
 (.seq (.region [
 ⟨(some 2), .move (.val (.int .i64 2)), none⟩])
 (.ret))
 (.seq (.region [
 ⟨(some 53), .load true 4 (.tmp 1), none⟩,
 ⟨(some 54), .call (.val (.fn 19 [] [])) [(.tmp 53)], none⟩,
 ⟨(some 55), .un .not (.tmp 54), none⟩,
 ⟨(some 52), .move (.tmp 55), none⟩])
 (.cond (.tmp 52)
 (.seq (.region [
 ⟨(some 2), .move (.val (.int .i64 5)), none⟩])
 (.ret))
 (.skip))))))))
 (.seq (.seq (.region [
 ⟨(some 5), .move (.val (.int .i64 0)), none⟩])
 (.block 3
 (.loop gl9_2)))
 (.seq (.region [
 ⟨(some 2), .move (.val (.int .i64 0)), none⟩])
 (.ret))))))⟩
theorem ok9 : Tryd.prog.funcs[9]? = some Tryd.f9 ∧ compileFn Tryd.prog gh Tryd.f9 = some gc9 := ⟨Tryd.func9, by kernel_rfl⟩
-- meddler/check.fits
def gc10 : AFn := ⟨[.tmp 2],
 .seq (.region [
 ⟨(some 1), .box 27 4 [] (.tmp 0), none⟩,
 ⟨(some 2), .move (.val (.bool false)), none⟩])
 (.seq (.region [
 ⟨(some 3), .faddr 0 (.tmp 1), none⟩,
 ⟨(some 4), .load false 1 (.tmp 3), none⟩,
 ⟨(some 5), .lenSl (.tmp 4), none⟩,
 ⟨(some 6), .bin .leq (.tmp 5) (.val (.int .i64 6)), none⟩,
 ⟨(some 7), .move (.tmp 6), none⟩,
 ⟨(some 8), .faddr 1 (.tmp 1), (some (7, true))⟩,
 ⟨(some 9), .load false 1 (.tmp 8), (some (7, true))⟩,
 ⟨(some 10), .lenSl (.tmp 9), (some (7, true))⟩,
 ⟨(some 11), .bin .leq (.tmp 10) (.val (.int .i64 3)), (some (7, true))⟩,
 ⟨(some 12), .pick (.tmp 7) (.tmp 11) (.val (.bool false)), none⟩,
 ⟨(some 13), .move (.tmp 12), none⟩,
 ⟨(some 14), .faddr 2 (.tmp 1), (some (13, true))⟩,
 ⟨(some 15), .load false 1 (.tmp 14), (some (13, true))⟩,
 ⟨(some 16), .lenSl (.tmp 15), (some (13, true))⟩,
 ⟨(some 17), .bin .leq (.tmp 16) (.val (.int .i64 6)), (some (13, true))⟩,
 ⟨(some 18), .pick (.tmp 13) (.tmp 17) (.val (.bool false)), none⟩,
 ⟨(some 19), .move (.tmp 18), none⟩,
 ⟨(some 20), .faddr 3 (.tmp 1), (some (19, true))⟩,
 ⟨(some 21), .load false 1 (.tmp 20), (some (19, true))⟩,
 ⟨(some 22), .lenSl (.tmp 21), (some (19, true))⟩,
 ⟨(some 23), .bin .leq (.tmp 22) (.val (.int .i64 4)), (some (19, true))⟩,
 ⟨(some 24), .pick (.tmp 19) (.tmp 23) (.val (.bool false)), none⟩,
 ⟨(some 25), .move (.tmp 24), none⟩,
 ⟨(some 26), .faddr 3 (.tmp 1), (some (25, true))⟩,
 ⟨(some 27), .load false 1 (.tmp 26), (some (25, true))⟩,
 ⟨(some 28), .call (.val (.fn 13 [] [])) [(.tmp 27), (.val (.fn 21 [] []))], (some (25, true))⟩,
 ⟨(some 29), .pick (.tmp 25) (.tmp 28) (.val (.bool false)), none⟩,
 ⟨(some 2), .move (.tmp 29), none⟩])
 (.ret))⟩
theorem ok10 : Tryd.prog.funcs[10]? = some Tryd.f10 ∧ compileFn Tryd.prog gh Tryd.f10 = some gc10 := ⟨Tryd.func10, by kernel_rfl⟩
-- meddler/check.isForm
def gc11 : AFn := ⟨[.tmp 2],
 .seq (.region [
 ⟨(some 1), .box 27 4 [] (.tmp 0), none⟩,
 ⟨(some 2), .move (.val (.bool false)), none⟩])
 (.seq (.region [
 ⟨(some 3), .faddr 3 (.tmp 1), none⟩,
 ⟨(some 4), .load false 1 (.tmp 3), none⟩,
 ⟨(some 5), .lenSl (.tmp 4), none⟩,
 ⟨(some 6), .bin .gtr (.tmp 5) (.val (.int .i64 0)), none⟩,
 ⟨(some 7), .move (.tmp 6), none⟩,
 ⟨(some 8), .faddr 2 (.tmp 1), (some (7, true))⟩,
 ⟨(some 9), .load false 1 (.tmp 8), (some (7, true))⟩,
 ⟨(some 10), .call (.val (.fn 22 [] [])) [(.tmp 9)], (some (7, true))⟩,
 ⟨(some 11), .pick (.tmp 7) (.tmp 10) (.val (.bool false)), none⟩,
 ⟨(some 12), .move (.tmp 11), none⟩,
 ⟨(some 13), .faddr 0 (.tmp 1), (some (12, true))⟩,
 ⟨(some 14), .load false 1 (.tmp 13), (some (12, true))⟩,
 ⟨(some 15), .call (.val (.fn 23 [] [])) [(.tmp 14), (.val (.fn 24 [] []))], (some (12, true))⟩,
 ⟨(some 16), .pick (.tmp 12) (.tmp 15) (.val (.bool false)), none⟩,
 ⟨(some 17), .move (.tmp 16), none⟩,
 ⟨(some 18), .faddr 1 (.tmp 1), (some (17, true))⟩,
 ⟨(some 19), .load false 1 (.tmp 18), (some (17, true))⟩,
 ⟨(some 20), .call (.val (.fn 27 [] [])) [(.tmp 19), (.val (.fn 28 [] []))], (some (17, true))⟩,
 ⟨(some 21), .pick (.tmp 17) (.tmp 20) (.val (.bool false)), none⟩,
 ⟨(some 22), .move (.tmp 21), none⟩,
 ⟨(some 23), .faddr 3 (.tmp 1), (some (22, true))⟩,
 ⟨(some 24), .load false 1 (.tmp 23), (some (22, true))⟩,
 ⟨(some 25), .call (.val (.fn 13 [] [])) [(.tmp 24), (.val (.fn 30 [] []))], (some (22, true))⟩,
 ⟨(some 26), .pick (.tmp 22) (.tmp 25) (.val (.bool false)), none⟩,
 ⟨(some 2), .move (.tmp 26), none⟩])
 (.ret))⟩
theorem ok11 : Tryd.prog.funcs[11]? = some Tryd.f11 ∧ compileFn Tryd.prog gh Tryd.f11 = some gc11 := ⟨Tryd.func11, by kernel_rfl⟩
-- meddler/check.isAlone
def gl12_1 : ACode := .seq (.region [
 ⟨(some 15), .bin .lss (.tmp 14) (.tmp 13), none⟩])
 (.seq (.cond (.tmp 15)
 (.skip)
 (.exit 0))
 (.seq (.block 1
 (.seq (.region [
 ⟨(some 16), .iaddr 2 (.tmp 12) (.tmp 14), none⟩,
 ⟨(some 17), .load true 2 (.tmp 16), none⟩,
 ⟨(some 6), .alloc 32 2 [] (.agg [.str [], .int .i64 0]), none⟩,
 ⟨none, .store 2 (.tmp 6) (.tmp 17), none⟩])
 (.region [
 ⟨(some 18), .move (.tmp 3), none⟩,
 ⟨(some 19), .faddr 0 (.tmp 6), none⟩,
 ⟨(some 20), .load false 1 (.tmp 19), none⟩,
 ⟨(some 21), .buildSl false 9 1 1 (.str []) [(0, (.tmp 20))], none⟩,
 ⟨(some 22), .append 9 1 16 (.tmp 18) (.tmp 21), none⟩,
 ⟨(some 3), .move (.tmp 22), none⟩])))
 (.region [
 ⟨(some 23), .bin .add (.tmp 14) (.val (.int .i64 1)), none⟩,
 ⟨(some 14), .move (.tmp 23), none⟩])))
def gl12_2 : ACode := .seq (.region [
 ⟨(some 28), .bin .lss (.tmp 27) (.tmp 26), none⟩])
 (.seq (.cond (.tmp 28)
 (.skip)
 (.exit 2))
 (.seq (.block 3
 (.seq (.region [
 ⟨(some 29), .iaddr 2 (.tmp 25) (.tmp 27), none⟩,
 ⟨(some 30), .load true 2 (.tmp 29), none⟩,
 ⟨(some 8), .alloc 34 2 [] (.agg [.str [], .int .i64 0]), none⟩,
 ⟨none, .store 2 (.tmp 8) (.tmp 30), none⟩])
 (.region [
 ⟨(some 31), .move (.tmp 3), none⟩,
 ⟨(some 32), .faddr 0 (.tmp 8), none⟩,
 ⟨(some 33), .load false 1 (.tmp 32), none⟩,
 ⟨(some 34), .buildSl false 9 1 1 (.str []) [(0, (.tmp 33))], none⟩,
 ⟨(some 35), .append 9 1 16 (.tmp 31) (.tmp 34), none⟩,
 ⟨(some 3), .move (.tmp 35), none⟩])))
 (.region [
 ⟨(some 36), .bin .add (.tmp 27) (.val (.int .i64 1)), none⟩,
 ⟨(some 27), .move (.tmp 36), none⟩])))
def gl12_3 : ACode := .seq (.region [
 ⟨(some 45), .bin .lss (.tmp 44) (.tmp 43), none⟩])
 (.seq (.cond (.tmp 45)
 (.skip)
 (.exit 4))
 (.seq (.block 5
 (.seq (.region [
 ⟨(some 46), .iaddr 3 (.tmp 42) (.tmp 44), none⟩,
 ⟨(some 47), .load true 3 (.tmp 46), none⟩,
 ⟨(some 10), .alloc 30 3 [] (.agg [.str [], .emp, .emp]), none⟩,
 ⟨none, .store 3 (.tmp 10) (.tmp 47), none⟩])
 (.seq (.region [
 ⟨(some 48), .move (.tmp 4), none⟩,
 ⟨(some 49), .faddr 0 (.tmp 10), none⟩,
 ⟨(some 50), .load false 1 (.tmp 49), none⟩,
 ⟨(some 51), .buildSl false 9 1 1 (.str []) [(0, (.tmp 50))], none⟩,
 ⟨(some 52), .append 9 1 16 (.tmp 48) (.tmp 51), none⟩,
 ⟨(some 4), .move (.tmp 52), none⟩])
 (.seq (.draw 5 [
 ⟨⟨(some 53), .move (.tmp 3), none⟩, .P, 0, [], [], false, none, []⟩,
 ⟨⟨(some 54), .call (.val (.fn 33 [] [])) [(.tmp 53)], none⟩, .C, 0, [], [10], false, none, []⟩,
 ⟨⟨(some 55), .faddr 1 (.tmp 10), none⟩, .P, 2, [], [], false, none, []⟩,
 ⟨⟨(some 56), .load false 1 (.tmp 55), none⟩, .L, 2, [0, 1], [], false, (some 10), []⟩,
 ⟨⟨(some 57), .append 9 1 16 (.tmp 54) (.tmp 56), none⟩, .W, 2, [], [], false, none, []⟩,
 ⟨⟨(some 58), .call (.val (.fn 32 [] [])) [(.tmp 57)], none⟩, .C, 3, [], [], false, none, []⟩])
 (.cond (.tmp 58)
 (.seq (.region [
 ⟨(some 2), .move (.val (.bool false)), none⟩])
 (.ret))
 (.skip))))))
 (.region [
 ⟨(some 59), .bin .add (.tmp 44) (.val (.int .i64 1)), none⟩,
 ⟨(some 44), .move (.tmp 59), none⟩])))
def gc12 : AFn := ⟨[.tmp 2],
 .seq (.region [
 ⟨(some 1), .box 27 4 [] (.tmp 0), none⟩,
 ⟨(some 2), .move (.val (.bool false)), none⟩])
 (.seq (.region [
 ⟨(some 3), .move (.val (.emp)), none⟩,
 ⟨(some 4), .move (.val (.emp)), none⟩])
 (.seq (.seq (.region [
 ⟨(some 11), .faddr 0 (.tmp 1), none⟩,
 ⟨(some 12), .load false 1 (.tmp 11), none⟩,
 ⟨(some 13), .lenSl (.tmp 12), none⟩,
 ⟨(some 14), .move (.val (.int .i64 0)), none⟩])
 (.block 0
 (.loop gl12_1)))
 (.seq (.seq (.region [
 ⟨(some 24), .faddr 1 (.tmp 1), none⟩,
 ⟨(some 25), .load false 1 (.tmp 24), none⟩,
 ⟨(some 26), .lenSl (.tmp 25), none⟩,
 ⟨(some 27), .move (.val (.int .i64 0)), none⟩])
 (.block 2
 (.loop gl12_2)))
 (.seq (.region [
 ⟨(some 37), .move (.tmp 3), none⟩,
 ⟨(some 38), .faddr 2 (.tmp 1), none⟩,
 ⟨(some 39), .load false 1 (.tmp 38), none⟩,
 ⟨(some 40), .append 9 1 16 (.tmp 37) (.tmp 39), none⟩,
 ⟨(some 3), .move (.tmp 40), none⟩])
 (.seq (.seq (.region [
 ⟨(some 41), .faddr 3 (.tmp 1), none⟩,
 ⟨(some 42), .load false 1 (.tmp 41), none⟩,
 ⟨(some 43), .lenSl (.tmp 42), none⟩,
 ⟨(some 44), .move (.val (.int .i64 0)), none⟩])
 (.block 4
 (.loop gl12_3)))
 (.seq (.region [
 ⟨(some 60), .move (.tmp 4), none⟩,
 ⟨(some 61), .call (.val (.fn 32 [] [])) [(.tmp 60)], none⟩,
 ⟨(some 62), .un .not (.tmp 61), none⟩,
 ⟨(some 2), .move (.tmp 62), none⟩])
 (.ret)))))))⟩
theorem ok12 : Tryd.prog.funcs[12]? = some Tryd.f12 ∧ compileFn Tryd.prog gh Tryd.f12 = some gc12 := ⟨Tryd.func12, by kernel_rfl⟩
-- meddler/check.all[meddler/api.Thread]
def gc13 : AFn := ⟨[.tmp 4],
 .seq (.region [
 ⟨(some 3), .box 60 1 [] (.tmp 1), none⟩,
 ⟨(some 4), .move (.val (.bool false)), none⟩])
 (.seq (.region [
 ⟨(some 5), .move (.tmp 0), none⟩,
 ⟨(some 6), .mkfn 35 [] [(.tmp 3)], none⟩,
 ⟨(some 7), .call (.val (.fn 34 [] [])) [(.tmp 5), (.tmp 6)], none⟩,
 ⟨(some 8), .un .not (.tmp 7), none⟩,
 ⟨(some 4), .move (.tmp 8), none⟩])
 (.ret))⟩
theorem ok13 : Tryd.prog.funcs[13]? = some Tryd.f13 ∧ compileFn Tryd.prog gh Tryd.f13 = some gc13 := ⟨Tryd.func13, by kernel_rfl⟩
-- meddler/check.Check$1
def gc14 : AFn := ⟨[.tmp 3],
 .seq (.region [
 ⟨(some 2), .box 30 3 [] (.tmp 0), none⟩,
 ⟨(some 3), .move (.val (.bool false)), none⟩])
 (.seq (.region [
 ⟨(some 4), .faddr 2 (.tmp 2), none⟩,
 ⟨(some 5), .load false 1 (.tmp 4), none⟩,
 ⟨(some 6), .load true 4 (.tmp 1), none⟩,
 ⟨(some 7), .load true 3 (.tmp 2), none⟩,
 ⟨(some 8), .build [.emp, .emp, .emp, .emp, .str [], .emp, .emp] [(0, (4, (.tmp 6))), (4, (3, (.tmp 7)))], none⟩,
 ⟨(some 9), .mkfn 16 [(.tmp 8)] [], none⟩,
 ⟨(some 10), .call (.val (.fn 15 [] [])) [(.tmp 5), (.tmp 9)], none⟩,
 ⟨(some 3), .move (.tmp 10), none⟩])
 (.ret))⟩
theorem ok14 : Tryd.prog.funcs[14]? = some Tryd.f14 ∧ compileFn Tryd.prog gh Tryd.f14 = some gc14 := ⟨Tryd.func14, by kernel_rfl⟩
-- meddler/check.all[meddler/api.Stmt]
def gc15 : AFn := ⟨[.tmp 4],
 .seq (.region [
 ⟨(some 3), .box 57 1 [] (.tmp 1), none⟩,
 ⟨(some 4), .move (.val (.bool false)), none⟩])
 (.seq (.region [
 ⟨(some 5), .move (.tmp 0), none⟩,
 ⟨(some 6), .mkfn 37 [] [(.tmp 3)], none⟩,
 ⟨(some 7), .call (.val (.fn 36 [] [])) [(.tmp 5), (.tmp 6)], none⟩,
 ⟨(some 8), .un .not (.tmp 7), none⟩,
 ⟨(some 4), .move (.tmp 8), none⟩])
 (.ret))⟩
theorem ok15 : Tryd.prog.funcs[15]? = some Tryd.f15 ∧ compileFn Tryd.prog gh Tryd.f15 = some gc15 := ⟨Tryd.func15, by kernel_rfl⟩
-- (meddler/check.scope).stmt
def gc16 : AFn := ⟨[.tmp 4],
 .seq (.region [
 ⟨(some 2), .box 59 7 [] (.tmp 0), none⟩,
 ⟨(some 3), .box 43 18 [] (.tmp 1), none⟩,
 ⟨(some 4), .move (.val (.bool false)), none⟩])
 (.seq (.seq (.region [
 ⟨(some 5), .faddr 0 (.tmp 3), none⟩,
 ⟨(some 6), .load false 1 (.tmp 5), none⟩])
 (.block 0
 (.seq (.region [
 ⟨(some 8), .bin .eql (.tmp 6) (.val (.int .i64 1)), none⟩,
 ⟨(some 7), .move (.tmp 8), none⟩])
 (.cond (.tmp 7)
 (.seq (.region [
 ⟨(some 9), .load true 7 (.tmp 2), none⟩,
 ⟨(some 10), .faddr 1 (.tmp 3), none⟩,
 ⟨(some 11), .load false 1 (.tmp 10), none⟩,
 ⟨(some 12), .call (.val (.fn 38 [] [])) [(.tmp 9), (.tmp 11)], none⟩,
 ⟨(some 13), .move (.tmp 12), none⟩,
 ⟨(some 14), .load true 7 (.tmp 2), (some (13, true))⟩,
 ⟨(some 15), .faddr 7 (.tmp 3), (some (13, true))⟩,
 ⟨(some 16), .load true 5 (.tmp 15), (some (13, true))⟩,
 ⟨(some 17), .call (.val (.fn 39 [] [])) [(.tmp 14), (.tmp 16)], (some (13, true))⟩,
 ⟨(some 18), .pick (.tmp 13) (.tmp 17) (.val (.bool false)), none⟩,
 ⟨(some 4), .move (.tmp 18), none⟩])
 (.ret))
 (.seq (.region [
 ⟨(some 20), .bin .eql (.tmp 6) (.val (.int .i64 2)), none⟩,
 ⟨(some 19), .move (.tmp 20), none⟩])
 (.cond (.tmp 19)
 (.seq (.region [
 ⟨(some 21), .faddr 0 (.tmp 2), none⟩,
 ⟨(some 22), .load true 4 (.tmp 21), none⟩,
 ⟨(some 23), .faddr 1 (.tmp 3), none⟩,
 ⟨(some 24), .load false 1 (.tmp 23), none⟩,
 ⟨(some 25), .call (.val (.fn 40 [] [])) [(.tmp 22), (.tmp 24)], none⟩,
 ⟨(some 26), .bin .geq (.tmp 25) (.val (.int .i64 0)), none⟩,
 ⟨(some 27), .move (.tmp 26), none⟩,
 ⟨(some 28), .load true 7 (.tmp 2), (some (27, true))⟩,
 ⟨(some 29), .faddr 2 (.tmp 3), (some (27, true))⟩,
 ⟨(some 30), .load true 5 (.tmp 29), (some (27, true))⟩,
 ⟨(some 31), .call (.val (.fn 39 [] [])) [(.tmp 28), (.tmp 30)], (some (27, true))⟩,
 ⟨(some 32), .pick (.tmp 27) (.tmp 31) (.val (.bool false)), none⟩,
 ⟨(some 33), .move (.tmp 32), none⟩,
 ⟨(some 34), .load true 7 (.tmp 2), (some (33, true))⟩,
 ⟨(some 35), .faddr 7 (.tmp 3), (some (33, true))⟩,
 ⟨(some 36), .load true 5 (.tmp 35), (some (33, true))⟩,
 ⟨(some 37), .call (.val (.fn 39 [] [])) [(.tmp 34), (.tmp 36)], (some (33, true))⟩,
 ⟨(some 38), .pick (.tmp 33) (.tmp 37) (.val (.bool false)), none⟩,
 ⟨(some 4), .move (.tmp 38), none⟩])
 (.ret))
 (.seq (.seq (.region [
 ⟨(some 40), .bin .eql (.tmp 6) (.val (.int .i64 3)), none⟩,
 ⟨(some 39), .move (.tmp 40), none⟩])
 (.cond (.tmp 39)
 (.skip)
 (.region [
 ⟨(some 41), .bin .eql (.tmp 6) (.val (.int .i64 4)), none⟩,
 ⟨(some 39), .move (.tmp 41), none⟩])))
 (.cond (.tmp 39)
 (.seq (.region [
 ⟨(some 42), .faddr 0 (.tmp 2), none⟩,
 ⟨(some 43), .load true 4 (.tmp 42), none⟩,
 ⟨(some 44), .faddr 1 (.tmp 3), none⟩,
 ⟨(some 45), .load false 1 (.tmp 44), none⟩,
 ⟨(some 46), .call (.val (.fn 17 [] [])) [(.tmp 43), (.tmp 45)], none⟩,
 ⟨(some 47), .bin .geq (.tmp 46) (.val (.int .i64 0)), none⟩,
 ⟨(some 4), .move (.tmp 47), none⟩])
 (.ret))
 (.seq (.region [
 ⟨(some 49), .bin .eql (.tmp 6) (.val (.int .i64 5)), none⟩,
 ⟨(some 48), .move (.tmp 49), none⟩])
 (.cond (.tmp 48)
 (.seq (.region [
 ⟨(some 50), .load true 7 (.tmp 2), none⟩,
 ⟨(some 51), .faddr 12 (.tmp 3), none⟩,
 ⟨(some 52), .load true 4 (.tmp 51), none⟩,
 ⟨(some 53), .call (.val (.fn 41 [] [])) [(.tmp 50), (.tmp 52)], none⟩,
 ⟨(some 54), .move (.tmp 53), none⟩,
 ⟨(some 55), .faddr 16 (.tmp 3), (some (54, true))⟩,
 ⟨(some 56), .load false 1 (.tmp 55), (some (54, true))⟩,
 ⟨(some 57), .load true 7 (.tmp 2), (some (54, true))⟩,
 ⟨(some 58), .mkfn 16 [(.tmp 57)] [], (some (54, true))⟩,
 ⟨(some 59), .call (.val (.fn 15 [] [])) [(.tmp 56), (.tmp 58)], (some (54, true))⟩,
 ⟨(some 60), .pick (.tmp 54) (.tmp 59) (.val (.bool false)), none⟩,
 ⟨(some 61), .move (.tmp 60), none⟩,
 ⟨(some 62), .faddr 17 (.tmp 3), (some (61, true))⟩,
 ⟨(some 63), .load false 1 (.tmp 62), (some (61, true))⟩,
 ⟨(some 64), .load true 7 (.tmp 2), (some (61, true))⟩,
 ⟨(some 65), .mkfn 16 [(.tmp 64)] [], (some (61, true))⟩,
 ⟨(some 66), .call (.val (.fn 15 [] [])) [(.tmp 63), (.tmp 65)], (some (61, true))⟩,
 ⟨(some 67), .pick (.tmp 61) (.tmp 66) (.val (.bool false)), none⟩,
 ⟨(some 4), .move (.tmp 67), none⟩])
 (.ret))
 (.seq (.region [
 ⟨(some 69), .bin .eql (.tmp 6) (.val (.int .i64 6)), none⟩,
 ⟨(some 68), .move (.tmp 69), none⟩])
 (.cond (.tmp 68)
 (.seq (.region [
 ⟨(some 70), .load true 7 (.tmp 2), none⟩,
 ⟨(some 71), .faddr 12 (.tmp 3), none⟩,
 ⟨(some 72), .load true 4 (.tmp 71), none⟩,
 ⟨(some 73), .call (.val (.fn 41 [] [])) [(.tmp 70), (.tmp 72)], none⟩,
 ⟨(some 74), .move (.tmp 73), none⟩,
 ⟨(some 75), .faddr 16 (.tmp 3), (some (74, true))⟩,
 ⟨(some 76), .load false 1 (.tmp 75), (some (74, true))⟩,
 ⟨(some 77), .load true 7 (.tmp 2), (some (74, true))⟩,
 ⟨(some 78), .mkfn 16 [(.tmp 77)] [], (some (74, true))⟩,
 ⟨(some 79), .call (.val (.fn 15 [] [])) [(.tmp 76), (.tmp 78)], (some (74, true))⟩,
 ⟨(some 80), .pick (.tmp 74) (.tmp 79) (.val (.bool false)), none⟩,
 ⟨(some 4), .move (.tmp 80), none⟩])
 (.ret))
 (.seq (.region [
 ⟨(some 82), .bin .eql (.tmp 6) (.val (.int .i64 7)), none⟩,
 ⟨(some 81), .move (.tmp 82), none⟩])
 (.cond (.tmp 81)
 (.seq (.region [
 ⟨(some 83), .load true 7 (.tmp 2), none⟩,
 ⟨(some 84), .faddr 12 (.tmp 3), none⟩,
 ⟨(some 85), .load true 4 (.tmp 84), none⟩,
 ⟨(some 86), .call (.val (.fn 41 [] [])) [(.tmp 83), (.tmp 85)], none⟩,
 ⟨(some 4), .move (.tmp 86), none⟩])
 (.ret))
 (.skip)))))))))))))))
 (.seq (.region [
 ⟨(some 4), .move (.val (.bool true)), none⟩])
 (.ret)))⟩
theorem ok16 : Tryd.prog.funcs[16]? = some Tryd.f16 ∧ compileFn Tryd.prog gh Tryd.f16 = some gc16 := ⟨Tryd.func16, by kernel_rfl⟩
-- meddler/check.Mutex
def gc17 : AFn := ⟨[.tmp 4],
 .seq (.region [
 ⟨(some 2), .box 27 4 [] (.tmp 0), none⟩,
 ⟨(some 4), .move (.val (.int .i64 0)), none⟩])
 (.seq (.region [
 ⟨(some 5), .move (.tmp 1), none⟩,
 ⟨(some 6), .faddr 2 (.tmp 2), none⟩,
 ⟨(some 7), .load false 1 (.tmp 6), none⟩,
 ⟨(some 8), .call (.val (.fn 42 [] [])) [(.tmp 5), (.tmp 7)], none⟩,
 ⟨(some 4), .move (.tmp 8), none⟩])
 (.ret))⟩
theorem ok17 : Tryd.prog.funcs[17]? = some Tryd.f17 ∧ compileFn Tryd.prog gh Tryd.f17 = some gc17 := ⟨Tryd.func17, by kernel_rfl⟩
-- meddler/meddlerref7.shape
def gl18_1 : ACode := .seq (.seq (.region [
 ⟨(some 9), .move (.tmp 3), none⟩,
 ⟨(some 10), .faddr 0 (.tmp 1), none⟩,
 ⟨(some 11), .load false 1 (.tmp 10), none⟩,
 ⟨(some 12), .lenSl (.tmp 11), none⟩,
 ⟨(some 13), .bin .lss (.tmp 9) (.tmp 12), none⟩])
 (.cond (.tmp 13)
 (.skip)
 (.exit 0)))
 (.seq (.block 1
 (.seq (.region [
 ⟨(some 16), .faddr 0 (.tmp 1), none⟩,
 ⟨(some 17), .load false 1 (.tmp 16), none⟩,
 ⟨(some 18), .move (.tmp 3), none⟩,
 ⟨(some 19), .iaddr 2 (.tmp 17) (.tmp 18), none⟩,
 ⟨(some 20), .faddr 0 (.tmp 19), none⟩,
 ⟨(some 21), .load false 1 (.tmp 20), none⟩,
 ⟨(some 22), .call (.val (.fn 43 [] [])) [(.tmp 21)], none⟩,
 ⟨(some 23), .un .not (.tmp 22), none⟩,
 ⟨(some 24), .move (.tmp 23), none⟩,
 ⟨(some 25), .faddr 0 (.tmp 1), (some (24, false))⟩,
 ⟨(some 26), .load false 1 (.tmp 25), (some (24, false))⟩,
 ⟨(some 27), .move (.tmp 3), (some (24, false))⟩,
 ⟨(some 28), .iaddr 2 (.tmp 26) (.tmp 27), (some (24, false))⟩,
 ⟨(some 29), .faddr 1 (.tmp 28), (some (24, false))⟩,
 ⟨(some 30), .load false 1 (.tmp 29), (some (24, false))⟩,
 ⟨(some 31), .call (.val (.fn 44 [] [])) [(.tmp 30)], (some (24, false))⟩,
 ⟨(some 32), .un .not (.tmp 31), (some (24, false))⟩,
 ⟨(some 33), .pick (.tmp 24) (.val (.bool true)) (.tmp 32), none⟩])
 (.cond (.tmp 33)
 (.seq (.region [
 ⟨(some 2), .move (.val (.bool false)), none⟩])
 (.ret))
 (.skip))))
 (.region [
 ⟨(some 14), .move (.tmp 3), none⟩,
 ⟨(some 15), .bin .add (.tmp 14) (.val (.int .i64 1)), none⟩,
 ⟨(some 3), .move (.tmp 15), none⟩]))
def gl18_2 : ACode := .seq (.seq (.region [
 ⟨(some 34), .move (.tmp 4), none⟩,
 ⟨(some 35), .faddr 1 (.tmp 1), none⟩,
 ⟨(some 36), .load false 1 (.tmp 35), none⟩,
 ⟨(some 37), .lenSl (.tmp 36), none⟩,
 ⟨(some 38), .bin .lss (.tmp 34) (.tmp 37), none⟩])
 (.cond (.tmp 38)
 (.skip)
 (.exit 2)))
 (.seq (.block 3
 (.seq (.region [
 ⟨(some 41), .faddr 1 (.tmp 1), none⟩,
 ⟨(some 42), .load false 1 (.tmp 41), none⟩,
 ⟨(some 43), .move (.tmp 4), none⟩,
 ⟨(some 44), .iaddr 2 (.tmp 42) (.tmp 43), none⟩,
 ⟨(some 45), .faddr 0 (.tmp 44), none⟩,
 ⟨(some 46), .load false 1 (.tmp 45), none⟩,
 ⟨(some 47), .call (.val (.fn 43 [] [])) [(.tmp 46)], none⟩,
 ⟨(some 48), .un .not (.tmp 47), none⟩,
 ⟨(some 49), .move (.tmp 48), none⟩,
 ⟨(some 50), .faddr 1 (.tmp 1), (some (49, false))⟩,
 ⟨(some 51), .load false 1 (.tmp 50), (some (49, false))⟩,
 ⟨(some 52), .move (.tmp 4), (some (49, false))⟩,
 ⟨(some 53), .iaddr 2 (.tmp 51) (.tmp 52), (some (49, false))⟩,
 ⟨(some 54), .faddr 1 (.tmp 53), (some (49, false))⟩,
 ⟨(some 55), .load false 1 (.tmp 54), (some (49, false))⟩,
 ⟨(some 56), .bin .lss (.tmp 55) (.val (.int .i64 1)), (some (49, false))⟩,
 ⟨(some 57), .pick (.tmp 49) (.val (.bool true)) (.tmp 56), none⟩,
 ⟨(some 58), .move (.tmp 57), none⟩,
 ⟨(some 59), .faddr 1 (.tmp 1), (some (58, false))⟩,
 ⟨(some 60), .load false 1 (.tmp 59), (some (58, false))⟩,
 ⟨(some 61), .move (.tmp 4), (some (58, false))⟩,
 ⟨(some 62), .iaddr 2 (.tmp 60) (.tmp 61), (some (58, false))⟩,
 ⟨(some 63), .faddr 1 (.tmp 62), (some (58, false))⟩,
 ⟨(some 64), .load false 1 (.tmp 63), (some (58, false))⟩,
 ⟨(some 65), .bin .gtr (.tmp 64) (.val (.int .i64 16)), (some (58, false))⟩,
 ⟨(some 66), .pick (.tmp 58) (.val (.bool true)) (.tmp 65), none⟩])
 (.cond (.tmp 66)
 (.seq (.region [
 ⟨(some 2), .move (.val (.bool false)), none⟩])
 (.ret))
 (.skip))))
 (.region [
 ⟨(some 39), .move (.tmp 4), none⟩,
 ⟨(some 40), .bin .add (.tmp 39) (.val (.int .i64 1)), none⟩,
 ⟨(some 4), .move (.tmp 40), none⟩]))
def gl18_3 : ACode := .seq (.seq (.region [
 ⟨(some 67), .move (.tmp 5), none⟩,
 ⟨(some 68), .faddr 2 (.tmp 1), none⟩,
 ⟨(some 69), .load false 1 (.tmp 68), none⟩,
 ⟨(some 70), .lenSl (.tmp 69), none⟩,
 ⟨(some 71), .bin .lss (.tmp 67) (.tmp 70), none⟩])
 (.cond (.tmp 71)
 (.skip)
 (.exit 4)))
 (.seq (.block 5
 (.seq (.region [
 ⟨(some 74), .faddr 2 (.tmp 1), none⟩,
 ⟨(some 75), .load false 1 (.tmp 74), none⟩,
 ⟨(some 76), .move (.tmp 5), none⟩,
 ⟨(some 77), .iaddr 1 (.tmp 75) (.tmp 76), none⟩,
 ⟨(some 78), .load false 1 (.tmp 77), none⟩,
 ⟨(some 79), .call (.val (.fn 43 [] [])) [(.tmp 78)], none⟩,
 ⟨(some 80), .un .not (.tmp 79), none⟩])
 (.cond (.tmp 80)
 (.seq (.region [
 ⟨(some 2), .move (.val (.bool false)), none⟩])
 (.ret))
 (.skip))))
 (.region [
 ⟨(some 72), .move (.tmp 5), none⟩,
 ⟨(some 73), .bin .add (.tmp 72) (.val (.int .i64 1)), none⟩,
 ⟨(some 5), .move (.tmp 73), none⟩]))
def gl18_5 : ACode := .seq (.seq (.region [
 ⟨(some 103), .move (.tmp 8), none⟩,
 ⟨(some 104), .faddr 1 (.tmp 7), none⟩,
 ⟨(some 105), .load false 1 (.tmp 104), none⟩,
 ⟨(some 106), .lenSl (.tmp 105), none⟩,
 ⟨(some 107), .bin .lss (.tmp 103) (.tmp 106), none⟩])
 (.cond (.tmp 107)
 (.skip)
 (.exit 8)))
 (.seq (.block 9
 (.seq (.region [
 ⟨(some 110), .faddr 1 (.tmp 7), none⟩,
 ⟨(some 111), .load false 1 (.tmp 110), none⟩,
 ⟨(some 112), .move (.tmp 8), none⟩,
 ⟨(some 113), .iaddr 1 (.tmp 111) (.tmp 112), none⟩,
 ⟨(some 114), .load false 1 (.tmp 113), none⟩,
 ⟨(some 115), .call (.val (.fn 43 [] [])) [(.tmp 114)], none⟩,
 ⟨(some 116), .un .not (.tmp 115), none⟩])
 (.cond (.tmp 116)
 (.seq (.region [
 ⟨(some 2), .move (.val (.bool false)), none⟩])
 (.ret))
 (.skip))))
 (.region [
 ⟨(some 108), .move (.tmp 8), none⟩,
 ⟨(some 109), .bin .add (.tmp 108) (.val (.int .i64 1)), none⟩,
 ⟨(some 8), .move (.tmp 109), none⟩]))
def gl18_4 : ACode := .seq (.seq (.region [
 ⟨(some 81), .move (.tmp 6), none⟩,
 ⟨(some 82), .faddr 3 (.tmp 1), none⟩,
 ⟨(some 83), .load false 1 (.tmp 82), none⟩,
 ⟨(some 84), .lenSl (.tmp 83), none⟩,
 ⟨(some 85), .bin .lss (.tmp 81) (.tmp 84), none⟩])
 (.cond (.tmp 85)
 (.skip)
 (.exit 6)))
 (.seq (.block 7
 (.seq (.region [
 ⟨(some 88), .faddr 3 (.tmp 1), none⟩,
 ⟨(some 89), .load false 1 (.tmp 88), none⟩,
 ⟨(some 90), .move (.tmp 6), none⟩,
 ⟨(some 91), .iaddr 3 (.tmp 89) (.tmp 90), none⟩,
 ⟨(some 92), .load true 3 (.tmp 91), none⟩,
 ⟨(some 7), .alloc 30 3 [] (.agg [.str [], .emp, .emp]), none⟩,
 ⟨none, .store 3 (.tmp 7) (.tmp 92), none⟩])
 (.seq (.seq (.region [
 ⟨(some 93), .faddr 0 (.tmp 7), none⟩,
 ⟨(some 94), .load false 1 (.tmp 93), none⟩,
 ⟨(some 95), .call (.val (.fn 43 [] [])) [(.tmp 94)], none⟩,
 ⟨(some 96), .un .not (.tmp 95), none⟩,
 ⟨(some 97), .move (.tmp 96), none⟩,
 ⟨(some 98), .faddr 2 (.tmp 7), (some (97, false))⟩,
 ⟨(some 99), .load false 1 (.tmp 98), (some (97, false))⟩,
 ⟨(some 100), .call (.val (.fn 45 [] [])) [(.tmp 99)], (some (97, false))⟩,
 ⟨(some 101), .un .not (.tmp 100), (some (97, false))⟩,
 ⟨(some 102), .pick (.tmp 97) (.val (.bool true)) (.tmp 101), none⟩])
 (.cond (.tmp 102)
 (.seq (.region [
 ⟨(some 2), .move (.val (.bool false)), none⟩])
 (.ret))
 (.skip)))
 (.seq (.region [
 ⟨(some 8), .move (.val (.int .i64 0)), none⟩])
 (.block 8
 (.loop gl18_5))))))
 (.region [
 ⟨(some 86), .move (.tmp 6), none⟩,
 ⟨(some 87), .bin .add (.tmp 86) (.val (.int .i64 1)), none⟩,
 ⟨(some 6), .move (.tmp 87), none⟩]))
def gc18 : AFn := ⟨[.tmp 2],
 .seq (.region [
 ⟨(some 1), .box 27 4 [] (.tmp 0), none⟩,
 ⟨(some 2), .move (.val (.bool false)), none⟩])
 (.seq (.seq (.region [
 ⟨(some 3), .move (.val (.int .i64 0)), none⟩])
 (.block 0
 (.loop gl18_1)))
 (.seq (.seq (.region [
 ⟨(some 4), .move (.val (.int .i64 0)), none⟩])
 (.block 2
 (.loop gl18_2)))
 (.seq (.seq (.region [
 ⟨(some 5), .move (.val (.int .i64 0)), none⟩])
 (.block 4
 (.loop gl18_3)))
 (.seq (.seq (.region [
 ⟨(some 6), .move (.val (.int .i64 0)), none⟩])
 (.block 6
 (.loop gl18_4)))
 (.seq (.region [
 ⟨(some 117), .faddr 3 (.tmp 1), none⟩,
 ⟨(some 118), .load false 1 (.tmp 117), none⟩,
 ⟨(some 119), .lenSl (.tmp 118), none⟩,
 ⟨(some 120), .bin .gtr (.tmp 119) (.val (.int .i64 0)), none⟩,
 ⟨(some 2), .move (.tmp 120), none⟩])
 (.ret))))))⟩
theorem ok18 : Tryd.prog.funcs[18]? = some Tryd.f18 ∧ compileFn Tryd.prog gh Tryd.f18 = some gc18 := ⟨Tryd.func18, by kernel_rfl⟩
-- meddler/meddlerref7.alone
def gl19_1 : ACode := .seq (.seq (.region [
 ⟨(some 8), .move (.tmp 5), none⟩,
 ⟨(some 9), .faddr 0 (.tmp 1), none⟩,
 ⟨(some 10), .load false 1 (.tmp 9), none⟩,
 ⟨(some 11), .lenSl (.tmp 10), none⟩,
 ⟨(some 12), .bin .lss (.tmp 8) (.tmp 11), none⟩])
 (.cond (.tmp 12)
 (.skip)
 (.exit 0)))
 (.seq (.block 1
 (.region [
 ⟨(some 15), .move (.tmp 3), none⟩,
 ⟨(some 16), .faddr 0 (.tmp 1), none⟩,
 ⟨(some 17), .load false 1 (.tmp 16), none⟩,
 ⟨(some 18), .move (.tmp 5), none⟩,
 ⟨(some 19), .iaddr 2 (.tmp 17) (.tmp 18), none⟩,
 ⟨(some 20), .faddr 0 (.tmp 19), none⟩,
 ⟨(some 21), .load false 1 (.tmp 20), none⟩,
 ⟨(some 22), .buildSl false 9 1 1 (.str []) [(0, (.tmp 21))], none⟩,
 ⟨(some 23), .append 9 1 16 (.tmp 15) (.tmp 22), none⟩,
 ⟨(some 3), .move (.tmp 23), none⟩]))
 (.region [
 ⟨(some 13), .move (.tmp 5), none⟩,
 ⟨(some 14), .bin .add (.tmp 13) (.val (.int .i64 1)), none⟩,
 ⟨(some 5), .move (.tmp 14), none⟩]))
def gl19_2 : ACode := .seq (.seq (.region [
 ⟨(some 24), .move (.tmp 6), none⟩,
 ⟨(some 25), .faddr 1 (.tmp 1), none⟩,
 ⟨(some 26), .load false 1 (.tmp 25), none⟩,
 ⟨(some 27), .lenSl (.tmp 26), none⟩,
 ⟨(some 28), .bin .lss (.tmp 24) (.tmp 27), none⟩])
 (.cond (.tmp 28)
 (.skip)
 (.exit 2)))
 (.seq (.block 3
 (.region [
 ⟨(some 31), .move (.tmp 3), none⟩,
 ⟨(some 32), .faddr 1 (.tmp 1), none⟩,
 ⟨(some 33), .load false 1 (.tmp 32), none⟩,
 ⟨(some 34), .move (.tmp 6), none⟩,
 ⟨(some 35), .iaddr 2 (.tmp 33) (.tmp 34), none⟩,
 ⟨(some 36), .faddr 0 (.tmp 35), none⟩,
 ⟨(some 37), .load false 1 (.tmp 36), none⟩,
 ⟨(some 38), .buildSl false 9 1 1 (.str []) [(0, (.tmp 37))], none⟩,
 ⟨(some 39), .append 9 1 16 (.tmp 31) (.tmp 38), none⟩,
 ⟨(some 3), .move (.tmp 39), none⟩]))
 (.region [
 ⟨(some 29), .move (.tmp 6), none⟩,
 ⟨(some 30), .bin .add (.tmp 29) (.val (.int .i64 1)), none⟩,
 ⟨(some 6), .move (.tmp 30), none⟩]))
def gl19_3 : ACode := .seq (.seq (.region [
 ⟨(some 44), .move (.tmp 7), none⟩,
 ⟨(some 45), .faddr 3 (.tmp 1), none⟩,
 ⟨(some 46), .load false 1 (.tmp 45), none⟩,
 ⟨(some 47), .lenSl (.tmp 46), none⟩,
 ⟨(some 48), .bin .lss (.tmp 44) (.tmp 47), none⟩])
 (.cond (.tmp 48)
 (.skip)
 (.exit 4)))
 (.seq (.block 5
 (.seq (.region [
 ⟨(some 51), .move (.tmp 4), none⟩,
 ⟨(some 52), .faddr 3 (.tmp 1), none⟩,
 ⟨(some 53), .load false 1 (.tmp 52), none⟩,
 ⟨(some 54), .move (.tmp 7), none⟩,
 ⟨(some 55), .iaddr 3 (.tmp 53) (.tmp 54), none⟩,
 ⟨(some 56), .faddr 0 (.tmp 55), none⟩,
 ⟨(some 57), .load false 1 (.tmp 56), none⟩,
 ⟨(some 58), .buildSl false 9 1 1 (.str []) [(0, (.tmp 57))], none⟩,
 ⟨(some 59), .append 9 1 16 (.tmp 51) (.tmp 58), none⟩,
 ⟨(some 4), .move (.tmp 59), none⟩])
 (.seq (.draw 4 [
 ⟨⟨(some 60), .buildSl true 9 1 0 (.str []) [], none⟩, .P, 0, [], [], false, none, []⟩,
 ⟨⟨(some 61), .move (.tmp 3), none⟩, .P, 0, [], [], false, none, []⟩,
 ⟨⟨(some 62), .append 9 1 16 (.tmp 60) (.tmp 61), none⟩, .W, 0, [], [], false, none, [4, 8]⟩,
 ⟨⟨(some 63), .faddr 3 (.tmp 1), none⟩, .P, 1, [], [], false, none, []⟩,
 ⟨⟨(some 64), .load false 1 (.tmp 63), none⟩, .L, 1, [0], [], false, none, [2]⟩,
 ⟨⟨(some 65), .move (.tmp 7), none⟩, .P, 1, [], [], false, none, []⟩,
 ⟨⟨(some 66), .iaddr 3 (.tmp 64) (.tmp 65), none⟩, .P, 1, [], [], false, none, []⟩,
 ⟨⟨(some 67), .faddr 1 (.tmp 66), none⟩, .P, 1, [], [], false, none, []⟩,
 ⟨⟨(some 68), .load false 1 (.tmp 67), none⟩, .L, 1, [0], [], false, none, [2]⟩,
 ⟨⟨(some 69), .append 9 1 16 (.tmp 62) (.tmp 68), none⟩, .W, 1, [], [], false, none, []⟩,
 ⟨⟨(some 70), .call (.val (.fn 46 [] [])) [(.tmp 69)], none⟩, .C, 2, [], [], false, none, []⟩])
 (.cond (.tmp 70)
 (.seq (.region [
 ⟨(some 2), .move (.val (.bool false)), none⟩])
 (.ret))
 (.skip)))))
 (.region [
 ⟨(some 49), .move (.tmp 7), none⟩,
 ⟨(some 50), .bin .add (.tmp 49) (.val (.int .i64 1)), none⟩,
 ⟨(some 7), .move (.tmp 50), none⟩]))
def gc19 : AFn := ⟨[.tmp 2],
 .seq (.region [
 ⟨(some 1), .box 27 4 [] (.tmp 0), none⟩,
 ⟨(some 2), .move (.val (.bool false)), none⟩])
 (.seq (.region [
 ⟨(some 3), .move (.val (.emp)), none⟩,
 ⟨(some 4), .move (.val (.emp)), none⟩])
 (.seq (.seq (.region [
 ⟨(some 5), .move (.val (.int .i64 0)), none⟩])
 (.block 0
 (.loop gl19_1)))
 (.seq (.seq (.region [
 ⟨(some 6), .move (.val (.int .i64 0)), none⟩])
 (.block 2
 (.loop gl19_2)))
 (.seq (.region [
 ⟨(some 40), .move (.tmp 3), none⟩,
 ⟨(some 41), .faddr 2 (.tmp 1), none⟩,
 ⟨(some 42), .load false 1 (.tmp 41), none⟩,
 ⟨(some 43), .append 9 1 16 (.tmp 40) (.tmp 42), none⟩,
 ⟨(some 3), .move (.tmp 43), none⟩])
 (.seq (.seq (.region [
 ⟨(some 7), .move (.val (.int .i64 0)), none⟩])
 (.block 4
 (.loop gl19_3)))
 (.seq (.region [
 ⟨(some 71), .move (.tmp 3), none⟩,
 ⟨(some 72), .call (.val (.fn 46 [] [])) [(.tmp 71)], none⟩,
 ⟨(some 73), .un .not (.tmp 72), none⟩,
 ⟨(some 74), .move (.tmp 73), none⟩,
 ⟨(some 75), .move (.tmp 4), (some (74, true))⟩,
 ⟨(some 76), .call (.val (.fn 46 [] [])) [(.tmp 75)], (some (74, true))⟩,
 ⟨(some 77), .un .not (.tmp 76), (some (74, true))⟩,
 ⟨(some 78), .pick (.tmp 74) (.tmp 77) (.val (.bool false)), none⟩,
 ⟨(some 2), .move (.tmp 78), none⟩])
 (.ret)))))))⟩
theorem ok19 : Tryd.prog.funcs[19]? = some Tryd.f19 ∧ compileFn Tryd.prog gh Tryd.f19 = some gc19 := ⟨Tryd.func19, by kernel_rfl⟩
-- meddler/meddlerref7.uses
def gl20_1 : ACode := .seq (.seq (.region [
 ⟨(some 10), .move (.tmp 7), none⟩,
 ⟨(some 11), .move (.tmp 2), none⟩,
 ⟨(some 12), .lenSl (.tmp 11), none⟩,
 ⟨(some 13), .bin .lss (.tmp 10) (.tmp 12), none⟩])
 (.cond (.tmp 13)
 (.skip)
 (.exit 0)))
 (.seq (.block 1
 (.seq (.region [
 ⟨(some 16), .move (.tmp 2), none⟩,
 ⟨(some 17), .move (.tmp 7), none⟩,
 ⟨(some 18), .iaddr 18 (.tmp 16) (.tmp 17), none⟩,
 ⟨(some 19), .load true 18 (.tmp 18), none⟩,
 ⟨(some 8), .alloc 43 18 [] (.agg [.int .i64 0, .str [], .int .i64 0, .int .i64 0, .int .i64 0, .str [], .emp, .int .i64 0, .int .i64 0, .int .i64 0, .str [], .emp, .int .i64 0, .int .i64 0, .emp, .emp, .emp, .emp]), none⟩,
 ⟨none, .store 18 (.tmp 8) (.tmp 19), none⟩])
 (.seq (.region [
 ⟨(some 9), .move (.val (.bool true)), none⟩])
 (.seq (.seq (.region [
 ⟨(some 20), .faddr 0 (.tmp 8), none⟩,
 ⟨(some 21), .load false 1 (.tmp 20), none⟩])
 (.block 2
 (.seq (.region [
 ⟨(some 23), .bin .eql (.tmp 21) (.val (.int .i64 1)), none⟩,
 ⟨(some 22), .move (.tmp 23), none⟩])
 (.cond (.tmp 22)
 (.region [
 ⟨(some 24), .load true 3 (.tmp 4), none⟩,
 ⟨(some 25), .faddr 1 (.tmp 8), none⟩,
 ⟨(some 26), .load false 1 (.tmp 25), none⟩,
 ⟨(some 27), .call (.val (.fn 47 [] [])) [(.tmp 24), (.tmp 26)], none⟩,
 ⟨(some 28), .bin .geq (.tmp 27) (.val (.int .i64 0)), none⟩,
 ⟨(some 29), .move (.tmp 28), none⟩,
 ⟨(some 30), .load true 4 (.tmp 3), (some (29, false))⟩,
 ⟨(some 31), .faddr 1 (.tmp 8), (some (29, false))⟩,
 ⟨(some 32), .load false 1 (.tmp 31), (some (29, false))⟩,
 ⟨(some 33), .call (.val (.fn 48 [] [])) [(.tmp 30), (.tmp 32)], (some (29, false))⟩,
 ⟨(some 34), .bin .geq (.tmp 33) (.val (.int .i64 0)), (some (29, false))⟩,
 ⟨(some 35), .pick (.tmp 29) (.val (.bool true)) (.tmp 34), none⟩,
 ⟨(some 36), .move (.tmp 35), none⟩,
 ⟨(some 37), .load true 4 (.tmp 3), (some (36, true))⟩,
 ⟨(some 38), .load true 3 (.tmp 4), (some (36, true))⟩,
 ⟨(some 39), .faddr 7 (.tmp 8), (some (36, true))⟩,
 ⟨(some 40), .load true 5 (.tmp 39), (some (36, true))⟩,
 ⟨(some 41), .call (.val (.fn 49 [] [])) [(.tmp 37), (.tmp 38), (.tmp 40)], (some (36, true))⟩,
 ⟨(some 42), .pick (.tmp 36) (.tmp 41) (.val (.bool false)), none⟩,
 ⟨(some 9), .move (.tmp 42), none⟩])
 (.seq (.region [
 ⟨(some 44), .bin .eql (.tmp 21) (.val (.int .i64 2)), none⟩,
 ⟨(some 43), .move (.tmp 44), none⟩])
 (.cond (.tmp 43)
 (.region [
 ⟨(some 45), .load true 4 (.tmp 3), none⟩,
 ⟨(some 46), .faddr 1 (.tmp 8), none⟩,
 ⟨(some 47), .load false 1 (.tmp 46), none⟩,
 ⟨(some 48), .call (.val (.fn 50 [] [])) [(.tmp 45), (.tmp 47)], none⟩,
 ⟨(some 49), .bin .geq (.tmp 48) (.val (.int .i64 0)), none⟩,
 ⟨(some 50), .move (.tmp 49), none⟩,
 ⟨(some 51), .load true 4 (.tmp 3), (some (50, true))⟩,
 ⟨(some 52), .load true 3 (.tmp 4), (some (50, true))⟩,
 ⟨(some 53), .faddr 2 (.tmp 8), (some (50, true))⟩,
 ⟨(some 54), .load true 5 (.tmp 53), (some (50, true))⟩,
 ⟨(some 55), .call (.val (.fn 49 [] [])) [(.tmp 51), (.tmp 52), (.tmp 54)], (some (50, true))⟩,
 ⟨(some 56), .pick (.tmp 50) (.tmp 55) (.val (.bool false)), none⟩,
 ⟨(some 57), .move (.tmp 56), none⟩,
 ⟨(some 58), .load true 4 (.tmp 3), (some (57, true))⟩,
 ⟨(some 59), .load true 3 (.tmp 4), (some (57, true))⟩,
 ⟨(some 60), .faddr 7 (.tmp 8), (some (57, true))⟩,
 ⟨(some 61), .load true 5 (.tmp 60), (some (57, true))⟩,
 ⟨(some 62), .call (.val (.fn 49 [] [])) [(.tmp 58), (.tmp 59), (.tmp 61)], (some (57, true))⟩,
 ⟨(some 63), .pick (.tmp 57) (.tmp 62) (.val (.bool false)), none⟩,
 ⟨(some 9), .move (.tmp 63), none⟩])
 (.seq (.seq (.region [
 ⟨(some 65), .bin .eql (.tmp 21) (.val (.int .i64 3)), none⟩,
 ⟨(some 64), .move (.tmp 65), none⟩])
 (.cond (.tmp 64)
 (.skip)
 (.region [
 ⟨(some 66), .bin .eql (.tmp 21) (.val (.int .i64 4)), none⟩,
 ⟨(some 64), .move (.tmp 66), none⟩])))
 (.cond (.tmp 64)
 (.region [
 ⟨(some 67), .load true 4 (.tmp 3), none⟩,
 ⟨(some 68), .faddr 1 (.tmp 8), none⟩,
 ⟨(some 69), .load false 1 (.tmp 68), none⟩,
 ⟨(some 70), .call (.val (.fn 51 [] [])) [(.tmp 67), (.tmp 69)], none⟩,
 ⟨(some 71), .bin .geq (.tmp 70) (.val (.int .i64 0)), none⟩,
 ⟨(some 9), .move (.tmp 71), none⟩])
 (.seq (.region [
 ⟨(some 73), .bin .eql (.tmp 21) (.val (.int .i64 5)), none⟩,
 ⟨(some 72), .move (.tmp 73), none⟩])
 (.cond (.tmp 72)
 (.region [
 ⟨(some 74), .load true 4 (.tmp 3), none⟩,
 ⟨(some 75), .load true 3 (.tmp 4), none⟩,
 ⟨(some 76), .faddr 12 (.tmp 8), none⟩,
 ⟨(some 77), .load true 4 (.tmp 76), none⟩,
 ⟨(some 78), .call (.val (.fn 52 [] [])) [(.tmp 74), (.tmp 75), (.tmp 77)], none⟩,
 ⟨(some 79), .move (.tmp 78), none⟩,
 ⟨(some 80), .load true 4 (.tmp 3), (some (79, true))⟩,
 ⟨(some 81), .load true 3 (.tmp 4), (some (79, true))⟩,
 ⟨(some 82), .faddr 16 (.tmp 8), (some (79, true))⟩,
 ⟨(some 83), .load false 1 (.tmp 82), (some (79, true))⟩,
 ⟨(some 84), .call (.val (.fn 20 [] [])) [(.tmp 80), (.tmp 81), (.tmp 83)], (some (79, true))⟩,
 ⟨(some 85), .pick (.tmp 79) (.tmp 84) (.val (.bool false)), none⟩,
 ⟨(some 86), .move (.tmp 85), none⟩,
 ⟨(some 87), .load true 4 (.tmp 3), (some (86, true))⟩,
 ⟨(some 88), .load true 3 (.tmp 4), (some (86, true))⟩,
 ⟨(some 89), .faddr 17 (.tmp 8), (some (86, true))⟩,
 ⟨(some 90), .load false 1 (.tmp 89), (some (86, true))⟩,
 ⟨(some 91), .call (.val (.fn 20 [] [])) [(.tmp 87), (.tmp 88), (.tmp 90)], (some (86, true))⟩,
 ⟨(some 92), .pick (.tmp 86) (.tmp 91) (.val (.bool false)), none⟩,
 ⟨(some 9), .move (.tmp 92), none⟩])
 (.seq (.region [
 ⟨(some 94), .bin .eql (.tmp 21) (.val (.int .i64 6)), none⟩,
 ⟨(some 93), .move (.tmp 94), none⟩])
 (.cond (.tmp 93)
 (.region [
 ⟨(some 95), .load true 4 (.tmp 3), none⟩,
 ⟨(some 96), .load true 3 (.tmp 4), none⟩,
 ⟨(some 97), .faddr 12 (.tmp 8), none⟩,
 ⟨(some 98), .load true 4 (.tmp 97), none⟩,
 ⟨(some 99), .call (.val (.fn 52 [] [])) [(.tmp 95), (.tmp 96), (.tmp 98)], none⟩,
 ⟨(some 100), .move (.tmp 99), none⟩,
 ⟨(some 101), .load true 4 (.tmp 3), (some (100, true))⟩,
 ⟨(some 102), .load true 3 (.tmp 4), (some (100, true))⟩,
 ⟨(some 103), .faddr 16 (.tmp 8), (some (100, true))⟩,
 ⟨(some 104), .load false 1 (.tmp 103), (some (100, true))⟩,
 ⟨(some 105), .call (.val (.fn 20 [] [])) [(.tmp 101), (.tmp 102), (.tmp 104)], (some (100, true))⟩,
 ⟨(some 106), .pick (.tmp 100) (.tmp 105) (.val (.bool false)), none⟩,
 ⟨(some 9), .move (.tmp 106), none⟩])
 (.seq (.region [
 ⟨(some 108), .bin .eql (.tmp 21) (.val (.int .i64 7)), none⟩,
 ⟨(some 107), .move (.tmp 108), none⟩])
 (.cond (.tmp 107)
 (.region [
 ⟨(some 109), .load true 4 (.tmp 3), none⟩,
 ⟨(some 110), .load true 3 (.tmp 4), none⟩,
 ⟨(some 111), .faddr 12 (.tmp 8), none⟩,
 ⟨(some 112), .load true 4 (.tmp 111), none⟩,
 ⟨(some 113), .call (.val (.fn 52 [] [])) [(.tmp 109), (.tmp 110), (.tmp 112)], none⟩,
 ⟨(some 9), .move (.tmp 113), none⟩])
 (.skip)))))))))))))))
 (.seq (.region [
 ⟨(some 114), .move (.tmp 9), none⟩,
 ⟨(some 115), .un .not (.tmp 114), none⟩])
 (.cond (.tmp 115)
 (.seq (.region [
 ⟨(some 6), .move (.val (.bool false)), none⟩])
 (.ret))
 (.skip)))))))
 (.region [
 ⟨(some 14), .move (.tmp 7), none⟩,
 ⟨(some 15), .bin .add (.tmp 14) (.val (.int .i64 1)), none⟩,
 ⟨(some 7), .move (.tmp 15), none⟩]))
def gc20 : AFn := ⟨[.tmp 6],
 .seq (.region [
 ⟨(some 3), .box 27 4 [] (.tmp 0), none⟩,
 ⟨(some 4), .box 30 3 [] (.tmp 1), none⟩,
 ⟨(some 6), .move (.val (.bool false)), none⟩])
 (.seq (.seq (.region [
 ⟨(some 7), .move (.val (.int .i64 0)), none⟩])
 (.block 0
 (.loop gl20_1)))
 (.seq (.region [
 ⟨(some 6), .move (.val (.bool true)), none⟩])
 (.ret)))⟩
theorem ok20 : Tryd.prog.funcs[20]? = some Tryd.f20 ∧ compileFn Tryd.prog gh Tryd.f20 = some gc20 := ⟨Tryd.func20, by kernel_rfl⟩
-- meddler/check.fits$1
def gc21 : AFn := ⟨[.tmp 2],
 .seq (.region [
 ⟨(some 1), .box 30 3 [] (.tmp 0), none⟩,
 ⟨(some 2), .move (.val (.bool false)), none⟩])
 (.seq (.region [
 ⟨(some 3), .faddr 1 (.tmp 1), none⟩,
 ⟨(some 4), .load false 1 (.tmp 3), none⟩,
 ⟨(some 5), .lenSl (.tmp 4), none⟩,
 ⟨(some 6), .bin .leq (.tmp 5) (.val (.int .i64 6)), none⟩,
 ⟨(some 2), .move (.tmp 6), none⟩])
 (.ret))⟩
theorem ok21 : Tryd.prog.funcs[21]? = some Tryd.f21 ∧ compileFn Tryd.prog gh Tryd.f21 = some gc21 := ⟨Tryd.func21, by kernel_rfl⟩
-- meddler/check.areNames
def gc22 : AFn := ⟨[.tmp 2],
 .seq (.region [
 ⟨(some 2), .move (.val (.bool false)), none⟩])
 (.seq (.region [
 ⟨(some 3), .move (.tmp 0), none⟩,
 ⟨(some 4), .call (.val (.fn 53 [] [])) [(.tmp 3), (.val (.fn 54 [] []))], none⟩,
 ⟨(some 5), .un .not (.tmp 4), none⟩,
 ⟨(some 2), .move (.tmp 5), none⟩])
 (.ret))⟩
theorem ok22 : Tryd.prog.funcs[22]? = some Tryd.f22 ∧ compileFn Tryd.prog gh Tryd.f22 = some gc22 := ⟨Tryd.func22, by kernel_rfl⟩
-- meddler/check.all[meddler/api.Global]
def gc23 : AFn := ⟨[.tmp 4],
 .seq (.region [
 ⟨(some 3), .box 67 1 [] (.tmp 1), none⟩,
 ⟨(some 4), .move (.val (.bool false)), none⟩])
 (.seq (.region [
 ⟨(some 5), .move (.tmp 0), none⟩,
 ⟨(some 6), .mkfn 56 [] [(.tmp 3)], none⟩,
 ⟨(some 7), .call (.val (.fn 55 [] [])) [(.tmp 5), (.tmp 6)], none⟩,
 ⟨(some 8), .un .not (.tmp 7), none⟩,
 ⟨(some 4), .move (.tmp 8), none⟩])
 (.ret))⟩
theorem ok23 : Tryd.prog.funcs[23]? = some Tryd.f23 ∧ compileFn Tryd.prog gh Tryd.f23 = some gc23 := ⟨Tryd.func23, by kernel_rfl⟩
-- meddler/check.isForm$1
def gc24 : AFn := ⟨[.tmp 2],
 .seq (.region [
 ⟨(some 1), .box 32 2 [] (.tmp 0), none⟩,
 ⟨(some 2), .move (.val (.bool false)), none⟩])
 (.seq (.region [
 ⟨(some 3), .faddr 0 (.tmp 1), none⟩,
 ⟨(some 4), .load false 1 (.tmp 3), none⟩,
 ⟨(some 5), .call (.val (.fn 25 [] [])) [(.tmp 4)], none⟩,
 ⟨(some 6), .move (.tmp 5), none⟩,
 ⟨(some 7), .faddr 1 (.tmp 1), (some (6, true))⟩,
 ⟨(some 8), .load false 1 (.tmp 7), (some (6, true))⟩,
 ⟨(some 9), .buildSl false 3 1 1 (.int .i64 0) [(0, (.tmp 8))], (some (6, true))⟩,
 ⟨(some 10), .call (.val (.fn 26 [] [])) [(.tmp 9)], (some (6, true))⟩,
 ⟨(some 11), .pick (.tmp 6) (.tmp 10) (.val (.bool false)), none⟩,
 ⟨(some 2), .move (.tmp 11), none⟩])
 (.ret))⟩
theorem ok24 : Tryd.prog.funcs[24]? = some Tryd.f24 ∧ compileFn Tryd.prog gh Tryd.f24 = some gc24 := ⟨Tryd.func24, by kernel_rfl⟩
-- meddler/check.isName
def gc25 : AFn := ⟨[.tmp 2],
 .seq (.region [
 ⟨(some 2), .move (.val (.bool false)), none⟩])
 (.seq (.region [
 ⟨(some 3), .move (.tmp 0), none⟩,
 ⟨(some 4), .bin .neq (.tmp 3) (.val (.str [])), none⟩,
 ⟨(some 5), .move (.tmp 4), none⟩,
 ⟨(some 6), .move (.tmp 0), (some (5, true))⟩,
 ⟨(some 7), .lenStr (.tmp 6), (some (5, true))⟩,
 ⟨(some 8), .bin .leq (.tmp 7) (.val (.int .i64 8)), (some (5, true))⟩,
 ⟨(some 9), .pick (.tmp 5) (.tmp 8) (.val (.bool false)), none⟩,
 ⟨(some 10), .move (.tmp 9), none⟩,
 ⟨(some 11), .move (.tmp 0), (some (10, true))⟩,
 ⟨(some 12), .istr (.tmp 11) (.val (.int .i64 0)), (some (10, true))⟩,
 ⟨(some 13), .call (.val (.fn 57 [] [])) [(.val (.str [97, 98, 99, 100, 101, 102, 103, 104, 105, 106, 107, 108, 109, 110, 111, 112, 113, 114, 115, 116, 117, 118, 119, 120, 121, 122])), (.tmp 12)], (some (10, true))⟩,
 ⟨(some 14), .bin .geq (.tmp 13) (.val (.int .i64 0)), (some (10, true))⟩,
 ⟨(some 15), .pick (.tmp 10) (.tmp 14) (.val (.bool false)), none⟩,
 ⟨(some 16), .move (.tmp 15), none⟩,
 ⟨(some 17), .move (.tmp 0), (some (16, true))⟩,
 ⟨(some 18), .call (.val (.fn 58 [] [])) [(.tmp 17), (.val (.str [97, 98, 99, 100, 101, 102, 103, 104, 105, 106, 107, 108, 109, 110, 111, 112, 113, 114, 115, 116, 117, 118, 119, 120, 121, 122, 48, 49, 50, 51, 52, 53, 54, 55, 56, 57]))], (some (16, true))⟩,
 ⟨(some 19), .bin .eql (.tmp 18) (.val (.str [])), (some (16, true))⟩,
 ⟨(some 20), .pick (.tmp 16) (.tmp 19) (.val (.bool false)), none⟩,
 ⟨(some 2), .move (.tmp 20), none⟩])
 (.ret))⟩
theorem ok25 : Tryd.prog.funcs[25]? = some Tryd.f25 ∧ compileFn Tryd.prog gh Tryd.f25 = some gc25 := ⟨Tryd.func25, by kernel_rfl⟩
-- meddler/num.Fits
def gl26_1 : ACode := .seq (.region [
 ⟨(some 8), .bin .lss (.tmp 7) (.tmp 6), none⟩])
 (.seq (.cond (.tmp 8)
 (.skip)
 (.exit 0))
 (.seq (.block 1
 (.seq (.region [
 ⟨(some 9), .iaddr 1 (.tmp 5) (.tmp 7), none⟩,
 ⟨(some 10), .load false 1 (.tmp 9), none⟩,
 ⟨(some 4), .move (.tmp 10), none⟩])
 (.seq (.region [
 ⟨(some 11), .move (.tmp 4), none⟩,
 ⟨(some 12), .bin .lss (.tmp 11) (.val (.int .i64 (-2147483648))), none⟩,
 ⟨(some 13), .move (.tmp 12), none⟩,
 ⟨(some 14), .move (.tmp 4), (some (13, false))⟩,
 ⟨(some 15), .bin .gtr (.tmp 14) (.val (.int .i64 2147483647)), (some (13, false))⟩,
 ⟨(some 16), .pick (.tmp 13) (.val (.bool true)) (.tmp 15), none⟩])
 (.cond (.tmp 16)
 (.seq (.region [
 ⟨(some 2), .move (.val (.bool false)), none⟩])
 (.ret))
 (.skip)))))
 (.region [
 ⟨(some 17), .bin .add (.tmp 7) (.val (.int .i64 1)), none⟩,
 ⟨(some 7), .move (.tmp 17), none⟩])))
def gc26 : AFn := ⟨[.tmp 2],
 .seq (.region [
 ⟨(some 2), .move (.val (.bool false)), none⟩])
 (.seq (.seq (.region [
 ⟨(some 5), .move (.tmp 0), none⟩,
 ⟨(some 6), .lenSl (.tmp 5), none⟩,
 ⟨(some 7), .move (.val (.int .i64 0)), none⟩])
 (.block 0
 (.loop gl26_1)))
 (.seq (.region [
 ⟨(some 2), .move (.val (.bool true)), none⟩])
 (.ret)))⟩
theorem ok26 : Tryd.prog.funcs[26]? = some Tryd.f26 ∧ compileFn Tryd.prog gh Tryd.f26 = some gc26 := ⟨Tryd.func26, by kernel_rfl⟩
-- meddler/check.all[meddler/api.Array]
def gc27 : AFn := ⟨[.tmp 4],
 .seq (.region [
 ⟨(some 3), .box 70 1 [] (.tmp 1), none⟩,
 ⟨(some 4), .move (.val (.bool false)), none⟩])
 (.seq (.region [
 ⟨(some 5), .move (.tmp 0), none⟩,
 ⟨(some 6), .mkfn 60 [] [(.tmp 3)], none⟩,
 ⟨(some 7), .call (.val (.fn 59 [] [])) [(.tmp 5), (.tmp 6)], none⟩,
 ⟨(some 8), .un .not (.tmp 7), none⟩,
 ⟨(some 4), .move (.tmp 8), none⟩])
 (.ret))⟩
theorem ok27 : Tryd.prog.funcs[27]? = some Tryd.f27 ∧ compileFn Tryd.prog gh Tryd.f27 = some gc27 := ⟨Tryd.func27, by kernel_rfl⟩
-- meddler/check.isForm$2
def gc28 : AFn := ⟨[.tmp 2],
 .seq (.region [
 ⟨(some 1), .box 34 2 [] (.tmp 0), none⟩,
 ⟨(some 2), .move (.val (.bool false)), none⟩])
 (.seq (.region [
 ⟨(some 3), .faddr 0 (.tmp 1), none⟩,
 ⟨(some 4), .load false 1 (.tmp 3), none⟩,
 ⟨(some 5), .call (.val (.fn 25 [] [])) [(.tmp 4)], none⟩,
 ⟨(some 6), .move (.tmp 5), none⟩,
 ⟨(some 7), .faddr 1 (.tmp 1), (some (6, true))⟩,
 ⟨(some 8), .load false 1 (.tmp 7), (some (6, true))⟩,
 ⟨(some 9), .call (.val (.fn 29 [] [])) [(.tmp 8), (.val (.int .i64 1)), (.val (.int .i64 16))], (some (6, true))⟩,
 ⟨(some 10), .pick (.tmp 6) (.tmp 9) (.val (.bool false)), none⟩,
 ⟨(some 2), .move (.tmp 10), none⟩])
 (.ret))⟩
theorem ok28 : Tryd.prog.funcs[28]? = some Tryd.f28 ∧ compileFn Tryd.prog gh Tryd.f28 = some gc28 := ⟨Tryd.func28, by kernel_rfl⟩
-- meddler/check.isIn
def gc29 : AFn := ⟨[.tmp 6],
 .seq (.region [
 ⟨(some 6), .move (.val (.bool false)), none⟩])
 (.seq (.region [
 ⟨(some 7), .move (.tmp 0), none⟩,
 ⟨(some 8), .move (.tmp 1), none⟩,
 ⟨(some 9), .bin .geq (.tmp 7) (.tmp 8), none⟩,
 ⟨(some 10), .move (.tmp 9), none⟩,
 ⟨(some 11), .move (.tmp 0), (some (10, true))⟩,
 ⟨(some 12), .move (.tmp 2), (some (10, true))⟩,
 ⟨(some 13), .bin .leq (.tmp 11) (.tmp 12), (some (10, true))⟩,
 ⟨(some 14), .pick (.tmp 10) (.tmp 13) (.val (.bool false)), none⟩,
 ⟨(some 6), .move (.tmp 14), none⟩])
 (.ret))⟩
theorem ok29 : Tryd.prog.funcs[29]? = some Tryd.f29 ∧ compileFn Tryd.prog gh Tryd.f29 = some gc29 := ⟨Tryd.func29, by kernel_rfl⟩
-- meddler/check.isForm$3
def gc30 : AFn := ⟨[.tmp 2],
 .seq (.region [
 ⟨(some 1), .box 30 3 [] (.tmp 0), none⟩,
 ⟨(some 2), .move (.val (.bool false)), none⟩])
 (.seq (.region [
 ⟨(some 3), .faddr 0 (.tmp 1), none⟩,
 ⟨(some 4), .load false 1 (.tmp 3), none⟩,
 ⟨(some 5), .call (.val (.fn 25 [] [])) [(.tmp 4)], none⟩,
 ⟨(some 6), .move (.tmp 5), none⟩,
 ⟨(some 7), .faddr 1 (.tmp 1), (some (6, true))⟩,
 ⟨(some 8), .load false 1 (.tmp 7), (some (6, true))⟩,
 ⟨(some 9), .call (.val (.fn 22 [] [])) [(.tmp 8)], (some (6, true))⟩,
 ⟨(some 10), .pick (.tmp 6) (.tmp 9) (.val (.bool false)), none⟩,
 ⟨(some 11), .move (.tmp 10), none⟩,
 ⟨(some 12), .faddr 2 (.tmp 1), (some (11, true))⟩,
 ⟨(some 13), .load false 1 (.tmp 12), (some (11, true))⟩,
 ⟨(some 14), .call (.val (.fn 15 [] [])) [(.tmp 13), (.val (.fn 31 [] []))], (some (11, true))⟩,
 ⟨(some 15), .pick (.tmp 11) (.tmp 14) (.val (.bool false)), none⟩,
 ⟨(some 2), .move (.tmp 15), none⟩])
 (.ret))⟩
theorem ok30 : Tryd.prog.funcs[30]? = some Tryd.f30 ∧ compileFn Tryd.prog gh Tryd.f30 = some gc30 := ⟨Tryd.func30, by kernel_rfl⟩
-- meddler/check.isStmt
def gc31 : AFn := ⟨[.tmp 2],
 .seq (.region [
 ⟨(some 1), .box 43 18 [] (.tmp 0), none⟩,
 ⟨(some 2), .move (.val (.bool false)), none⟩])
 (.seq (.seq (.region [
 ⟨(some 3), .faddr 0 (.tmp 1), none⟩,
 ⟨(some 4), .load false 1 (.tmp 3), none⟩])
 (.block 0
 (.seq (.region [
 ⟨(some 6), .bin .eql (.tmp 4) (.val (.int .i64 1)), none⟩,
 ⟨(some 5), .move (.tmp 6), none⟩])
 (.cond (.tmp 5)
 (.seq (.region [
 ⟨(some 7), .faddr 1 (.tmp 1), none⟩,
 ⟨(some 8), .load false 1 (.tmp 7), none⟩,
 ⟨(some 9), .call (.val (.fn 25 [] [])) [(.tmp 8)], none⟩,
 ⟨(some 10), .move (.tmp 9), none⟩,
 ⟨(some 11), .faddr 7 (.tmp 1), (some (10, true))⟩,
 ⟨(some 12), .load true 5 (.tmp 11), (some (10, true))⟩,
 ⟨(some 13), .call (.val (.fn 61 [] [])) [(.tmp 12)], (some (10, true))⟩,
 ⟨(some 14), .pick (.tmp 10) (.tmp 13) (.val (.bool false)), none⟩,
 ⟨(some 2), .move (.tmp 14), none⟩])
 (.ret))
 (.seq (.region [
 ⟨(some 16), .bin .eql (.tmp 4) (.val (.int .i64 2)), none⟩,
 ⟨(some 15), .move (.tmp 16), none⟩])
 (.cond (.tmp 15)
 (.seq (.region [
 ⟨(some 17), .faddr 1 (.tmp 1), none⟩,
 ⟨(some 18), .load false 1 (.tmp 17), none⟩,
 ⟨(some 19), .call (.val (.fn 25 [] [])) [(.tmp 18)], none⟩,
 ⟨(some 20), .move (.tmp 19), none⟩,
 ⟨(some 21), .faddr 2 (.tmp 1), (some (20, true))⟩,
 ⟨(some 22), .load true 5 (.tmp 21), (some (20, true))⟩,
 ⟨(some 23), .call (.val (.fn 61 [] [])) [(.tmp 22)], (some (20, true))⟩,
 ⟨(some 24), .pick (.tmp 20) (.tmp 23) (.val (.bool false)), none⟩,
 ⟨(some 25), .move (.tmp 24), none⟩,
 ⟨(some 26), .faddr 7 (.tmp 1), (some (25, true))⟩,
 ⟨(some 27), .load true 5 (.tmp 26), (some (25, true))⟩,
 ⟨(some 28), .call (.val (.fn 61 [] [])) [(.tmp 27)], (some (25, true))⟩,
 ⟨(some 29), .pick (.tmp 25) (.tmp 28) (.val (.bool false)), none⟩,
 ⟨(some 2), .move (.tmp 29), none⟩])
 (.ret))
 (.seq (.seq (.region [
 ⟨(some 31), .bin .eql (.tmp 4) (.val (.int .i64 3)), none⟩,
 ⟨(some 30), .move (.tmp 31), none⟩])
 (.cond (.tmp 30)
 (.skip)
 (.region [
 ⟨(some 32), .bin .eql (.tmp 4) (.val (.int .i64 4)), none⟩,
 ⟨(some 30), .move (.tmp 32), none⟩])))
 (.cond (.tmp 30)
 (.seq (.region [
 ⟨(some 33), .faddr 1 (.tmp 1), none⟩,
 ⟨(some 34), .load false 1 (.tmp 33), none⟩,
 ⟨(some 35), .call (.val (.fn 25 [] [])) [(.tmp 34)], none⟩,
 ⟨(some 2), .move (.tmp 35), none⟩])
 (.ret))
 (.seq (.region [
 ⟨(some 37), .bin .eql (.tmp 4) (.val (.int .i64 5)), none⟩,
 ⟨(some 36), .move (.tmp 37), none⟩])
 (.cond (.tmp 36)
 (.seq (.region [
 ⟨(some 38), .faddr 12 (.tmp 1), none⟩,
 ⟨(some 39), .load true 4 (.tmp 38), none⟩,
 ⟨(some 40), .call (.val (.fn 62 [] [])) [(.tmp 39)], none⟩,
 ⟨(some 41), .move (.tmp 40), none⟩,
 ⟨(some 42), .faddr 16 (.tmp 1), (some (41, true))⟩,
 ⟨(some 43), .load false 1 (.tmp 42), (some (41, true))⟩,
 ⟨(some 44), .call (.val (.fn 15 [] [])) [(.tmp 43), (.val (.fn 31 [] []))], (some (41, true))⟩,
 ⟨(some 45), .pick (.tmp 41) (.tmp 44) (.val (.bool false)), none⟩,
 ⟨(some 46), .move (.tmp 45), none⟩,
 ⟨(some 47), .faddr 17 (.tmp 1), (some (46, true))⟩,
 ⟨(some 48), .load false 1 (.tmp 47), (some (46, true))⟩,
 ⟨(some 49), .call (.val (.fn 15 [] [])) [(.tmp 48), (.val (.fn 31 [] []))], (some (46, true))⟩,
 ⟨(some 50), .pick (.tmp 46) (.tmp 49) (.val (.bool false)), none⟩,
 ⟨(some 2), .move (.tmp 50), none⟩])
 (.ret))
 (.seq (.region [
 ⟨(some 52), .bin .eql (.tmp 4) (.val (.int .i64 6)), none⟩,
 ⟨(some 51), .move (.tmp 52), none⟩])
 (.cond (.tmp 51)
 (.seq (.region [
 ⟨(some 53), .faddr 12 (.tmp 1), none⟩,
 ⟨(some 54), .load true 4 (.tmp 53), none⟩,
 ⟨(some 55), .call (.val (.fn 62 [] [])) [(.tmp 54)], none⟩,
 ⟨(some 56), .move (.tmp 55), none⟩,
 ⟨(some 57), .faddr 16 (.tmp 1), (some (56, true))⟩,
 ⟨(some 58), .load false 1 (.tmp 57), (some (56, true))⟩,
 ⟨(some 59), .call (.val (.fn 15 [] [])) [(.tmp 58), (.val (.fn 31 [] []))], (some (56, true))⟩,
 ⟨(some 60), .pick (.tmp 56) (.tmp 59) (.val (.bool false)), none⟩,
 ⟨(some 2), .move (.tmp 60), none⟩])
 (.ret))
 (.seq (.region [
 ⟨(some 62), .bin .eql (.tmp 4) (.val (.int .i64 7)), none⟩,
 ⟨(some 61), .move (.tmp 62), none⟩])
 (.cond (.tmp 61)
 (.seq (.region [
 ⟨(some 63), .faddr 12 (.tmp 1), none⟩,
 ⟨(some 64), .load true 4 (.tmp 63), none⟩,
 ⟨(some 65), .call (.val (.fn 62 [] [])) [(.tmp 64)], none⟩,
 ⟨(some 2), .move (.tmp 65), none⟩])
 (.ret))
 (.skip)))))))))))))))
 (.seq (.region [
 ⟨(some 66), .faddr 0 (.tmp 1), none⟩,
 ⟨(some 67), .load false 1 (.tmp 66), none⟩,
 ⟨(some 68), .bin .eql (.tmp 67) (.val (.int .i64 8)), none⟩,
 ⟨(some 2), .move (.tmp 68), none⟩])
 (.ret)))⟩
theorem ok31 : Tryd.prog.funcs[31]? = some Tryd.f31 ∧ compileFn Tryd.prog gh Tryd.f31 = some gc31 := ⟨Tryd.func31, by kernel_rfl⟩
-- meddler/check.isTwice
def gl32_1 : ACode := .seq (.region [
 ⟨(some 8), .bin .lss (.tmp 7) (.tmp 6), none⟩])
 (.seq (.cond (.tmp 8)
 (.skip)
 (.exit 0))
 (.seq (.block 1
 (.seq (.region [
 ⟨(some 9), .move (.tmp 7), none⟩,
 ⟨(some 10), .iaddr 1 (.tmp 5) (.tmp 7), none⟩,
 ⟨(some 11), .load false 1 (.tmp 10), none⟩,
 ⟨(some 3), .move (.tmp 9), none⟩,
 ⟨(some 4), .move (.tmp 11), none⟩])
 (.seq (.region [
 ⟨(some 12), .move (.tmp 4), none⟩,
 ⟨(some 13), .move (.tmp 0), none⟩,
 ⟨(some 14), .move (.tmp 3), none⟩,
 ⟨(some 15), .slSl 1 (.tmp 13) none (some (.tmp 14)) none, none⟩,
 ⟨(some 16), .call (.val (.fn 42 [] [])) [(.tmp 12), (.tmp 15)], none⟩,
 ⟨(some 17), .bin .geq (.tmp 16) (.val (.int .i64 0)), none⟩])
 (.cond (.tmp 17)
 (.seq (.region [
 ⟨(some 2), .move (.val (.bool true)), none⟩])
 (.ret))
 (.skip)))))
 (.region [
 ⟨(some 18), .bin .add (.tmp 7) (.val (.int .i64 1)), none⟩,
 ⟨(some 7), .move (.tmp 18), none⟩])))
def gc32 : AFn := ⟨[.tmp 2],
 .seq (.region [
 ⟨(some 2), .move (.val (.bool false)), none⟩])
 (.seq (.seq (.region [
 ⟨(some 5), .move (.tmp 0), none⟩,
 ⟨(some 6), .lenSl (.tmp 5), none⟩,
 ⟨(some 7), .move (.val (.int .i64 0)), none⟩])
 (.block 0
 (.loop gl32_1)))
 (.seq (.region [
 ⟨(some 2), .move (.val (.bool false)), none⟩])
 (.ret)))⟩
theorem ok32 : Tryd.prog.funcs[32]? = some Tryd.f32 ∧ compileFn Tryd.prog gh Tryd.f32 = some gc32 := ⟨Tryd.func32, by kernel_rfl⟩
-- slices.Clone[[]string,string]
def gc33 : AFn := ⟨[.tmp 2],
 .seq (.region [
 ⟨(some 2), .move (.val (.emp)), none⟩])
 (.seq (.seq (.region [
 ⟨(some 3), .move (.tmp 0), none⟩,
 ⟨(some 4), .isNil false (.tmp 3), none⟩])
 (.cond (.tmp 4)
 (.seq (.region [
 ⟨(some 2), .move (.val (.emp)), none⟩])
 (.ret))
 (.skip)))
 (.seq (.region [
 ⟨(some 5), .buildSl false 9 1 0 (.str []) [], none⟩,
 ⟨(some 6), .move (.tmp 0), none⟩,
 ⟨(some 7), .append 9 1 16 (.tmp 5) (.tmp 6), none⟩,
 ⟨(some 2), .move (.tmp 7), none⟩])
 (.ret)))⟩
theorem ok33 : Tryd.prog.funcs[33]? = some Tryd.f33 ∧ compileFn Tryd.prog gh Tryd.f33 = some gc33 := ⟨Tryd.func33, by kernel_rfl⟩
-- slices.ContainsFunc[[]meddler/api.Thread,meddler/api.Thread]
def gc34 : AFn := ⟨[.tmp 4],
 .seq (.region [
 ⟨(some 4), .move (.val (.bool false)), none⟩])
 (.seq (.region [
 ⟨(some 5), .move (.tmp 0), none⟩,
 ⟨(some 6), .move (.tmp 1), none⟩,
 ⟨(some 7), .call (.val (.fn 63 [] [])) [(.tmp 5), (.tmp 6)], none⟩,
 ⟨(some 8), .bin .geq (.tmp 7) (.val (.int .i64 0)), none⟩,
 ⟨(some 4), .move (.tmp 8), none⟩])
 (.ret))⟩
theorem ok34 : Tryd.prog.funcs[34]? = some Tryd.f34 ∧ compileFn Tryd.prog gh Tryd.f34 = some gc34 := ⟨Tryd.func34, by kernel_rfl⟩
-- meddler/check.all[meddler/api.Thread]$1
def gc35 : AFn := ⟨[.tmp 3],
 .seq (.region [
 ⟨(some 2), .box 30 3 [] (.tmp 0), none⟩,
 ⟨(some 3), .move (.val (.bool false)), none⟩])
 (.seq (.region [
 ⟨(some 4), .load false 1 (.tmp 1), none⟩,
 ⟨(some 5), .load true 3 (.tmp 2), none⟩,
 ⟨(some 6), .call (.tmp 4) [(.tmp 5)], none⟩,
 ⟨(some 7), .un .not (.tmp 6), none⟩,
 ⟨(some 3), .move (.tmp 7), none⟩])
 (.ret))⟩
theorem ok35 : Tryd.prog.funcs[35]? = some Tryd.f35 ∧ compileFn Tryd.prog gh Tryd.f35 = some gc35 := ⟨Tryd.func35, by kernel_rfl⟩
-- slices.ContainsFunc[[]meddler/api.Stmt,meddler/api.Stmt]
def gc36 : AFn := ⟨[.tmp 4],
 .seq (.region [
 ⟨(some 4), .move (.val (.bool false)), none⟩])
 (.seq (.region [
 ⟨(some 5), .move (.tmp 0), none⟩,
 ⟨(some 6), .move (.tmp 1), none⟩,
 ⟨(some 7), .call (.val (.fn 64 [] [])) [(.tmp 5), (.tmp 6)], none⟩,
 ⟨(some 8), .bin .geq (.tmp 7) (.val (.int .i64 0)), none⟩,
 ⟨(some 4), .move (.tmp 8), none⟩])
 (.ret))⟩
theorem ok36 : Tryd.prog.funcs[36]? = some Tryd.f36 ∧ compileFn Tryd.prog gh Tryd.f36 = some gc36 := ⟨Tryd.func36, by kernel_rfl⟩
-- meddler/check.all[meddler/api.Stmt]$1
def gc37 : AFn := ⟨[.tmp 3],
 .seq (.region [
 ⟨(some 2), .box 43 18 [] (.tmp 0), none⟩,
 ⟨(some 3), .move (.val (.bool false)), none⟩])
 (.seq (.region [
 ⟨(some 4), .load false 1 (.tmp 1), none⟩,
 ⟨(some 5), .load true 18 (.tmp 2), none⟩,
 ⟨(some 6), .call (.tmp 4) [(.tmp 5)], none⟩,
 ⟨(some 7), .un .not (.tmp 6), none⟩,
 ⟨(some 3), .move (.tmp 7), none⟩])
 (.ret))⟩
theorem ok37 : Tryd.prog.funcs[37]? = some Tryd.f37 ∧ compileFn Tryd.prog gh Tryd.f37 = some gc37 := ⟨Tryd.func37, by kernel_rfl⟩
-- (meddler/check.scope).isVar
def gc38 : AFn := ⟨[.tmp 4],
 .seq (.region [
 ⟨(some 2), .box 59 7 [] (.tmp 0), none⟩,
 ⟨(some 4), .move (.val (.bool false)), none⟩])
 (.seq (.region [
 ⟨(some 5), .faddr 4 (.tmp 2), none⟩,
 ⟨(some 6), .load true 3 (.tmp 5), none⟩,
 ⟨(some 7), .move (.tmp 1), none⟩,
 ⟨(some 8), .call (.val (.fn 65 [] [])) [(.tmp 6), (.tmp 7)], none⟩,
 ⟨(some 9), .bin .geq (.tmp 8) (.val (.int .i64 0)), none⟩,
 ⟨(some 10), .move (.tmp 9), none⟩,
 ⟨(some 11), .faddr 0 (.tmp 2), (some (10, false))⟩,
 ⟨(some 12), .load true 4 (.tmp 11), (some (10, false))⟩,
 ⟨(some 13), .move (.tmp 1), (some (10, false))⟩,
 ⟨(some 14), .call (.val (.fn 66 [] [])) [(.tmp 12), (.tmp 13)], (some (10, false))⟩,
 ⟨(some 15), .bin .geq (.tmp 14) (.val (.int .i64 0)), (some (10, false))⟩,
 ⟨(some 16), .pick (.tmp 10) (.val (.bool true)) (.tmp 15), none⟩,
 ⟨(some 4), .move (.tmp 16), none⟩])
 (.ret))⟩
theorem ok38 : Tryd.prog.funcs[38]? = some Tryd.f38 ∧ compileFn Tryd.prog gh Tryd.f38 = some gc38 := ⟨Tryd.func38, by kernel_rfl⟩
-- (meddler/check.scope).expr
def gc39 : AFn := ⟨[.tmp 4],
 .seq (.region [
 ⟨(some 2), .box 59 7 [] (.tmp 0), none⟩,
 ⟨(some 3), .box 37 5 [] (.tmp 1), none⟩,
 ⟨(some 4), .move (.val (.bool false)), none⟩])
 (.seq (.region [
 ⟨(some 5), .faddr 0 (.tmp 3), none⟩,
 ⟨(some 6), .load false 1 (.tmp 5), none⟩,
 ⟨(some 7), .bin .neq (.tmp 6) (.val (.int .i64 2)), none⟩,
 ⟨(some 8), .move (.tmp 7), none⟩,
 ⟨(some 9), .load true 7 (.tmp 2), (some (8, false))⟩,
 ⟨(some 10), .faddr 3 (.tmp 3), (some (8, false))⟩,
 ⟨(some 11), .load false 1 (.tmp 10), (some (8, false))⟩,
 ⟨(some 12), .call (.val (.fn 38 [] [])) [(.tmp 9), (.tmp 11)], (some (8, false))⟩,
 ⟨(some 13), .pick (.tmp 8) (.val (.bool true)) (.tmp 12), none⟩,
 ⟨(some 14), .move (.tmp 13), none⟩,
 ⟨(some 15), .faddr 0 (.tmp 3), (some (14, true))⟩,
 ⟨(some 16), .load false 1 (.tmp 15), (some (14, true))⟩,
 ⟨(some 17), .bin .neq (.tmp 16) (.val (.int .i64 3)), (some (14, true))⟩,
 ⟨(some 18), .move (.tmp 17), (some (14, true))⟩,
 ⟨(some 19), .faddr 0 (.tmp 2), (some (18, false))⟩,
 ⟨(some 20), .load true 4 (.tmp 19), (some (18, false))⟩,
 ⟨(some 21), .faddr 3 (.tmp 3), (some (18, false))⟩,
 ⟨(some 22), .load false 1 (.tmp 21), (some (18, false))⟩,
 ⟨(some 23), .call (.val (.fn 40 [] [])) [(.tmp 20), (.tmp 22)], (some (18, false))⟩,
 ⟨(some 24), .bin .geq (.tmp 23) (.val (.int .i64 0)), (some (18, false))⟩,
 ⟨(some 25), .pick (.tmp 18) (.val (.bool true)) (.tmp 24), (some (14, true))⟩,
 ⟨(some 26), .pick (.tmp 14) (.tmp 25) (.val (.bool false)), none⟩,
 ⟨(some 27), .move (.tmp 26), none⟩,
 ⟨(some 28), .faddr 4 (.tmp 3), (some (27, true))⟩,
 ⟨(some 29), .load false 1 (.tmp 28), (some (27, true))⟩,
 ⟨(some 30), .load true 7 (.tmp 2), (some (27, true))⟩,
 ⟨(some 31), .mkfn 39 [(.tmp 30)] [], (some (27, true))⟩,
 ⟨(some 32), .call (.val (.fn 67 [] [])) [(.tmp 29), (.tmp 31)], (some (27, true))⟩,
 ⟨(some 33), .pick (.tmp 27) (.tmp 32) (.val (.bool false)), none⟩,
 ⟨(some 4), .move (.tmp 33), none⟩])
 (.ret))⟩
theorem ok39 : Tryd.prog.funcs[39]? = some Tryd.f39 ∧ compileFn Tryd.prog gh Tryd.f39 = some gc39 := ⟨Tryd.func39, by kernel_rfl⟩
-- meddler/check.Array
def gc40 : AFn := ⟨[.tmp 4],
 .seq (.region [
 ⟨(some 2), .box 27 4 [] (.tmp 0), none⟩,
 ⟨(some 3), .box 9 1 [] (.tmp 1), none⟩,
 ⟨(some 4), .move (.val (.int .i64 0)), none⟩])
 (.seq (.region [
 ⟨(some 5), .faddr 1 (.tmp 2), none⟩,
 ⟨(some 6), .load false 1 (.tmp 5), none⟩,
 ⟨(some 7), .mkfn 69 [] [(.tmp 3)], none⟩,
 ⟨(some 8), .call (.val (.fn 68 [] [])) [(.tmp 6), (.tmp 7)], none⟩,
 ⟨(some 4), .move (.tmp 8), none⟩])
 (.ret))⟩
theorem ok40 : Tryd.prog.funcs[40]? = some Tryd.f40 ∧ compileFn Tryd.prog gh Tryd.f40 = some gc40 := ⟨Tryd.func40, by kernel_rfl⟩
-- (meddler/check.scope).cond
def gc41 : AFn := ⟨[.tmp 4],
 .seq (.region [
 ⟨(some 2), .box 59 7 [] (.tmp 0), none⟩,
 ⟨(some 3), .box 41 4 [] (.tmp 1), none⟩,
 ⟨(some 4), .move (.val (.bool false)), none⟩])
 (.seq (.region [
 ⟨(some 5), .faddr 2 (.tmp 3), none⟩,
 ⟨(some 6), .load false 1 (.tmp 5), none⟩,
 ⟨(some 7), .load true 7 (.tmp 2), none⟩,
 ⟨(some 8), .mkfn 39 [(.tmp 7)] [], none⟩,
 ⟨(some 9), .call (.val (.fn 67 [] [])) [(.tmp 6), (.tmp 8)], none⟩,
 ⟨(some 10), .move (.tmp 9), none⟩,
 ⟨(some 11), .faddr 3 (.tmp 3), (some (10, true))⟩,
 ⟨(some 12), .load false 1 (.tmp 11), (some (10, true))⟩,
 ⟨(some 13), .load true 7 (.tmp 2), (some (10, true))⟩,
 ⟨(some 14), .mkfn 41 [(.tmp 13)] [], (some (10, true))⟩,
 ⟨(some 15), .call (.val (.fn 70 [] [])) [(.tmp 12), (.tmp 14)], (some (10, true))⟩,
 ⟨(some 16), .pick (.tmp 10) (.tmp 15) (.val (.bool false)), none⟩,
 ⟨(some 4), .move (.tmp 16), none⟩])
 (.ret))⟩
theorem ok41 : Tryd.prog.funcs[41]? = some Tryd.f41 ∧ compileFn Tryd.prog gh Tryd.f41 = some gc41 := ⟨Tryd.func41, by kernel_rfl⟩
-- meddler/check.place
def gc42 : AFn := ⟨[.tmp 4],
 .seq (.region [
 ⟨(some 4), .move (.val (.int .i64 0)), none⟩])
 (.seq (.region [
 ⟨(some 5), .move (.tmp 1), none⟩,
 ⟨(some 6), .move (.tmp 0), none⟩,
 ⟨(some 7), .call (.val (.fn 71 [] [])) [(.tmp 5), (.tmp 6)], none⟩,
 ⟨(some 4), .move (.tmp 7), none⟩])
 (.ret))⟩
theorem ok42 : Tryd.prog.funcs[42]? = some Tryd.f42 ∧ compileFn Tryd.prog gh Tryd.f42 = some gc42 := ⟨Tryd.func42, by kernel_rfl⟩
-- meddler/meddlerref7.name
def gl43_1 : ACode := .seq (.seq (.region [
 ⟨(some 4), .move (.tmp 3), none⟩,
 ⟨(some 5), .move (.tmp 0), none⟩,
 ⟨(some 6), .lenStr (.tmp 5), none⟩,
 ⟨(some 7), .bin .lss (.tmp 4) (.tmp 6), none⟩])
 (.cond (.tmp 7)
 (.skip)
 (.exit 0)))
 (.seq (.block 1
 (.seq (.region [
 ⟨(some 10), .move (.tmp 0), none⟩,
 ⟨(some 11), .move (.tmp 3), none⟩,
 ⟨(some 12), .istr (.tmp 10) (.tmp 11), none⟩,
 ⟨(some 13), .bin .lss (.tmp 12) (.val (.int .u8 97)), none⟩,
 ⟨(some 14), .move (.tmp 13), none⟩,
 ⟨(some 15), .move (.tmp 0), (some (14, false))⟩,
 ⟨(some 16), .move (.tmp 3), (some (14, false))⟩,
 ⟨(some 17), .istr (.tmp 15) (.tmp 16), (some (14, false))⟩,
 ⟨(some 18), .bin .gtr (.tmp 17) (.val (.int .u8 122)), (some (14, false))⟩,
 ⟨(some 19), .pick (.tmp 14) (.val (.bool true)) (.tmp 18), none⟩,
 ⟨(some 20), .move (.tmp 19), none⟩,
 ⟨(some 21), .move (.tmp 3), (some (20, true))⟩,
 ⟨(some 22), .bin .eql (.tmp 21) (.val (.int .i64 0)), (some (20, true))⟩,
 ⟨(some 23), .move (.tmp 22), (some (20, true))⟩,
 ⟨(some 24), .move (.tmp 0), (some (23, false))⟩,
 ⟨(some 25), .move (.tmp 3), (some (23, false))⟩,
 ⟨(some 26), .istr (.tmp 24) (.tmp 25), (some (23, false))⟩,
 ⟨(some 27), .bin .lss (.tmp 26) (.val (.int .u8 48)), (some (23, false))⟩,
 ⟨(some 28), .pick (.tmp 23) (.val (.bool true)) (.tmp 27), (some (20, true))⟩,
 ⟨(some 29), .move (.tmp 28), (some (20, true))⟩,
 ⟨(some 30), .move (.tmp 0), (some (29, false))⟩,
 ⟨(some 31), .move (.tmp 3), (some (29, false))⟩,
 ⟨(some 32), .istr (.tmp 30) (.tmp 31), (some (29, false))⟩,
 ⟨(some 33), .bin .gtr (.tmp 32) (.val (.int .u8 57)), (some (29, false))⟩,
 ⟨(some 34), .pick (.tmp 29) (.val (.bool true)) (.tmp 33), (some (20, true))⟩,
 ⟨(some 35), .pick (.tmp 20) (.tmp 34) (.val (.bool false)), none⟩])
 (.cond (.tmp 35)
 (.seq (.region [
 ⟨(some 2), .move (.val (.bool false)), none⟩])
 (.ret))
 (.skip))))
 (.region [
 ⟨(some 8), .move (.tmp 3), none⟩,
 ⟨(some 9), .bin .add (.tmp 8) (.val (.int .i64 1)), none⟩,
 ⟨(some 3), .move (.tmp 9), none⟩]))
def gc43 : AFn := ⟨[.tmp 2],
 .seq (.region [
 ⟨(some 2), .move (.val (.bool false)), none⟩])
 (.seq (.seq (.region [
 ⟨(some 3), .move (.val (.int .i64 0)), none⟩])
 (.block 0
 (.loop gl43_1)))
 (.seq (.region [
 ⟨(some 36), .move (.tmp 0), none⟩,
 ⟨(some 37), .lenStr (.tmp 36), none⟩,
 ⟨(some 38), .bin .geq (.tmp 37) (.val (.int .i64 1)), none⟩,
 ⟨(some 39), .move (.tmp 38), none⟩,
 ⟨(some 40), .move (.tmp 0), (some (39, true))⟩,
 ⟨(some 41), .lenStr (.tmp 40), (some (39, true))⟩,
 ⟨(some 42), .bin .leq (.tmp 41) (.val (.int .i64 8)), (some (39, true))⟩,
 ⟨(some 43), .pick (.tmp 39) (.tmp 42) (.val (.bool false)), none⟩,
 ⟨(some 2), .move (.tmp 43), none⟩])
 (.ret)))⟩
theorem ok43 : Tryd.prog.funcs[43]? = some Tryd.f43 ∧ compileFn Tryd.prog gh Tryd.f43 = some gc43 := ⟨Tryd.func43, by kernel_rfl⟩
-- meddler/meddlerref1.Fits
def gc44 : AFn := ⟨[.tmp 2],
 .seq (.region [
 ⟨(some 2), .move (.val (.bool false)), none⟩])
 (.seq (.region [
 ⟨(some 3), .move (.tmp 0), none⟩,
 ⟨(some 4), .bin .geq (.tmp 3) (.val (.int .i64 (-2147483648))), none⟩,
 ⟨(some 5), .move (.tmp 4), none⟩,
 ⟨(some 6), .move (.tmp 0), (some (5, true))⟩,
 ⟨(some 7), .bin .leq (.tmp 6) (.val (.int .i64 2147483647)), (some (5, true))⟩,
 ⟨(some 8), .pick (.tmp 5) (.tmp 7) (.val (.bool false)), none⟩,
 ⟨(some 2), .move (.tmp 8), none⟩])
 (.ret))⟩
theorem ok44 : Tryd.prog.funcs[44]? = some Tryd.f44 ∧ compileFn Tryd.prog gh Tryd.f44 = some gc44 := ⟨Tryd.func44, by kernel_rfl⟩
-- meddler/meddlerref7.stmts
def gl45_1 : ACode := .seq (.seq (.region [
 ⟨(some 6), .move (.tmp 3), none⟩,
 ⟨(some 7), .move (.tmp 0), none⟩,
 ⟨(some 8), .lenSl (.tmp 7), none⟩,
 ⟨(some 9), .bin .lss (.tmp 6) (.tmp 8), none⟩])
 (.cond (.tmp 9)
 (.skip)
 (.exit 0)))
 (.seq (.block 1
 (.seq (.region [
 ⟨(some 12), .move (.tmp 0), none⟩,
 ⟨(some 13), .move (.tmp 3), none⟩,
 ⟨(some 14), .iaddr 18 (.tmp 12) (.tmp 13), none⟩,
 ⟨(some 15), .load true 18 (.tmp 14), none⟩,
 ⟨(some 4), .alloc 43 18 [] (.agg [.int .i64 0, .str [], .int .i64 0, .int .i64 0, .int .i64 0, .str [], .emp, .int .i64 0, .int .i64 0, .int .i64 0, .str [], .emp, .int .i64 0, .int .i64 0, .emp, .emp, .emp, .emp]), none⟩,
 ⟨none, .store 18 (.tmp 4) (.tmp 15), none⟩])
 (.seq (.region [
 ⟨(some 5), .move (.val (.bool false)), none⟩])
 (.seq (.seq (.region [
 ⟨(some 16), .faddr 0 (.tmp 4), none⟩,
 ⟨(some 17), .load false 1 (.tmp 16), none⟩])
 (.block 2
 (.seq (.region [
 ⟨(some 19), .bin .eql (.tmp 17) (.val (.int .i64 1)), none⟩,
 ⟨(some 18), .move (.tmp 19), none⟩])
 (.cond (.tmp 18)
 (.region [
 ⟨(some 20), .faddr 1 (.tmp 4), none⟩,
 ⟨(some 21), .load false 1 (.tmp 20), none⟩,
 ⟨(some 22), .call (.val (.fn 43 [] [])) [(.tmp 21)], none⟩,
 ⟨(some 23), .move (.tmp 22), none⟩,
 ⟨(some 24), .faddr 7 (.tmp 4), (some (23, true))⟩,
 ⟨(some 25), .load true 5 (.tmp 24), (some (23, true))⟩,
 ⟨(some 26), .call (.val (.fn 72 [] [])) [(.tmp 25)], (some (23, true))⟩,
 ⟨(some 27), .pick (.tmp 23) (.tmp 26) (.val (.bool false)), none⟩,
 ⟨(some 5), .move (.tmp 27), none⟩])
 (.seq (.region [
 ⟨(some 29), .bin .eql (.tmp 17) (.val (.int .i64 2)), none⟩,
 ⟨(some 28), .move (.tmp 29), none⟩])
 (.cond (.tmp 28)
 (.region [
 ⟨(some 30), .faddr 1 (.tmp 4), none⟩,
 ⟨(some 31), .load false 1 (.tmp 30), none⟩,
 ⟨(some 32), .call (.val (.fn 43 [] [])) [(.tmp 31)], none⟩,
 ⟨(some 33), .move (.tmp 32), none⟩,
 ⟨(some 34), .faddr 2 (.tmp 4), (some (33, true))⟩,
 ⟨(some 35), .load true 5 (.tmp 34), (some (33, true))⟩,
 ⟨(some 36), .call (.val (.fn 72 [] [])) [(.tmp 35)], (some (33, true))⟩,
 ⟨(some 37), .pick (.tmp 33) (.tmp 36) (.val (.bool false)), none⟩,
 ⟨(some 38), .move (.tmp 37), none⟩,
 ⟨(some 39), .faddr 7 (.tmp 4), (some (38, true))⟩,
 ⟨(some 40), .load true 5 (.tmp 39), (some (38, true))⟩,
 ⟨(some 41), .call (.val (.fn 72 [] [])) [(.tmp 40)], (some (38, true))⟩,
 ⟨(some 42), .pick (.tmp 38) (.tmp 41) (.val (.bool false)), none⟩,
 ⟨(some 5), .move (.tmp 42), none⟩])
 (.seq (.seq (.region [
 ⟨(some 44), .bin .eql (.tmp 17) (.val (.int .i64 3)), none⟩,
 ⟨(some 43), .move (.tmp 44), none⟩])
 (.cond (.tmp 43)
 (.skip)
 (.region [
 ⟨(some 45), .bin .eql (.tmp 17) (.val (.int .i64 4)), none⟩,
 ⟨(some 43), .move (.tmp 45), none⟩])))
 (.cond (.tmp 43)
 (.region [
 ⟨(some 46), .faddr 1 (.tmp 4), none⟩,
 ⟨(some 47), .load false 1 (.tmp 46), none⟩,
 ⟨(some 48), .call (.val (.fn 43 [] [])) [(.tmp 47)], none⟩,
 ⟨(some 5), .move (.tmp 48), none⟩])
 (.seq (.region [
 ⟨(some 50), .bin .eql (.tmp 17) (.val (.int .i64 5)), none⟩,
 ⟨(some 49), .move (.tmp 50), none⟩])
 (.cond (.tmp 49)
 (.region [
 ⟨(some 51), .faddr 12 (.tmp 4), none⟩,
 ⟨(some 52), .load true 4 (.tmp 51), none⟩,
 ⟨(some 53), .call (.val (.fn 73 [] [])) [(.tmp 52)], none⟩,
 ⟨(some 54), .move (.tmp 53), none⟩,
 ⟨(some 55), .faddr 16 (.tmp 4), (some (54, true))⟩,
 ⟨(some 56), .load false 1 (.tmp 55), (some (54, true))⟩,
 ⟨(some 57), .call (.val (.fn 45 [] [])) [(.tmp 56)], (some (54, true))⟩,
 ⟨(some 58), .pick (.tmp 54) (.tmp 57) (.val (.bool false)), none⟩,
 ⟨(some 59), .move (.tmp 58), none⟩,
 ⟨(some 60), .faddr 17 (.tmp 4), (some (59, true))⟩,
 ⟨(some 61), .load false 1 (.tmp 60), (some (59, true))⟩,
 ⟨(some 62), .call (.val (.fn 45 [] [])) [(.tmp 61)], (some (59, true))⟩,
 ⟨(some 63), .pick (.tmp 59) (.tmp 62) (.val (.bool false)), none⟩,
 ⟨(some 5), .move (.tmp 63), none⟩])
 (.seq (.region [
 ⟨(some 65), .bin .eql (.tmp 17) (.val (.int .i64 6)), none⟩,
 ⟨(some 64), .move (.tmp 65), none⟩])
 (.cond (.tmp 64)
 (.region [
 ⟨(some 66), .faddr 12 (.tmp 4), none⟩,
 ⟨(some 67), .load true 4 (.tmp 66), none⟩,
 ⟨(some 68), .call (.val (.fn 73 [] [])) [(.tmp 67)], none⟩,
 ⟨(some 69), .move (.tmp 68), none⟩,
 ⟨(some 70), .faddr 16 (.tmp 4), (some (69, true))⟩,
 ⟨(some 71), .load false 1 (.tmp 70), (some (69, true))⟩,
 ⟨(some 72), .call (.val (.fn 45 [] [])) [(.tmp 71)], (some (69, true))⟩,
 ⟨(some 73), .pick (.tmp 69) (.tmp 72) (.val (.bool false)), none⟩,
 ⟨(some 5), .move (.tmp 73), none⟩])
 (.seq (.region [
 ⟨(some 75), .bin .eql (.tmp 17) (.val (.int .i64 7)), none⟩,
 ⟨(some 74), .move (.tmp 75), none⟩])
 (.cond (.tmp 74)
 (.region [
 ⟨(some 76), .faddr 12 (.tmp 4), none⟩,
 ⟨(some 77), .load true 4 (.tmp 76), none⟩,
 ⟨(some 78), .call (.val (.fn 73 [] [])) [(.tmp 77)], none⟩,
 ⟨(some 5), .move (.tmp 78), none⟩])
 (.seq (.region [
 ⟨(some 80), .bin .eql (.tmp 17) (.val (.int .i64 8)), none⟩,
 ⟨(some 79), .move (.tmp 80), none⟩])
 (.cond (.tmp 79)
 (.region [
 ⟨(some 5), .move (.val (.bool true)), none⟩])
 (.skip)))))))))))))))))
 (.seq (.region [
 ⟨(some 81), .move (.tmp 5), none⟩,
 ⟨(some 82), .un .not (.tmp 81), none⟩])
 (.cond (.tmp 82)
 (.seq (.region [
 ⟨(some 2), .move (.val (.bool false)), none⟩])
 (.ret))
 (.skip)))))))
 (.region [
 ⟨(some 10), .move (.tmp 3), none⟩,
 ⟨(some 11), .bin .add (.tmp 10) (.val (.int .i64 1)), none⟩,
 ⟨(some 3), .move (.tmp 11), none⟩]))
def gc45 : AFn := ⟨[.tmp 2],
 .seq (.region [
 ⟨(some 2), .move (.val (.bool false)), none⟩])
 (.seq (.seq (.region [
 ⟨(some 3), .move (.val (.int .i64 0)), none⟩])
 (.block 0
 (.loop gl45_1)))
 (.seq (.region [
 ⟨(some 2), .move (.val (.bool true)), none⟩])
 (.ret)))⟩
theorem ok45 : Tryd.prog.funcs[45]? = some Tryd.f45 ∧ compileFn Tryd.prog gh Tryd.f45 = some gc45 := ⟨Tryd.func45, by kernel_rfl⟩
-- meddler/meddlerref7.twice
def gl46_1 : ACode := .seq (.seq (.region [
 ⟨(some 4), .move (.tmp 3), none⟩,
 ⟨(some 5), .move (.tmp 0), none⟩,
 ⟨(some 6), .lenSl (.tmp 5), none⟩,
 ⟨(some 7), .bin .lss (.tmp 4) (.tmp 6), none⟩])
 (.cond (.tmp 7)
 (.skip)
 (.exit 0)))
 (.seq (.block 1
 (.seq (.draw 2 [
 ⟨⟨(some 10), .move (.tmp 0), none⟩, .P, 0, [], [], false, none, []⟩,
 ⟨⟨(some 11), .move (.tmp 3), none⟩, .P, 0, [], [], false, none, []⟩,
 ⟨⟨(some 12), .slSl 1 (.tmp 10) none (some (.tmp 11)) none, none⟩, .P, 0, [], [], false, none, []⟩,
 ⟨⟨(some 13), .move (.tmp 0), none⟩, .P, 0, [], [], false, none, []⟩,
 ⟨⟨(some 14), .move (.tmp 3), none⟩, .P, 0, [], [], false, none, []⟩,
 ⟨⟨(some 15), .iaddr 1 (.tmp 13) (.tmp 14), none⟩, .P, 0, [], [], false, none, []⟩,
 ⟨⟨(some 16), .load false 1 (.tmp 15), none⟩, .L, 0, [], [], false, none, []⟩,
 ⟨⟨(some 17), .call (.val (.fn 74 [] [])) [(.tmp 12), (.tmp 16)], none⟩, .C, 0, [], [], false, none, []⟩,
 ⟨⟨(some 18), .bin .geq (.tmp 17) (.val (.int .i64 0)), none⟩, .P, 2, [], [], false, none, []⟩])
 (.cond (.tmp 18)
 (.seq (.region [
 ⟨(some 2), .move (.val (.bool true)), none⟩])
 (.ret))
 (.skip))))
 (.region [
 ⟨(some 8), .move (.tmp 3), none⟩,
 ⟨(some 9), .bin .add (.tmp 8) (.val (.int .i64 1)), none⟩,
 ⟨(some 3), .move (.tmp 9), none⟩]))
def gc46 : AFn := ⟨[.tmp 2],
 .seq (.region [
 ⟨(some 2), .move (.val (.bool false)), none⟩])
 (.seq (.seq (.region [
 ⟨(some 3), .move (.val (.int .i64 0)), none⟩])
 (.block 0
 (.loop gl46_1)))
 (.seq (.region [
 ⟨(some 2), .move (.val (.bool false)), none⟩])
 (.ret)))⟩
theorem ok46 : Tryd.prog.funcs[46]? = some Tryd.f46 ∧ compileFn Tryd.prog gh Tryd.f46 = some gc46 := ⟨Tryd.func46, by kernel_rfl⟩
-- meddler/meddlerref7.Local
def gc47 : AFn := ⟨[.tmp 4],
 .seq (.region [
 ⟨(some 2), .box 30 3 [] (.tmp 0), none⟩,
 ⟨(some 4), .move (.val (.int .i64 0)), none⟩])
 (.seq (.region [
 ⟨(some 5), .faddr 1 (.tmp 2), none⟩,
 ⟨(some 6), .load false 1 (.tmp 5), none⟩,
 ⟨(some 7), .move (.tmp 1), none⟩,
 ⟨(some 8), .call (.val (.fn 74 [] [])) [(.tmp 6), (.tmp 7)], none⟩,
 ⟨(some 4), .move (.tmp 8), none⟩])
 (.ret))⟩
theorem ok47 : Tryd.prog.funcs[47]? = some Tryd.f47 ∧ compileFn Tryd.prog gh Tryd.f47 = some gc47 := ⟨Tryd.func47, by kernel_rfl⟩
-- meddler/meddlerref7.Global
def gl48_1 : ACode := .seq (.seq (.region [
 ⟨(some 6), .move (.tmp 5), none⟩,
 ⟨(some 7), .faddr 0 (.tmp 2), none⟩,
 ⟨(some 8), .load false 1 (.tmp 7), none⟩,
 ⟨(some 9), .lenSl (.tmp 8), none⟩,
 ⟨(some 10), .bin .lss (.tmp 6) (.tmp 9), none⟩])
 (.cond (.tmp 10)
 (.skip)
 (.exit 0)))
 (.seq (.block 1
 (.seq (.region [
 ⟨(some 13), .faddr 0 (.tmp 2), none⟩,
 ⟨(some 14), .load false 1 (.tmp 13), none⟩,
 ⟨(some 15), .move (.tmp 5), none⟩,
 ⟨(some 16), .iaddr 2 (.tmp 14) (.tmp 15), none⟩,
 ⟨(some 17), .faddr 0 (.tmp 16), none⟩,
 ⟨(some 18), .load false 1 (.tmp 17), none⟩,
 ⟨(some 19), .move (.tmp 1), none⟩,
 ⟨(some 20), .bin .eql (.tmp 18) (.tmp 19), none⟩])
 (.cond (.tmp 20)
 (.seq (.region [
 ⟨(some 21), .move (.tmp 5), none⟩,
 ⟨(some 4), .move (.tmp 21), none⟩])
 (.ret))
 (.skip))))
 (.region [
 ⟨(some 11), .move (.tmp 5), none⟩,
 ⟨(some 12), .bin .add (.tmp 11) (.val (.int .i64 1)), none⟩,
 ⟨(some 5), .move (.tmp 12), none⟩]))
def gc48 : AFn := ⟨[.tmp 4],
 .seq (.region [
 ⟨(some 2), .box 27 4 [] (.tmp 0), none⟩,
 ⟨(some 4), .move (.val (.int .i64 0)), none⟩])
 (.seq (.seq (.region [
 ⟨(some 5), .move (.val (.int .i64 0)), none⟩])
 (.block 0
 (.loop gl48_1)))
 (.seq (.region [
 ⟨(some 4), .move (.val (.int .i64 (-1))), none⟩])
 (.ret)))⟩
theorem ok48 : Tryd.prog.funcs[48]? = some Tryd.f48 ∧ compileFn Tryd.prog gh Tryd.f48 = some gc48 := ⟨Tryd.func48, by kernel_rfl⟩
-- meddler/meddlerref7.usesExpr
def gl49_1 : ACode := .seq (.seq (.region [
 ⟨(some 35), .move (.tmp 7), none⟩,
 ⟨(some 36), .faddr 4 (.tmp 5), none⟩,
 ⟨(some 37), .load false 1 (.tmp 36), none⟩,
 ⟨(some 38), .lenSl (.tmp 37), none⟩,
 ⟨(some 39), .bin .lss (.tmp 35) (.tmp 38), none⟩])
 (.cond (.tmp 39)
 (.skip)
 (.exit 0)))
 (.seq (.block 1
 (.seq (.draw 2 [
 ⟨⟨(some 42), .load true 4 (.tmp 3), none⟩, .L, 0, [], [], false, none, []⟩,
 ⟨⟨(some 43), .load true 3 (.tmp 4), none⟩, .L, 0, [], [], false, none, []⟩,
 ⟨⟨(some 44), .faddr 4 (.tmp 5), none⟩, .P, 0, [], [], false, none, []⟩,
 ⟨⟨(some 45), .load false 1 (.tmp 44), none⟩, .L, 0, [], [], false, none, []⟩,
 ⟨⟨(some 46), .move (.tmp 7), none⟩, .P, 0, [], [], false, none, []⟩,
 ⟨⟨(some 47), .iaddr 5 (.tmp 45) (.tmp 46), none⟩, .P, 0, [], [], false, none, []⟩,
 ⟨⟨(some 48), .load true 5 (.tmp 47), none⟩, .L, 0, [], [], false, none, []⟩,
 ⟨⟨(some 49), .call (.val (.fn 49 [] [])) [(.tmp 42), (.tmp 43), (.tmp 48)], none⟩, .C, 0, [], [], false, none, []⟩,
 ⟨⟨(some 50), .un .not (.tmp 49), none⟩, .P, 2, [], [], false, none, []⟩])
 (.cond (.tmp 50)
 (.seq (.region [
 ⟨(some 6), .move (.val (.bool false)), none⟩])
 (.ret))
 (.skip))))
 (.region [
 ⟨(some 40), .move (.tmp 7), none⟩,
 ⟨(some 41), .bin .add (.tmp 40) (.val (.int .i64 1)), none⟩,
 ⟨(some 7), .move (.tmp 41), none⟩]))
def gc49 : AFn := ⟨[.tmp 6],
 .seq (.region [
 ⟨(some 3), .box 27 4 [] (.tmp 0), none⟩,
 ⟨(some 4), .box 30 3 [] (.tmp 1), none⟩,
 ⟨(some 5), .box 37 5 [] (.tmp 2), none⟩,
 ⟨(some 6), .move (.val (.bool false)), none⟩])
 (.seq (.seq (.region [
 ⟨(some 8), .faddr 0 (.tmp 5), none⟩,
 ⟨(some 9), .load false 1 (.tmp 8), none⟩,
 ⟨(some 10), .bin .eql (.tmp 9) (.val (.int .i64 2)), none⟩,
 ⟨(some 11), .move (.tmp 10), none⟩,
 ⟨(some 12), .load true 3 (.tmp 4), (some (11, true))⟩,
 ⟨(some 13), .faddr 3 (.tmp 5), (some (11, true))⟩,
 ⟨(some 14), .load false 1 (.tmp 13), (some (11, true))⟩,
 ⟨(some 15), .call (.val (.fn 47 [] [])) [(.tmp 12), (.tmp 14)], (some (11, true))⟩,
 ⟨(some 16), .bin .lss (.tmp 15) (.val (.int .i64 0)), (some (11, true))⟩,
 ⟨(some 17), .pick (.tmp 11) (.tmp 16) (.val (.bool false)), none⟩,
 ⟨(some 18), .move (.tmp 17), none⟩,
 ⟨(some 19), .load true 4 (.tmp 3), (some (18, true))⟩,
 ⟨(some 20), .faddr 3 (.tmp 5), (some (18, true))⟩,
 ⟨(some 21), .load false 1 (.tmp 20), (some (18, true))⟩,
 ⟨(some 22), .call (.val (.fn 48 [] [])) [(.tmp 19), (.tmp 21)], (some (18, true))⟩,
 ⟨(some 23), .bin .lss (.tmp 22) (.val (.int .i64 0)), (some (18, true))⟩,
 ⟨(some 24), .pick (.tmp 18) (.tmp 23) (.val (.bool false)), none⟩])
 (.cond (.tmp 24)
 (.seq (.region [
 ⟨(some 6), .move (.val (.bool false)), none⟩])
 (.ret))
 (.skip)))
 (.seq (.seq (.region [
 ⟨(some 25), .faddr 0 (.tmp 5), none⟩,
 ⟨(some 26), .load false 1 (.tmp 25), none⟩,
 ⟨(some 27), .bin .eql (.tmp 26) (.val (.int .i64 3)), none⟩,
 ⟨(some 28), .move (.tmp 27), none⟩,
 ⟨(some 29), .load true 4 (.tmp 3), (some (28, true))⟩,
 ⟨(some 30), .faddr 3 (.tmp 5), (some (28, true))⟩,
 ⟨(some 31), .load false 1 (.tmp 30), (some (28, true))⟩,
 ⟨(some 32), .call (.val (.fn 50 [] [])) [(.tmp 29), (.tmp 31)], (some (28, true))⟩,
 ⟨(some 33), .bin .lss (.tmp 32) (.val (.int .i64 0)), (some (28, true))⟩,
 ⟨(some 34), .pick (.tmp 28) (.tmp 33) (.val (.bool false)), none⟩])
 (.cond (.tmp 34)
 (.seq (.region [
 ⟨(some 6), .move (.val (.bool false)), none⟩])
 (.ret))
 (.skip)))
 (.seq (.seq (.region [
 ⟨(some 7), .move (.val (.int .i64 0)), none⟩])
 (.block 0
 (.loop gl49_1)))
 (.seq (.region [
 ⟨(some 6), .move (.val (.bool true)), none⟩])
 (.ret)))))⟩
theorem ok49 : Tryd.prog.funcs[49]? = some Tryd.f49 ∧ compileFn Tryd.prog gh Tryd.f49 = some gc49 := ⟨Tryd.func49, by kernel_rfl⟩
-- meddler/meddlerref7.Array
def gl50_1 : ACode := .seq (.seq (.region [
 ⟨(some 6), .move (.tmp 5), none⟩,
 ⟨(some 7), .faddr 1 (.tmp 2), none⟩,
 ⟨(some 8), .load false 1 (.tmp 7), none⟩,
 ⟨(some 9), .lenSl (.tmp 8), none⟩,
 ⟨(some 10), .bin .lss (.tmp 6) (.tmp 9), none⟩])
 (.cond (.tmp 10)
 (.skip)
 (.exit 0)))
 (.seq (.block 1
 (.seq (.region [
 ⟨(some 13), .faddr 1 (.tmp 2), none⟩,
 ⟨(some 14), .load false 1 (.tmp 13), none⟩,
 ⟨(some 15), .move (.tmp 5), none⟩,
 ⟨(some 16), .iaddr 2 (.tmp 14) (.tmp 15), none⟩,
 ⟨(some 17), .faddr 0 (.tmp 16), none⟩,
 ⟨(some 18), .load false 1 (.tmp 17), none⟩,
 ⟨(some 19), .move (.tmp 1), none⟩,
 ⟨(some 20), .bin .eql (.tmp 18) (.tmp 19), none⟩])
 (.cond (.tmp 20)
 (.seq (.region [
 ⟨(some 21), .move (.tmp 5), none⟩,
 ⟨(some 4), .move (.tmp 21), none⟩])
 (.ret))
 (.skip))))
 (.region [
 ⟨(some 11), .move (.tmp 5), none⟩,
 ⟨(some 12), .bin .add (.tmp 11) (.val (.int .i64 1)), none⟩,
 ⟨(some 5), .move (.tmp 12), none⟩]))
def gc50 : AFn := ⟨[.tmp 4],
 .seq (.region [
 ⟨(some 2), .box 27 4 [] (.tmp 0), none⟩,
 ⟨(some 4), .move (.val (.int .i64 0)), none⟩])
 (.seq (.seq (.region [
 ⟨(some 5), .move (.val (.int .i64 0)), none⟩])
 (.block 0
 (.loop gl50_1)))
 (.seq (.region [
 ⟨(some 4), .move (.val (.int .i64 (-1))), none⟩])
 (.ret)))⟩
theorem ok50 : Tryd.prog.funcs[50]? = some Tryd.f50 ∧ compileFn Tryd.prog gh Tryd.f50 = some gc50 := ⟨Tryd.func50, by kernel_rfl⟩
-- meddler/meddlerref7.Mutex
def gc51 : AFn := ⟨[.tmp 4],
 .seq (.region [
 ⟨(some 2), .box 27 4 [] (.tmp 0), none⟩,
 ⟨(some 4), .move (.val (.int .i64 0)), none⟩])
 (.seq (.region [
 ⟨(some 5), .faddr 2 (.tmp 2), none⟩,
 ⟨(some 6), .load false 1 (.tmp 5), none⟩,
 ⟨(some 7), .move (.tmp 1), none⟩,
 ⟨(some 8), .call (.val (.fn 74 [] [])) [(.tmp 6), (.tmp 7)], none⟩,
 ⟨(some 4), .move (.tmp 8), none⟩])
 (.ret))⟩
theorem ok51 : Tryd.prog.funcs[51]? = some Tryd.f51 ∧ compileFn Tryd.prog gh Tryd.f51 = some gc51 := ⟨Tryd.func51, by kernel_rfl⟩
-- meddler/meddlerref7.usesCond
def gl52_1 : ACode := .seq (.seq (.region [
 ⟨(some 9), .move (.tmp 7), none⟩,
 ⟨(some 10), .faddr 2 (.tmp 5), none⟩,
 ⟨(some 11), .load false 1 (.tmp 10), none⟩,
 ⟨(some 12), .lenSl (.tmp 11), none⟩,
 ⟨(some 13), .bin .lss (.tmp 9) (.tmp 12), none⟩])
 (.cond (.tmp 13)
 (.skip)
 (.exit 0)))
 (.seq (.block 1
 (.seq (.draw 2 [
 ⟨⟨(some 16), .load true 4 (.tmp 3), none⟩, .L, 0, [], [], false, none, []⟩,
 ⟨⟨(some 17), .load true 3 (.tmp 4), none⟩, .L, 0, [], [], false, none, []⟩,
 ⟨⟨(some 18), .faddr 2 (.tmp 5), none⟩, .P, 0, [], [], false, none, []⟩,
 ⟨⟨(some 19), .load false 1 (.tmp 18), none⟩, .L, 0, [], [], false, none, []⟩,
 ⟨⟨(some 20), .move (.tmp 7), none⟩, .P, 0, [], [], false, none, []⟩,
 ⟨⟨(some 21), .iaddr 5 (.tmp 19) (.tmp 20), none⟩, .P, 0, [], [], false, none, []⟩,
 ⟨⟨(some 22), .load true 5 (.tmp 21), none⟩, .L, 0, [], [], false, none, []⟩,
 ⟨⟨(some 23), .call (.val (.fn 49 [] [])) [(.tmp 16), (.tmp 17), (.tmp 22)], none⟩, .C, 0, [], [], false, none, []⟩,
 ⟨⟨(some 24), .un .not (.tmp 23), none⟩, .P, 2, [], [], false, none, []⟩])
 (.cond (.tmp 24)
 (.seq (.region [
 ⟨(some 6), .move (.val (.bool false)), none⟩])
 (.ret))
 (.skip))))
 (.region [
 ⟨(some 14), .move (.tmp 7), none⟩,
 ⟨(some 15), .bin .add (.tmp 14) (.val (.int .i64 1)), none⟩,
 ⟨(some 7), .move (.tmp 15), none⟩]))
def gl52_2 : ACode := .seq (.seq (.region [
 ⟨(some 25), .move (.tmp 8), none⟩,
 ⟨(some 26), .faddr 3 (.tmp 5), none⟩,
 ⟨(some 27), .load false 1 (.tmp 26), none⟩,
 ⟨(some 28), .lenSl (.tmp 27), none⟩,
 ⟨(some 29), .bin .lss (.tmp 25) (.tmp 28), none⟩])
 (.cond (.tmp 29)
 (.skip)
 (.exit 2)))
 (.seq (.block 3
 (.seq (.draw 2 [
 ⟨⟨(some 32), .load true 4 (.tmp 3), none⟩, .L, 0, [], [], false, none, []⟩,
 ⟨⟨(some 33), .load true 3 (.tmp 4), none⟩, .L, 0, [], [], false, none, []⟩,
 ⟨⟨(some 34), .faddr 3 (.tmp 5), none⟩, .P, 0, [], [], false, none, []⟩,
 ⟨⟨(some 35), .load false 1 (.tmp 34), none⟩, .L, 0, [], [], false, none, []⟩,
 ⟨⟨(some 36), .move (.tmp 8), none⟩, .P, 0, [], [], false, none, []⟩,
 ⟨⟨(some 37), .iaddr 4 (.tmp 35) (.tmp 36), none⟩, .P, 0, [], [], false, none, []⟩,
 ⟨⟨(some 38), .load true 4 (.tmp 37), none⟩, .L, 0, [], [], false, none, []⟩,
 ⟨⟨(some 39), .call (.val (.fn 52 [] [])) [(.tmp 32), (.tmp 33), (.tmp 38)], none⟩, .C, 0, [], [], false, none, []⟩,
 ⟨⟨(some 40), .un .not (.tmp 39), none⟩, .P, 2, [], [], false, none, []⟩])
 (.cond (.tmp 40)
 (.seq (.region [
 ⟨(some 6), .move (.val (.bool false)), none⟩])
 (.ret))
 (.skip))))
 (.region [
 ⟨(some 30), .move (.tmp 8), none⟩,
 ⟨(some 31), .bin .add (.tmp 30) (.val (.int .i64 1)), none⟩,
 ⟨(some 8), .move (.tmp 31), none⟩]))
def gc52 : AFn := ⟨[.tmp 6],
 .seq (.region [
 ⟨(some 3), .box 27 4 [] (.tmp 0), none⟩,
 ⟨(some 4), .box 30 3 [] (.tmp 1), none⟩,
 ⟨(some 5), .box 41 4 [] (.tmp 2), none⟩,
 ⟨(some 6), .move (.val (.bool false)), none⟩])
 (.seq (.seq (.region [
 ⟨(some 7), .move (.val (.int .i64 0)), none⟩])
 (.block 0
 (.loop gl52_1)))
 (.seq (.seq (.region [
 ⟨(some 8), .move (.val (.int .i64 0)), none⟩])
 (.block 2
 (.loop gl52_2)))
 (.seq (.region [
 ⟨(some 6), .move (.val (.bool true)), none⟩])
 (.ret))))⟩
theorem ok52 : Tryd.prog.funcs[52]? = some Tryd.f52 ∧ compileFn Tryd.prog gh Tryd.f52 = some gc52 := ⟨Tryd.func52, by kernel_rfl⟩
-- slices.ContainsFunc[[]string,string]
def gc53 : AFn := ⟨[.tmp 4],
 .seq (.region [
 ⟨(some 4), .move (.val (.bool false)), none⟩])
 (.seq (.region [
 ⟨(some 5), .move (.tmp 0), none⟩,
 ⟨(some 6), .move (.tmp 1), none⟩,
 ⟨(some 7), .call (.val (.fn 75 [] [])) [(.tmp 5), (.tmp 6)], none⟩,
 ⟨(some 8), .bin .geq (.tmp 7) (.val (.int .i64 0)), none⟩,
 ⟨(some 4), .move (.tmp 8), none⟩])
 (.ret))⟩
theorem ok53 : Tryd.prog.funcs[53]? = some Tryd.f53 ∧ compileFn Tryd.prog gh Tryd.f53 = some gc53 := ⟨Tryd.func53, by kernel_rfl⟩
-- meddler/check.areNames$1
def gc54 : AFn := ⟨[.tmp 2],
 .seq (.region [
 ⟨(some 2), .move (.val (.bool false)), none⟩])
 (.seq (.region [
 ⟨(some 3), .move (.tmp 0), none⟩,
 ⟨(some 4), .call (.val (.fn 25 [] [])) [(.tmp 3)], none⟩,
 ⟨(some 5), .un .not (.tmp 4), none⟩,
 ⟨(some 2), .move (.tmp 5), none⟩])
 (.ret))⟩
theorem ok54 : Tryd.prog.funcs[54]? = some Tryd.f54 ∧ compileFn Tryd.prog gh Tryd.f54 = some gc54 := ⟨Tryd.func54, by kernel_rfl⟩
-- slices.ContainsFunc[[]meddler/api.Global,meddler/api.Global]
def gc55 : AFn := ⟨[.tmp 4],
 .seq (.region [
 ⟨(some 4), .move (.val (.bool false)), none⟩])
 (.seq (.region [
 ⟨(some 5), .move (.tmp 0), none⟩,
 ⟨(some 6), .move (.tmp 1), none⟩,
 ⟨(some 7), .call (.val (.fn 76 [] [])) [(.tmp 5), (.tmp 6)], none⟩,
 ⟨(some 8), .bin .geq (.tmp 7) (.val (.int .i64 0)), none⟩,
 ⟨(some 4), .move (.tmp 8), none⟩])
 (.ret))⟩
theorem ok55 : Tryd.prog.funcs[55]? = some Tryd.f55 ∧ compileFn Tryd.prog gh Tryd.f55 = some gc55 := ⟨Tryd.func55, by kernel_rfl⟩
-- meddler/check.all[meddler/api.Global]$1
def gc56 : AFn := ⟨[.tmp 3],
 .seq (.region [
 ⟨(some 2), .box 32 2 [] (.tmp 0), none⟩,
 ⟨(some 3), .move (.val (.bool false)), none⟩])
 (.seq (.region [
 ⟨(some 4), .load false 1 (.tmp 1), none⟩,
 ⟨(some 5), .load true 2 (.tmp 2), none⟩,
 ⟨(some 6), .call (.tmp 4) [(.tmp 5)], none⟩,
 ⟨(some 7), .un .not (.tmp 6), none⟩,
 ⟨(some 3), .move (.tmp 7), none⟩])
 (.ret))⟩
theorem ok56 : Tryd.prog.funcs[56]? = some Tryd.f56 ∧ compileFn Tryd.prog gh Tryd.f56 = some gc56 := ⟨Tryd.func56, by kernel_rfl⟩
-- strings.IndexByte
def gc57 : AFn := ⟨[.tmp 4],
 .seq (.region [
 ⟨(some 4), .move (.val (.int .i64 0)), none⟩])
 (.seq (.region [
 ⟨(some 5), .move (.tmp 0), none⟩,
 ⟨(some 6), .move (.tmp 1), none⟩,
 ⟨(some 7), .call (.val (.fn 77 [] [])) [(.tmp 5), (.tmp 6)], none⟩,
 ⟨(some 4), .move (.tmp 7), none⟩])
 (.ret))⟩
theorem ok57 : Tryd.prog.funcs[57]? = some Tryd.f57 ∧ compileFn Tryd.prog gh Tryd.f57 = some gc57 := ⟨Tryd.func57, by kernel_rfl⟩
-- strings.Trim
def gc58 : AFn := ⟨[.tmp 4],
 .seq (.region [
 ⟨(some 4), .move (.val (.str [])), none⟩])
 (.seq (.seq (.region [
 ⟨(some 7), .move (.tmp 0), none⟩,
 ⟨(some 8), .bin .eql (.tmp 7) (.val (.str [])), none⟩,
 ⟨(some 9), .move (.tmp 8), none⟩,
 ⟨(some 10), .move (.tmp 1), (some (9, false))⟩,
 ⟨(some 11), .bin .eql (.tmp 10) (.val (.str [])), (some (9, false))⟩,
 ⟨(some 12), .pick (.tmp 9) (.val (.bool true)) (.tmp 11), none⟩])
 (.cond (.tmp 12)
 (.seq (.region [
 ⟨(some 13), .move (.tmp 0), none⟩,
 ⟨(some 4), .move (.tmp 13), none⟩])
 (.ret))
 (.skip)))
 (.seq (.seq (.region [
 ⟨(some 14), .move (.tmp 1), none⟩,
 ⟨(some 15), .lenStr (.tmp 14), none⟩,
 ⟨(some 16), .bin .eql (.tmp 15) (.val (.int .i64 1)), none⟩,
 ⟨(some 17), .move (.tmp 16), none⟩,
 ⟨(some 18), .move (.tmp 1), (some (17, true))⟩,
 ⟨(some 19), .istr (.tmp 18) (.val (.int .i64 0)), (some (17, true))⟩,
 ⟨(some 20), .bin .lss (.tmp 19) (.val (.int .u8 128)), (some (17, true))⟩,
 ⟨(some 21), .pick (.tmp 17) (.tmp 20) (.val (.bool false)), none⟩])
 (.cond (.tmp 21)
 (.seq (.draw 4 [
 ⟨⟨(some 22), .move (.tmp 0), none⟩, .P, 0, [], [], false, none, []⟩,
 ⟨⟨(some 23), .move (.tmp 1), none⟩, .P, 0, [], [], false, none, []⟩,
 ⟨⟨(some 24), .istr (.tmp 23) (.val (.int .i64 0)), none⟩, .P, 0, [], [], false, none, []⟩,
 ⟨⟨(some 25), .call (.val (.fn 79 [] [])) [(.tmp 22), (.tmp 24)], none⟩, .C, 0, [], [], false, none, []⟩,
 ⟨⟨(some 26), .move (.tmp 1), none⟩, .P, 2, [], [], false, none, []⟩,
 ⟨⟨(some 27), .istr (.tmp 26) (.val (.int .i64 0)), none⟩, .P, 2, [], [], false, none, []⟩,
 ⟨⟨(some 28), .call (.val (.fn 78 [] [])) [(.tmp 25), (.tmp 27)], none⟩, .C, 2, [], [], false, none, []⟩,
 ⟨⟨(some 4), .move (.tmp 28), none⟩, .P, 4, [], [], false, none, []⟩])
 (.ret))
 (.skip)))
 (.seq (.seq (.region [
 ⟨(some 30), .move (.tmp 1), none⟩,
 ⟨(some 31), .call (.val (.fn 80 [] [])) [(.tmp 30)], none⟩,
 ⟨(some 29), .move (.tmp 31), none⟩,
 ⟨(some 32), .extract (.tmp 29) 0, none⟩,
 ⟨(some 33), .extract (.tmp 29) 1, none⟩,
 ⟨(some 5), .alloc 94 256 [] (.agg (List.replicate 256 (.bool false))), none⟩,
 ⟨none, .store 256 (.tmp 5) (.tmp 32), none⟩,
 ⟨(some 6), .move (.tmp 33), none⟩])
 (.seq (.region [
 ⟨(some 34), .move (.tmp 6), none⟩])
 (.cond (.tmp 34)
 (.seq (.region [
 ⟨(some 35), .move (.tmp 0), none⟩,
 ⟨(some 36), .call (.val (.fn 82 [] [])) [(.tmp 35), (.tmp 5)], none⟩,
 ⟨(some 37), .call (.val (.fn 81 [] [])) [(.tmp 36), (.tmp 5)], none⟩,
 ⟨(some 4), .move (.tmp 37), none⟩])
 (.ret))
 (.skip))))
 (.seq (.region [
 ⟨(some 38), .move (.tmp 0), none⟩,
 ⟨(some 39), .move (.tmp 1), none⟩,
 ⟨(some 40), .call (.val (.fn 84 [] [])) [(.tmp 38), (.tmp 39)], none⟩,
 ⟨(some 41), .move (.tmp 1), none⟩,
 ⟨(some 42), .call (.val (.fn 83 [] [])) [(.tmp 40), (.tmp 41)], none⟩,
 ⟨(some 4), .move (.tmp 42), none⟩])
 (.ret)))))⟩
theorem ok58 : Tryd.prog.funcs[58]? = some Tryd.f58 ∧ compileFn Tryd.prog gh Tryd.f58 = some gc58 := ⟨Tryd.func58, by kernel_rfl⟩
-- slices.ContainsFunc[[]meddler/api.Array,meddler/api.Array]
def gc59 : AFn := ⟨[.tmp 4],
 .seq (.region [
 ⟨(some 4), .move (.val (.bool false)), none⟩])
 (.seq (.region [
 ⟨(some 5), .move (.tmp 0), none⟩,
 ⟨(some 6), .move (.tmp 1), none⟩,
 ⟨(some 7), .call (.val (.fn 68 [] [])) [(.tmp 5), (.tmp 6)], none⟩,
 ⟨(some 8), .bin .geq (.tmp 7) (.val (.int .i64 0)), none⟩,
 ⟨(some 4), .move (.tmp 8), none⟩])
 (.ret))⟩
theorem ok59 : Tryd.prog.funcs[59]? = some Tryd.f59 ∧ compileFn Tryd.prog gh Tryd.f59 = some gc59 := ⟨Tryd.func59, by kernel_rfl⟩
-- meddler/check.all[meddler/api.Array]$1
def gc60 : AFn := ⟨[.tmp 3],
 .seq (.region [
 ⟨(some 2), .box 34 2 [] (.tmp 0), none⟩,
 ⟨(some 3), .move (.val (.bool false)), none⟩])
 (.seq (.region [
 ⟨(some 4), .load false 1 (.tmp 1), none⟩,
 ⟨(some 5), .load true 2 (.tmp 2), none⟩,
 ⟨(some 6), .call (.tmp 4) [(.tmp 5)], none⟩,
 ⟨(some 7), .un .not (.tmp 6), none⟩,
 ⟨(some 3), .move (.tmp 7), none⟩])
 (.ret))⟩
theorem ok60 : Tryd.prog.funcs[60]? = some Tryd.f60 ∧ compileFn Tryd.prog gh Tryd.f60 = some gc60 := ⟨Tryd.func60, by kernel_rfl⟩
-- meddler/check.isExpr
def gc61 : AFn := ⟨[.tmp 2],
 .seq (.region [
 ⟨(some 1), .box 37 5 [] (.tmp 0), none⟩,
 ⟨(some 2), .move (.val (.bool false)), none⟩])
 (.seq (.region [
 ⟨(some 3), .move (.val (.bool false)), none⟩,
 ⟨(some 4), .move (.val (.int .i64 0)), none⟩])
 (.seq (.seq (.region [
 ⟨(some 5), .faddr 0 (.tmp 1), none⟩,
 ⟨(some 6), .load false 1 (.tmp 5), none⟩])
 (.block 0
 (.seq (.region [
 ⟨(some 8), .bin .eql (.tmp 6) (.val (.int .i64 1)), none⟩,
 ⟨(some 7), .move (.tmp 8), none⟩])
 (.cond (.tmp 7)
 (.region [
 ⟨(some 9), .faddr 1 (.tmp 1), none⟩,
 ⟨(some 10), .load false 1 (.tmp 9), none⟩,
 ⟨(some 11), .call (.val (.fn 29 [] [])) [(.tmp 10), (.val (.int .i64 0)), (.val (.int .i64 2147483647))], none⟩,
 ⟨(some 3), .move (.tmp 11), none⟩])
 (.seq (.region [
 ⟨(some 13), .bin .eql (.tmp 6) (.val (.int .i64 4)), none⟩,
 ⟨(some 12), .move (.tmp 13), none⟩])
 (.cond (.tmp 12)
 (.region [
 ⟨(some 3), .move (.val (.bool true)), none⟩])
 (.seq (.region [
 ⟨(some 15), .bin .eql (.tmp 6) (.val (.int .i64 2)), none⟩,
 ⟨(some 14), .move (.tmp 15), none⟩])
 (.cond (.tmp 14)
 (.region [
 ⟨(some 16), .faddr 3 (.tmp 1), none⟩,
 ⟨(some 17), .load false 1 (.tmp 16), none⟩,
 ⟨(some 18), .call (.val (.fn 25 [] [])) [(.tmp 17)], none⟩,
 ⟨(some 3), .move (.tmp 18), none⟩])
 (.seq (.region [
 ⟨(some 20), .bin .eql (.tmp 6) (.val (.int .i64 3)), none⟩,
 ⟨(some 19), .move (.tmp 20), none⟩])
 (.cond (.tmp 19)
 (.region [
 ⟨(some 21), .faddr 3 (.tmp 1), none⟩,
 ⟨(some 22), .load false 1 (.tmp 21), none⟩,
 ⟨(some 23), .call (.val (.fn 25 [] [])) [(.tmp 22)], none⟩,
 ⟨(some 3), .move (.tmp 23), none⟩,
 ⟨(some 4), .move (.val (.int .i64 1)), none⟩])
 (.seq (.region [
 ⟨(some 25), .bin .eql (.tmp 6) (.val (.int .i64 6)), none⟩,
 ⟨(some 24), .move (.tmp 25), none⟩])
 (.cond (.tmp 24)
 (.region [
 ⟨(some 3), .move (.val (.bool true)), none⟩,
 ⟨(some 4), .move (.val (.int .i64 1)), none⟩])
 (.seq (.region [
 ⟨(some 27), .bin .eql (.tmp 6) (.val (.int .i64 5)), none⟩,
 ⟨(some 26), .move (.tmp 27), none⟩])
 (.cond (.tmp 26)
 (.region [
 ⟨(some 28), .faddr 2 (.tmp 1), none⟩,
 ⟨(some 29), .load false 1 (.tmp 28), none⟩,
 ⟨(some 30), .call (.val (.fn 29 [] [])) [(.tmp 29), (.val (.int .i64 1)), (.val (.int .i64 5))], none⟩,
 ⟨(some 3), .move (.tmp 30), none⟩,
 ⟨(some 4), .move (.val (.int .i64 2)), none⟩])
 (.skip)))))))))))))))
 (.seq (.region [
 ⟨(some 31), .move (.tmp 3), none⟩,
 ⟨(some 32), .move (.tmp 31), none⟩,
 ⟨(some 33), .faddr 4 (.tmp 1), (some (32, true))⟩,
 ⟨(some 34), .load false 1 (.tmp 33), (some (32, true))⟩,
 ⟨(some 35), .lenSl (.tmp 34), (some (32, true))⟩,
 ⟨(some 36), .move (.tmp 4), (some (32, true))⟩,
 ⟨(some 37), .bin .eql (.tmp 35) (.tmp 36), (some (32, true))⟩,
 ⟨(some 38), .pick (.tmp 32) (.tmp 37) (.val (.bool false)), none⟩,
 ⟨(some 39), .move (.tmp 38), none⟩,
 ⟨(some 40), .faddr 4 (.tmp 1), (some (39, true))⟩,
 ⟨(some 41), .load false 1 (.tmp 40), (some (39, true))⟩,
 ⟨(some 42), .call (.val (.fn 67 [] [])) [(.tmp 41), (.val (.fn 61 [] []))], (some (39, true))⟩,
 ⟨(some 43), .pick (.tmp 39) (.tmp 42) (.val (.bool false)), none⟩,
 ⟨(some 2), .move (.tmp 43), none⟩])
 (.ret))))⟩
theorem ok61 : Tryd.prog.funcs[61]? = some Tryd.f61 ∧ compileFn Tryd.prog gh Tryd.f61 = some gc61 := ⟨Tryd.func61, by kernel_rfl⟩
-- meddler/check.isCond
def gc62 : AFn := ⟨[.tmp 2],
 .seq (.region [
 ⟨(some 1), .box 41 4 [] (.tmp 0), none⟩,
 ⟨(some 2), .move (.val (.bool false)), none⟩])
 (.seq (.region [
 ⟨(some 3), .move (.val (.bool true)), none⟩,
 ⟨(some 4), .move (.val (.int .i64 0)), none⟩,
 ⟨(some 5), .move (.val (.int .i64 0)), none⟩])
 (.seq (.seq (.region [
 ⟨(some 6), .faddr 0 (.tmp 1), none⟩,
 ⟨(some 7), .load false 1 (.tmp 6), none⟩])
 (.block 0
 (.seq (.region [
 ⟨(some 9), .bin .eql (.tmp 7) (.val (.int .i64 1)), none⟩,
 ⟨(some 8), .move (.tmp 9), none⟩])
 (.cond (.tmp 8)
 (.region [
 ⟨(some 10), .faddr 1 (.tmp 1), none⟩,
 ⟨(some 11), .load false 1 (.tmp 10), none⟩,
 ⟨(some 12), .call (.val (.fn 29 [] [])) [(.tmp 11), (.val (.int .i64 1)), (.val (.int .i64 6))], none⟩,
 ⟨(some 3), .move (.tmp 12), none⟩,
 ⟨(some 5), .move (.val (.int .i64 2)), none⟩])
 (.seq (.region [
 ⟨(some 14), .bin .eql (.tmp 7) (.val (.int .i64 2)), none⟩,
 ⟨(some 13), .move (.tmp 14), none⟩])
 (.cond (.tmp 13)
 (.region [
 ⟨(some 4), .move (.val (.int .i64 1)), none⟩])
 (.seq (.seq (.region [
 ⟨(some 16), .bin .eql (.tmp 7) (.val (.int .i64 3)), none⟩,
 ⟨(some 15), .move (.tmp 16), none⟩])
 (.cond (.tmp 15)
 (.skip)
 (.region [
 ⟨(some 17), .bin .eql (.tmp 7) (.val (.int .i64 4)), none⟩,
 ⟨(some 15), .move (.tmp 17), none⟩])))
 (.cond (.tmp 15)
 (.region [
 ⟨(some 4), .move (.val (.int .i64 2)), none⟩])
 (.region [
 ⟨(some 3), .move (.val (.bool false)), none⟩])))))))))
 (.seq (.region [
 ⟨(some 18), .move (.tmp 3), none⟩,
 ⟨(some 19), .move (.tmp 18), none⟩,
 ⟨(some 20), .faddr 3 (.tmp 1), (some (19, true))⟩,
 ⟨(some 21), .load false 1 (.tmp 20), (some (19, true))⟩,
 ⟨(some 22), .lenSl (.tmp 21), (some (19, true))⟩,
 ⟨(some 23), .move (.tmp 4), (some (19, true))⟩,
 ⟨(some 24), .bin .eql (.tmp 22) (.tmp 23), (some (19, true))⟩,
 ⟨(some 25), .pick (.tmp 19) (.tmp 24) (.val (.bool false)), none⟩,
 ⟨(some 26), .move (.tmp 25), none⟩,
 ⟨(some 27), .faddr 2 (.tmp 1), (some (26, true))⟩,
 ⟨(some 28), .load false 1 (.tmp 27), (some (26, true))⟩,
 ⟨(some 29), .lenSl (.tmp 28), (some (26, true))⟩,
 ⟨(some 30), .move (.tmp 5), (some (26, true))⟩,
 ⟨(some 31), .bin .eql (.tmp 29) (.tmp 30), (some (26, true))⟩,
 ⟨(some 32), .pick (.tmp 26) (.tmp 31) (.val (.bool false)), none⟩,
 ⟨(some 33), .move (.tmp 32), none⟩,
 ⟨(some 34), .faddr 2 (.tmp 1), (some (33, true))⟩,
 ⟨(some 35), .load false 1 (.tmp 34), (some (33, true))⟩,
 ⟨(some 36), .call (.val (.fn 67 [] [])) [(.tmp 35), (.val (.fn 61 [] []))], (some (33, true))⟩,
 ⟨(some 37), .pick (.tmp 33) (.tmp 36) (.val (.bool false)), none⟩,
 ⟨(some 38), .move (.tmp 37), none⟩,
 ⟨(some 39), .faddr 3 (.tmp 1), (some (38, true))⟩,
 ⟨(some 40), .load false 1 (.tmp 39), (some (38, true))⟩,
 ⟨(some 41), .call (.val (.fn 70 [] [])) [(.tmp 40), (.val (.fn 62 [] []))], (some (38, true))⟩,
 ⟨(some 42), .pick (.tmp 38) (.tmp 41) (.val (.bool false)), none⟩,
 ⟨(some 2), .move (.tmp 42), none⟩])
 (.ret))))⟩
theorem ok62 : Tryd.prog.funcs[62]? = some Tryd.f62 ∧ compileFn Tryd.prog gh Tryd.f62 = some gc62 := ⟨Tryd.func62, by kernel_rfl⟩
-- slices.IndexFunc[[]meddler/api.Thread,meddler/api.Thread]
def gl63_1 : ACode := .seq (.region [
 ⟨(some 9), .bin .lss (.tmp 8) (.tmp 7), none⟩])
 (.seq (.cond (.tmp 9)
 (.skip)
 (.exit 0))
 (.seq (.block 1
 (.seq (.region [
 ⟨(some 10), .move (.tmp 8), none⟩,
 ⟨(some 5), .move (.tmp 10), none⟩])
 (.seq (.region [
 ⟨(some 11), .move (.tmp 1), none⟩,
 ⟨(some 12), .move (.tmp 0), none⟩,
 ⟨(some 13), .move (.tmp 5), none⟩,
 ⟨(some 14), .iaddr 3 (.tmp 12) (.tmp 13), none⟩,
 ⟨(some 15), .load true 3 (.tmp 14), none⟩,
 ⟨(some 16), .call (.tmp 11) [(.tmp 15)], none⟩])
 (.cond (.tmp 16)
 (.seq (.region [
 ⟨(some 17), .move (.tmp 5), none⟩,
 ⟨(some 4), .move (.tmp 17), none⟩])
 (.ret))
 (.skip)))))
 (.region [
 ⟨(some 18), .bin .add (.tmp 8) (.val (.int .i64 1)), none⟩,
 ⟨(some 8), .move (.tmp 18), none⟩])))
def gc63 : AFn := ⟨[.tmp 4],
 .seq (.region [
 ⟨(some 4), .move (.val (.int .i64 0)), none⟩])
 (.seq (.seq (.region [
 ⟨(some 6), .move (.tmp 0), none⟩,
 ⟨(some 7), .lenSl (.tmp 6), none⟩,
 ⟨(some 8), .move (.val (.int .i64 0)), none⟩])
 (.block 0
 (.loop gl63_1)))
 (.seq (.region [
 ⟨(some 4), .move (.val (.int .i64 (-1))), none⟩])
 (.ret)))⟩
theorem ok63 : Tryd.prog.funcs[63]? = some Tryd.f63 ∧ compileFn Tryd.prog gh Tryd.f63 = some gc63 := ⟨Tryd.func63, by kernel_rfl⟩
-- slices.IndexFunc[[]meddler/api.Stmt,meddler/api.Stmt]
def gl64_1 : ACode := .seq (.region [
 ⟨(some 9), .bin .lss (.tmp 8) (.tmp 7), none⟩])
 (.seq (.cond (.tmp 9)
 (.skip)
 (.exit 0))
 (.seq (.block 1
 (.seq (.region [
 ⟨(some 10), .move (.tmp 8), none⟩,
 ⟨(some 5), .move (.tmp 10), none⟩])
 (.seq (.region [
 ⟨(some 11), .move (.tmp 1), none⟩,
 ⟨(some 12), .move (.tmp 0), none⟩,
 ⟨(some 13), .move (.tmp 5), none⟩,
 ⟨(some 14), .iaddr 18 (.tmp 12) (.tmp 13), none⟩,
 ⟨(some 15), .load true 18 (.tmp 14), none⟩,
 ⟨(some 16), .call (.tmp 11) [(.tmp 15)], none⟩])
 (.cond (.tmp 16)
 (.seq (.region [
 ⟨(some 17), .move (.tmp 5), none⟩,
 ⟨(some 4), .move (.tmp 17), none⟩])
 (.ret))
 (.skip)))))
 (.region [
 ⟨(some 18), .bin .add (.tmp 8) (.val (.int .i64 1)), none⟩,
 ⟨(some 8), .move (.tmp 18), none⟩])))
def gc64 : AFn := ⟨[.tmp 4],
 .seq (.region [
 ⟨(some 4), .move (.val (.int .i64 0)), none⟩])
 (.seq (.seq (.region [
 ⟨(some 6), .move (.tmp 0), none⟩,
 ⟨(some 7), .lenSl (.tmp 6), none⟩,
 ⟨(some 8), .move (.val (.int .i64 0)), none⟩])
 (.block 0
 (.loop gl64_1)))
 (.seq (.region [
 ⟨(some 4), .move (.val (.int .i64 (-1))), none⟩])
 (.ret)))⟩
theorem ok64 : Tryd.prog.funcs[64]? = some Tryd.f64 ∧ compileFn Tryd.prog gh Tryd.f64 = some gc64 := ⟨Tryd.func64, by kernel_rfl⟩
-- meddler/check.Local
def gc65 : AFn := ⟨[.tmp 4],
 .seq (.region [
 ⟨(some 2), .box 30 3 [] (.tmp 0), none⟩,
 ⟨(some 4), .move (.val (.int .i64 0)), none⟩])
 (.seq (.region [
 ⟨(some 5), .move (.tmp 1), none⟩,
 ⟨(some 6), .faddr 1 (.tmp 2), none⟩,
 ⟨(some 7), .load false 1 (.tmp 6), none⟩,
 ⟨(some 8), .call (.val (.fn 42 [] [])) [(.tmp 5), (.tmp 7)], none⟩,
 ⟨(some 4), .move (.tmp 8), none⟩])
 (.ret))⟩
theorem ok65 : Tryd.prog.funcs[65]? = some Tryd.f65 ∧ compileFn Tryd.prog gh Tryd.f65 = some gc65 := ⟨Tryd.func65, by kernel_rfl⟩
-- meddler/check.Global
def gc66 : AFn := ⟨[.tmp 4],
 .seq (.region [
 ⟨(some 2), .box 27 4 [] (.tmp 0), none⟩,
 ⟨(some 3), .box 9 1 [] (.tmp 1), none⟩,
 ⟨(some 4), .move (.val (.int .i64 0)), none⟩])
 (.seq (.region [
 ⟨(some 5), .faddr 0 (.tmp 2), none⟩,
 ⟨(some 6), .load false 1 (.tmp 5), none⟩,
 ⟨(some 7), .mkfn 85 [] [(.tmp 3)], none⟩,
 ⟨(some 8), .call (.val (.fn 76 [] [])) [(.tmp 6), (.tmp 7)], none⟩,
 ⟨(some 4), .move (.tmp 8), none⟩])
 (.ret))⟩
theorem ok66 : Tryd.prog.funcs[66]? = some Tryd.f66 ∧ compileFn Tryd.prog gh Tryd.f66 = some gc66 := ⟨Tryd.func66, by kernel_rfl⟩
-- meddler/check.all[meddler/api.Expr]
def gc67 : AFn := ⟨[.tmp 4],
 .seq (.region [
 ⟨(some 3), .box 72 1 [] (.tmp 1), none⟩,
 ⟨(some 4), .move (.val (.bool false)), none⟩])
 (.seq (.region [
 ⟨(some 5), .move (.tmp 0), none⟩,
 ⟨(some 6), .mkfn 87 [] [(.tmp 3)], none⟩,
 ⟨(some 7), .call (.val (.fn 86 [] [])) [(.tmp 5), (.tmp 6)], none⟩,
 ⟨(some 8), .un .not (.tmp 7), none⟩,
 ⟨(some 4), .move (.tmp 8), none⟩])
 (.ret))⟩
theorem ok67 : Tryd.prog.funcs[67]? = some Tryd.f67 ∧ compileFn Tryd.prog gh Tryd.f67 = some gc67 := ⟨Tryd.func67, by kernel_rfl⟩
-- slices.IndexFunc[[]meddler/api.Array,meddler/api.Array]
def gl68_1 : ACode := .seq (.region [
 ⟨(some 9), .bin .lss (.tmp 8) (.tmp 7), none⟩])
 (.seq (.cond (.tmp 9)
 (.skip)
 (.exit 0))
 (.seq (.block 1
 (.seq (.region [
 ⟨(some 10), .move (.tmp 8), none⟩,
 ⟨(some 5), .move (.tmp 10), none⟩])
 (.seq (.region [
 ⟨(some 11), .move (.tmp 1), none⟩,
 ⟨(some 12), .move (.tmp 0), none⟩,
 ⟨(some 13), .move (.tmp 5), none⟩,
 ⟨(some 14), .iaddr 2 (.tmp 12) (.tmp 13), none⟩,
 ⟨(some 15), .load true 2 (.tmp 14), none⟩,
 ⟨(some 16), .call (.tmp 11) [(.tmp 15)], none⟩])
 (.cond (.tmp 16)
 (.seq (.region [
 ⟨(some 17), .move (.tmp 5), none⟩,
 ⟨(some 4), .move (.tmp 17), none⟩])
 (.ret))
 (.skip)))))
 (.region [
 ⟨(some 18), .bin .add (.tmp 8) (.val (.int .i64 1)), none⟩,
 ⟨(some 8), .move (.tmp 18), none⟩])))
def gc68 : AFn := ⟨[.tmp 4],
 .seq (.region [
 ⟨(some 4), .move (.val (.int .i64 0)), none⟩])
 (.seq (.seq (.region [
 ⟨(some 6), .move (.tmp 0), none⟩,
 ⟨(some 7), .lenSl (.tmp 6), none⟩,
 ⟨(some 8), .move (.val (.int .i64 0)), none⟩])
 (.block 0
 (.loop gl68_1)))
 (.seq (.region [
 ⟨(some 4), .move (.val (.int .i64 (-1))), none⟩])
 (.ret)))⟩
theorem ok68 : Tryd.prog.funcs[68]? = some Tryd.f68 ∧ compileFn Tryd.prog gh Tryd.f68 = some gc68 := ⟨Tryd.func68, by kernel_rfl⟩
-- meddler/check.Array$1
def gc69 : AFn := ⟨[.tmp 3],
 .seq (.region [
 ⟨(some 2), .box 34 2 [] (.tmp 0), none⟩,
 ⟨(some 3), .move (.val (.bool false)), none⟩])
 (.seq (.region [
 ⟨(some 4), .faddr 0 (.tmp 2), none⟩,
 ⟨(some 5), .load false 1 (.tmp 4), none⟩,
 ⟨(some 6), .load false 1 (.tmp 1), none⟩,
 ⟨(some 7), .bin .eql (.tmp 5) (.tmp 6), none⟩,
 ⟨(some 3), .move (.tmp 7), none⟩])
 (.ret))⟩
theorem ok69 : Tryd.prog.funcs[69]? = some Tryd.f69 ∧ compileFn Tryd.prog gh Tryd.f69 = some gc69 := ⟨Tryd.func69, by kernel_rfl⟩
-- meddler/check.all[meddler/api.Cond]
def gc70 : AFn := ⟨[.tmp 4],
 .seq (.region [
 ⟨(some 3), .box 73 1 [] (.tmp 1), none⟩,
 ⟨(some 4), .move (.val (.bool false)), none⟩])
 (.seq (.region [
 ⟨(some 5), .move (.tmp 0), none⟩,
 ⟨(some 6), .mkfn 89 [] [(.tmp 3)], none⟩,
 ⟨(some 7), .call (.val (.fn 88 [] [])) [(.tmp 5), (.tmp 6)], none⟩,
 ⟨(some 8), .un .not (.tmp 7), none⟩,
 ⟨(some 4), .move (.tmp 8), none⟩])
 (.ret))⟩
theorem ok70 : Tryd.prog.funcs[70]? = some Tryd.f70 ∧ compileFn Tryd.prog gh Tryd.f70 = some gc70 := ⟨Tryd.func70, by kernel_rfl⟩
-- slices.Index[[]string,string]
def gl71_1 : ACode := .seq (.region [
 ⟨(some 9), .bin .lss (.tmp 8) (.tmp 7), none⟩])
 (.seq (.cond (.tmp 9)
 (.skip)
 (.exit 0))
 (.seq (.block 1
 (.seq (.region [
 ⟨(some 10), .move (.tmp 8), none⟩,
 ⟨(some 5), .move (.tmp 10), none⟩])
 (.seq (.region [
 ⟨(some 11), .move (.tmp 1), none⟩,
 ⟨(some 12), .move (.tmp 0), none⟩,
 ⟨(some 13), .move (.tmp 5), none⟩,
 ⟨(some 14), .iaddr 1 (.tmp 12) (.tmp 13), none⟩,
 ⟨(some 15), .load false 1 (.tmp 14), none⟩,
 ⟨(some 16), .bin .eql (.tmp 11) (.tmp 15), none⟩])
 (.cond (.tmp 16)
 (.seq (.region [
 ⟨(some 17), .move (.tmp 5), none⟩,
 ⟨(some 4), .move (.tmp 17), none⟩])
 (.ret))
 (.skip)))))
 (.region [
 ⟨(some 18), .bin .add (.tmp 8) (.val (.int .i64 1)), none⟩,
 ⟨(some 8), .move (.tmp 18), none⟩])))
def gc71 : AFn := ⟨[.tmp 4],
 .seq (.region [
 ⟨(some 4), .move (.val (.int .i64 0)), none⟩])
 (.seq (.seq (.region [
 ⟨(some 6), .move (.tmp 0), none⟩,
 ⟨(some 7), .lenSl (.tmp 6), none⟩,
 ⟨(some 8), .move (.val (.int .i64 0)), none⟩])
 (.block 0
 (.loop gl71_1)))
 (.seq (.region [
 ⟨(some 4), .move (.val (.int .i64 (-1))), none⟩])
 (.ret)))⟩
theorem ok71 : Tryd.prog.funcs[71]? = some Tryd.f71 ∧ compileFn Tryd.prog gh Tryd.f71 = some gc71 := ⟨Tryd.func71, by kernel_rfl⟩
-- meddler/meddlerref7.expr
def gl72_1 : ACode := .seq (.seq (.region [
 ⟨(some 55), .move (.tmp 3), none⟩,
 ⟨(some 56), .faddr 4 (.tmp 1), none⟩,
 ⟨(some 57), .load false 1 (.tmp 56), none⟩,
 ⟨(some 58), .lenSl (.tmp 57), none⟩,
 ⟨(some 59), .bin .lss (.tmp 55) (.tmp 58), none⟩])
 (.cond (.tmp 59)
 (.skip)
 (.exit 0)))
 (.seq (.block 1
 (.seq (.region [
 ⟨(some 62), .faddr 4 (.tmp 1), none⟩,
 ⟨(some 63), .load false 1 (.tmp 62), none⟩,
 ⟨(some 64), .move (.tmp 3), none⟩,
 ⟨(some 65), .iaddr 5 (.tmp 63) (.tmp 64), none⟩,
 ⟨(some 66), .load true 5 (.tmp 65), none⟩,
 ⟨(some 67), .call (.val (.fn 72 [] [])) [(.tmp 66)], none⟩,
 ⟨(some 68), .un .not (.tmp 67), none⟩])
 (.cond (.tmp 68)
 (.seq (.region [
 ⟨(some 2), .move (.val (.bool false)), none⟩])
 (.ret))
 (.skip))))
 (.region [
 ⟨(some 60), .move (.tmp 3), none⟩,
 ⟨(some 61), .bin .add (.tmp 60) (.val (.int .i64 1)), none⟩,
 ⟨(some 3), .move (.tmp 61), none⟩]))
def gc72 : AFn := ⟨[.tmp 2],
 .seq (.region [
 ⟨(some 1), .box 37 5 [] (.tmp 0), none⟩,
 ⟨(some 2), .move (.val (.bool false)), none⟩])
 (.seq (.seq (.draw 2 [
 ⟨⟨(some 4), .faddr 0 (.tmp 1), none⟩, .P, 0, [], [], false, none, []⟩,
 ⟨⟨(some 5), .load false 1 (.tmp 4), none⟩, .L, 0, [], [], false, none, []⟩,
 ⟨⟨(some 6), .call (.val (.fn 90 [] [])) [(.tmp 5)], none⟩, .C, 0, [], [1], false, none, []⟩,
 ⟨⟨(some 7), .faddr 4 (.tmp 1), none⟩, .P, 2, [], [], false, none, []⟩,
 ⟨⟨(some 8), .load false 1 (.tmp 7), none⟩, .L, 2, [0, 1], [], false, (some 1), []⟩,
 ⟨⟨(some 9), .lenSl (.tmp 8), none⟩, .P, 2, [], [], false, none, []⟩,
 ⟨⟨(some 10), .bin .neq (.tmp 6) (.tmp 9), none⟩, .P, 2, [], [], false, none, []⟩,
 ⟨⟨(some 11), .move (.tmp 10), none⟩, .P, 2, [], [], false, none, []⟩,
 ⟨⟨(some 12), .faddr 0 (.tmp 1), (some (11, false))⟩, .P, 2, [], [], false, none, []⟩,
 ⟨⟨(some 13), .load false 1 (.tmp 12), (some (11, false))⟩, .L, 2, [], [], false, none, []⟩,
 ⟨⟨(some 14), .bin .eql (.tmp 13) (.val (.int .i64 5)), (some (11, false))⟩, .P, 2, [], [], false, none, []⟩,
 ⟨⟨(some 15), .move (.tmp 14), (some (11, false))⟩, .P, 2, [], [], false, none, []⟩,
 ⟨⟨(some 16), .faddr 2 (.tmp 1), (some (15, true))⟩, .P, 2, [], [], false, none, []⟩,
 ⟨⟨(some 17), .load false 1 (.tmp 16), (some (15, true))⟩, .L, 2, [], [], false, none, []⟩,
 ⟨⟨(some 18), .bin .lss (.tmp 17) (.val (.int .i64 1)), (some (15, true))⟩, .P, 2, [], [], false, none, []⟩,
 ⟨⟨(some 19), .move (.tmp 18), (some (15, true))⟩, .P, 2, [], [], false, none, []⟩,
 ⟨⟨(some 20), .faddr 2 (.tmp 1), (some (19, false))⟩, .P, 2, [], [], false, none, []⟩,
 ⟨⟨(some 21), .load false 1 (.tmp 20), (some (19, false))⟩, .L, 2, [], [], false, none, []⟩,
 ⟨⟨(some 22), .bin .gtr (.tmp 21) (.val (.int .i64 5)), (some (19, false))⟩, .P, 2, [], [], false, none, []⟩,
 ⟨⟨(some 23), .pick (.tmp 19) (.val (.bool true)) (.tmp 22), (some (15, true))⟩, .P, 2, [], [], false, none, []⟩,
 ⟨⟨(some 24), .pick (.tmp 15) (.tmp 23) (.val (.bool false)), (some (11, false))⟩, .P, 2, [], [], false, none, []⟩,
 ⟨⟨(some 25), .pick (.tmp 11) (.val (.bool true)) (.tmp 24), none⟩, .P, 2, [], [], false, none, []⟩,
 ⟨⟨(some 26), .move (.tmp 25), none⟩, .P, 2, [], [], false, none, []⟩,
 ⟨⟨(some 27), .faddr 0 (.tmp 1), (some (26, false))⟩, .P, 2, [], [], false, none, []⟩,
 ⟨⟨(some 28), .load false 1 (.tmp 27), (some (26, false))⟩, .L, 2, [], [], false, none, []⟩,
 ⟨⟨(some 29), .bin .eql (.tmp 28) (.val (.int .i64 1)), (some (26, false))⟩, .P, 2, [], [], false, none, []⟩,
 ⟨⟨(some 30), .move (.tmp 29), (some (26, false))⟩, .P, 2, [], [], false, none, []⟩,
 ⟨⟨(some 31), .faddr 1 (.tmp 1), (some (30, true))⟩, .P, 2, [], [], false, none, []⟩,
 ⟨⟨(some 32), .load false 1 (.tmp 31), (some (30, true))⟩, .L, 2, [], [], false, none, []⟩,
 ⟨⟨(some 33), .bin .lss (.tmp 32) (.val (.int .i64 0)), (some (30, true))⟩, .P, 2, [], [], false, none, []⟩,
 ⟨⟨(some 34), .move (.tmp 33), (some (30, true))⟩, .P, 2, [], [], false, none, []⟩,
 ⟨⟨(some 35), .faddr 1 (.tmp 1), (some (34, false))⟩, .P, 2, [], [], false, none, []⟩,
 ⟨⟨(some 36), .load false 1 (.tmp 35), (some (34, false))⟩, .L, 2, [], [], false, none, []⟩,
 ⟨⟨(some 37), .bin .gtr (.tmp 36) (.val (.int .i64 2147483647)), (some (34, false))⟩, .P, 2, [], [], false, none, []⟩,
 ⟨⟨(some 38), .pick (.tmp 34) (.val (.bool true)) (.tmp 37), (some (30, true))⟩, .P, 2, [], [], false, none, []⟩,
 ⟨⟨(some 39), .pick (.tmp 30) (.tmp 38) (.val (.bool false)), (some (26, false))⟩, .P, 2, [], [], false, none, []⟩,
 ⟨⟨(some 40), .pick (.tmp 26) (.val (.bool true)) (.tmp 39), none⟩, .P, 2, [], [], false, none, []⟩])
 (.cond (.tmp 40)
 (.seq (.region [
 ⟨(some 2), .move (.val (.bool false)), none⟩])
 (.ret))
 (.skip)))
 (.seq (.seq (.region [
 ⟨(some 41), .faddr 0 (.tmp 1), none⟩,
 ⟨(some 42), .load false 1 (.tmp 41), none⟩,
 ⟨(some 43), .bin .eql (.tmp 42) (.val (.int .i64 2)), none⟩,
 ⟨(some 44), .move (.tmp 43), none⟩,
 ⟨(some 45), .faddr 0 (.tmp 1), (some (44, false))⟩,
 ⟨(some 46), .load false 1 (.tmp 45), (some (44, false))⟩,
 ⟨(some 47), .bin .eql (.tmp 46) (.val (.int .i64 3)), (some (44, false))⟩,
 ⟨(some 48), .pick (.tmp 44) (.val (.bool true)) (.tmp 47), none⟩,
 ⟨(some 49), .move (.tmp 48), none⟩,
 ⟨(some 50), .faddr 3 (.tmp 1), (some (49, true))⟩,
 ⟨(some 51), .load false 1 (.tmp 50), (some (49, true))⟩,
 ⟨(some 52), .call (.val (.fn 43 [] [])) [(.tmp 51)], (some (49, true))⟩,
 ⟨(some 53), .un .not (.tmp 52), (some (49, true))⟩,
 ⟨(some 54), .pick (.tmp 49) (.tmp 53) (.val (.bool false)), none⟩])
 (.cond (.tmp 54)
 (.seq (.region [
 ⟨(some 2), .move (.val (.bool false)), none⟩])
 (.ret))
 (.skip)))
 (.seq (.seq (.region [
 ⟨(some 3), .move (.val (.int .i64 0)), none⟩])
 (.block 0
 (.loop gl72_1)))
 (.seq (.region [
 ⟨(some 2), .move (.val (.bool true)), none⟩])
 (.ret)))))⟩
theorem ok72 : Tryd.prog.funcs[72]? = some Tryd.f72 ∧ compileFn Tryd.prog gh Tryd.f72 = some gc72 := ⟨Tryd.func72, by kernel_rfl⟩
-- meddler/meddlerref7.cond
def gl73_1 : ACode := .seq (.seq (.region [
 ⟨(some 42), .move (.tmp 5), none⟩,
 ⟨(some 43), .move (.tmp 3), none⟩,
 ⟨(some 44), .bin .lss (.tmp 42) (.tmp 43), none⟩])
 (.cond (.tmp 44)
 (.skip)
 (.exit 1)))
 (.seq (.block 2
 (.seq (.region [
 ⟨(some 47), .faddr 2 (.tmp 1), none⟩,
 ⟨(some 48), .load false 1 (.tmp 47), none⟩,
 ⟨(some 49), .move (.tmp 5), none⟩,
 ⟨(some 50), .iaddr 5 (.tmp 48) (.tmp 49), none⟩,
 ⟨(some 51), .load true 5 (.tmp 50), none⟩,
 ⟨(some 52), .call (.val (.fn 72 [] [])) [(.tmp 51)], none⟩,
 ⟨(some 53), .un .not (.tmp 52), none⟩])
 (.cond (.tmp 53)
 (.seq (.region [
 ⟨(some 2), .move (.val (.bool false)), none⟩])
 (.ret))
 (.skip))))
 (.region [
 ⟨(some 45), .move (.tmp 5), none⟩,
 ⟨(some 46), .bin .add (.tmp 45) (.val (.int .i64 1)), none⟩,
 ⟨(some 5), .move (.tmp 46), none⟩]))
def gl73_2 : ACode := .seq (.seq (.region [
 ⟨(some 54), .move (.tmp 6), none⟩,
 ⟨(some 55), .move (.tmp 4), none⟩,
 ⟨(some 56), .bin .lss (.tmp 54) (.tmp 55), none⟩])
 (.cond (.tmp 56)
 (.skip)
 (.exit 3)))
 (.seq (.block 4
 (.seq (.region [
 ⟨(some 59), .faddr 3 (.tmp 1), none⟩,
 ⟨(some 60), .load false 1 (.tmp 59), none⟩,
 ⟨(some 61), .move (.tmp 6), none⟩,
 ⟨(some 62), .iaddr 4 (.tmp 60) (.tmp 61), none⟩,
 ⟨(some 63), .load true 4 (.tmp 62), none⟩,
 ⟨(some 64), .call (.val (.fn 73 [] [])) [(.tmp 63)], none⟩,
 ⟨(some 65), .un .not (.tmp 64), none⟩])
 (.cond (.tmp 65)
 (.seq (.region [
 ⟨(some 2), .move (.val (.bool false)), none⟩])
 (.ret))
 (.skip))))
 (.region [
 ⟨(some 57), .move (.tmp 6), none⟩,
 ⟨(some 58), .bin .add (.tmp 57) (.val (.int .i64 1)), none⟩,
 ⟨(some 6), .move (.tmp 58), none⟩]))
def gc73 : AFn := ⟨[.tmp 2],
 .seq (.region [
 ⟨(some 1), .box 41 4 [] (.tmp 0), none⟩,
 ⟨(some 2), .move (.val (.bool false)), none⟩])
 (.seq (.region [
 ⟨(some 3), .move (.val (.int .i64 0)), none⟩,
 ⟨(some 4), .move (.val (.int .i64 2)), none⟩])
 (.seq (.seq (.region [
 ⟨(some 7), .faddr 0 (.tmp 1), none⟩,
 ⟨(some 8), .load false 1 (.tmp 7), none⟩])
 (.block 0
 (.seq (.region [
 ⟨(some 10), .bin .eql (.tmp 8) (.val (.int .i64 1)), none⟩,
 ⟨(some 9), .move (.tmp 10), none⟩])
 (.cond (.tmp 9)
 (.region [
 ⟨(some 3), .move (.val (.int .i64 2)), none⟩,
 ⟨(some 4), .move (.val (.int .i64 0)), none⟩])
 (.seq (.region [
 ⟨(some 12), .bin .eql (.tmp 8) (.val (.int .i64 2)), none⟩,
 ⟨(some 11), .move (.tmp 12), none⟩])
 (.cond (.tmp 11)
 (.region [
 ⟨(some 4), .move (.val (.int .i64 1)), none⟩])
 (.seq (.seq (.region [
 ⟨(some 14), .bin .eql (.tmp 8) (.val (.int .i64 3)), none⟩,
 ⟨(some 13), .move (.tmp 14), none⟩])
 (.cond (.tmp 13)
 (.skip)
 (.region [
 ⟨(some 15), .bin .eql (.tmp 8) (.val (.int .i64 4)), none⟩,
 ⟨(some 13), .move (.tmp 15), none⟩])))
 (.cond (.tmp 13)
 (.skip)
 (.seq (.region [
 ⟨(some 2), .move (.val (.bool false)), none⟩])
 (.ret))))))))))
 (.seq (.seq (.region [
 ⟨(some 16), .faddr 2 (.tmp 1), none⟩,
 ⟨(some 17), .load false 1 (.tmp 16), none⟩,
 ⟨(some 18), .lenSl (.tmp 17), none⟩,
 ⟨(some 19), .move (.tmp 3), none⟩,
 ⟨(some 20), .bin .neq (.tmp 18) (.tmp 19), none⟩,
 ⟨(some 21), .move (.tmp 20), none⟩,
 ⟨(some 22), .faddr 3 (.tmp 1), (some (21, false))⟩,
 ⟨(some 23), .load false 1 (.tmp 22), (some (21, false))⟩,
 ⟨(some 24), .lenSl (.tmp 23), (some (21, false))⟩,
 ⟨(some 25), .move (.tmp 4), (some (21, false))⟩,
 ⟨(some 26), .bin .neq (.tmp 24) (.tmp 25), (some (21, false))⟩,
 ⟨(some 27), .pick (.tmp 21) (.val (.bool true)) (.tmp 26), none⟩,
 ⟨(some 28), .move (.tmp 27), none⟩,
 ⟨(some 29), .move (.tmp 3), (some (28, false))⟩,
 ⟨(some 30), .bin .eql (.tmp 29) (.val (.int .i64 2)), (some (28, false))⟩,
 ⟨(some 31), .move (.tmp 30), (some (28, false))⟩,
 ⟨(some 32), .faddr 1 (.tmp 1), (some (31, true))⟩,
 ⟨(some 33), .load false 1 (.tmp 32), (some (31, true))⟩,
 ⟨(some 34), .bin .lss (.tmp 33) (.val (.int .i64 1)), (some (31, true))⟩,
 ⟨(some 35), .move (.tmp 34), (some (31, true))⟩,
 ⟨(some 36), .faddr 1 (.tmp 1), (some (35, false))⟩,
 ⟨(some 37), .load false 1 (.tmp 36), (some (35, false))⟩,
 ⟨(some 38), .bin .gtr (.tmp 37) (.val (.int .i64 6)), (some (35, false))⟩,
 ⟨(some 39), .pick (.tmp 35) (.val (.bool true)) (.tmp 38), (some (31, true))⟩,
 ⟨(some 40), .pick (.tmp 31) (.tmp 39) (.val (.bool false)), (some (28, false))⟩,
 ⟨(some 41), .pick (.tmp 28) (.val (.bool true)) (.tmp 40), none⟩])
 (.cond (.tmp 41)
 (.seq (.region [
 ⟨(some 2), .move (.val (.bool false)), none⟩])
 (.ret))
 (.skip)))
 (.seq (.seq (.region [
 ⟨(some 5), .move (.val (.int .i64 0)), none⟩])
 (.block 1
 (.loop gl73_1)))
 (.seq (.seq (.region [
 ⟨(some 6), .move (.val (.int .i64 0)), none⟩])
 (.block 3
 (.loop gl73_2)))
 (.seq (.region [
 ⟨(some 2), .move (.val (.bool true)), none⟩])
 (.ret)))))))⟩
theorem ok73 : Tryd.prog.funcs[73]? = some Tryd.f73 ∧ compileFn Tryd.prog gh Tryd.f73 = some gc73 := ⟨Tryd.func73, by kernel_rfl⟩
-- meddler/meddlerref7.place
def gl74_1 : ACode := .seq (.seq (.region [
 ⟨(some 6), .move (.tmp 5), none⟩,
 ⟨(some 7), .move (.tmp 0), none⟩,
 ⟨(some 8), .lenSl (.tmp 7), none⟩,
 ⟨(some 9), .bin .lss (.tmp 6) (.tmp 8), none⟩])
 (.cond (.tmp 9)
 (.skip)
 (.exit 0)))
 (.seq (.block 1
 (.seq (.region [
 ⟨(some 12), .move (.tmp 0), none⟩,
 ⟨(some 13), .move (.tmp 5), none⟩,
 ⟨(some 14), .iaddr 1 (.tmp 12) (.tmp 13), none⟩,
 ⟨(some 15), .load false 1 (.tmp 14), none⟩,
 ⟨(some 16), .move (.tmp 1), none⟩,
 ⟨(some 17), .bin .eql (.tmp 15) (.tmp 16), none⟩])
 (.cond (.tmp 17)
 (.seq (.region [
 ⟨(some 18), .move (.tmp 5), none⟩,
 ⟨(some 4), .move (.tmp 18), none⟩])
 (.ret))
 (.skip))))
 (.region [
 ⟨(some 10), .move (.tmp 5), none⟩,
 ⟨(some 11), .bin .add (.tmp 10) (.val (.int .i64 1)), none⟩,
 ⟨(some 5), .move (.tmp 11), none⟩]))
def gc74 : AFn := ⟨[.tmp 4],
 .seq (.region [
 ⟨(some 4), .move (.val (.int .i64 0)), none⟩])
 (.seq (.seq (.region [
 ⟨(some 5), .move (.val (.int .i64 0)), none⟩])
 (.block 0
 (.loop gl74_1)))
 (.seq (.region [
 ⟨(some 4), .move (.val (.int .i64 (-1))), none⟩])
 (.ret)))⟩
theorem ok74 : Tryd.prog.funcs[74]? = some Tryd.f74 ∧ compileFn Tryd.prog gh Tryd.f74 = some gc74 := ⟨Tryd.func74, by kernel_rfl⟩
-- slices.IndexFunc[[]string,string]
def gl75_1 : ACode := .seq (.region [
 ⟨(some 9), .bin .lss (.tmp 8) (.tmp 7), none⟩])
 (.seq (.cond (.tmp 9)
 (.skip)
 (.exit 0))
 (.seq (.block 1
 (.seq (.region [
 ⟨(some 10), .move (.tmp 8), none⟩,
 ⟨(some 5), .move (.tmp 10), none⟩])
 (.seq (.region [
 ⟨(some 11), .move (.tmp 1), none⟩,
 ⟨(some 12), .move (.tmp 0), none⟩,
 ⟨(some 13), .move (.tmp 5), none⟩,
 ⟨(some 14), .iaddr 1 (.tmp 12) (.tmp 13), none⟩,
 ⟨(some 15), .load false 1 (.tmp 14), none⟩,
 ⟨(some 16), .call (.tmp 11) [(.tmp 15)], none⟩])
 (.cond (.tmp 16)
 (.seq (.region [
 ⟨(some 17), .move (.tmp 5), none⟩,
 ⟨(some 4), .move (.tmp 17), none⟩])
 (.ret))
 (.skip)))))
 (.region [
 ⟨(some 18), .bin .add (.tmp 8) (.val (.int .i64 1)), none⟩,
 ⟨(some 8), .move (.tmp 18), none⟩])))
def gc75 : AFn := ⟨[.tmp 4],
 .seq (.region [
 ⟨(some 4), .move (.val (.int .i64 0)), none⟩])
 (.seq (.seq (.region [
 ⟨(some 6), .move (.tmp 0), none⟩,
 ⟨(some 7), .lenSl (.tmp 6), none⟩,
 ⟨(some 8), .move (.val (.int .i64 0)), none⟩])
 (.block 0
 (.loop gl75_1)))
 (.seq (.region [
 ⟨(some 4), .move (.val (.int .i64 (-1))), none⟩])
 (.ret)))⟩
theorem ok75 : Tryd.prog.funcs[75]? = some Tryd.f75 ∧ compileFn Tryd.prog gh Tryd.f75 = some gc75 := ⟨Tryd.func75, by kernel_rfl⟩
-- slices.IndexFunc[[]meddler/api.Global,meddler/api.Global]
def gl76_1 : ACode := .seq (.region [
 ⟨(some 9), .bin .lss (.tmp 8) (.tmp 7), none⟩])
 (.seq (.cond (.tmp 9)
 (.skip)
 (.exit 0))
 (.seq (.block 1
 (.seq (.region [
 ⟨(some 10), .move (.tmp 8), none⟩,
 ⟨(some 5), .move (.tmp 10), none⟩])
 (.seq (.region [
 ⟨(some 11), .move (.tmp 1), none⟩,
 ⟨(some 12), .move (.tmp 0), none⟩,
 ⟨(some 13), .move (.tmp 5), none⟩,
 ⟨(some 14), .iaddr 2 (.tmp 12) (.tmp 13), none⟩,
 ⟨(some 15), .load true 2 (.tmp 14), none⟩,
 ⟨(some 16), .call (.tmp 11) [(.tmp 15)], none⟩])
 (.cond (.tmp 16)
 (.seq (.region [
 ⟨(some 17), .move (.tmp 5), none⟩,
 ⟨(some 4), .move (.tmp 17), none⟩])
 (.ret))
 (.skip)))))
 (.region [
 ⟨(some 18), .bin .add (.tmp 8) (.val (.int .i64 1)), none⟩,
 ⟨(some 8), .move (.tmp 18), none⟩])))
def gc76 : AFn := ⟨[.tmp 4],
 .seq (.region [
 ⟨(some 4), .move (.val (.int .i64 0)), none⟩])
 (.seq (.seq (.region [
 ⟨(some 6), .move (.tmp 0), none⟩,
 ⟨(some 7), .lenSl (.tmp 6), none⟩,
 ⟨(some 8), .move (.val (.int .i64 0)), none⟩])
 (.block 0
 (.loop gl76_1)))
 (.seq (.region [
 ⟨(some 4), .move (.val (.int .i64 (-1))), none⟩])
 (.ret)))⟩
theorem ok76 : Tryd.prog.funcs[76]? = some Tryd.f76 ∧ compileFn Tryd.prog gh Tryd.f76 = some gc76 := ⟨Tryd.func76, by kernel_rfl⟩
-- internal/stringslite.IndexByte
def gc77 : AFn := ⟨[.tmp 4],
 .seq (.region [
 ⟨(some 4), .move (.val (.int .i64 0)), none⟩])
 (.seq (.region [
 ⟨(some 5), .move (.tmp 0), none⟩,
 ⟨(some 6), .move (.tmp 1), none⟩,
 ⟨(some 7), .call (.val (.fn 91 [] [])) [(.tmp 5), (.tmp 6)], none⟩,
 ⟨(some 4), .move (.tmp 7), none⟩])
 (.ret))⟩
theorem ok77 : Tryd.prog.funcs[77]? = some Tryd.f77 ∧ compileFn Tryd.prog gh Tryd.f77 = some gc77 := ⟨Tryd.func77, by kernel_rfl⟩
-- strings.trimLeftByte
def gl78_1 : ACode := .seq (.seq (.region [
 ⟨(some 5), .move (.tmp 0), none⟩,
 ⟨(some 6), .lenStr (.tmp 5), none⟩,
 ⟨(some 7), .bin .gtr (.tmp 6) (.val (.int .i64 0)), none⟩,
 ⟨(some 8), .move (.tmp 7), none⟩,
 ⟨(some 9), .move (.tmp 0), (some (8, true))⟩,
 ⟨(some 10), .istr (.tmp 9) (.val (.int .i64 0)), (some (8, true))⟩,
 ⟨(some 11), .move (.tmp 1), (some (8, true))⟩,
 ⟨(some 12), .bin .eql (.tmp 10) (.tmp 11), (some (8, true))⟩,
 ⟨(some 13), .pick (.tmp 8) (.tmp 12) (.val (.bool false)), none⟩])
 (.cond (.tmp 13)
 (.skip)
 (.exit 0)))
 (.block 1
 (.region [
 ⟨(some 14), .move (.tmp 0), none⟩,
 ⟨(some 15), .slStr (.tmp 14) (some (.val (.int .i64 1))) none, none⟩,
 ⟨(some 0), .move (.tmp 15), none⟩]))
def gc78 : AFn := ⟨[.tmp 4],
 .seq (.region [
 ⟨(some 4), .move (.val (.str [])), none⟩])
 (.seq (.block 0
 (.loop gl78_1))
 (.seq (.region [
 ⟨(some 16), .move (.tmp 0), none⟩,
 ⟨(some 4), .move (.tmp 16), none⟩])
 (.ret)))⟩
theorem ok78 : Tryd.prog.funcs[78]? = some Tryd.f78 ∧ compileFn Tryd.prog gh Tryd.f78 = some gc78 := ⟨Tryd.func78, by kernel_rfl⟩
-- strings.trimRightByte
def gl79_1 : ACode := .seq (.seq (.region [
 ⟨(some 5), .move (.tmp 0), none⟩,
 ⟨(some 6), .lenStr (.tmp 5), none⟩,
 ⟨(some 7), .bin .gtr (.tmp 6) (.val (.int .i64 0)), none⟩,
 ⟨(some 8), .move (.tmp 7), none⟩,
 ⟨(some 9), .move (.tmp 0), (some (8, true))⟩,
 ⟨(some 10), .move (.tmp 0), (some (8, true))⟩,
 ⟨(some 11), .lenStr (.tmp 10), (some (8, true))⟩,
 ⟨(some 12), .bin .sub (.tmp 11) (.val (.int .i64 1)), (some (8, true))⟩,
 ⟨(some 13), .istr (.tmp 9) (.tmp 12), (some (8, true))⟩,
 ⟨(some 14), .move (.tmp 1), (some (8, true))⟩,
 ⟨(some 15), .bin .eql (.tmp 13) (.tmp 14), (some (8, true))⟩,
 ⟨(some 16), .pick (.tmp 8) (.tmp 15) (.val (.bool false)), none⟩])
 (.cond (.tmp 16)
 (.skip)
 (.exit 0)))
 (.block 1
 (.region [
 ⟨(some 17), .move (.tmp 0), none⟩,
 ⟨(some 18), .move (.tmp 0), none⟩,
 ⟨(some 19), .lenStr (.tmp 18), none⟩,
 ⟨(some 20), .bin .sub (.tmp 19) (.val (.int .i64 1)), none⟩,
 ⟨(some 21), .slStr (.tmp 17) none (some (.tmp 20)), none⟩,
 ⟨(some 0), .move (.tmp 21), none⟩]))
def gc79 : AFn := ⟨[.tmp 4],
 .seq (.region [
 ⟨(some 4), .move (.val (.str [])), none⟩])
 (.seq (.block 0
 (.loop gl79_1))
 (.seq (.region [
 ⟨(some 22), .move (.tmp 0), none⟩,
 ⟨(some 4), .move (.tmp 22), none⟩])
 (.ret)))⟩
theorem ok79 : Tryd.prog.funcs[79]? = some Tryd.f79 ∧ compileFn Tryd.prog gh Tryd.f79 = some gc79 := ⟨Tryd.func79, by kernel_rfl⟩
-- strings.makeASCIISet
def gl80_1 : ACode := .seq (.seq (.region [
 ⟨(some 6), .move (.tmp 4), none⟩,
 ⟨(some 7), .move (.tmp 0), none⟩,
 ⟨(some 8), .lenStr (.tmp 7), none⟩,
 ⟨(some 9), .bin .lss (.tmp 6) (.tmp 8), none⟩])
 (.cond (.tmp 9)
 (.skip)
 (.exit 0)))
 (.seq (.block 1
 (.seq (.region [
 ⟨(some 12), .move (.tmp 0), none⟩,
 ⟨(some 13), .move (.tmp 4), none⟩,
 ⟨(some 14), .istr (.tmp 12) (.tmp 13), none⟩,
 ⟨(some 5), .move (.tmp 14), none⟩])
 (.seq (.seq (.region [
 ⟨(some 15), .move (.tmp 5), none⟩,
 ⟨(some 16), .bin .geq (.tmp 15) (.val (.int .u8 128)), none⟩])
 (.cond (.tmp 16)
 (.seq (.region [
 ⟨(some 17), .load true 256 (.tmp 2), none⟩,
 ⟨none, .store 256 (.tmp 2) (.tmp 17), none⟩,
 ⟨(some 3), .move (.val (.bool false)), none⟩])
 (.ret))
 (.skip)))
 (.region [
 ⟨(some 18), .move (.tmp 5), none⟩,
 ⟨(some 19), .aaddr 256 1 (.tmp 2) (.tmp 18), none⟩,
 ⟨none, .store 1 (.tmp 19) (.val (.bool true)), none⟩]))))
 (.region [
 ⟨(some 10), .move (.tmp 4), none⟩,
 ⟨(some 11), .bin .add (.tmp 10) (.val (.int .i64 1)), none⟩,
 ⟨(some 4), .move (.tmp 11), none⟩]))
def gc80 : AFn := ⟨[.cell 2 true 256, .tmp 3],
 .seq (.region [
 ⟨(some 2), .alloc 94 256 [] (.agg (List.replicate 256 (.bool false))), none⟩,
 ⟨(some 3), .move (.val (.bool false)), none⟩])
 (.seq (.seq (.region [
 ⟨(some 4), .move (.val (.int .i64 0)), none⟩])
 (.block 0
 (.loop gl80_1)))
 (.seq (.region [
 ⟨(some 20), .load true 256 (.tmp 2), none⟩,
 ⟨none, .store 256 (.tmp 2) (.tmp 20), none⟩,
 ⟨(some 3), .move (.val (.bool true)), none⟩])
 (.ret)))⟩
theorem ok80 : Tryd.prog.funcs[80]? = some Tryd.f80 ∧ compileFn Tryd.prog gh Tryd.f80 = some gc80 := ⟨Tryd.func80, by kernel_rfl⟩
-- strings.trimLeftASCII
def gl81_1 : ACode := .seq (.seq (.region [
 ⟨(some 5), .move (.tmp 0), none⟩,
 ⟨(some 6), .lenStr (.tmp 5), none⟩,
 ⟨(some 7), .bin .gtr (.tmp 6) (.val (.int .i64 0)), none⟩])
 (.cond (.tmp 7)
 (.skip)
 (.exit 0)))
 (.block 1
 (.seq (.seq (.region [
 ⟨(some 8), .move (.tmp 1), none⟩,
 ⟨(some 9), .move (.tmp 0), none⟩,
 ⟨(some 10), .istr (.tmp 9) (.val (.int .i64 0)), none⟩,
 ⟨(some 11), .call (.val (.fn 92 [] [])) [(.tmp 8), (.tmp 10)], none⟩,
 ⟨(some 12), .un .not (.tmp 11), none⟩])
 (.cond (.tmp 12)
 (.exit 0)
 (.skip)))
 (.region [
 ⟨(some 13), .move (.tmp 0), none⟩,
 ⟨(some 14), .slStr (.tmp 13) (some (.val (.int .i64 1))) none, none⟩,
 ⟨(some 0), .move (.tmp 14), none⟩])))
def gc81 : AFn := ⟨[.tmp 4],
 .seq (.region [
 ⟨(some 4), .move (.val (.str [])), none⟩])
 (.seq (.block 0
 (.loop gl81_1))
 (.seq (.region [
 ⟨(some 15), .move (.tmp 0), none⟩,
 ⟨(some 4), .move (.tmp 15), none⟩])
 (.ret)))⟩
theorem ok81 : Tryd.prog.funcs[81]? = some Tryd.f81 ∧ compileFn Tryd.prog gh Tryd.f81 = some gc81 := ⟨Tryd.func81, by kernel_rfl⟩
-- strings.trimRightASCII
def gl82_1 : ACode := .seq (.seq (.region [
 ⟨(some 5), .move (.tmp 0), none⟩,
 ⟨(some 6), .lenStr (.tmp 5), none⟩,
 ⟨(some 7), .bin .gtr (.tmp 6) (.val (.int .i64 0)), none⟩])
 (.cond (.tmp 7)
 (.skip)
 (.exit 0)))
 (.block 1
 (.seq (.seq (.region [
 ⟨(some 8), .move (.tmp 1), none⟩,
 ⟨(some 9), .move (.tmp 0), none⟩,
 ⟨(some 10), .move (.tmp 0), none⟩,
 ⟨(some 11), .lenStr (.tmp 10), none⟩,
 ⟨(some 12), .bin .sub (.tmp 11) (.val (.int .i64 1)), none⟩,
 ⟨(some 13), .istr (.tmp 9) (.tmp 12), none⟩,
 ⟨(some 14), .call (.val (.fn 92 [] [])) [(.tmp 8), (.tmp 13)], none⟩,
 ⟨(some 15), .un .not (.tmp 14), none⟩])
 (.cond (.tmp 15)
 (.exit 0)
 (.skip)))
 (.region [
 ⟨(some 16), .move (.tmp 0), none⟩,
 ⟨(some 17), .move (.tmp 0), none⟩,
 ⟨(some 18), .lenStr (.tmp 17), none⟩,
 ⟨(some 19), .bin .sub (.tmp 18) (.val (.int .i64 1)), none⟩,
 ⟨(some 20), .slStr (.tmp 16) none (some (.tmp 19)), none⟩,
 ⟨(some 0), .move (.tmp 20), none⟩])))
def gc82 : AFn := ⟨[.tmp 4],
 .seq (.region [
 ⟨(some 4), .move (.val (.str [])), none⟩])
 (.seq (.block 0
 (.loop gl82_1))
 (.seq (.region [
 ⟨(some 21), .move (.tmp 0), none⟩,
 ⟨(some 4), .move (.tmp 21), none⟩])
 (.ret)))⟩
theorem ok82 : Tryd.prog.funcs[82]? = some Tryd.f82 ∧ compileFn Tryd.prog gh Tryd.f82 = some gc82 := ⟨Tryd.func82, by kernel_rfl⟩
-- strings.trimLeftUnicode
def gl83_1 : ACode := .seq (.seq (.region [
 ⟨(some 7), .move (.tmp 0), none⟩,
 ⟨(some 8), .lenStr (.tmp 7), none⟩,
 ⟨(some 9), .bin .gtr (.tmp 8) (.val (.int .i64 0)), none⟩])
 (.cond (.tmp 9)
 (.skip)
 (.exit 0)))
 (.block 1
 (.seq (.region [
 ⟨(some 11), .move (.tmp 0), none⟩,
 ⟨(some 12), .call (.val (.fn 93 [] [])) [(.tmp 11)], none⟩,
 ⟨(some 10), .move (.tmp 12), none⟩,
 ⟨(some 13), .extract (.tmp 10) 0, none⟩,
 ⟨(some 14), .extract (.tmp 10) 1, none⟩,
 ⟨(some 5), .move (.tmp 13), none⟩,
 ⟨(some 6), .move (.tmp 14), none⟩])
 (.seq (.seq (.region [
 ⟨(some 15), .move (.tmp 1), none⟩,
 ⟨(some 16), .move (.tmp 5), none⟩,
 ⟨(some 17), .call (.val (.fn 94 [] [])) [(.tmp 15), (.tmp 16)], none⟩,
 ⟨(some 18), .un .not (.tmp 17), none⟩])
 (.cond (.tmp 18)
 (.exit 0)
 (.skip)))
 (.region [
 ⟨(some 19), .move (.tmp 0), none⟩,
 ⟨(some 20), .move (.tmp 6), none⟩,
 ⟨(some 21), .slStr (.tmp 19) (some (.tmp 20)) none, none⟩,
 ⟨(some 0), .move (.tmp 21), none⟩]))))
def gc83 : AFn := ⟨[.tmp 4],
 .seq (.region [
 ⟨(some 4), .move (.val (.str [])), none⟩])
 (.seq (.block 0
 (.loop gl83_1))
 (.seq (.region [
 ⟨(some 22), .move (.tmp 0), none⟩,
 ⟨(some 4), .move (.tmp 22), none⟩])
 (.ret)))⟩
theorem ok83 : Tryd.prog.funcs[83]? = some Tryd.f83 ∧ compileFn Tryd.prog gh Tryd.f83 = some gc83 := ⟨Tryd.func83, by kernel_rfl⟩
-- strings.trimRightUnicode
def gl84_1 : ACode := .seq (.seq (.region [
 ⟨(some 7), .move (.tmp 0), none⟩,
 ⟨(some 8), .lenStr (.tmp 7), none⟩,
 ⟨(some 9), .bin .gtr (.tmp 8) (.val (.int .i64 0)), none⟩])
 (.cond (.tmp 9)
 (.skip)
 (.exit 0)))
 (.block 1
 (.seq (.region [
 ⟨(some 10), .move (.tmp 0), none⟩,
 ⟨(some 11), .move (.tmp 0), none⟩,
 ⟨(some 12), .lenStr (.tmp 11), none⟩,
 ⟨(some 13), .bin .sub (.tmp 12) (.val (.int .i64 1)), none⟩,
 ⟨(some 14), .istr (.tmp 10) (.tmp 13), none⟩,
 ⟨(some 15), .conv .i32 (.tmp 14), none⟩,
 ⟨(some 5), .move (.tmp 15), none⟩,
 ⟨(some 6), .move (.val (.int .i64 1)), none⟩])
 (.seq (.seq (.region [
 ⟨(some 16), .move (.tmp 5), none⟩,
 ⟨(some 17), .bin .geq (.tmp 16) (.val (.int .i32 128)), none⟩])
 (.cond (.tmp 17)
 (.region [
 ⟨(some 19), .move (.tmp 0), none⟩,
 ⟨(some 20), .call (.val (.fn 95 [] [])) [(.tmp 19)], none⟩,
 ⟨(some 18), .move (.tmp 20), none⟩,
 ⟨(some 21), .extract (.tmp 18) 0, none⟩,
 ⟨(some 22), .extract (.tmp 18) 1, none⟩,
 ⟨(some 5), .move (.tmp 21), none⟩,
 ⟨(some 6), .move (.tmp 22), none⟩])
 (.skip)))
 (.seq (.seq (.region [
 ⟨(some 23), .move (.tmp 1), none⟩,
 ⟨(some 24), .move (.tmp 5), none⟩,
 ⟨(some 25), .call (.val (.fn 94 [] [])) [(.tmp 23), (.tmp 24)], none⟩,
 ⟨(some 26), .un .not (.tmp 25), none⟩])
 (.cond (.tmp 26)
 (.exit 0)
 (.skip)))
 (.region [
 ⟨(some 27), .move (.tmp 0), none⟩,
 ⟨(some 28), .move (.tmp 0), none⟩,
 ⟨(some 29), .lenStr (.tmp 28), none⟩,
 ⟨(some 30), .move (.tmp 6), none⟩,
 ⟨(some 31), .bin .sub (.tmp 29) (.tmp 30), none⟩,
 ⟨(some 32), .slStr (.tmp 27) none (some (.tmp 31)), none⟩,
 ⟨(some 0), .move (.tmp 32), none⟩])))))
def gc84 : AFn := ⟨[.tmp 4],
 .seq (.region [
 ⟨(some 4), .move (.val (.str [])), none⟩])
 (.seq (.block 0
 (.loop gl84_1))
 (.seq (.region [
 ⟨(some 33), .move (.tmp 0), none⟩,
 ⟨(some 4), .move (.tmp 33), none⟩])
 (.ret)))⟩
theorem ok84 : Tryd.prog.funcs[84]? = some Tryd.f84 ∧ compileFn Tryd.prog gh Tryd.f84 = some gc84 := ⟨Tryd.func84, by kernel_rfl⟩
-- meddler/check.Global$1
def gc85 : AFn := ⟨[.tmp 3],
 .seq (.region [
 ⟨(some 2), .box 32 2 [] (.tmp 0), none⟩,
 ⟨(some 3), .move (.val (.bool false)), none⟩])
 (.seq (.region [
 ⟨(some 4), .faddr 0 (.tmp 2), none⟩,
 ⟨(some 5), .load false 1 (.tmp 4), none⟩,
 ⟨(some 6), .load false 1 (.tmp 1), none⟩,
 ⟨(some 7), .bin .eql (.tmp 5) (.tmp 6), none⟩,
 ⟨(some 3), .move (.tmp 7), none⟩])
 (.ret))⟩
theorem ok85 : Tryd.prog.funcs[85]? = some Tryd.f85 ∧ compileFn Tryd.prog gh Tryd.f85 = some gc85 := ⟨Tryd.func85, by kernel_rfl⟩
-- slices.ContainsFunc[[]meddler/api.Expr,meddler/api.Expr]
def gc86 : AFn := ⟨[.tmp 4],
 .seq (.region [
 ⟨(some 4), .move (.val (.bool false)), none⟩])
 (.seq (.region [
 ⟨(some 5), .move (.tmp 0), none⟩,
 ⟨(some 6), .move (.tmp 1), none⟩,
 ⟨(some 7), .call (.val (.fn 96 [] [])) [(.tmp 5), (.tmp 6)], none⟩,
 ⟨(some 8), .bin .geq (.tmp 7) (.val (.int .i64 0)), none⟩,
 ⟨(some 4), .move (.tmp 8), none⟩])
 (.ret))⟩
theorem ok86 : Tryd.prog.funcs[86]? = some Tryd.f86 ∧ compileFn Tryd.prog gh Tryd.f86 = some gc86 := ⟨Tryd.func86, by kernel_rfl⟩
-- meddler/check.all[meddler/api.Expr]$1
def gc87 : AFn := ⟨[.tmp 3],
 .seq (.region [
 ⟨(some 2), .box 37 5 [] (.tmp 0), none⟩,
 ⟨(some 3), .move (.val (.bool false)), none⟩])
 (.seq (.region [
 ⟨(some 4), .load false 1 (.tmp 1), none⟩,
 ⟨(some 5), .load true 5 (.tmp 2), none⟩,
 ⟨(some 6), .call (.tmp 4) [(.tmp 5)], none⟩,
 ⟨(some 7), .un .not (.tmp 6), none⟩,
 ⟨(some 3), .move (.tmp 7), none⟩])
 (.ret))⟩
theorem ok87 : Tryd.prog.funcs[87]? = some Tryd.f87 ∧ compileFn Tryd.prog gh Tryd.f87 = some gc87 := ⟨Tryd.func87, by kernel_rfl⟩
-- slices.ContainsFunc[[]meddler/api.Cond,meddler/api.Cond]
def gc88 : AFn := ⟨[.tmp 4],
 .seq (.region [
 ⟨(some 4), .move (.val (.bool false)), none⟩])
 (.seq (.region [
 ⟨(some 5), .move (.tmp 0), none⟩,
 ⟨(some 6), .move (.tmp 1), none⟩,
 ⟨(some 7), .call (.val (.fn 97 [] [])) [(.tmp 5), (.tmp 6)], none⟩,
 ⟨(some 8), .bin .geq (.tmp 7) (.val (.int .i64 0)), none⟩,
 ⟨(some 4), .move (.tmp 8), none⟩])
 (.ret))⟩
theorem ok88 : Tryd.prog.funcs[88]? = some Tryd.f88 ∧ compileFn Tryd.prog gh Tryd.f88 = some gc88 := ⟨Tryd.func88, by kernel_rfl⟩
-- meddler/check.all[meddler/api.Cond]$1
def gc89 : AFn := ⟨[.tmp 3],
 .seq (.region [
 ⟨(some 2), .box 41 4 [] (.tmp 0), none⟩,
 ⟨(some 3), .move (.val (.bool false)), none⟩])
 (.seq (.region [
 ⟨(some 4), .load false 1 (.tmp 1), none⟩,
 ⟨(some 5), .load true 4 (.tmp 2), none⟩,
 ⟨(some 6), .call (.tmp 4) [(.tmp 5)], none⟩,
 ⟨(some 7), .un .not (.tmp 6), none⟩,
 ⟨(some 3), .move (.tmp 7), none⟩])
 (.ret))⟩
theorem ok89 : Tryd.prog.funcs[89]? = some Tryd.f89 ∧ compileFn Tryd.prog gh Tryd.f89 = some gc89 := ⟨Tryd.func89, by kernel_rfl⟩
-- meddler/meddlerref7.kids
def gc90 : AFn := ⟨[.tmp 2],
 .seq (.region [
 ⟨(some 2), .move (.val (.int .i64 0)), none⟩])
 (.seq (.seq (.region [
 ⟨(some 3), .move (.tmp 0), none⟩])
 (.block 0
 (.seq (.seq (.region [
 ⟨(some 5), .bin .eql (.tmp 3) (.val (.int .i64 1)), none⟩,
 ⟨(some 4), .move (.tmp 5), none⟩])
 (.cond (.tmp 4)
 (.skip)
 (.seq (.region [
 ⟨(some 6), .bin .eql (.tmp 3) (.val (.int .i64 2)), none⟩,
 ⟨(some 4), .move (.tmp 6), none⟩])
 (.cond (.tmp 4)
 (.skip)
 (.region [
 ⟨(some 7), .bin .eql (.tmp 3) (.val (.int .i64 4)), none⟩,
 ⟨(some 4), .move (.tmp 7), none⟩])))))
 (.cond (.tmp 4)
 (.seq (.region [
 ⟨(some 2), .move (.val (.int .i64 0)), none⟩])
 (.ret))
 (.seq (.seq (.region [
 ⟨(some 9), .bin .eql (.tmp 3) (.val (.int .i64 3)), none⟩,
 ⟨(some 8), .move (.tmp 9), none⟩])
 (.cond (.tmp 8)
 (.skip)
 (.region [
 ⟨(some 10), .bin .eql (.tmp 3) (.val (.int .i64 6)), none⟩,
 ⟨(some 8), .move (.tmp 10), none⟩])))
 (.cond (.tmp 8)
 (.seq (.region [
 ⟨(some 2), .move (.val (.int .i64 1)), none⟩])
 (.ret))
 (.seq (.region [
 ⟨(some 12), .bin .eql (.tmp 3) (.val (.int .i64 5)), none⟩,
 ⟨(some 11), .move (.tmp 12), none⟩])
 (.cond (.tmp 11)
 (.seq (.region [
 ⟨(some 2), .move (.val (.int .i64 2)), none⟩])
 (.ret))
 (.skip)))))))))
 (.seq (.region [
 ⟨(some 2), .move (.val (.int .i64 (-1))), none⟩])
 (.ret)))⟩
theorem ok90 : Tryd.prog.funcs[90]? = some Tryd.f90 ∧ compileFn Tryd.prog gh Tryd.f90 = some gc90 := ⟨Tryd.func90, by kernel_rfl⟩
-- (*strings.asciiSet).contains
def gc92 : AFn := ⟨[.tmp 4],
 .seq (.region [
 ⟨(some 4), .move (.val (.bool false)), none⟩])
 (.seq (.region [
 ⟨(some 5), .move (.tmp 0), none⟩,
 ⟨(some 6), .move (.tmp 1), none⟩,
 ⟨(some 7), .nilChk (.tmp 5), none⟩,
 ⟨(some 8), .aaddr 256 1 (.tmp 7) (.tmp 6), none⟩,
 ⟨(some 9), .load false 1 (.tmp 8), none⟩,
 ⟨(some 4), .move (.tmp 9), none⟩])
 (.ret))⟩
theorem ok92 : Tryd.prog.funcs[92]? = some Tryd.f92 ∧ compileFn Tryd.prog gh Tryd.f92 = some gc92 := ⟨Tryd.func92, by kernel_rfl⟩
-- unicode/utf8.DecodeRuneInString
def gc93 : AFn := ⟨[.tmp 2, .tmp 3],
 .seq (.region [
 ⟨(some 2), .move (.val (.int .i32 0)), none⟩,
 ⟨(some 3), .move (.val (.int .i64 0)), none⟩])
 (.seq (.seq (.region [
 ⟨(some 4), .move (.tmp 0), none⟩,
 ⟨(some 5), .bin .neq (.tmp 4) (.val (.str [])), none⟩,
 ⟨(some 6), .move (.tmp 5), none⟩,
 ⟨(some 7), .move (.tmp 0), (some (6, true))⟩,
 ⟨(some 8), .istr (.tmp 7) (.val (.int .i64 0)), (some (6, true))⟩,
 ⟨(some 9), .bin .lss (.tmp 8) (.val (.int .u8 128)), (some (6, true))⟩,
 ⟨(some 10), .pick (.tmp 6) (.tmp 9) (.val (.bool false)), none⟩])
 (.cond (.tmp 10)
 (.seq (.region [
 ⟨(some 11), .move (.tmp 0), none⟩,
 ⟨(some 12), .istr (.tmp 11) (.val (.int .i64 0)), none⟩,
 ⟨(some 13), .conv .i32 (.tmp 12), none⟩,
 ⟨(some 2), .move (.tmp 13), none⟩,
 ⟨(some 3), .move (.val (.int .i64 1)), none⟩])
 (.ret))
 (.region [
 ⟨(some 15), .move (.tmp 0), none⟩,
 ⟨(some 16), .call (.val (.fn 98 [] [])) [(.tmp 15)], none⟩,
 ⟨(some 14), .move (.tmp 16), none⟩,
 ⟨(some 17), .extract (.tmp 14) 0, none⟩,
 ⟨(some 18), .extract (.tmp 14) 1, none⟩,
 ⟨(some 2), .move (.tmp 17), none⟩,
 ⟨(some 3), .move (.tmp 18), none⟩])))
 (.ret))⟩
theorem ok93 : Tryd.prog.funcs[93]? = some Tryd.f93 ∧ compileFn Tryd.prog gh Tryd.f93 = some gc93 := ⟨Tryd.func93, by kernel_rfl⟩
-- strings.ContainsRune
def gc94 : AFn := ⟨[.tmp 4],
 .seq (.region [
 ⟨(some 4), .move (.val (.bool false)), none⟩])
 (.seq (.region [
 ⟨(some 5), .move (.tmp 0), none⟩,
 ⟨(some 6), .move (.tmp 1), none⟩,
 ⟨(some 7), .call (.val (.fn 99 [] [])) [(.tmp 5), (.tmp 6)], none⟩,
 ⟨(some 8), .bin .geq (.tmp 7) (.val (.int .i64 0)), none⟩,
 ⟨(some 4), .move (.tmp 8), none⟩])
 (.ret))⟩
theorem ok94 : Tryd.prog.funcs[94]? = some Tryd.f94 ∧ compileFn Tryd.prog gh Tryd.f94 = some gc94 := ⟨Tryd.func94, by kernel_rfl⟩
-- unicode/utf8.DecodeLastRuneInString
def gl95_1 : ACode := .seq (.seq (.region [
 ⟨(some 25), .move (.tmp 5), none⟩,
 ⟨(some 26), .move (.tmp 6), none⟩,
 ⟨(some 27), .bin .geq (.tmp 25) (.tmp 26), none⟩])
 (.cond (.tmp 27)
 (.skip)
 (.exit 0)))
 (.seq (.block 1
 (.seq (.region [
 ⟨(some 30), .move (.tmp 0), none⟩,
 ⟨(some 31), .move (.tmp 5), none⟩,
 ⟨(some 32), .istr (.tmp 30) (.tmp 31), none⟩,
 ⟨(some 33), .call (.val (.fn 100 [] [])) [(.tmp 32)], none⟩])
 (.cond (.tmp 33)
 (.exit 0)
 (.skip))))
 (.region [
 ⟨(some 28), .move (.tmp 5), none⟩,
 ⟨(some 29), .bin .sub (.tmp 28) (.val (.int .i64 1)), none⟩,
 ⟨(some 5), .move (.tmp 29), none⟩]))
def gc95 : AFn := ⟨[.tmp 2, .tmp 3],
 .seq (.region [
 ⟨(some 2), .move (.val (.int .i32 0)), none⟩,
 ⟨(some 3), .move (.val (.int .i64 0)), none⟩])
 (.seq (.region [
 ⟨(some 7), .move (.tmp 0), none⟩,
 ⟨(some 8), .lenStr (.tmp 7), none⟩,
 ⟨(some 4), .move (.tmp 8), none⟩])
 (.seq (.seq (.region [
 ⟨(some 9), .move (.tmp 4), none⟩,
 ⟨(some 10), .bin .eql (.tmp 9) (.val (.int .i64 0)), none⟩])
 (.cond (.tmp 10)
 (.seq (.region [
 ⟨(some 2), .move (.val (.int .i32 65533)), none⟩,
 ⟨(some 3), .move (.val (.int .i64 0)), none⟩])
 (.ret))
 (.skip)))
 (.seq (.region [
 ⟨(some 11), .move (.tmp 4), none⟩,
 ⟨(some 12), .bin .sub (.tmp 11) (.val (.int .i64 1)), none⟩,
 ⟨(some 5), .move (.tmp 12), none⟩])
 (.seq (.region [
 ⟨(some 13), .move (.tmp 0), none⟩,
 ⟨(some 14), .move (.tmp 5), none⟩,
 ⟨(some 15), .istr (.tmp 13) (.tmp 14), none⟩,
 ⟨(some 16), .conv .i32 (.tmp 15), none⟩,
 ⟨(some 2), .move (.tmp 16), none⟩])
 (.seq (.seq (.region [
 ⟨(some 17), .move (.tmp 2), none⟩,
 ⟨(some 18), .bin .lss (.tmp 17) (.val (.int .i32 128)), none⟩])
 (.cond (.tmp 18)
 (.seq (.region [
 ⟨(some 19), .move (.tmp 2), none⟩,
 ⟨(some 2), .move (.tmp 19), none⟩,
 ⟨(some 3), .move (.val (.int .i64 1)), none⟩])
 (.ret))
 (.skip)))
 (.seq (.region [
 ⟨(some 20), .move (.tmp 4), none⟩,
 ⟨(some 21), .bin .sub (.tmp 20) (.val (.int .i64 4)), none⟩,
 ⟨(some 22), .mx (.tmp 21) [(.val (.int .i64 0))], none⟩,
 ⟨(some 6), .move (.tmp 22), none⟩])
 (.seq (.seq (.region [
 ⟨(some 23), .move (.tmp 5), none⟩,
 ⟨(some 24), .bin .sub (.tmp 23) (.val (.int .i64 1)), none⟩,
 ⟨(some 5), .move (.tmp 24), none⟩])
 (.block 0
 (.loop gl95_1)))
 (.seq (.seq (.region [
 ⟨(some 34), .move (.tmp 5), none⟩,
 ⟨(some 35), .bin .lss (.tmp 34) (.val (.int .i64 0)), none⟩])
 (.cond (.tmp 35)
 (.region [
 ⟨(some 5), .move (.val (.int .i64 0)), none⟩])
 (.skip)))
 (.seq (.region [
 ⟨(some 37), .move (.tmp 0), none⟩,
 ⟨(some 38), .move (.tmp 5), none⟩,
 ⟨(some 39), .move (.tmp 4), none⟩,
 ⟨(some 40), .slStr (.tmp 37) (some (.tmp 38)) (some (.tmp 39)), none⟩,
 ⟨(some 41), .call (.val (.fn 93 [] [])) [(.tmp 40)], none⟩,
 ⟨(some 36), .move (.tmp 41), none⟩,
 ⟨(some 42), .extract (.tmp 36) 0, none⟩,
 ⟨(some 43), .extract (.tmp 36) 1, none⟩,
 ⟨(some 2), .move (.tmp 42), none⟩,
 ⟨(some 3), .move (.tmp 43), none⟩])
 (.seq (.seq (.region [
 ⟨(some 44), .move (.tmp 5), none⟩,
 ⟨(some 45), .move (.tmp 3), none⟩,
 ⟨(some 46), .bin .add (.tmp 44) (.tmp 45), none⟩,
 ⟨(some 47), .move (.tmp 4), none⟩,
 ⟨(some 48), .bin .neq (.tmp 46) (.tmp 47), none⟩])
 (.cond (.tmp 48)
 (.seq (.region [
 ⟨(some 2), .move (.val (.int .i32 65533)), none⟩,
 ⟨(some 3), .move (.val (.int .i64 1)), none⟩])
 (.ret))
 (.skip)))
 (.seq (.region [
 ⟨(some 49), .move (.tmp 2), none⟩,
 ⟨(some 50), .move (.tmp 3), none⟩,
 ⟨(some 2), .move (.tmp 49), none⟩,
 ⟨(some 3), .move (.tmp 50), none⟩])
 (.ret))))))))))))⟩
theorem ok95 : Tryd.prog.funcs[95]? = some Tryd.f95 ∧ compileFn Tryd.prog gh Tryd.f95 = some gc95 := ⟨Tryd.func95, by kernel_rfl⟩
-- slices.IndexFunc[[]meddler/api.Expr,meddler/api.Expr]
def gl96_1 : ACode := .seq (.region [
 ⟨(some 9), .bin .lss (.tmp 8) (.tmp 7), none⟩])
 (.seq (.cond (.tmp 9)
 (.skip)
 (.exit 0))
 (.seq (.block 1
 (.seq (.region [
 ⟨(some 10), .move (.tmp 8), none⟩,
 ⟨(some 5), .move (.tmp 10), none⟩])
 (.seq (.region [
 ⟨(some 11), .move (.tmp 1), none⟩,
 ⟨(some 12), .move (.tmp 0), none⟩,
 ⟨(some 13), .move (.tmp 5), none⟩,
 ⟨(some 14), .iaddr 5 (.tmp 12) (.tmp 13), none⟩,
 ⟨(some 15), .load true 5 (.tmp 14), none⟩,
 ⟨(some 16), .call (.tmp 11) [(.tmp 15)], none⟩])
 (.cond (.tmp 16)
 (.seq (.region [
 ⟨(some 17), .move (.tmp 5), none⟩,
 ⟨(some 4), .move (.tmp 17), none⟩])
 (.ret))
 (.skip)))))
 (.region [
 ⟨(some 18), .bin .add (.tmp 8) (.val (.int .i64 1)), none⟩,
 ⟨(some 8), .move (.tmp 18), none⟩])))
def gc96 : AFn := ⟨[.tmp 4],
 .seq (.region [
 ⟨(some 4), .move (.val (.int .i64 0)), none⟩])
 (.seq (.seq (.region [
 ⟨(some 6), .move (.tmp 0), none⟩,
 ⟨(some 7), .lenSl (.tmp 6), none⟩,
 ⟨(some 8), .move (.val (.int .i64 0)), none⟩])
 (.block 0
 (.loop gl96_1)))
 (.seq (.region [
 ⟨(some 4), .move (.val (.int .i64 (-1))), none⟩])
 (.ret)))⟩
theorem ok96 : Tryd.prog.funcs[96]? = some Tryd.f96 ∧ compileFn Tryd.prog gh Tryd.f96 = some gc96 := ⟨Tryd.func96, by kernel_rfl⟩
-- slices.IndexFunc[[]meddler/api.Cond,meddler/api.Cond]
def gl97_1 : ACode := .seq (.region [
 ⟨(some 9), .bin .lss (.tmp 8) (.tmp 7), none⟩])
 (.seq (.cond (.tmp 9)
 (.skip)
 (.exit 0))
 (.seq (.block 1
 (.seq (.region [
 ⟨(some 10), .move (.tmp 8), none⟩,
 ⟨(some 5), .move (.tmp 10), none⟩])
 (.seq (.region [
 ⟨(some 11), .move (.tmp 1), none⟩,
 ⟨(some 12), .move (.tmp 0), none⟩,
 ⟨(some 13), .move (.tmp 5), none⟩,
 ⟨(some 14), .iaddr 4 (.tmp 12) (.tmp 13), none⟩,
 ⟨(some 15), .load true 4 (.tmp 14), none⟩,
 ⟨(some 16), .call (.tmp 11) [(.tmp 15)], none⟩])
 (.cond (.tmp 16)
 (.seq (.region [
 ⟨(some 17), .move (.tmp 5), none⟩,
 ⟨(some 4), .move (.tmp 17), none⟩])
 (.ret))
 (.skip)))))
 (.region [
 ⟨(some 18), .bin .add (.tmp 8) (.val (.int .i64 1)), none⟩,
 ⟨(some 8), .move (.tmp 18), none⟩])))
def gc97 : AFn := ⟨[.tmp 4],
 .seq (.region [
 ⟨(some 4), .move (.val (.int .i64 0)), none⟩])
 (.seq (.seq (.region [
 ⟨(some 6), .move (.tmp 0), none⟩,
 ⟨(some 7), .lenSl (.tmp 6), none⟩,
 ⟨(some 8), .move (.val (.int .i64 0)), none⟩])
 (.block 0
 (.loop gl97_1)))
 (.seq (.region [
 ⟨(some 4), .move (.val (.int .i64 (-1))), none⟩])
 (.ret)))⟩
theorem ok97 : Tryd.prog.funcs[97]? = some Tryd.f97 ∧ compileFn Tryd.prog gh Tryd.f97 = some gc97 := ⟨Tryd.func97, by kernel_rfl⟩
-- unicode/utf8.RuneStart
def gc100 : AFn := ⟨[.tmp 2],
 .seq (.region [
 ⟨(some 2), .move (.val (.bool false)), none⟩])
 (.seq (.region [
 ⟨(some 3), .move (.tmp 0), none⟩,
 ⟨(some 4), .bin .and (.tmp 3) (.val (.int .u8 192)), none⟩,
 ⟨(some 5), .bin .neq (.tmp 4) (.val (.int .u8 128)), none⟩,
 ⟨(some 2), .move (.tmp 5), none⟩])
 (.ret))⟩
theorem ok100 : Tryd.prog.funcs[100]? = some Tryd.f100 ∧ compileFn Tryd.prog gh Tryd.f100 = some gc100 := ⟨Tryd.func100, by kernel_rfl⟩
-- unicode/utf8.ValidRune
def gc101 : AFn := ⟨[.tmp 2],
 .seq (.region [
 ⟨(some 2), .move (.val (.bool false)), none⟩])
 (.seq (.block 0
 (.seq (.region [
 ⟨(some 4), .move (.tmp 0), none⟩,
 ⟨(some 5), .bin .leq (.val (.int .i32 0)) (.tmp 4), none⟩,
 ⟨(some 6), .move (.tmp 5), none⟩,
 ⟨(some 7), .move (.tmp 0), (some (6, true))⟩,
 ⟨(some 8), .bin .lss (.tmp 7) (.val (.int .i32 55296)), (some (6, true))⟩,
 ⟨(some 9), .pick (.tmp 6) (.tmp 8) (.val (.bool false)), none⟩,
 ⟨(some 3), .move (.tmp 9), none⟩])
 (.cond (.tmp 3)
 (.seq (.region [
 ⟨(some 2), .move (.val (.bool true)), none⟩])
 (.ret))
 (.seq (.region [
 ⟨(some 11), .move (.tmp 0), none⟩,
 ⟨(some 12), .bin .lss (.val (.int .i32 57343)) (.tmp 11), none⟩,
 ⟨(some 13), .move (.tmp 12), none⟩,
 ⟨(some 14), .move (.tmp 0), (some (13, true))⟩,
 ⟨(some 15), .bin .leq (.tmp 14) (.val (.int .i32 1114111)), (some (13, true))⟩,
 ⟨(some 16), .pick (.tmp 13) (.tmp 15) (.val (.bool false)), none⟩,
 ⟨(some 10), .move (.tmp 16), none⟩])
 (.cond (.tmp 10)
 (.seq (.region [
 ⟨(some 2), .move (.val (.bool true)), none⟩])
 (.ret))
 (.skip))))))
 (.seq (.region [
 ⟨(some 2), .move (.val (.bool false)), none⟩])
 (.ret)))⟩
theorem ok101 : Tryd.prog.funcs[101]? = some Tryd.f101 ∧ compileFn Tryd.prog gh Tryd.f101 = some gc101 := ⟨Tryd.func101, by kernel_rfl⟩
-- internal/bytealg.Cutover
def gc102 : AFn := ⟨[.tmp 2],
 .seq (.region [
 ⟨(some 2), .move (.val (.int .i64 0)), none⟩])
 (.seq (.region [
 ⟨(some 3), .move (.tmp 0), none⟩,
 ⟨(some 4), .bin .add (.tmp 3) (.val (.int .i64 16)), none⟩,
 ⟨(some 5), .bin .quo (.tmp 4) (.val (.int .i64 8)), none⟩,
 ⟨(some 2), .move (.tmp 5), none⟩])
 (.ret))⟩
theorem ok102 : Tryd.prog.funcs[102]? = some Tryd.f102 ∧ compileFn Tryd.prog gh Tryd.f102 = some gc102 := ⟨Tryd.func102, by kernel_rfl⟩
end Go.Proofs.YtnpfhbhhbdegfaaDoor
