/- The seat's functions in compact code; each row is checked against the program. -/
import Derived.Test.YtgndbkeiickihaaGreatEvR
import Derived.Test.YtgndbkeiickihaaGreatProg
import Derived.KernelRfl
namespace Go.Proofs.YtgndbkeiickihaaGreatEv
open Go
set_option maxRecDepth 100000
variable {tab : Nat → Option CFun} {ext : CallF}
/-- swingbridge/swingbridgelaw16.WaitTells -/
def C3 : CFun := ⟨103, 4, .seq (.reg [⟨some 4, .box (.t 0), none⟩, ⟨some 8, .mv (.c (.bool false)) true, none⟩])
  (.seq (.seq (.reg [⟨some 21, .call 4 [] false, none⟩, ⟨some 22, .un .not (.t 21), none⟩])
  (.cond (.t 22) (.seq (.reg [⟨some 8, .mv (.c (.bool false)) true, none⟩])
  (.ret))
  (.skip)))
  (.seq (.seq (.reg [⟨some 23, .load 4 true (.t 4) false, none⟩, ⟨some 24, .call 5 [(.t 23)] false, none⟩, ⟨some 25, .un .not (.t 24), none⟩, ⟨some 26, .mv (.t 25) false, none⟩, ⟨some 27, .mv (.t 1) false, some (26, false)⟩, ⟨some 28, .len (.t 27), some (26, false)⟩, ⟨some 29, .bin .gtr (.t 28) (.c (.int .i64 10)), some (26, false)⟩, ⟨some 30, .pick (.t 26) (.c (.bool true)) (.t 29), none⟩])
  (.cond (.t 30) (.seq (.reg [⟨some 8, .mv (.c (.bool true)) true, none⟩])
  (.ret))
  (.skip)))
  (.seq (.reg [⟨some 32, .load 4 true (.t 4) false, none⟩, ⟨some 33, .mv (.t 1) false, none⟩, ⟨some 34, .mv (.t 2) false, none⟩, ⟨some 35, .mv (.t 3) false, none⟩, ⟨some 36, .call 6 [(.t 32), (.t 33), (.t 34), (.t 35)] false, none⟩, ⟨some 31, .mv (.t 36) false, none⟩, ⟨some 37, .ext (.t 31) 0, none⟩, ⟨some 38, .ext (.t 31) 1, none⟩, ⟨some 9, .mv (.t 37) true, none⟩, ⟨some 10, .mv (.t 38) true, none⟩])
  (.seq (.reg [⟨some 40, .load 4 true (.t 4) false, none⟩, ⟨some 41, .mv (.t 1) false, none⟩, ⟨some 42, .mv (.t 2) false, none⟩, ⟨some 43, .mv (.t 3) false, none⟩, ⟨some 44, .call 7 [(.t 40), (.t 41), (.t 42), (.t 43)] false, none⟩, ⟨some 39, .mv (.t 44) false, none⟩, ⟨some 45, .ext (.t 39) 0, none⟩, ⟨some 46, .ext (.t 39) 1, none⟩, ⟨some 11, .mv (.t 45) true, none⟩, ⟨some 12, .mv (.t 46) true, none⟩])
  (.seq (.reg [⟨some 48, .load 4 true (.t 4) false, none⟩, ⟨some 49, .mv (.t 1) false, none⟩, ⟨some 50, .mv (.t 2) false, none⟩, ⟨some 51, .call 8 [(.t 48), (.t 49), (.t 50)] false, none⟩, ⟨some 47, .mv (.t 51) false, none⟩, ⟨some 52, .ext (.t 47) 0, none⟩, ⟨some 53, .ext (.t 47) 1, none⟩, ⟨some 13, .mv (.t 52) true, none⟩, ⟨some 14, .mv (.t 53) true, none⟩])
  (.seq (.reg [⟨some 55, .load 4 true (.t 4) false, none⟩, ⟨some 56, .mv (.t 1) false, none⟩, ⟨some 57, .mv (.t 2) false, none⟩, ⟨some 58, .call 9 [(.t 55), (.t 56), (.t 57)] false, none⟩, ⟨some 54, .mv (.t 58) false, none⟩, ⟨some 59, .ext (.t 54) 0, none⟩, ⟨some 60, .ext (.t 54) 1, none⟩, ⟨some 15, .mv (.t 59) true, none⟩, ⟨some 16, .mv (.t 60) true, none⟩])
  (.seq (.reg [⟨some 62, .load 4 true (.t 4) false, none⟩, ⟨some 63, .mv (.t 1) false, none⟩, ⟨some 64, .mv (.t 2) false, none⟩, ⟨some 65, .call 10 [(.t 62), (.t 63), (.t 64)] false, none⟩, ⟨some 61, .mv (.t 65) false, none⟩, ⟨some 66, .ext (.t 61) 0, none⟩, ⟨some 67, .ext (.t 61) 1, none⟩, ⟨some 17, .mv (.t 66) true, none⟩, ⟨some 18, .mv (.t 67) true, none⟩])
  (.seq (.reg [⟨some 69, .load 4 true (.t 4) false, none⟩, ⟨some 70, .mv (.t 1) false, none⟩, ⟨some 71, .mv (.t 2) false, none⟩, ⟨some 72, .call 11 [(.t 69), (.t 70), (.t 71)] false, none⟩, ⟨some 68, .mv (.t 72) false, none⟩, ⟨some 73, .ext (.t 68) 0, none⟩, ⟨some 74, .ext (.t 68) 1, none⟩, ⟨some 19, .mv (.t 73) true, none⟩, ⟨some 20, .mv (.t 74) true, none⟩])
  (.seq (.reg [⟨some 75, .mv (.t 9) false, none⟩, ⟨some 76, .mv (.t 11) false, none⟩, ⟨some 77, .bin .eql (.t 75) (.t 76), none⟩, ⟨some 78, .mv (.t 77) false, none⟩, ⟨some 79, .mv (.t 10) false, some (78, true)⟩, ⟨some 80, .mv (.t 12) false, some (78, true)⟩, ⟨some 81, .eqb false (.t 79) (.t 80), some (78, true)⟩, ⟨some 82, .pick (.t 78) (.t 81) (.c (.bool false)), none⟩, ⟨some 83, .mv (.t 82) false, none⟩, ⟨some 84, .mv (.t 13) false, some (83, true)⟩, ⟨some 85, .mv (.t 15) false, some (83, true)⟩, ⟨some 86, .call 12 [(.t 84), (.t 85)] false, some (83, true)⟩, ⟨some 87, .pick (.t 83) (.t 86) (.c (.bool false)), none⟩, ⟨some 88, .mv (.t 87) false, none⟩, ⟨some 89, .mv (.t 14) false, some (88, true)⟩, ⟨some 90, .mv (.t 16) false, some (88, true)⟩, ⟨some 91, .eqb false (.t 89) (.t 90), some (88, true)⟩, ⟨some 92, .pick (.t 88) (.t 91) (.c (.bool false)), none⟩, ⟨some 93, .mv (.t 92) false, none⟩, ⟨some 94, .mv (.t 17) false, some (93, true)⟩, ⟨some 95, .mv (.t 19) false, some (93, true)⟩, ⟨some 96, .bin .eql (.t 94) (.t 95), some (93, true)⟩, ⟨some 97, .pick (.t 93) (.t 96) (.c (.bool false)), none⟩, ⟨some 98, .mv (.t 97) false, none⟩, ⟨some 99, .mv (.t 18) false, some (98, true)⟩, ⟨some 100, .mv (.t 20) false, some (98, true)⟩, ⟨some 101, .eqb false (.t 99) (.t 100), some (98, true)⟩, ⟨some 102, .pick (.t 98) (.t 101) (.c (.bool false)), none⟩, ⟨some 8, .mv (.t 102) true, none⟩])
  (.ret)))))))))), [.t 8]⟩
theorem row3 : RowOk Tryz.prog 3 C3 := ⟨Tryz.f3, ⟨[], [], [], []⟩, lvOf [], Tryz.func3, by kernel_rfl, by kernel_rfl⟩
/-- swingbridge/swingbridgelaw16.known -/
def C4 : CFun := ⟨70, 0, .seq (.reg [⟨some 0, .mv (.c (.bool false)) true, none⟩])
  (.seq (.reg [⟨some 10, .call 13 [(.c (.int .i64 1)), (.c (.int .i64 1)), (.c (.int .i64 3)), (.c (.int .i64 1)), (.c (.int .i64 4))] false, none⟩, ⟨some 1, .alloc [(.int .i64 0), (.slice none 0 0), (.slice none 0 0), (.slice none 0 0)], none⟩, ⟨none, .store 4 (.t 1) (.t 10), none⟩])
  (.seq (.reg [⟨some 12, .load 4 true (.t 1) false, none⟩, ⟨some 13, .bsl 1 2 [(.int .i64 0), (.int .i64 0)] [(0, 1, (.c (.int .i64 9))), (1, 1, (.c (.int .i64 9)))] false, none⟩, ⟨some 14, .call 6 [(.t 12), (.t 13), (.c (.int .i64 0)), (.c (.int .i64 1))] false, none⟩, ⟨some 11, .mv (.t 14) false, none⟩, ⟨some 15, .ext (.t 11) 0, none⟩, ⟨some 16, .ext (.t 11) 1, none⟩, ⟨some 2, .mv (.t 15) true, none⟩, ⟨some 3, .mv (.t 16) true, none⟩])
  (.seq (.reg [⟨some 18, .load 4 true (.t 1) false, none⟩, ⟨some 19, .bsl 1 2 [(.int .i64 0), (.int .i64 0)] [(0, 1, (.c (.int .i64 9))), (1, 1, (.c (.int .i64 9)))] false, none⟩, ⟨some 20, .call 8 [(.t 18), (.t 19), (.c (.int .i64 0))] false, none⟩, ⟨some 17, .mv (.t 20) false, none⟩, ⟨some 21, .ext (.t 17) 0, none⟩, ⟨some 22, .ext (.t 17) 1, none⟩, ⟨some 4, .mv (.t 21) true, none⟩, ⟨some 5, .mv (.t 22) true, none⟩])
  (.seq (.reg [⟨some 24, .load 4 true (.t 1) false, none⟩, ⟨some 25, .bsl 1 2 [(.int .i64 0), (.int .i64 0)] [(0, 1, (.c (.int .i64 9))), (1, 1, (.c (.int .i64 9)))] false, none⟩, ⟨some 26, .call 10 [(.t 24), (.t 25), (.c (.int .i64 0))] false, none⟩, ⟨some 23, .mv (.t 26) false, none⟩, ⟨some 27, .ext (.t 23) 0, none⟩, ⟨some 28, .ext (.t 23) 1, none⟩, ⟨some 6, .mv (.t 27) true, none⟩, ⟨some 7, .mv (.t 28) true, none⟩])
  (.seq (.reg [⟨some 30, .load 4 true (.t 1) false, none⟩, ⟨some 31, .call 6 [(.t 30), (.c (.slice none 0 0)), (.c (.int .i64 0)), (.c (.int .i64 1))] false, none⟩, ⟨some 29, .mv (.t 31) false, none⟩, ⟨some 32, .ext (.t 29) 0, none⟩, ⟨some 33, .ext (.t 29) 1, none⟩, ⟨some 8, .mv (.t 32) true, none⟩, ⟨some 9, .mv (.t 33) true, none⟩])
  (.seq (.reg [⟨some 34, .mv (.t 3) false, none⟩, ⟨some 35, .mv (.t 34) false, none⟩, ⟨some 36, .mv (.t 2) false, some (35, true)⟩, ⟨some 37, .bin .eql (.t 36) (.c (.int .i64 7)), some (35, true)⟩, ⟨some 38, .pick (.t 35) (.t 37) (.c (.bool false)), none⟩, ⟨some 39, .mv (.t 38) false, none⟩, ⟨some 40, .mv (.t 5) false, some (39, true)⟩, ⟨some 41, .pick (.t 39) (.t 40) (.c (.bool false)), none⟩, ⟨some 42, .mv (.t 41) false, none⟩, ⟨some 43, .mv (.t 4) false, some (42, true)⟩, ⟨some 44, .len (.t 43), some (42, true)⟩, ⟨some 45, .bin .eql (.t 44) (.c (.int .i64 2)), some (42, true)⟩, ⟨some 46, .pick (.t 42) (.t 45) (.c (.bool false)), none⟩, ⟨some 47, .mv (.t 46) false, none⟩, ⟨some 48, .mv (.t 4) false, some (47, true)⟩, ⟨some 49, .ia 1 (.t 48) (.c (.int .i64 0)), some (47, true)⟩, ⟨some 50, .load 1 false (.t 49) false, some (47, true)⟩, ⟨some 51, .bin .eql (.t 50) (.c (.int .i64 0)), some (47, true)⟩, ⟨some 52, .pick (.t 47) (.t 51) (.c (.bool false)), none⟩, ⟨some 53, .mv (.t 52) false, none⟩, ⟨some 54, .mv (.t 4) false, some (53, true)⟩, ⟨some 55, .ia 1 (.t 54) (.c (.int .i64 1)), some (53, true)⟩, ⟨some 56, .load 1 false (.t 55) false, some (53, true)⟩, ⟨some 57, .bin .eql (.t 56) (.c (.int .i64 7)), some (53, true)⟩, ⟨some 58, .pick (.t 53) (.t 57) (.c (.bool false)), none⟩, ⟨some 59, .mv (.t 58) false, none⟩, ⟨some 60, .mv (.t 7) false, some (59, true)⟩, ⟨some 61, .pick (.t 59) (.t 60) (.c (.bool false)), none⟩, ⟨some 62, .mv (.t 61) false, none⟩, ⟨some 63, .mv (.t 6) false, some (62, true)⟩, ⟨some 64, .bin .eql (.t 63) (.c (.int .i64 7)), some (62, true)⟩, ⟨some 65, .pick (.t 62) (.t 64) (.c (.bool false)), none⟩, ⟨some 66, .mv (.t 65) false, none⟩, ⟨some 67, .mv (.t 9) false, some (66, true)⟩, ⟨some 68, .un .not (.t 67), some (66, true)⟩, ⟨some 69, .pick (.t 66) (.t 68) (.c (.bool false)), none⟩, ⟨some 0, .mv (.t 69) true, none⟩])
  (.ret))))))), [.t 0]⟩
theorem row4 : RowOk Tryz.prog 4 C4 := ⟨Tryz.f4, ⟨[], [], [], []⟩, lvOf [], Tryz.func4, by kernel_rfl, by kernel_rfl⟩
def B5_0 : C := .seq (.seq (.reg [⟨some 20, .mv (.t 3) false, none⟩, ⟨some 21, .fa 3 (.t 1), none⟩, ⟨some 22, .load 1 false (.t 21) false, none⟩, ⟨some 23, .len (.t 22), none⟩, ⟨some 24, .bin .lss (.t 20) (.t 23), none⟩])
  (.cond (.t 24) (.skip)
  (.exit 0)))
  (.seq (.block 1 (.seq (.reg [⟨some 27, .fa 3 (.t 1), none⟩, ⟨some 28, .load 1 false (.t 27) false, none⟩, ⟨some 29, .mv (.t 3) false, none⟩, ⟨some 30, .ia 6 (.t 28) (.t 29), none⟩, ⟨some 31, .fa 0 (.t 30), none⟩, ⟨some 32, .load 1 false (.t 31) false, none⟩, ⟨some 33, .slen (.t 32), none⟩, ⟨some 34, .bin .gtr (.t 33) (.c (.int .i64 20)), none⟩, ⟨some 35, .mv (.t 34) false, none⟩, ⟨some 36, .fa 3 (.t 1), some (35, false)⟩, ⟨some 37, .load 1 false (.t 36) false, some (35, false)⟩, ⟨some 38, .mv (.t 3) false, some (35, false)⟩, ⟨some 39, .ia 6 (.t 37) (.t 38), some (35, false)⟩, ⟨some 40, .fa 5 (.t 39), some (35, false)⟩, ⟨some 41, .load 1 false (.t 40) false, some (35, false)⟩, ⟨some 42, .len (.t 41), some (35, false)⟩, ⟨some 43, .bin .gtr (.t 42) (.c (.int .i64 10)), some (35, false)⟩, ⟨some 44, .pick (.t 35) (.c (.bool true)) (.t 43), none⟩])
  (.cond (.t 44) (.seq (.reg [⟨some 2, .mv (.c (.bool false)) true, none⟩])
  (.ret))
  (.skip))))
  (.reg [⟨some 25, .mv (.t 3) false, none⟩, ⟨some 26, .bin .add (.t 25) (.c (.int .i64 1)), none⟩, ⟨some 3, .mv (.t 26) true, none⟩]))
def L5_0 : C := .loop [1, 3] 1 B5_0
theorem go5_0 (s : Env × Bx) (nb) : evL tab ext nb L5_0 s = (loopIn nb [1, 3] 1 s).bind fun s0 => (evL tab ext nb B5_0 s0).bind (seqG tab ext nb L5_0) := eL_loop _ _ _
/-- swingbridge/swingbridgelaw16.few -/
def C5 : CFun := ⟨45, 1, .seq (.reg [⟨some 1, .box (.t 0), none⟩, ⟨some 2, .mv (.c (.bool false)) true, none⟩])
  (.seq (.seq (.reg [⟨some 4, .fa 1 (.t 1), none⟩, ⟨some 5, .load 1 false (.t 4) false, none⟩, ⟨some 6, .len (.t 5), none⟩, ⟨some 7, .bin .gtr (.t 6) (.c (.int .i64 8)), none⟩, ⟨some 8, .mv (.t 7) false, none⟩, ⟨some 9, .fa 2 (.t 1), some (8, false)⟩, ⟨some 10, .load 1 false (.t 9) false, some (8, false)⟩, ⟨some 11, .len (.t 10), some (8, false)⟩, ⟨some 12, .bin .gtr (.t 11) (.c (.int .i64 10)), some (8, false)⟩, ⟨some 13, .pick (.t 8) (.c (.bool true)) (.t 12), none⟩, ⟨some 14, .mv (.t 13) false, none⟩, ⟨some 15, .fa 3 (.t 1), some (14, false)⟩, ⟨some 16, .load 1 false (.t 15) false, some (14, false)⟩, ⟨some 17, .len (.t 16), some (14, false)⟩, ⟨some 18, .bin .gtr (.t 17) (.c (.int .i64 9)), some (14, false)⟩, ⟨some 19, .pick (.t 14) (.c (.bool true)) (.t 18), none⟩])
  (.cond (.t 19) (.seq (.reg [⟨some 2, .mv (.c (.bool false)) true, none⟩])
  (.ret))
  (.skip)))
  (.seq (.seq (.reg [⟨some 3, .mv (.c (.int .i64 0)) true, none⟩])
  (.block 0 (L5_0)))
  (.seq (.reg [⟨some 2, .mv (.c (.bool true)) true, none⟩])
  (.ret)))), [.t 2]⟩
theorem row5 : RowOk Tryz.prog 5 C5 := ⟨Tryz.f5, ⟨[], [], [], []⟩, lvOf [(0, [1, 3], 1)], Tryz.func5, by kernel_rfl, by kernel_rfl⟩
/-- swingbridge/wait.Part -/
def C6 : CFun := ⟨41, 4, .seq (.reg [⟨some 4, .box (.t 0), none⟩, ⟨some 8, .mv (.c (.int .i64 0)) true, none⟩, ⟨some 9, .mv (.c (.bool false)) true, none⟩])
  (.seq (.seq (.reg [⟨some 10, .mv (.t 1) false, none⟩, ⟨some 11, .len (.t 10), none⟩, ⟨some 12, .fa 3 (.t 4), none⟩, ⟨some 13, .load 1 false (.t 12) false, none⟩, ⟨some 14, .len (.t 13), none⟩, ⟨some 15, .bin .neq (.t 11) (.t 14), none⟩])
  (.cond (.t 15) (.seq (.reg [⟨some 8, .mv (.c (.int .i64 0)) true, none⟩, ⟨some 9, .mv (.c (.bool false)) true, none⟩])
  (.ret))
  (.skip)))
  (.seq (.seq (.reg [⟨some 16, .fa 0 (.t 4), none⟩, ⟨some 17, .load 1 false (.t 16) false, none⟩])
  (.block 0 (.seq (.reg [⟨some 19, .bin .eql (.t 17) (.c (.int .i64 1)), none⟩, ⟨some 18, .mv (.t 19) true, none⟩])
  (.cond (.t 18) (.seq (.reg [⟨some 20, .load 4 true (.t 4) false, none⟩, ⟨some 21, .mv (.t 2) false, none⟩, ⟨some 22, .mv (.t 3) false, none⟩, ⟨some 23, .call 14 [(.t 20), (.t 21), (.t 22)] false, none⟩, ⟨some 24, .ext (.t 23) 0, none⟩, ⟨some 25, .ext (.t 23) 1, none⟩, ⟨some 8, .mv (.t 24) true, none⟩, ⟨some 9, .mv (.t 25) true, none⟩])
  (.ret))
  (.seq (.reg [⟨some 27, .bin .eql (.t 17) (.c (.int .i64 2)), none⟩, ⟨some 26, .mv (.t 27) true, none⟩])
  (.cond (.t 26) (.seq (.reg [⟨some 28, .load 4 true (.t 4) false, none⟩, ⟨some 29, .mv (.t 1) false, none⟩, ⟨some 30, .mv (.t 2) false, none⟩, ⟨some 31, .mv (.t 3) false, none⟩, ⟨some 32, .call 15 [(.t 28), (.t 29), (.t 30), (.t 31)] false, none⟩, ⟨some 33, .ext (.t 32) 0, none⟩, ⟨some 34, .ext (.t 32) 1, none⟩, ⟨some 8, .mv (.t 33) true, none⟩, ⟨some 9, .mv (.t 34) true, none⟩])
  (.ret))
  (.skip)))))))
  (.seq (.reg [⟨some 35, .load 4 true (.t 4) false, none⟩, ⟨some 36, .mv (.t 2) false, none⟩, ⟨some 37, .mv (.t 3) false, none⟩, ⟨some 38, .call 16 [(.t 35), (.t 36), (.t 37)] false, none⟩, ⟨some 39, .ext (.t 38) 0, none⟩, ⟨some 40, .ext (.t 38) 1, none⟩, ⟨some 8, .mv (.t 39) true, none⟩, ⟨some 9, .mv (.t 40) true, none⟩])
  (.ret)))), [.t 8, .t 9]⟩
theorem row6 : RowOk Tryz.prog 6 C6 := ⟨Tryz.f6, ⟨[], [], [], []⟩, lvOf [], Tryz.func6, by kernel_rfl, by kernel_rfl⟩
/-- swingbridge/swingbridgeref11.Part -/
def C7 : CFun := ⟨41, 4, .seq (.reg [⟨some 4, .box (.t 0), none⟩, ⟨some 8, .mv (.c (.int .i64 0)) true, none⟩, ⟨some 9, .mv (.c (.bool false)) true, none⟩])
  (.seq (.seq (.reg [⟨some 10, .mv (.t 1) false, none⟩, ⟨some 11, .len (.t 10), none⟩, ⟨some 12, .fa 3 (.t 4), none⟩, ⟨some 13, .load 1 false (.t 12) false, none⟩, ⟨some 14, .len (.t 13), none⟩, ⟨some 15, .bin .neq (.t 11) (.t 14), none⟩])
  (.cond (.t 15) (.seq (.reg [⟨some 8, .mv (.c (.int .i64 0)) true, none⟩, ⟨some 9, .mv (.c (.bool false)) true, none⟩])
  (.ret))
  (.skip)))
  (.seq (.seq (.reg [⟨some 16, .fa 0 (.t 4), none⟩, ⟨some 17, .load 1 false (.t 16) false, none⟩])
  (.block 0 (.seq (.reg [⟨some 19, .bin .eql (.t 17) (.c (.int .i64 1)), none⟩, ⟨some 18, .mv (.t 19) true, none⟩])
  (.cond (.t 18) (.seq (.reg [⟨some 20, .load 4 true (.t 4) false, none⟩, ⟨some 21, .mv (.t 2) false, none⟩, ⟨some 22, .mv (.t 3) false, none⟩, ⟨some 23, .call 17 [(.t 20), (.t 21), (.t 22)] false, none⟩, ⟨some 24, .ext (.t 23) 0, none⟩, ⟨some 25, .ext (.t 23) 1, none⟩, ⟨some 8, .mv (.t 24) true, none⟩, ⟨some 9, .mv (.t 25) true, none⟩])
  (.ret))
  (.seq (.reg [⟨some 27, .bin .eql (.t 17) (.c (.int .i64 2)), none⟩, ⟨some 26, .mv (.t 27) true, none⟩])
  (.cond (.t 26) (.seq (.reg [⟨some 28, .load 4 true (.t 4) false, none⟩, ⟨some 29, .mv (.t 1) false, none⟩, ⟨some 30, .mv (.t 2) false, none⟩, ⟨some 31, .mv (.t 3) false, none⟩, ⟨some 32, .call 18 [(.t 28), (.t 29), (.t 30), (.t 31)] false, none⟩, ⟨some 33, .ext (.t 32) 0, none⟩, ⟨some 34, .ext (.t 32) 1, none⟩, ⟨some 8, .mv (.t 33) true, none⟩, ⟨some 9, .mv (.t 34) true, none⟩])
  (.ret))
  (.skip)))))))
  (.seq (.reg [⟨some 35, .load 4 true (.t 4) false, none⟩, ⟨some 36, .mv (.t 2) false, none⟩, ⟨some 37, .mv (.t 3) false, none⟩, ⟨some 38, .call 19 [(.t 35), (.t 36), (.t 37)] false, none⟩, ⟨some 39, .ext (.t 38) 0, none⟩, ⟨some 40, .ext (.t 38) 1, none⟩, ⟨some 8, .mv (.t 39) true, none⟩, ⟨some 9, .mv (.t 40) true, none⟩])
  (.ret)))), [.t 8, .t 9]⟩
theorem row7 : RowOk Tryz.prog 7 C7 := ⟨Tryz.f7, ⟨[], [], [], []⟩, lvOf [], Tryz.func7, by kernel_rfl, by kernel_rfl⟩
def B8_0 : C := .seq (.reg [⟨some 49, .bin .lss (.t 48) (.t 47), none⟩])
  (.seq (.cond (.t 49) (.skip)
  (.exit 0))
  (.seq (.block 1 (.seq (.reg [⟨some 50, .mv (.t 48) false, none⟩, ⟨some 51, .ia 3 (.t 46) (.t 48), none⟩, ⟨some 52, .load 3 true (.t 51) false, none⟩, ⟨some 12, .alloc [(.int .i64 0), (.int .i64 0), (.int .i64 0)], none⟩, ⟨some 11, .mv (.t 50) true, none⟩, ⟨none, .store 3 (.t 12) (.t 52), none⟩])
  (.seq (.seq (.reg [⟨some 53, .fa 0 (.t 12), none⟩, ⟨some 54, .load 1 false (.t 53) false, none⟩, ⟨some 55, .bin .neq (.t 54) (.c (.int .i64 3)), none⟩])
  (.cond (.t 55) (.exit 1)
  (.skip)))
  (.seq (.reg [⟨some 57, .load 4 true (.t 3) false, none⟩, ⟨some 58, .mv (.t 1) false, none⟩, ⟨some 59, .mv (.t 2) false, none⟩, ⟨some 60, .mv (.t 11) false, none⟩, ⟨some 61, .call 6 [(.t 57), (.t 58), (.t 59), (.t 60)] false, none⟩, ⟨some 56, .mv (.t 61) false, none⟩, ⟨some 62, .ext (.t 56) 0, none⟩, ⟨some 63, .ext (.t 56) 1, none⟩, ⟨some 13, .mv (.t 62) true, none⟩, ⟨some 14, .mv (.t 63) true, none⟩])
  (.seq (.seq (.reg [⟨some 64, .mv (.t 14) false, none⟩, ⟨some 65, .un .not (.t 64), none⟩])
  (.cond (.t 65) (.seq (.reg [⟨some 6, .mv (.c (.slice none 0 0)) true, none⟩, ⟨some 7, .mv (.c (.bool false)) true, none⟩])
  (.ret))
  (.skip)))
  (.reg [⟨some 66, .mv (.t 10) false, none⟩, ⟨some 67, .mv (.t 11) false, none⟩, ⟨some 68, .mv (.t 13) false, none⟩, ⟨some 69, .ia 1 (.t 66) (.t 67), none⟩, ⟨none, .store 1 (.t 69) (.t 68), none⟩]))))))
  (.reg [⟨some 70, .bin .add (.t 48) (.c (.int .i64 1)), none⟩, ⟨some 48, .mv (.t 70) false, none⟩])))
def L8_0 : C := .loop [1, 2, 3, 10, 46, 47, 48] 2 B8_0
theorem go8_0 (s : Env × Bx) (nb) : evL tab ext nb L8_0 s = (loopIn nb [1, 2, 3, 10, 46, 47, 48] 2 s).bind fun s0 => (evL tab ext nb B8_0 s0).bind (seqG tab ext nb L8_0) := eL_loop _ _ _
/-- swingbridge/wait.All -/
def C8 : CFun := ⟨72, 3, .seq (.reg [⟨some 3, .box (.t 0), none⟩, ⟨some 6, .mv (.c (.slice none 0 0)) true, none⟩, ⟨some 7, .mv (.c (.bool false)) true, none⟩])
  (.scope (.seq (.seq (.reg [⟨some 16, .load 4 true (.t 3) false, none⟩, ⟨some 17, .call 20 [(.t 16)] false, none⟩, ⟨some 15, .mv (.t 17) false, none⟩, ⟨some 18, .ext (.t 15) 0, none⟩, ⟨some 19, .ext (.t 15) 1, none⟩, ⟨some 8, .mv (.t 18) true, none⟩, ⟨some 9, .mv (.t 19) true, none⟩])
  (.seq (.reg [⟨some 20, .mv (.t 9) false, none⟩, ⟨some 21, .bin .neq (.t 20) (.c (.int .i64 0)), none⟩, ⟨some 22, .mv (.t 21) false, none⟩, ⟨some 23, .mv (.t 2) false, some (22, false)⟩, ⟨some 24, .bin .lss (.t 23) (.c (.int .i64 0)), some (22, false)⟩, ⟨some 25, .pick (.t 22) (.c (.bool true)) (.t 24), none⟩, ⟨some 26, .mv (.t 25) false, none⟩, ⟨some 27, .mv (.t 2) false, some (26, false)⟩, ⟨some 28, .fa 3 (.t 3), some (26, false)⟩, ⟨some 29, .load 1 false (.t 28) false, some (26, false)⟩, ⟨some 30, .len (.t 29), some (26, false)⟩, ⟨some 31, .bin .geq (.t 27) (.t 30), some (26, false)⟩, ⟨some 32, .pick (.t 26) (.c (.bool true)) (.t 31), none⟩])
  (.cond (.t 32) (.seq (.reg [⟨some 6, .mv (.c (.slice none 0 0)) true, none⟩, ⟨some 7, .mv (.c (.bool false)) true, none⟩])
  (.ret))
  (.skip))))
  (.seq (.reg [⟨some 33, .fa 3 (.t 3), none⟩, ⟨some 34, .load 1 false (.t 33) false, none⟩, ⟨some 35, .mv (.t 2) false, none⟩, ⟨some 36, .ia 6 (.t 34) (.t 35), none⟩, ⟨some 37, .fa 5 (.t 36), none⟩, ⟨some 38, .load 1 false (.t 37) false, none⟩, ⟨some 39, .len (.t 38), none⟩, ⟨some 40, .mksl 1 8 [(.int .i64 0)] (.t 39) true, none⟩, ⟨some 10, .mv (.t 40) true, none⟩])
  (.seq (.skip)
  (.seq (.seq (.reg [⟨some 41, .fa 3 (.t 3), none⟩, ⟨some 42, .load 1 false (.t 41) false, none⟩, ⟨some 43, .mv (.t 2) false, none⟩, ⟨some 44, .ia 6 (.t 42) (.t 43), none⟩, ⟨some 45, .fa 5 (.t 44), none⟩, ⟨some 46, .load 1 false (.t 45) false, none⟩, ⟨some 47, .len (.t 46), none⟩, ⟨some 48, .mv (.c (.int .i64 0)) false, none⟩])
  (.block 0 (L8_0)))
  (.seq (.reg [⟨some 71, .mv (.t 10) false, none⟩, ⟨some 6, .mv (.t 71) true, none⟩, ⟨some 7, .mv (.c (.bool true)) true, none⟩])
  (.ret))))))), [.t 6, .t 7]⟩
theorem row8 : RowOk Tryz.prog 8 C8 := ⟨Tryz.f8, ⟨[], [40], [], []⟩, lvOf [(0, [1, 2, 3, 10, 46, 47, 48], 2)], Tryz.func8, by kernel_rfl, by kernel_rfl⟩
def B9_0 : C := .seq (.seq (.reg [⟨some 40, .mv (.t 10) false, none⟩, ⟨some 41, .fa 5 (.t 9), none⟩, ⟨some 42, .load 1 false (.t 41) false, none⟩, ⟨some 43, .len (.t 42), none⟩, ⟨some 44, .bin .lss (.t 40) (.t 43), none⟩])
  (.cond (.t 44) (.skip)
  (.exit 0)))
  (.seq (.block 1 (.seq (.reg [⟨some 11, .mv (.c (.int .i64 0)) true, none⟩])
  (.seq (.seq (.reg [⟨some 47, .fa 5 (.t 9), none⟩, ⟨some 48, .load 1 false (.t 47) false, none⟩, ⟨some 49, .mv (.t 10) false, none⟩, ⟨some 50, .ia 3 (.t 48) (.t 49), none⟩, ⟨some 51, .fa 0 (.t 50), none⟩, ⟨some 52, .load 1 false (.t 51) false, none⟩, ⟨some 53, .bin .eql (.t 52) (.c (.int .i64 3)), none⟩])
  (.cond (.t 53) (.seq (.reg [⟨some 55, .load 4 true (.t 3) false, none⟩, ⟨some 56, .mv (.t 1) false, none⟩, ⟨some 57, .mv (.t 2) false, none⟩, ⟨some 58, .mv (.t 10) false, none⟩, ⟨some 59, .call 7 [(.t 55), (.t 56), (.t 57), (.t 58)] false, none⟩, ⟨some 54, .mv (.t 59) false, none⟩, ⟨some 60, .ext (.t 54) 0, none⟩, ⟨some 61, .ext (.t 54) 1, none⟩, ⟨some 12, .mv (.t 60) true, none⟩, ⟨some 13, .mv (.t 61) true, none⟩])
  (.seq (.seq (.reg [⟨some 62, .mv (.t 13) false, none⟩, ⟨some 63, .un .not (.t 62), none⟩])
  (.cond (.t 63) (.seq (.reg [⟨some 6, .mv (.c (.slice none 0 0)) true, none⟩, ⟨some 7, .mv (.c (.bool false)) true, none⟩])
  (.ret))
  (.skip)))
  (.reg [⟨some 64, .mv (.t 12) false, none⟩, ⟨some 11, .mv (.t 64) true, none⟩])))
  (.skip)))
  (.reg [⟨some 65, .mv (.t 8) true, none⟩, ⟨some 66, .mv (.t 11) false, none⟩, ⟨some 67, .bsl 1 1 [(.int .i64 0)] [(0, 1, (.t 66))] false, none⟩, ⟨some 68, .app 1 8 (.t 65) (.t 67) false, none⟩, ⟨some 8, .mv (.t 68) true, none⟩]))))
  (.reg [⟨some 45, .mv (.t 10) false, none⟩, ⟨some 46, .bin .add (.t 45) (.c (.int .i64 1)), none⟩, ⟨some 10, .mv (.t 46) true, none⟩]))
def L9_0 : C := .loop [1, 2, 3, 8, 9, 10] 2 B9_0
theorem go9_0 (s : Env × Bx) (nb) : evL tab ext nb L9_0 s = (loopIn nb [1, 2, 3, 8, 9, 10] 2 s).bind fun s0 => (evL tab ext nb B9_0 s0).bind (seqG tab ext nb L9_0) := eL_loop _ _ _
/-- swingbridge/swingbridgeref11.Waits -/
def C9 : CFun := ⟨70, 3, .seq (.reg [⟨some 3, .box (.t 0), none⟩, ⟨some 6, .mv (.c (.slice none 0 0)) true, none⟩, ⟨some 7, .mv (.c (.bool false)) true, none⟩])
  (.seq (.seq (.reg [⟨some 14, .load 4 true (.t 3) false, none⟩, ⟨some 15, .mv (.t 2) false, none⟩, ⟨some 16, .call 21 [(.t 14), (.t 15)] false, none⟩, ⟨some 17, .un .not (.t 16), none⟩, ⟨some 18, .mv (.t 17) false, none⟩, ⟨some 19, .mv (.t 1) false, some (18, false)⟩, ⟨some 20, .len (.t 19), some (18, false)⟩, ⟨some 21, .fa 3 (.t 3), some (18, false)⟩, ⟨some 22, .load 1 false (.t 21) false, some (18, false)⟩, ⟨some 23, .len (.t 22), some (18, false)⟩, ⟨some 24, .bin .neq (.t 20) (.t 23), some (18, false)⟩, ⟨some 25, .mv (.t 24) false, some (18, false)⟩, ⟨some 26, .fa 3 (.t 3), some (25, true)⟩, ⟨some 27, .load 1 false (.t 26) false, some (25, true)⟩, ⟨some 28, .mv (.t 2) false, some (25, true)⟩, ⟨some 29, .ia 6 (.t 27) (.t 28), some (25, true)⟩, ⟨some 30, .load 6 true (.t 29) false, some (25, true)⟩, ⟨some 31, .call 22 [(.t 30)] false, some (25, true)⟩, ⟨some 32, .bin .gtr (.t 31) (.c (.int .i64 0)), some (25, true)⟩, ⟨some 33, .pick (.t 25) (.t 32) (.c (.bool false)), some (18, false)⟩, ⟨some 34, .pick (.t 18) (.c (.bool true)) (.t 33), none⟩])
  (.cond (.t 34) (.seq (.reg [⟨some 6, .mv (.c (.slice none 0 0)) true, none⟩, ⟨some 7, .mv (.c (.bool false)) true, none⟩])
  (.ret))
  (.skip)))
  (.seq (.reg [⟨some 8, .mv (.c (.slice none 0 0)) true, none⟩])
  (.seq (.reg [⟨some 35, .fa 3 (.t 3), none⟩, ⟨some 36, .load 1 false (.t 35) false, none⟩, ⟨some 37, .mv (.t 2) false, none⟩, ⟨some 38, .ia 6 (.t 36) (.t 37), none⟩, ⟨some 39, .load 6 true (.t 38) false, none⟩, ⟨some 9, .alloc [(.string ⟨#[]⟩), (.int .i64 0), (.int .i64 0), (.int .i64 0), (.int .i64 0), (.slice none 0 0)], none⟩, ⟨none, .store 6 (.t 9) (.t 39), none⟩])
  (.seq (.seq (.reg [⟨some 10, .mv (.c (.int .i64 0)) true, none⟩])
  (.block 0 (L9_0)))
  (.seq (.reg [⟨some 69, .mv (.t 8) false, none⟩, ⟨some 6, .mv (.t 69) true, none⟩, ⟨some 7, .mv (.c (.bool true)) true, none⟩])
  (.ret)))))), [.t 6, .t 7]⟩
theorem row9 : RowOk Tryz.prog 9 C9 := ⟨Tryz.f9, ⟨[], [], [], []⟩, lvOf [(0, [1, 2, 3, 8, 9, 10], 2)], Tryz.func9, by kernel_rfl, by kernel_rfl⟩
def B10_0 : C := .seq (.reg [⟨some 23, .bin .lss (.t 22) (.t 21), none⟩])
  (.seq (.cond (.t 23) (.skip)
  (.exit 0))
  (.seq (.block 1 (.seq (.reg [⟨some 24, .ia 1 (.t 20) (.t 22), none⟩, ⟨some 25, .load 1 false (.t 24) false, none⟩, ⟨some 12, .mv (.t 25) true, none⟩])
  (.reg [⟨some 26, .mv (.t 10) false, none⟩, ⟨some 27, .mv (.t 12) false, none⟩, ⟨some 28, .bin .add (.t 26) (.t 27), none⟩, ⟨some 10, .mv (.t 28) true, none⟩])))
  (.reg [⟨some 29, .bin .add (.t 22) (.c (.int .i64 1)), none⟩, ⟨some 22, .mv (.t 29) false, none⟩])))
def L10_0 : C := .loop [9, 10, 20, 21, 22] 1 B10_0
theorem go10_0 (s : Env × Bx) (nb) : evL tab ext nb L10_0 s = (loopIn nb [9, 10, 20, 21, 22] 1 s).bind fun s0 => (evL tab ext nb B10_0 s0).bind (seqG tab ext nb L10_0) := eL_loop _ _ _
/-- swingbridge/wait.Sum -/
def C10 : CFun := ⟨32, 3, .seq (.reg [⟨some 3, .box (.t 0), none⟩, ⟨some 6, .mv (.c (.int .i64 0)) true, none⟩, ⟨some 7, .mv (.c (.bool false)) true, none⟩])
  (.seq (.reg [⟨some 14, .load 4 true (.t 3) false, none⟩, ⟨some 15, .mv (.t 1) false, none⟩, ⟨some 16, .mv (.t 2) false, none⟩, ⟨some 17, .call 8 [(.t 14), (.t 15), (.t 16)] false, none⟩, ⟨some 13, .mv (.t 17) false, none⟩, ⟨some 18, .ext (.t 13) 0, none⟩, ⟨some 19, .ext (.t 13) 1, none⟩, ⟨some 8, .mv (.t 18) true, none⟩, ⟨some 9, .mv (.t 19) true, none⟩])
  (.seq (.reg [⟨some 10, .mv (.c (.int .i64 0)) true, none⟩])
  (.seq (.seq (.reg [⟨some 20, .mv (.t 8) false, none⟩, ⟨some 21, .len (.t 20), none⟩, ⟨some 22, .mv (.c (.int .i64 0)) false, none⟩])
  (.block 0 (L10_0)))
  (.seq (.reg [⟨some 30, .mv (.t 10) false, none⟩, ⟨some 31, .mv (.t 9) false, none⟩, ⟨some 6, .mv (.t 30) true, none⟩, ⟨some 7, .mv (.t 31) true, none⟩])
  (.ret))))), [.t 6, .t 7]⟩
theorem row10 : RowOk Tryz.prog 10 C10 := ⟨Tryz.f10, ⟨[], [], [], []⟩, lvOf [(0, [9, 10, 20, 21, 22], 1)], Tryz.func10, by kernel_rfl, by kernel_rfl⟩
def B11_0 : C := .seq (.seq (.reg [⟨some 19, .mv (.t 11) false, none⟩, ⟨some 20, .mv (.t 8) false, none⟩, ⟨some 21, .len (.t 20), none⟩, ⟨some 22, .bin .lss (.t 19) (.t 21), none⟩])
  (.cond (.t 22) (.skip)
  (.exit 0)))
  (.seq (.block 1 (.reg [⟨some 25, .mv (.t 10) false, none⟩, ⟨some 26, .mv (.t 8) false, none⟩, ⟨some 27, .mv (.t 11) false, none⟩, ⟨some 28, .ia 1 (.t 26) (.t 27), none⟩, ⟨some 29, .load 1 false (.t 28) false, none⟩, ⟨some 30, .bin .add (.t 25) (.t 29), none⟩, ⟨some 10, .mv (.t 30) true, none⟩]))
  (.reg [⟨some 23, .mv (.t 11) false, none⟩, ⟨some 24, .bin .add (.t 23) (.c (.int .i64 1)), none⟩, ⟨some 11, .mv (.t 24) true, none⟩]))
def L11_0 : C := .loop [8, 9, 10, 11] 1 B11_0
theorem go11_0 (s : Env × Bx) (nb) : evL tab ext nb L11_0 s = (loopIn nb [8, 9, 10, 11] 1 s).bind fun s0 => (evL tab ext nb B11_0 s0).bind (seqG tab ext nb L11_0) := eL_loop _ _ _
/-- swingbridge/swingbridgeref11.WaitSum -/
def C11 : CFun := ⟨33, 3, .seq (.reg [⟨some 3, .box (.t 0), none⟩, ⟨some 6, .mv (.c (.int .i64 0)) true, none⟩, ⟨some 7, .mv (.c (.bool false)) true, none⟩])
  (.seq (.reg [⟨some 13, .load 4 true (.t 3) false, none⟩, ⟨some 14, .mv (.t 1) false, none⟩, ⟨some 15, .mv (.t 2) false, none⟩, ⟨some 16, .call 9 [(.t 13), (.t 14), (.t 15)] false, none⟩, ⟨some 12, .mv (.t 16) false, none⟩, ⟨some 17, .ext (.t 12) 0, none⟩, ⟨some 18, .ext (.t 12) 1, none⟩, ⟨some 8, .mv (.t 17) true, none⟩, ⟨some 9, .mv (.t 18) true, none⟩])
  (.seq (.reg [⟨some 10, .mv (.c (.int .i64 0)) true, none⟩])
  (.seq (.seq (.reg [⟨some 11, .mv (.c (.int .i64 0)) true, none⟩])
  (.block 0 (L11_0)))
  (.seq (.reg [⟨some 31, .mv (.t 10) false, none⟩, ⟨some 32, .mv (.t 9) false, none⟩, ⟨some 6, .mv (.t 31) true, none⟩, ⟨some 7, .mv (.t 32) true, none⟩])
  (.ret))))), [.t 6, .t 7]⟩
theorem row11 : RowOk Tryz.prog 11 C11 := ⟨Tryz.f11, ⟨[], [], [], []⟩, lvOf [(0, [8, 9, 10, 11], 1)], Tryz.func11, by kernel_rfl, by kernel_rfl⟩
def B12_0 : C := .seq (.seq (.reg [⟨some 11, .mv (.t 5) false, none⟩, ⟨some 12, .mv (.t 0) false, none⟩, ⟨some 13, .len (.t 12), none⟩, ⟨some 14, .bin .lss (.t 11) (.t 13), none⟩])
  (.cond (.t 14) (.skip)
  (.exit 0)))
  (.seq (.block 1 (.seq (.reg [⟨some 17, .mv (.t 0) false, none⟩, ⟨some 18, .mv (.t 5) false, none⟩, ⟨some 19, .ia 1 (.t 17) (.t 18), none⟩, ⟨some 20, .load 1 false (.t 19) false, none⟩, ⟨some 21, .mv (.t 1) false, none⟩, ⟨some 22, .mv (.t 5) false, none⟩, ⟨some 23, .ia 1 (.t 21) (.t 22), none⟩, ⟨some 24, .load 1 false (.t 23) false, none⟩, ⟨some 25, .bin .neq (.t 20) (.t 24), none⟩])
  (.cond (.t 25) (.seq (.reg [⟨some 4, .mv (.c (.bool false)) true, none⟩])
  (.ret))
  (.skip))))
  (.reg [⟨some 15, .mv (.t 5) false, none⟩, ⟨some 16, .bin .add (.t 15) (.c (.int .i64 1)), none⟩, ⟨some 5, .mv (.t 16) true, none⟩]))
def L12_0 : C := .loop [0, 1, 5] 0 B12_0
theorem go12_0 (s : Env × Bx) (nb) : evL tab ext nb L12_0 s = (loopIn nb [0, 1, 5] 0 s).bind fun s0 => (evL tab ext nb B12_0 s0).bind (seqG tab ext nb L12_0) := eL_loop _ _ _
/-- swingbridge/swingbridgeref2.SameInts -/
def C12 : CFun := ⟨26, 2, .seq (.reg [⟨some 4, .mv (.c (.bool false)) true, none⟩])
  (.seq (.seq (.reg [⟨some 6, .mv (.t 0) false, none⟩, ⟨some 7, .len (.t 6), none⟩, ⟨some 8, .mv (.t 1) false, none⟩, ⟨some 9, .len (.t 8), none⟩, ⟨some 10, .bin .neq (.t 7) (.t 9), none⟩])
  (.cond (.t 10) (.seq (.reg [⟨some 4, .mv (.c (.bool false)) true, none⟩])
  (.ret))
  (.skip)))
  (.seq (.seq (.reg [⟨some 5, .mv (.c (.int .i64 0)) true, none⟩])
  (.block 0 (L12_0)))
  (.seq (.reg [⟨some 4, .mv (.c (.bool true)) true, none⟩])
  (.ret)))), [.t 4]⟩
theorem row12 : RowOk Tryz.prog 12 C12 := ⟨Tryz.f12, ⟨[], [], [], []⟩, lvOf [(0, [0, 1, 5], 0)], Tryz.func12, by kernel_rfl, by kernel_rfl⟩
/-- swingbridge/swingbridgelaw16.two -/
def C13 : CFun := ⟨31, 5, .seq (.reg [⟨some 10, .alloc [(.int .i64 0), (.slice none 0 0), (.slice none 0 0), (.slice none 0 0)], none⟩])
  (.seq (.reg [⟨some 12, .mv (.t 0) false, none⟩, ⟨some 13, .mv (.t 1) false, none⟩, ⟨some 14, .build [(.int .i64 0), (.int .i64 0), (.int .i64 0)] [(0, 1, (.c (.int .i64 1))), (1, 1, (.t 13))], none⟩, ⟨some 15, .mv (.t 2) false, none⟩, ⟨some 16, .build [(.int .i64 0), (.int .i64 0), (.int .i64 0)] [(0, 1, (.c (.int .i64 3))), (1, 1, (.t 15))], none⟩, ⟨some 17, .bsl 3 2 [(.int .i64 0), (.int .i64 0), (.int .i64 0), (.int .i64 0), (.int .i64 0), (.int .i64 0)] [(0, 3, (.t 14)), (3, 3, (.t 16))] false, none⟩, ⟨some 18, .call 23 [(.t 12), (.t 17)] true, none⟩, ⟨some 11, .alloc [(.int .i64 0), (.slice none 0 0), (.slice none 0 0), (.slice none 0 0)], none⟩, ⟨none, .store 4 (.t 11) (.t 18), none⟩])
  (.seq (.reg [⟨some 19, .fa 3 (.t 11), none⟩, ⟨some 20, .load 1 false (.t 19) true, none⟩, ⟨some 21, .mv (.t 3) false, none⟩, ⟨some 22, .build [(.int .i64 0), (.int .i64 0), (.int .i64 0)] [(0, 1, (.c (.int .i64 1))), (1, 1, (.t 21))], none⟩, ⟨some 23, .mv (.t 4) false, none⟩, ⟨some 24, .build [(.int .i64 0), (.int .i64 0), (.int .i64 0)] [(0, 1, (.c (.int .i64 3))), (1, 1, (.t 23))], none⟩, ⟨some 25, .bsl 3 2 [(.int .i64 0), (.int .i64 0), (.int .i64 0), (.int .i64 0), (.int .i64 0), (.int .i64 0)] [(0, 3, (.t 22)), (3, 3, (.t 24))] false, none⟩, ⟨some 26, .build [(.string ⟨#[]⟩), (.int .i64 0), (.int .i64 0), (.int .i64 0), (.int .i64 0), (.slice none 0 0)] [(0, 1, (.c (.string ⟨#[98]⟩))), (1, 1, (.c (.int .i64 200))), (2, 1, (.c (.int .i64 200))), (3, 1, (.c (.int .i64 2))), (5, 1, (.t 25))], none⟩, ⟨some 27, .bsl 6 1 [(.string ⟨#[]⟩), (.int .i64 0), (.int .i64 0), (.int .i64 0), (.int .i64 0), (.slice none 0 0)] [(0, 6, (.t 26))] false, none⟩, ⟨some 28, .app 6 72 (.t 20) (.t 27) false, none⟩, ⟨some 29, .fa 3 (.t 11), none⟩, ⟨none, .store 1 (.t 29) (.t 28), none⟩])
  (.seq (.reg [⟨some 30, .load 4 true (.t 11) false, none⟩, ⟨none, .store 4 (.t 10) (.t 30), none⟩])
  (.ret)))), [.cell 10 4]⟩
theorem row13 : RowOk Tryz.prog 13 C13 := ⟨Tryz.f13, ⟨[], [], [23], []⟩, lvOf [], Tryz.func13, by kernel_rfl, by kernel_rfl⟩
/-- swingbridge/fair.Part -/
def C14 : CFun := ⟨30, 3, .seq (.reg [⟨some 3, .box (.t 0), none⟩, ⟨some 6, .mv (.c (.int .i64 0)) true, none⟩, ⟨some 7, .mv (.c (.bool false)) true, none⟩])
  (.seq (.reg [⟨some 12, .load 4 true (.t 3) false, none⟩, ⟨some 13, .mv (.t 1) false, none⟩, ⟨some 14, .mv (.t 2) false, none⟩, ⟨some 15, .call 24 [(.t 12), (.t 13), (.t 14)] false, none⟩, ⟨some 11, .mv (.t 15) false, none⟩, ⟨some 16, .ext (.t 11) 0, none⟩, ⟨some 17, .ext (.t 11) 1, none⟩, ⟨some 8, .alloc [(.int .i64 0), (.int .i64 0), (.int .i64 0)], none⟩, ⟨none, .store 3 (.t 8) (.t 16), none⟩, ⟨some 9, .mv (.t 17) true, none⟩])
  (.seq (.seq (.reg [⟨some 18, .mv (.t 9) false, none⟩, ⟨some 19, .un .not (.t 18), none⟩])
  (.cond (.t 19) (.seq (.reg [⟨some 6, .mv (.c (.int .i64 0)) true, none⟩, ⟨some 7, .mv (.c (.bool false)) true, none⟩])
  (.ret))
  (.skip)))
  (.seq (.reg [⟨some 20, .load 4 true (.t 3) false, none⟩, ⟨some 21, .mv (.t 1) false, none⟩, ⟨some 22, .call 25 [(.t 20), (.t 21)] false, none⟩, ⟨some 10, .mv (.t 22) true, none⟩])
  (.seq (.reg [⟨some 23, .fa 1 (.t 8), none⟩, ⟨some 24, .load 1 false (.t 23) false, none⟩, ⟨some 25, .mv (.t 10) false, none⟩, ⟨some 26, .mv (.t 10) false, none⟩, ⟨some 27, .len (.t 26), none⟩, ⟨some 28, .call 26 [(.t 25), (.t 27)] false, none⟩, ⟨some 29, .bin .add (.t 24) (.t 28), none⟩, ⟨some 6, .mv (.t 29) true, none⟩, ⟨some 7, .mv (.c (.bool true)) true, none⟩])
  (.ret))))), [.t 6, .t 7]⟩
theorem row14 : RowOk Tryz.prog 14 C14 := ⟨Tryz.f14, ⟨[], [], [], []⟩, lvOf [], Tryz.func14, by kernel_rfl, by kernel_rfl⟩
def B15_0 : C := .seq (.seq (.reg [⟨some 68, .mv (.t 13) false, none⟩, ⟨some 69, .bin .leq (.t 68) (.c (.int .i64 3000)), none⟩])
  (.cond (.t 69) (.skip)
  (.exit 0)))
  (.block 1 (.seq (.reg [⟨some 70, .mv (.t 12) false, none⟩, ⟨some 71, .load 4 true (.t 4) false, none⟩, ⟨some 72, .mv (.t 1) false, none⟩, ⟨some 73, .mv (.t 2) false, none⟩, ⟨some 74, .mv (.t 11) false, none⟩, ⟨some 75, .mv (.t 13) false, none⟩, ⟨some 76, .call 29 [(.t 71), (.t 72), (.t 73), (.t 74), (.t 75)] false, none⟩, ⟨some 77, .bin .add (.t 70) (.t 76), none⟩, ⟨some 14, .mv (.t 77) true, none⟩])
  (.seq (.seq (.reg [⟨some 78, .mv (.t 14) false, none⟩, ⟨some 79, .mv (.t 13) false, none⟩, ⟨some 80, .bin .eql (.t 78) (.t 79), none⟩])
  (.cond (.t 80) (.seq (.reg [⟨some 81, .mv (.t 13) false, none⟩, ⟨some 8, .mv (.t 81) true, none⟩, ⟨some 9, .mv (.c (.bool true)) true, none⟩])
  (.ret))
  (.skip)))
  (.seq (.seq (.reg [⟨some 82, .mv (.t 14) false, none⟩, ⟨some 83, .mv (.t 13) false, none⟩, ⟨some 84, .bin .lss (.t 82) (.t 83), none⟩])
  (.cond (.t 84) (.exit 0)
  (.skip)))
  (.reg [⟨some 85, .mv (.t 14) false, none⟩, ⟨some 13, .mv (.t 85) true, none⟩])))))
def L15_0 : C := .loop [1, 2, 4, 11, 12, 13] 2 B15_0
theorem go15_0 (s : Env × Bx) (nb) : evL tab ext nb L15_0 s = (loopIn nb [1, 2, 4, 11, 12, 13] 2 s).bind fun s0 => (evL tab ext nb B15_0 s0).bind (seqG tab ext nb L15_0) := eL_loop _ _ _
/-- swingbridge/agent.Part -/
def C15 : CFun := ⟨86, 4, .seq (.reg [⟨some 4, .box (.t 0), none⟩, ⟨some 8, .mv (.c (.int .i64 0)) true, none⟩, ⟨some 9, .mv (.c (.bool false)) true, none⟩])
  (.scope (.seq (.seq (.reg [⟨some 15, .load 4 true (.t 4) false, none⟩, ⟨some 16, .mv (.t 2) false, none⟩, ⟨some 17, .call 27 [(.t 15), (.t 16)] false, none⟩, ⟨some 18, .un .not (.t 17), none⟩, ⟨some 19, .mv (.t 18) false, none⟩, ⟨some 20, .mv (.t 1) false, some (19, false)⟩, ⟨some 21, .len (.t 20), some (19, false)⟩, ⟨some 22, .fa 3 (.t 4), some (19, false)⟩, ⟨some 23, .load 1 false (.t 22) false, some (19, false)⟩, ⟨some 24, .len (.t 23), some (19, false)⟩, ⟨some 25, .bin .neq (.t 21) (.t 24), some (19, false)⟩, ⟨some 26, .pick (.t 19) (.c (.bool true)) (.t 25), none⟩, ⟨some 27, .mv (.t 26) false, none⟩, ⟨some 28, .mv (.t 3) false, some (27, false)⟩, ⟨some 29, .bin .lss (.t 28) (.c (.int .i64 0)), some (27, false)⟩, ⟨some 30, .pick (.t 27) (.c (.bool true)) (.t 29), none⟩, ⟨some 31, .mv (.t 30) false, none⟩, ⟨some 32, .mv (.t 3) false, some (31, false)⟩, ⟨some 33, .fa 3 (.t 4), some (31, false)⟩, ⟨some 34, .load 1 false (.t 33) false, some (31, false)⟩, ⟨some 35, .mv (.t 2) false, some (31, false)⟩, ⟨some 36, .ia 6 (.t 34) (.t 35), some (31, false)⟩, ⟨some 37, .fa 5 (.t 36), some (31, false)⟩, ⟨some 38, .load 1 false (.t 37) false, some (31, false)⟩, ⟨some 39, .len (.t 38), some (31, false)⟩, ⟨some 40, .bin .geq (.t 32) (.t 39), some (31, false)⟩, ⟨some 41, .pick (.t 31) (.c (.bool true)) (.t 40), none⟩])
  (.cond (.t 41) (.seq (.reg [⟨some 8, .mv (.c (.int .i64 0)) true, none⟩, ⟨some 9, .mv (.c (.bool false)) true, none⟩])
  (.ret))
  (.skip)))
  (.seq (.reg [⟨some 42, .fa 3 (.t 4), none⟩, ⟨some 43, .load 1 false (.t 42) false, none⟩, ⟨some 44, .mv (.t 2) false, none⟩, ⟨some 45, .ia 6 (.t 43) (.t 44), none⟩, ⟨some 46, .fa 5 (.t 45), none⟩, ⟨some 47, .load 1 false (.t 46) false, none⟩, ⟨some 48, .mv (.t 3) false, none⟩, ⟨some 49, .ia 3 (.t 47) (.t 48), none⟩, ⟨some 50, .load 3 true (.t 49) false, none⟩, ⟨some 10, .alloc [(.int .i64 0), (.int .i64 0), (.int .i64 0)], none⟩, ⟨none, .store 3 (.t 10) (.t 50), none⟩])
  (.seq (.seq (.reg [⟨some 51, .fa 0 (.t 10), none⟩, ⟨some 52, .load 1 false (.t 51) false, none⟩, ⟨some 53, .bin .neq (.t 52) (.c (.int .i64 3)), none⟩])
  (.cond (.t 53) (.seq (.reg [⟨some 8, .mv (.c (.int .i64 0)) true, none⟩, ⟨some 9, .mv (.c (.bool false)) true, none⟩])
  (.ret))
  (.skip)))
  (.seq (.reg [⟨some 54, .fa 2 (.t 4), none⟩, ⟨some 55, .load 1 false (.t 54) false, none⟩, ⟨some 56, .fa 2 (.t 10), none⟩, ⟨some 57, .load 1 false (.t 56) false, none⟩, ⟨some 58, .ia 1 (.t 55) (.t 57), none⟩, ⟨some 59, .load 1 false (.t 58) false, none⟩, ⟨some 11, .mv (.t 59) true, none⟩])
  (.seq (.reg [⟨some 60, .fa 1 (.t 10), none⟩, ⟨some 61, .load 1 false (.t 60) false, none⟩, ⟨some 62, .load 4 true (.t 4) false, none⟩, ⟨some 63, .mv (.t 2) false, none⟩, ⟨some 64, .mv (.t 11) false, none⟩, ⟨some 65, .call 28 [(.t 62), (.t 63), (.t 64)] false, none⟩, ⟨some 66, .bin .add (.t 61) (.t 65), none⟩, ⟨some 12, .mv (.t 66) true, none⟩])
  (.seq (.reg [⟨some 67, .mv (.t 12) false, none⟩, ⟨some 13, .mv (.t 67) true, none⟩])
  (.seq (.skip)
  (.seq (.block 0 (L15_0))
  (.seq (.reg [⟨some 8, .mv (.c (.int .i64 0)) true, none⟩, ⟨some 9, .mv (.c (.bool false)) true, none⟩])
  (.ret))))))))))), [.t 8, .t 9]⟩
theorem row15 : RowOk Tryz.prog 15 C15 := ⟨Tryz.f15, ⟨[], [], [], []⟩, lvOf [(0, [1, 2, 4, 11, 12, 13], 2)], Tryz.func15, by kernel_rfl, by kernel_rfl⟩
/-- swingbridge/token.Part -/
def C16 : CFun := ⟨24, 3, .seq (.reg [⟨some 3, .box (.t 0), none⟩, ⟨some 6, .mv (.c (.int .i64 0)) true, none⟩, ⟨some 7, .mv (.c (.bool false)) true, none⟩])
  (.seq (.reg [⟨some 11, .load 4 true (.t 3) false, none⟩, ⟨some 12, .mv (.t 1) false, none⟩, ⟨some 13, .mv (.t 2) false, none⟩, ⟨some 14, .call 30 [(.t 11), (.t 12), (.t 13)] false, none⟩, ⟨some 10, .mv (.t 14) false, none⟩, ⟨some 15, .ext (.t 10) 0, none⟩, ⟨some 16, .ext (.t 10) 1, none⟩, ⟨some 8, .mv (.t 15) true, none⟩, ⟨some 9, .mv (.t 16) true, none⟩])
  (.seq (.seq (.reg [⟨some 17, .mv (.t 9) false, none⟩, ⟨some 18, .un .not (.t 17), none⟩])
  (.cond (.t 18) (.seq (.reg [⟨some 6, .mv (.c (.int .i64 0)) true, none⟩, ⟨some 7, .mv (.c (.bool false)) true, none⟩])
  (.ret))
  (.skip)))
  (.seq (.reg [⟨some 19, .mv (.t 8) false, none⟩, ⟨some 20, .load 4 true (.t 3) false, none⟩, ⟨some 21, .mv (.t 1) false, none⟩, ⟨some 22, .call 31 [(.t 20), (.t 21)] false, none⟩, ⟨some 23, .bin .add (.t 19) (.t 22), none⟩, ⟨some 6, .mv (.t 23) true, none⟩, ⟨some 7, .mv (.c (.bool true)) true, none⟩])
  (.ret)))), [.t 6, .t 7]⟩
theorem row16 : RowOk Tryz.prog 16 C16 := ⟨Tryz.f16, ⟨[], [], [], []⟩, lvOf [], Tryz.func16, by kernel_rfl, by kernel_rfl⟩
/-- swingbridge/swingbridgeref11.Fair -/
def C17 : CFun := ⟨26, 3, .seq (.reg [⟨some 3, .box (.t 0), none⟩, ⟨some 6, .mv (.c (.int .i64 0)) true, none⟩, ⟨some 7, .mv (.c (.bool false)) true, none⟩])
  (.seq (.reg [⟨some 11, .load 4 true (.t 3) false, none⟩, ⟨some 12, .mv (.t 1) false, none⟩, ⟨some 13, .mv (.t 2) false, none⟩, ⟨some 14, .call 32 [(.t 11), (.t 12), (.t 13)] false, none⟩, ⟨some 10, .mv (.t 14) false, none⟩, ⟨some 15, .ext (.t 10) 0, none⟩, ⟨some 16, .ext (.t 10) 1, none⟩, ⟨some 8, .alloc [(.int .i64 0), (.int .i64 0), (.int .i64 0)], none⟩, ⟨none, .store 3 (.t 8) (.t 15), none⟩, ⟨some 9, .mv (.t 16) true, none⟩])
  (.seq (.seq (.reg [⟨some 17, .mv (.t 9) false, none⟩, ⟨some 18, .un .not (.t 17), none⟩])
  (.cond (.t 18) (.seq (.reg [⟨some 6, .mv (.c (.int .i64 0)) true, none⟩, ⟨some 7, .mv (.c (.bool false)) true, none⟩])
  (.ret))
  (.skip)))
  (.seq (.reg [⟨some 19, .fa 1 (.t 8), none⟩, ⟨some 20, .load 1 false (.t 19) false, none⟩, ⟨some 21, .load 4 true (.t 3) false, none⟩, ⟨some 22, .mv (.t 1) false, none⟩, ⟨some 23, .call 34 [(.t 21), (.t 22)] false, none⟩, ⟨some 24, .call 33 [(.t 23), (.c (.int .i64 6))] false, none⟩, ⟨some 25, .bin .add (.t 20) (.t 24), none⟩, ⟨some 6, .mv (.t 25) true, none⟩, ⟨some 7, .mv (.c (.bool true)) true, none⟩])
  (.ret)))), [.t 6, .t 7]⟩
theorem row17 : RowOk Tryz.prog 17 C17 := ⟨Tryz.f17, ⟨[], [], [], []⟩, lvOf [], Tryz.func17, by kernel_rfl, by kernel_rfl⟩
def B18_0 : C := .seq (.seq (.reg [⟨some 47, .mv (.t 14) false, none⟩, ⟨some 48, .bin .leq (.t 47) (.c (.int .i64 3000)), none⟩])
  (.cond (.t 48) (.skip)
  (.exit 0)))
  (.block 1 (.seq (.reg [⟨some 49, .mv (.t 13) false, none⟩, ⟨some 50, .load 4 true (.t 4) false, none⟩, ⟨some 51, .mv (.t 1) false, none⟩, ⟨some 52, .mv (.t 2) false, none⟩, ⟨some 53, .mv (.t 12) false, none⟩, ⟨some 54, .mv (.t 14) false, none⟩, ⟨some 55, .call 36 [(.t 50), (.t 51), (.t 52), (.t 53), (.t 54)] false, none⟩, ⟨some 56, .bin .add (.t 49) (.t 55), none⟩, ⟨some 15, .mv (.t 56) true, none⟩])
  (.seq (.seq (.reg [⟨some 57, .mv (.t 15) false, none⟩, ⟨some 58, .mv (.t 14) false, none⟩, ⟨some 59, .bin .eql (.t 57) (.t 58), none⟩])
  (.cond (.t 59) (.seq (.reg [⟨some 60, .mv (.t 14) false, none⟩, ⟨some 8, .mv (.t 60) true, none⟩, ⟨some 9, .mv (.c (.bool true)) true, none⟩])
  (.ret))
  (.skip)))
  (.reg [⟨some 61, .mv (.t 15) false, none⟩, ⟨some 14, .mv (.t 61) true, none⟩]))))
def L18_0 : C := .loop [1, 2, 4, 12, 13, 14] 2 B18_0
theorem go18_0 (s : Env × Bx) (nb) : evL tab ext nb L18_0 s = (loopIn nb [1, 2, 4, 12, 13, 14] 2 s).bind fun s0 => (evL tab ext nb B18_0 s0).bind (seqG tab ext nb L18_0) := eL_loop _ _ _
/-- swingbridge/swingbridgeref11.Agent -/
def C18 : CFun := ⟨62, 4, .seq (.reg [⟨some 4, .box (.t 0), none⟩, ⟨some 8, .mv (.c (.int .i64 0)) true, none⟩, ⟨some 9, .mv (.c (.bool false)) true, none⟩])
  (.seq (.reg [⟨some 17, .load 4 true (.t 4) false, none⟩, ⟨some 18, .mv (.t 2) false, none⟩, ⟨some 19, .mv (.t 3) false, none⟩, ⟨some 20, .call 32 [(.t 17), (.t 18), (.t 19)] false, none⟩, ⟨some 16, .mv (.t 20) false, none⟩, ⟨some 21, .ext (.t 16) 0, none⟩, ⟨some 22, .ext (.t 16) 1, none⟩, ⟨some 10, .alloc [(.int .i64 0), (.int .i64 0), (.int .i64 0)], none⟩, ⟨none, .store 3 (.t 10) (.t 21), none⟩, ⟨some 11, .mv (.t 22) true, none⟩])
  (.seq (.seq (.reg [⟨some 23, .mv (.t 11) false, none⟩, ⟨some 24, .un .not (.t 23), none⟩, ⟨some 25, .mv (.t 24) false, none⟩, ⟨some 26, .mv (.t 1) false, some (25, false)⟩, ⟨some 27, .len (.t 26), some (25, false)⟩, ⟨some 28, .fa 3 (.t 4), some (25, false)⟩, ⟨some 29, .load 1 false (.t 28) false, some (25, false)⟩, ⟨some 30, .len (.t 29), some (25, false)⟩, ⟨some 31, .bin .neq (.t 27) (.t 30), some (25, false)⟩, ⟨some 32, .pick (.t 25) (.c (.bool true)) (.t 31), none⟩])
  (.cond (.t 32) (.seq (.reg [⟨some 8, .mv (.c (.int .i64 0)) true, none⟩, ⟨some 9, .mv (.c (.bool false)) true, none⟩])
  (.ret))
  (.skip)))
  (.seq (.reg [⟨some 33, .fa 2 (.t 4), none⟩, ⟨some 34, .load 1 false (.t 33) false, none⟩, ⟨some 35, .fa 2 (.t 10), none⟩, ⟨some 36, .load 1 false (.t 35) false, none⟩, ⟨some 37, .ia 1 (.t 34) (.t 36), none⟩, ⟨some 38, .load 1 false (.t 37) false, none⟩, ⟨some 12, .mv (.t 38) true, none⟩])
  (.seq (.reg [⟨some 39, .fa 1 (.t 10), none⟩, ⟨some 40, .load 1 false (.t 39) false, none⟩, ⟨some 41, .load 4 true (.t 4) false, none⟩, ⟨some 42, .mv (.t 2) false, none⟩, ⟨some 43, .mv (.t 12) false, none⟩, ⟨some 44, .call 35 [(.t 41), (.t 42), (.t 43)] false, none⟩, ⟨some 45, .bin .add (.t 40) (.t 44), none⟩, ⟨some 13, .mv (.t 45) true, none⟩])
  (.seq (.seq (.reg [⟨some 46, .mv (.t 13) false, none⟩, ⟨some 14, .mv (.t 46) true, none⟩])
  (.block 0 (L18_0)))
  (.seq (.reg [⟨some 8, .mv (.c (.int .i64 0)) true, none⟩, ⟨some 9, .mv (.c (.bool false)) true, none⟩])
  (.ret))))))), [.t 8, .t 9]⟩
theorem row18 : RowOk Tryz.prog 18 C18 := ⟨Tryz.f18, ⟨[], [], [], []⟩, lvOf [(0, [1, 2, 4, 12, 13, 14], 2)], Tryz.func18, by kernel_rfl, by kernel_rfl⟩
/-- swingbridge/swingbridgeref11.Token -/
def C19 : CFun := ⟨24, 3, .seq (.reg [⟨some 3, .box (.t 0), none⟩, ⟨some 6, .mv (.c (.int .i64 0)) true, none⟩, ⟨some 7, .mv (.c (.bool false)) true, none⟩])
  (.seq (.reg [⟨some 11, .load 4 true (.t 3) false, none⟩, ⟨some 12, .mv (.t 1) false, none⟩, ⟨some 13, .mv (.t 2) false, none⟩, ⟨some 14, .call 37 [(.t 11), (.t 12), (.t 13)] false, none⟩, ⟨some 10, .mv (.t 14) false, none⟩, ⟨some 15, .ext (.t 10) 0, none⟩, ⟨some 16, .ext (.t 10) 1, none⟩, ⟨some 8, .mv (.t 15) true, none⟩, ⟨some 9, .mv (.t 16) true, none⟩])
  (.seq (.seq (.reg [⟨some 17, .mv (.t 9) false, none⟩, ⟨some 18, .un .not (.t 17), none⟩])
  (.cond (.t 18) (.seq (.reg [⟨some 6, .mv (.c (.int .i64 0)) true, none⟩, ⟨some 7, .mv (.c (.bool false)) true, none⟩])
  (.ret))
  (.skip)))
  (.seq (.reg [⟨some 19, .mv (.t 8) false, none⟩, ⟨some 20, .load 4 true (.t 3) false, none⟩, ⟨some 21, .mv (.t 1) false, none⟩, ⟨some 22, .call 38 [(.t 20), (.t 21)] false, none⟩, ⟨some 23, .bin .add (.t 19) (.t 22), none⟩, ⟨some 6, .mv (.t 23) true, none⟩, ⟨some 7, .mv (.c (.bool true)) true, none⟩])
  (.ret)))), [.t 6, .t 7]⟩
theorem row19 : RowOk Tryz.prog 19 C19 := ⟨Tryz.f19, ⟨[], [], [], []⟩, lvOf [], Tryz.func19, by kernel_rfl, by kernel_rfl⟩
def B20_1 : C := .seq (.reg [⟨some 29, .bin .lss (.t 28) (.t 27), none⟩])
  (.seq (.cond (.t 29) (.skip)
  (.exit 1))
  (.seq (.block 2 (.seq (.reg [⟨some 30, .mv (.t 28) false, none⟩, ⟨some 4, .mv (.t 30) true, none⟩])
  (.seq (.reg [⟨some 31, .load 4 true (.t 1) false, none⟩, ⟨some 32, .mv (.t 4) false, none⟩, ⟨some 33, .call 41 [(.t 31), (.t 32)] false, none⟩, ⟨some 5, .mv (.t 33) true, none⟩])
  (.seq (.reg [⟨some 34, .mv (.t 5) false, none⟩, ⟨some 35, .bin .neq (.t 34) (.c (.int .i64 0)), none⟩])
  (.cond (.t 35) (.seq (.reg [⟨some 36, .mv (.t 4) false, none⟩, ⟨some 37, .mv (.t 5) false, none⟩, ⟨some 2, .mv (.t 36) true, none⟩, ⟨some 3, .mv (.t 37) true, none⟩])
  (.ret))
  (.skip))))))
  (.reg [⟨some 38, .bin .add (.t 28) (.c (.int .i64 1)), none⟩, ⟨some 28, .mv (.t 38) false, none⟩])))
def L20_1 : C := .loop [1, 27, 28] 1 B20_1
theorem go20_1 (s : Env × Bx) (nb) : evL tab ext nb L20_1 s = (loopIn nb [1, 27, 28] 1 s).bind fun s0 => (evL tab ext nb B20_1 s0).bind (seqG tab ext nb L20_1) := eL_loop _ _ _
/-- swingbridge/task.Check -/
def C20 : CFun := ⟨39, 1, .seq (.reg [⟨some 1, .box (.t 0), none⟩, ⟨some 2, .mv (.c (.int .i64 0)) true, none⟩, ⟨some 3, .mv (.c (.int .i64 0)) true, none⟩])
  (.seq (.block 0 (.seq (.reg [⟨some 7, .fa 0 (.t 1), none⟩, ⟨some 8, .load 1 false (.t 7) false, none⟩, ⟨some 9, .call 39 [(.t 8), (.c (.int .i64 1)), (.c (.int .i64 3))] false, none⟩, ⟨some 10, .un .not (.t 9), none⟩, ⟨some 6, .mv (.t 10) true, none⟩])
  (.cond (.t 6) (.seq (.reg [⟨some 2, .mv (.c (.int .i64 (-1))) true, none⟩, ⟨some 3, .mv (.c (.int .i64 10)) true, none⟩])
  (.ret))
  (.seq (.reg [⟨some 12, .load 4 true (.t 1) false, none⟩, ⟨some 13, .call 40 [(.t 12)] false, none⟩, ⟨some 14, .un .not (.t 13), none⟩, ⟨some 11, .mv (.t 14) true, none⟩])
  (.cond (.t 11) (.seq (.reg [⟨some 2, .mv (.c (.int .i64 (-1))) true, none⟩, ⟨some 3, .mv (.c (.int .i64 16)) true, none⟩])
  (.ret))
  (.seq (.reg [⟨some 16, .fa 3 (.t 1), none⟩, ⟨some 17, .load 1 false (.t 16) false, none⟩, ⟨some 18, .len (.t 17), none⟩, ⟨some 19, .bin .gtr (.t 18) (.c (.int .i64 6)), none⟩, ⟨some 15, .mv (.t 19) true, none⟩])
  (.cond (.t 15) (.seq (.reg [⟨some 2, .mv (.c (.int .i64 (-1))) true, none⟩, ⟨some 3, .mv (.c (.int .i64 11)) true, none⟩])
  (.ret))
  (.seq (.reg [⟨some 21, .fa 3 (.t 1), none⟩, ⟨some 22, .load 1 false (.t 21) false, none⟩, ⟨some 23, .len (.t 22), none⟩, ⟨some 24, .bin .eql (.t 23) (.c (.int .i64 0)), none⟩, ⟨some 20, .mv (.t 24) true, none⟩])
  (.cond (.t 20) (.seq (.reg [⟨some 2, .mv (.c (.int .i64 (-1))) true, none⟩, ⟨some 3, .mv (.c (.int .i64 14)) true, none⟩])
  (.ret))
  (.skip))))))))))
  (.seq (.seq (.reg [⟨some 25, .fa 3 (.t 1), none⟩, ⟨some 26, .load 1 false (.t 25) false, none⟩, ⟨some 27, .len (.t 26), none⟩, ⟨some 28, .mv (.c (.int .i64 0)) false, none⟩])
  (.block 1 (L20_1)))
  (.seq (.reg [⟨some 2, .mv (.c (.int .i64 (-1))) true, none⟩, ⟨some 3, .mv (.c (.int .i64 0)) true, none⟩])
  (.ret)))), [.t 2, .t 3]⟩
theorem row20 : RowOk Tryz.prog 20 C20 := ⟨Tryz.f20, ⟨[], [], [], []⟩, lvOf [(1, [1, 27, 28], 1)], Tryz.func20, by kernel_rfl, by kernel_rfl⟩
/-- swingbridge/swingbridgeref11.There -/
def C21 : CFun := ⟨18, 2, .seq (.reg [⟨some 2, .box (.t 0), none⟩, ⟨some 4, .mv (.c (.bool false)) true, none⟩])
  (.seq (.reg [⟨some 5, .load 4 true (.t 2) false, none⟩, ⟨some 6, .call 42 [(.t 5)] false, none⟩, ⟨some 7, .mv (.t 6) false, none⟩, ⟨some 8, .mv (.t 1) false, some (7, true)⟩, ⟨some 9, .bin .geq (.t 8) (.c (.int .i64 0)), some (7, true)⟩, ⟨some 10, .pick (.t 7) (.t 9) (.c (.bool false)), none⟩, ⟨some 11, .mv (.t 10) false, none⟩, ⟨some 12, .mv (.t 1) false, some (11, true)⟩, ⟨some 13, .fa 3 (.t 2), some (11, true)⟩, ⟨some 14, .load 1 false (.t 13) false, some (11, true)⟩, ⟨some 15, .len (.t 14), some (11, true)⟩, ⟨some 16, .bin .lss (.t 12) (.t 15), some (11, true)⟩, ⟨some 17, .pick (.t 11) (.t 16) (.c (.bool false)), none⟩, ⟨some 4, .mv (.t 17) true, none⟩])
  (.ret)), [.t 4]⟩
theorem row21 : RowOk Tryz.prog 21 C21 := ⟨Tryz.f21, ⟨[], [], [], []⟩, lvOf [], Tryz.func21, by kernel_rfl, by kernel_rfl⟩
def B22_0 : C := .seq (.seq (.reg [⟨some 5, .mv (.t 4) false, none⟩, ⟨some 6, .fa 5 (.t 1), none⟩, ⟨some 7, .load 1 false (.t 6) false, none⟩, ⟨some 8, .len (.t 7), none⟩, ⟨some 9, .bin .lss (.t 5) (.t 8), none⟩])
  (.cond (.t 9) (.skip)
  (.exit 0)))
  (.seq (.block 1 (.seq (.reg [⟨some 12, .fa 5 (.t 1), none⟩, ⟨some 13, .load 1 false (.t 12) false, none⟩, ⟨some 14, .mv (.t 4) false, none⟩, ⟨some 15, .ia 3 (.t 13) (.t 14), none⟩, ⟨some 16, .fa 0 (.t 15), none⟩, ⟨some 17, .load 1 false (.t 16) false, none⟩, ⟨some 18, .bin .eql (.t 17) (.c (.int .i64 3)), none⟩])
  (.cond (.t 18) (.reg [⟨some 19, .mv (.t 3) false, none⟩, ⟨some 20, .fa 5 (.t 1), none⟩, ⟨some 21, .load 1 false (.t 20) false, none⟩, ⟨some 22, .mv (.t 4) false, none⟩, ⟨some 23, .ia 3 (.t 21) (.t 22), none⟩, ⟨some 24, .fa 1 (.t 23), none⟩, ⟨some 25, .load 1 false (.t 24) false, none⟩, ⟨some 26, .mxn true [(.t 19), (.t 25)], none⟩, ⟨some 3, .mv (.t 26) true, none⟩])
  (.skip))))
  (.reg [⟨some 10, .mv (.t 4) false, none⟩, ⟨some 11, .bin .add (.t 10) (.c (.int .i64 1)), none⟩, ⟨some 4, .mv (.t 11) true, none⟩]))
def L22_0 : C := .loop [1, 3, 4] 1 B22_0
theorem go22_0 (s : Env × Bx) (nb) : evL tab ext nb L22_0 s = (loopIn nb [1, 3, 4] 1 s).bind fun s0 => (evL tab ext nb B22_0 s0).bind (seqG tab ext nb L22_0) := eL_loop _ _ _
/-- swingbridge/swingbridgeref11.Longest -/
def C22 : CFun := ⟨28, 1, .seq (.reg [⟨some 1, .box (.t 0), none⟩, ⟨some 2, .mv (.c (.int .i64 0)) true, none⟩])
  (.seq (.reg [⟨some 3, .mv (.c (.int .i64 0)) true, none⟩])
  (.seq (.seq (.reg [⟨some 4, .mv (.c (.int .i64 0)) true, none⟩])
  (.block 0 (L22_0)))
  (.seq (.reg [⟨some 27, .mv (.t 3) false, none⟩, ⟨some 2, .mv (.t 27) true, none⟩])
  (.ret)))), [.t 2]⟩
theorem row22 : RowOk Tryz.prog 22 C22 := ⟨Tryz.f22, ⟨[], [], [], []⟩, lvOf [(0, [1, 3, 4], 1)], Tryz.func22, by kernel_rfl, by kernel_rfl⟩
/-- swingbridge/swingbridgelaw16.one -/
def C23 : CFun := ⟨12, 2, .seq (.reg [⟨some 4, .alloc [(.int .i64 0), (.slice none 0 0), (.slice none 0 0), (.slice none 0 0)], none⟩])
  (.seq (.reg [⟨some 5, .mv (.t 0) false, none⟩, ⟨some 6, .bsl 1 1 [(.int .i64 0)] [(0, 1, (.c (.int .i64 1)))] false, none⟩, ⟨some 7, .bsl 1 1 [(.int .i64 0)] [(0, 1, (.c (.int .i64 0)))] false, none⟩, ⟨some 8, .mv (.t 1) false, none⟩, ⟨some 9, .build [(.string ⟨#[]⟩), (.int .i64 0), (.int .i64 0), (.int .i64 0), (.int .i64 0), (.slice none 0 0)] [(0, 1, (.c (.string ⟨#[97]⟩))), (1, 1, (.c (.int .i64 100))), (2, 1, (.c (.int .i64 100))), (3, 1, (.c (.int .i64 1))), (5, 1, (.t 8))], none⟩, ⟨some 10, .bsl 6 1 [(.string ⟨#[]⟩), (.int .i64 0), (.int .i64 0), (.int .i64 0), (.int .i64 0), (.slice none 0 0)] [(0, 6, (.t 9))] false, none⟩, ⟨some 11, .build [(.int .i64 0), (.slice none 0 0), (.slice none 0 0), (.slice none 0 0)] [(0, 1, (.t 5)), (1, 1, (.t 6)), (2, 1, (.t 7)), (3, 1, (.t 10))], none⟩, ⟨none, .store 4 (.t 4) (.t 11), none⟩])
  (.ret)), [.cell 4 4]⟩
theorem row23 : RowOk Tryz.prog 23 C23 := ⟨Tryz.f23, ⟨[], [], [], []⟩, lvOf [], Tryz.func23, by kernel_rfl, by kernel_rfl⟩
/-- swingbridge/fair.locked -/
def C24 : CFun := ⟨58, 3, .seq (.reg [⟨some 3, .box (.t 0), none⟩, ⟨some 6, .alloc [(.int .i64 0), (.int .i64 0), (.int .i64 0)], none⟩, ⟨some 7, .mv (.c (.bool false)) true, none⟩])
  (.seq (.seq (.reg [⟨some 12, .load 4 true (.t 3) false, none⟩, ⟨some 13, .call 20 [(.t 12)] false, none⟩, ⟨some 11, .mv (.t 13) false, none⟩, ⟨some 14, .ext (.t 11) 0, none⟩, ⟨some 15, .ext (.t 11) 1, none⟩, ⟨some 8, .mv (.t 14) true, none⟩, ⟨some 9, .mv (.t 15) true, none⟩])
  (.seq (.reg [⟨some 16, .mv (.t 9) false, none⟩, ⟨some 17, .bin .neq (.t 16) (.c (.int .i64 0)), none⟩, ⟨some 18, .mv (.t 17) false, none⟩, ⟨some 19, .mv (.t 1) false, some (18, false)⟩, ⟨some 20, .bin .lss (.t 19) (.c (.int .i64 0)), some (18, false)⟩, ⟨some 21, .pick (.t 18) (.c (.bool true)) (.t 20), none⟩, ⟨some 22, .mv (.t 21) false, none⟩, ⟨some 23, .mv (.t 1) false, some (22, false)⟩, ⟨some 24, .fa 3 (.t 3), some (22, false)⟩, ⟨some 25, .load 1 false (.t 24) false, some (22, false)⟩, ⟨some 26, .len (.t 25), some (22, false)⟩, ⟨some 27, .bin .geq (.t 23) (.t 26), some (22, false)⟩, ⟨some 28, .pick (.t 22) (.c (.bool true)) (.t 27), none⟩, ⟨some 29, .mv (.t 28) false, none⟩, ⟨some 30, .mv (.t 2) false, some (29, false)⟩, ⟨some 31, .bin .lss (.t 30) (.c (.int .i64 0)), some (29, false)⟩, ⟨some 32, .pick (.t 29) (.c (.bool true)) (.t 31), none⟩, ⟨some 33, .mv (.t 32) false, none⟩, ⟨some 34, .mv (.t 2) false, some (33, false)⟩, ⟨some 35, .fa 3 (.t 3), some (33, false)⟩, ⟨some 36, .load 1 false (.t 35) false, some (33, false)⟩, ⟨some 37, .mv (.t 1) false, some (33, false)⟩, ⟨some 38, .ia 6 (.t 36) (.t 37), some (33, false)⟩, ⟨some 39, .fa 5 (.t 38), some (33, false)⟩, ⟨some 40, .load 1 false (.t 39) false, some (33, false)⟩, ⟨some 41, .len (.t 40), some (33, false)⟩, ⟨some 42, .bin .geq (.t 34) (.t 41), some (33, false)⟩, ⟨some 43, .pick (.t 33) (.c (.bool true)) (.t 42), none⟩])
  (.cond (.t 43) (.seq (.reg [⟨some 44, .build [(.int .i64 0), (.int .i64 0), (.int .i64 0)] [], none⟩, ⟨none, .store 3 (.t 6) (.t 44), none⟩, ⟨some 7, .mv (.c (.bool false)) true, none⟩])
  (.ret))
  (.skip))))
  (.seq (.reg [⟨some 45, .fa 3 (.t 3), none⟩, ⟨some 46, .load 1 false (.t 45) false, none⟩, ⟨some 47, .mv (.t 1) false, none⟩, ⟨some 48, .ia 6 (.t 46) (.t 47), none⟩, ⟨some 49, .fa 5 (.t 48), none⟩, ⟨some 50, .load 1 false (.t 49) false, none⟩, ⟨some 51, .mv (.t 2) false, none⟩, ⟨some 52, .ia 3 (.t 50) (.t 51), none⟩, ⟨some 53, .load 3 true (.t 52) false, none⟩, ⟨some 10, .alloc [(.int .i64 0), (.int .i64 0), (.int .i64 0)], none⟩, ⟨none, .store 3 (.t 10) (.t 53), none⟩])
  (.seq (.dreg [(55, 10)] [(6, 10)] [⟨some 54, .load 3 true (.t 10) false, none⟩, ⟨some 55, .fa 0 (.t 10), none⟩, ⟨some 56, .load 1 false (.t 55) false, none⟩, ⟨some 57, .bin .eql (.t 56) (.c (.int .i64 3)), none⟩, ⟨none, .store 3 (.t 6) (.t 54), none⟩, ⟨some 7, .mv (.t 57) true, none⟩])
  (.ret)))), [.cell 6 3, .t 7]⟩
theorem row24 : RowOk Tryz.prog 24 C24 := ⟨Tryz.f24, ⟨[], [], [], []⟩, lvOf [], Tryz.func24, by kernel_rfl, by kernel_rfl⟩
def B25_0 : C := .seq (.reg [⟨some 32, .bin .lss (.t 31) (.t 30), none⟩])
  (.seq (.cond (.t 32) (.skip)
  (.exit 0))
  (.seq (.block 1 (.seq (.reg [⟨some 33, .mv (.t 31) false, none⟩, ⟨some 34, .ia 6 (.t 29) (.t 31), none⟩, ⟨some 35, .load 6 true (.t 34) false, none⟩, ⟨some 9, .alloc [(.string ⟨#[]⟩), (.int .i64 0), (.int .i64 0), (.int .i64 0), (.int .i64 0), (.slice none 0 0)], none⟩, ⟨some 8, .mv (.t 33) true, none⟩, ⟨none, .store 6 (.t 9) (.t 35), none⟩])
  (.seq (.seq (.reg [⟨some 36, .mv (.t 8) false, none⟩, ⟨some 37, .mv (.t 1) false, none⟩, ⟨some 38, .bin .eql (.t 36) (.t 37), none⟩, ⟨some 39, .mv (.t 38) false, none⟩, ⟨some 40, .load 6 true (.t 9) false, some (39, false)⟩, ⟨some 41, .call 43 [(.t 40)] false, some (39, false)⟩, ⟨some 42, .bin .eql (.t 41) (.c (.int .i64 0)), some (39, false)⟩, ⟨some 43, .pick (.t 39) (.c (.bool true)) (.t 42), none⟩])
  (.cond (.t 43) (.exit 1)
  (.skip)))
  (.reg [⟨some 44, .mv (.t 5) true, none⟩, ⟨some 45, .load 6 true (.t 9) false, none⟩, ⟨some 46, .call 43 [(.t 45)] false, none⟩, ⟨some 47, .bsl 1 1 [(.int .i64 0)] [(0, 1, (.t 46))] false, none⟩, ⟨some 48, .app 1 8 (.t 44) (.t 47) false, none⟩, ⟨some 5, .mv (.t 48) true, none⟩]))))
  (.reg [⟨some 49, .bin .add (.t 31) (.c (.int .i64 1)), none⟩, ⟨some 31, .mv (.t 49) false, none⟩])))
def L25_0 : C := .loop [1, 5, 29, 30, 31] 1 B25_0
theorem go25_0 (s : Env × Bx) (nb) : evL tab ext nb L25_0 s = (loopIn nb [1, 5, 29, 30, 31] 1 s).bind fun s0 => (evL tab ext nb B25_0 s0).bind (seqG tab ext nb L25_0) := eL_loop _ _ _
/-- swingbridge/fair.others -/
def C25 : CFun := ⟨51, 2, .seq (.reg [⟨some 2, .box (.t 0), none⟩, ⟨some 4, .mv (.c (.slice none 0 0)) true, none⟩])
  (.scope (.seq (.reg [⟨some 5, .mv (.c (.slice none 0 0)) true, none⟩])
  (.seq (.seq (.reg [⟨some 11, .load 4 true (.t 2) false, none⟩, ⟨some 12, .call 20 [(.t 11)] false, none⟩, ⟨some 10, .mv (.t 12) false, none⟩, ⟨some 13, .ext (.t 10) 0, none⟩, ⟨some 14, .ext (.t 10) 1, none⟩, ⟨some 6, .mv (.t 13) true, none⟩, ⟨some 7, .mv (.t 14) true, none⟩])
  (.seq (.reg [⟨some 15, .mv (.t 7) false, none⟩, ⟨some 16, .bin .neq (.t 15) (.c (.int .i64 0)), none⟩, ⟨some 17, .mv (.t 16) false, none⟩, ⟨some 18, .mv (.t 1) false, some (17, false)⟩, ⟨some 19, .bin .lss (.t 18) (.c (.int .i64 0)), some (17, false)⟩, ⟨some 20, .pick (.t 17) (.c (.bool true)) (.t 19), none⟩, ⟨some 21, .mv (.t 20) false, none⟩, ⟨some 22, .mv (.t 1) false, some (21, false)⟩, ⟨some 23, .fa 3 (.t 2), some (21, false)⟩, ⟨some 24, .load 1 false (.t 23) false, some (21, false)⟩, ⟨some 25, .len (.t 24), some (21, false)⟩, ⟨some 26, .bin .geq (.t 22) (.t 25), some (21, false)⟩, ⟨some 27, .pick (.t 21) (.c (.bool true)) (.t 26), none⟩])
  (.cond (.t 27) (.seq (.reg [⟨some 4, .mv (.c (.slice none 0 0)) true, none⟩])
  (.ret))
  (.skip))))
  (.seq (.skip)
  (.seq (.seq (.reg [⟨some 28, .fa 3 (.t 2), none⟩, ⟨some 29, .load 1 false (.t 28) false, none⟩, ⟨some 30, .len (.t 29), none⟩, ⟨some 31, .mv (.c (.int .i64 0)) false, none⟩])
  (.block 0 (L25_0)))
  (.seq (.reg [⟨some 50, .mv (.t 5) false, none⟩, ⟨some 4, .mv (.t 50) true, none⟩])
  (.ret))))))), [.t 4]⟩
theorem row25 : RowOk Tryz.prog 25 C25 := ⟨Tryz.f25, ⟨[], [], [], []⟩, lvOf [(0, [1, 5, 29, 30, 31], 1)], Tryz.func25, by kernel_rfl, by kernel_rfl⟩
def B26_0 : C := .seq (.reg [⟨some 13, .bin .lss (.t 12) (.t 11), none⟩])
  (.seq (.cond (.t 13) (.skip)
  (.exit 0))
  (.seq (.block 1 (.seq (.reg [⟨some 14, .ia 1 (.t 10) (.t 12), none⟩, ⟨some 15, .load 1 false (.t 14) false, none⟩, ⟨some 7, .mv (.t 15) true, none⟩])
  (.reg [⟨some 16, .mv (.t 5) false, none⟩, ⟨some 17, .mv (.t 7) false, none⟩, ⟨some 18, .bin .add (.t 16) (.t 17), none⟩, ⟨some 5, .mv (.t 18) true, none⟩])))
  (.reg [⟨some 19, .bin .add (.t 12) (.c (.int .i64 1)), none⟩, ⟨some 12, .mv (.t 19) false, none⟩])))
def L26_0 : C := .loop [5, 10, 11, 12] 0 B26_0
theorem go26_0 (s : Env × Bx) (nb) : evL tab ext nb L26_0 s = (loopIn nb [5, 10, 11, 12] 0 s).bind fun s0 => (evL tab ext nb B26_0 s0).bind (seqG tab ext nb L26_0) := eL_loop _ _ _
/-- swingbridge/sorted.Sum -/
def C26 : CFun := ⟨21, 2, .seq (.reg [⟨some 4, .mv (.c (.int .i64 0)) true, none⟩])
  (.seq (.reg [⟨some 5, .mv (.c (.int .i64 0)) true, none⟩])
  (.seq (.seq (.reg [⟨some 8, .mv (.t 0) false, none⟩, ⟨some 9, .mv (.t 1) false, none⟩, ⟨some 10, .call 44 [(.t 8), (.t 9)] false, none⟩, ⟨some 11, .len (.t 10), none⟩, ⟨some 12, .mv (.c (.int .i64 0)) false, none⟩])
  (.block 0 (L26_0)))
  (.seq (.reg [⟨some 20, .mv (.t 5) false, none⟩, ⟨some 4, .mv (.t 20) true, none⟩])
  (.ret)))), [.t 4]⟩
theorem row26 : RowOk Tryz.prog 26 C26 := ⟨Tryz.f26, ⟨[], [], [], []⟩, lvOf [(0, [5, 10, 11, 12], 0)], Tryz.func26, by kernel_rfl, by kernel_rfl⟩
/-- swingbridge/agent.there -/
def C27 : CFun := ⟨25, 2, .seq (.reg [⟨some 2, .box (.t 0), none⟩, ⟨some 4, .mv (.c (.bool false)) true, none⟩])
  (.seq (.reg [⟨some 8, .load 4 true (.t 2) false, none⟩, ⟨some 9, .call 20 [(.t 8)] false, none⟩, ⟨some 7, .mv (.t 9) false, none⟩, ⟨some 10, .ext (.t 7) 0, none⟩, ⟨some 11, .ext (.t 7) 1, none⟩, ⟨some 5, .mv (.t 10) true, none⟩, ⟨some 6, .mv (.t 11) true, none⟩])
  (.seq (.reg [⟨some 12, .mv (.t 6) false, none⟩, ⟨some 13, .bin .eql (.t 12) (.c (.int .i64 0)), none⟩, ⟨some 14, .mv (.t 13) false, none⟩, ⟨some 15, .mv (.t 1) false, some (14, true)⟩, ⟨some 16, .bin .geq (.t 15) (.c (.int .i64 0)), some (14, true)⟩, ⟨some 17, .pick (.t 14) (.t 16) (.c (.bool false)), none⟩, ⟨some 18, .mv (.t 17) false, none⟩, ⟨some 19, .mv (.t 1) false, some (18, true)⟩, ⟨some 20, .fa 3 (.t 2), some (18, true)⟩, ⟨some 21, .load 1 false (.t 20) false, some (18, true)⟩, ⟨some 22, .len (.t 21), some (18, true)⟩, ⟨some 23, .bin .lss (.t 19) (.t 22), some (18, true)⟩, ⟨some 24, .pick (.t 18) (.t 23) (.c (.bool false)), none⟩, ⟨some 4, .mv (.t 24) true, none⟩])
  (.ret))), [.t 4]⟩
theorem row27 : RowOk Tryz.prog 27 C27 := ⟨Tryz.f27, ⟨[], [], [], []⟩, lvOf [], Tryz.func27, by kernel_rfl, by kernel_rfl⟩
def B28_0 : C := .seq (.reg [⟨some 18, .bin .lss (.t 17) (.t 16), none⟩])
  (.seq (.cond (.t 18) (.skip)
  (.exit 0))
  (.seq (.block 1 (.seq (.reg [⟨some 19, .mv (.t 17) false, none⟩, ⟨some 20, .ia 6 (.t 15) (.t 17), none⟩, ⟨some 21, .load 6 true (.t 20) false, none⟩, ⟨some 9, .alloc [(.string ⟨#[]⟩), (.int .i64 0), (.int .i64 0), (.int .i64 0), (.int .i64 0), (.slice none 0 0)], none⟩, ⟨some 8, .mv (.t 19) true, none⟩, ⟨none, .store 6 (.t 9) (.t 21), none⟩])
  (.seq (.seq (.reg [⟨some 22, .fa 3 (.t 9), none⟩, ⟨some 23, .load 1 false (.t 22) false, none⟩, ⟨some 24, .fa 3 (.t 3), none⟩, ⟨some 25, .load 1 false (.t 24) false, none⟩, ⟨some 26, .mv (.t 1) false, none⟩, ⟨some 27, .ia 6 (.t 25) (.t 26), none⟩, ⟨some 28, .fa 3 (.t 27), none⟩, ⟨some 29, .load 1 false (.t 28) false, none⟩, ⟨some 30, .bin .leq (.t 23) (.t 29), none⟩])
  (.cond (.t 30) (.exit 1)
  (.skip)))
  (.reg [⟨some 31, .mv (.t 7) false, none⟩, ⟨some 32, .load 4 true (.t 3) false, none⟩, ⟨some 33, .mv (.t 8) false, none⟩, ⟨some 34, .mv (.t 2) false, none⟩, ⟨some 35, .call 45 [(.t 32), (.t 33), (.t 34)] false, none⟩, ⟨some 36, .mxn true [(.t 31), (.t 35)], none⟩, ⟨some 7, .mv (.t 36) true, none⟩]))))
  (.reg [⟨some 37, .bin .add (.t 17) (.c (.int .i64 1)), none⟩, ⟨some 17, .mv (.t 37) false, none⟩])))
def L28_0 : C := .loop [1, 2, 3, 7, 15, 16, 17] 1 B28_0
theorem go28_0 (s : Env × Bx) (nb) : evL tab ext nb L28_0 s = (loopIn nb [1, 2, 3, 7, 15, 16, 17] 1 s).bind fun s0 => (evL tab ext nb B28_0 s0).bind (seqG tab ext nb L28_0) := eL_loop _ _ _
/-- swingbridge/agent.Lower -/
def C28 : CFun := ⟨39, 3, .seq (.reg [⟨some 3, .box (.t 0), none⟩, ⟨some 6, .mv (.c (.int .i64 0)) true, none⟩])
  (.scope (.seq (.reg [⟨some 7, .mv (.c (.int .i64 0)) true, none⟩])
  (.seq (.seq (.reg [⟨some 10, .load 4 true (.t 3) false, none⟩, ⟨some 11, .mv (.t 1) false, none⟩, ⟨some 12, .call 27 [(.t 10), (.t 11)] false, none⟩, ⟨some 13, .un .not (.t 12), none⟩])
  (.cond (.t 13) (.seq (.reg [⟨some 6, .mv (.c (.int .i64 0)) true, none⟩])
  (.ret))
  (.skip)))
  (.seq (.skip)
  (.seq (.seq (.reg [⟨some 14, .fa 3 (.t 3), none⟩, ⟨some 15, .load 1 false (.t 14) false, none⟩, ⟨some 16, .len (.t 15), none⟩, ⟨some 17, .mv (.c (.int .i64 0)) false, none⟩])
  (.block 0 (L28_0)))
  (.seq (.reg [⟨some 38, .mv (.t 7) false, none⟩, ⟨some 6, .mv (.t 38) true, none⟩])
  (.ret))))))), [.t 6]⟩
theorem row28 : RowOk Tryz.prog 28 C28 := ⟨Tryz.f28, ⟨[], [], [], []⟩, lvOf [(0, [1, 2, 3, 7, 15, 16, 17], 1)], Tryz.func28, by kernel_rfl, by kernel_rfl⟩
def B29_0 : C := .seq (.reg [⟨some 30, .bin .lss (.t 29) (.t 28), none⟩])
  (.seq (.cond (.t 30) (.skip)
  (.exit 0))
  (.seq (.block 1 (.seq (.reg [⟨some 31, .mv (.t 29) false, none⟩, ⟨some 32, .ia 6 (.t 27) (.t 29), none⟩, ⟨some 33, .load 6 true (.t 32) false, none⟩, ⟨some 13, .alloc [(.string ⟨#[]⟩), (.int .i64 0), (.int .i64 0), (.int .i64 0), (.int .i64 0), (.slice none 0 0)], none⟩, ⟨some 12, .mv (.t 31) true, none⟩, ⟨none, .store 6 (.t 13) (.t 33), none⟩])
  (.seq (.reg [⟨some 34, .fa 3 (.t 13), none⟩, ⟨some 35, .load 1 false (.t 34) false, none⟩, ⟨some 36, .fa 3 (.t 5), none⟩, ⟨some 37, .load 1 false (.t 36) false, none⟩, ⟨some 38, .mv (.t 2) false, none⟩, ⟨some 39, .ia 6 (.t 37) (.t 38), none⟩, ⟨some 40, .fa 3 (.t 39), none⟩, ⟨some 41, .load 1 false (.t 40) false, none⟩, ⟨some 42, .bin .lss (.t 35) (.t 41), none⟩])
  (.cond (.t 42) (.reg [⟨some 43, .mv (.t 11) false, none⟩, ⟨some 44, .mv (.t 4) false, none⟩, ⟨some 45, .mv (.t 1) false, none⟩, ⟨some 46, .mv (.t 12) false, none⟩, ⟨some 47, .ia 1 (.t 45) (.t 46), none⟩, ⟨some 48, .load 1 false (.t 47) false, none⟩, ⟨some 49, .fa 1 (.t 13), none⟩, ⟨some 50, .load 1 false (.t 49) false, none⟩, ⟨some 51, .load 4 true (.t 5) false, none⟩, ⟨some 52, .mv (.t 12) false, none⟩, ⟨some 53, .mv (.t 3) false, none⟩, ⟨some 54, .call 47 [(.t 51), (.t 52), (.t 53)] false, none⟩, ⟨some 55, .call 46 [(.t 44), (.t 48), (.t 50), (.t 54)] false, none⟩, ⟨some 56, .bin .add (.t 43) (.t 55), none⟩, ⟨some 11, .mv (.t 56) true, none⟩])
  (.skip)))))
  (.reg [⟨some 57, .bin .add (.t 29) (.c (.int .i64 1)), none⟩, ⟨some 29, .mv (.t 57) false, none⟩])))
def L29_0 : C := .loop [1, 2, 3, 4, 5, 11, 27, 28, 29] 1 B29_0
theorem go29_0 (s : Env × Bx) (nb) : evL tab ext nb L29_0 s = (loopIn nb [1, 2, 3, 4, 5, 11, 27, 28, 29] 1 s).bind fun s0 => (evL tab ext nb B29_0 s0).bind (seqG tab ext nb L29_0) := eL_loop _ _ _
/-- swingbridge/agent.Higher -/
def C29 : CFun := ⟨60, 5, .seq (.reg [⟨some 5, .box (.t 0), none⟩, ⟨some 10, .mv (.c (.int .i64 0)) true, none⟩])
  (.seq (.reg [⟨some 11, .mv (.c (.int .i64 0)) true, none⟩])
  (.seq (.seq (.reg [⟨some 14, .load 4 true (.t 5) false, none⟩, ⟨some 15, .mv (.t 2) false, none⟩, ⟨some 16, .call 27 [(.t 14), (.t 15)] false, none⟩, ⟨some 17, .un .not (.t 16), none⟩, ⟨some 18, .mv (.t 17) false, none⟩, ⟨some 19, .mv (.t 1) false, some (18, false)⟩, ⟨some 20, .len (.t 19), some (18, false)⟩, ⟨some 21, .fa 3 (.t 5), some (18, false)⟩, ⟨some 22, .load 1 false (.t 21) false, some (18, false)⟩, ⟨some 23, .len (.t 22), some (18, false)⟩, ⟨some 24, .bin .neq (.t 20) (.t 23), some (18, false)⟩, ⟨some 25, .pick (.t 18) (.c (.bool true)) (.t 24), none⟩])
  (.cond (.t 25) (.seq (.reg [⟨some 10, .mv (.c (.int .i64 0)) true, none⟩])
  (.ret))
  (.skip)))
  (.seq (.seq (.reg [⟨some 26, .fa 3 (.t 5), none⟩, ⟨some 27, .load 1 false (.t 26) false, none⟩, ⟨some 28, .len (.t 27), none⟩, ⟨some 29, .mv (.c (.int .i64 0)) false, none⟩])
  (.block 0 (L29_0)))
  (.seq (.reg [⟨some 58, .mv (.t 11) false, none⟩, ⟨some 59, .mxn false [(.t 58), (.c (.int .i64 1000000))], none⟩, ⟨some 10, .mv (.t 59) true, none⟩])
  (.ret))))), [.t 10]⟩
theorem row29 : RowOk Tryz.prog 29 C29 := ⟨Tryz.f29, ⟨[], [], [], []⟩, lvOf [(0, [1, 2, 3, 4, 5, 11, 27, 28, 29], 1)], Tryz.func29, by kernel_rfl, by kernel_rfl⟩
/-- swingbridge/token.Inside -/
def C30 : CFun := ⟨46, 3, .seq (.reg [⟨some 3, .box (.t 0), none⟩, ⟨some 6, .mv (.c (.int .i64 0)) true, none⟩, ⟨some 7, .mv (.c (.bool false)) true, none⟩])
  (.seq (.seq (.reg [⟨some 9, .load 4 true (.t 3) false, none⟩, ⟨some 10, .mv (.t 1) false, none⟩, ⟨some 11, .call 48 [(.t 9), (.t 10)] false, none⟩, ⟨some 12, .un .not (.t 11), none⟩, ⟨some 13, .mv (.t 12) false, none⟩, ⟨some 14, .mv (.t 2) false, some (13, false)⟩, ⟨some 15, .bin .lss (.t 14) (.c (.int .i64 0)), some (13, false)⟩, ⟨some 16, .pick (.t 13) (.c (.bool true)) (.t 15), none⟩, ⟨some 17, .mv (.t 16) false, none⟩, ⟨some 18, .mv (.t 2) false, some (17, false)⟩, ⟨some 19, .fa 3 (.t 3), some (17, false)⟩, ⟨some 20, .load 1 false (.t 19) false, some (17, false)⟩, ⟨some 21, .mv (.t 1) false, some (17, false)⟩, ⟨some 22, .ia 6 (.t 20) (.t 21), some (17, false)⟩, ⟨some 23, .fa 5 (.t 22), some (17, false)⟩, ⟨some 24, .load 1 false (.t 23) false, some (17, false)⟩, ⟨some 25, .len (.t 24), some (17, false)⟩, ⟨some 26, .bin .geq (.t 18) (.t 25), some (17, false)⟩, ⟨some 27, .pick (.t 17) (.c (.bool true)) (.t 26), none⟩])
  (.cond (.t 27) (.seq (.reg [⟨some 6, .mv (.c (.int .i64 0)) true, none⟩, ⟨some 7, .mv (.c (.bool false)) true, none⟩])
  (.ret))
  (.skip)))
  (.seq (.reg [⟨some 28, .fa 3 (.t 3), none⟩, ⟨some 29, .load 1 false (.t 28) false, none⟩, ⟨some 30, .mv (.t 1) false, none⟩, ⟨some 31, .ia 6 (.t 29) (.t 30), none⟩, ⟨some 32, .fa 5 (.t 31), none⟩, ⟨some 33, .load 1 false (.t 32) false, none⟩, ⟨some 34, .mv (.t 2) false, none⟩, ⟨some 35, .ia 3 (.t 33) (.t 34), none⟩, ⟨some 36, .load 3 true (.t 35) false, none⟩, ⟨some 8, .alloc [(.int .i64 0), (.int .i64 0), (.int .i64 0)], none⟩, ⟨none, .store 3 (.t 8) (.t 36), none⟩])
  (.seq (.seq (.reg [⟨some 37, .fa 0 (.t 8), none⟩, ⟨some 38, .load 1 false (.t 37) false, none⟩, ⟨some 39, .bin .neq (.t 38) (.c (.int .i64 3)), none⟩])
  (.cond (.t 39) (.seq (.reg [⟨some 6, .mv (.c (.int .i64 0)) true, none⟩, ⟨some 7, .mv (.c (.bool false)) true, none⟩])
  (.ret))
  (.skip)))
  (.seq (.reg [⟨some 40, .fa 1 (.t 8), none⟩, ⟨some 41, .load 1 false (.t 40) false, none⟩, ⟨some 42, .load 4 true (.t 3) false, none⟩, ⟨some 43, .mv (.t 1) false, none⟩, ⟨some 44, .call 49 [(.t 42), (.t 43)] false, none⟩, ⟨some 45, .bin .add (.t 41) (.t 44), none⟩, ⟨some 6, .mv (.t 45) true, none⟩, ⟨some 7, .mv (.c (.bool true)) true, none⟩])
  (.ret))))), [.t 6, .t 7]⟩
theorem row30 : RowOk Tryz.prog 30 C30 := ⟨Tryz.f30, ⟨[], [], [], []⟩, lvOf [], Tryz.func30, by kernel_rfl, by kernel_rfl⟩
def B31_0 : C := .seq (.reg [⟨some 40, .bin .lss (.t 39) (.t 38), none⟩])
  (.seq (.cond (.t 40) (.skip)
  (.exit 0))
  (.seq (.block 1 (.seq (.reg [⟨some 41, .mv (.t 39) false, none⟩, ⟨some 42, .ia 6 (.t 37) (.t 39), none⟩, ⟨some 43, .load 6 true (.t 42) false, none⟩, ⟨some 9, .alloc [(.string ⟨#[]⟩), (.int .i64 0), (.int .i64 0), (.int .i64 0), (.int .i64 0), (.slice none 0 0)], none⟩, ⟨some 8, .mv (.t 41) true, none⟩, ⟨none, .store 6 (.t 9) (.t 43), none⟩])
  (.seq (.reg [⟨some 44, .fa 4 (.t 9), none⟩, ⟨some 45, .load 1 false (.t 44) false, none⟩, ⟨some 46, .mv (.t 5) false, none⟩, ⟨some 47, .bin .eql (.t 45) (.t 46), none⟩, ⟨some 48, .mv (.t 47) false, none⟩, ⟨some 49, .load 6 true (.t 9) false, some (48, true)⟩, ⟨some 50, .call 43 [(.t 49)] false, some (48, true)⟩, ⟨some 51, .bin .gtr (.t 50) (.c (.int .i64 0)), some (48, true)⟩, ⟨some 52, .pick (.t 48) (.t 51) (.c (.bool false)), none⟩])
  (.cond (.t 52) (.reg [⟨some 53, .mv (.t 7) false, none⟩, ⟨some 54, .load 6 true (.t 9) false, none⟩, ⟨some 55, .call 43 [(.t 54)] false, none⟩, ⟨some 56, .load 4 true (.t 2) false, none⟩, ⟨some 57, .mv (.t 8) false, none⟩, ⟨some 58, .call 49 [(.t 56), (.t 57)] false, none⟩, ⟨some 59, .bin .add (.t 55) (.t 58), none⟩, ⟨some 60, .mxn true [(.t 53), (.t 59)], none⟩, ⟨some 7, .mv (.t 60) true, none⟩])
  (.skip)))))
  (.reg [⟨some 61, .bin .add (.t 39) (.c (.int .i64 1)), none⟩, ⟨some 39, .mv (.t 61) false, none⟩])))
def L31_0 : C := .loop [2, 5, 6, 7, 37, 38, 39] 1 B31_0
theorem go31_0 (s : Env × Bx) (nb) : evL tab ext nb L31_0 s = (loopIn nb [2, 5, 6, 7, 37, 38, 39] 1 s).bind fun s0 => (evL tab ext nb B31_0 s0).bind (seqG tab ext nb L31_0) := eL_loop _ _ _
/-- swingbridge/token.Outside -/
def C31 : CFun := ⟨76, 2, .seq (.reg [⟨some 2, .box (.t 0), none⟩, ⟨some 4, .mv (.c (.int .i64 0)) true, none⟩])
  (.seq (.seq (.reg [⟨some 12, .load 4 true (.t 2) false, none⟩, ⟨some 13, .mv (.t 1) false, none⟩, ⟨some 14, .call 48 [(.t 12), (.t 13)] false, none⟩, ⟨some 15, .un .not (.t 14), none⟩, ⟨some 16, .mv (.t 15) false, none⟩, ⟨some 17, .fa 3 (.t 2), some (16, false)⟩, ⟨some 18, .load 1 false (.t 17) false, some (16, false)⟩, ⟨some 19, .mv (.t 1) false, some (16, false)⟩, ⟨some 20, .ia 6 (.t 18) (.t 19), some (16, false)⟩, ⟨some 21, .load 6 true (.t 20) false, some (16, false)⟩, ⟨some 22, .call 43 [(.t 21)] false, some (16, false)⟩, ⟨some 23, .bin .eql (.t 22) (.c (.int .i64 0)), some (16, false)⟩, ⟨some 24, .pick (.t 16) (.c (.bool true)) (.t 23), none⟩])
  (.cond (.t 24) (.seq (.reg [⟨some 4, .mv (.c (.int .i64 0)) true, none⟩])
  (.ret))
  (.skip)))
  (.seq (.reg [⟨some 25, .fa 3 (.t 2), none⟩, ⟨some 26, .load 1 false (.t 25) false, none⟩, ⟨some 27, .mv (.t 1) false, none⟩, ⟨some 28, .ia 6 (.t 26) (.t 27), none⟩, ⟨some 29, .fa 4 (.t 28), none⟩, ⟨some 30, .load 1 false (.t 29) false, none⟩, ⟨some 5, .mv (.t 30) true, none⟩])
  (.seq (.reg [⟨some 31, .fa 1 (.t 2), none⟩, ⟨some 32, .load 1 false (.t 31) false, none⟩, ⟨some 33, .mv (.t 5) false, none⟩, ⟨some 34, .ia 1 (.t 32) (.t 33), none⟩, ⟨some 35, .load 1 false (.t 34) false, none⟩, ⟨some 6, .mv (.t 35) true, none⟩])
  (.seq (.reg [⟨some 7, .mv (.c (.int .i64 0)) true, none⟩])
  (.seq (.seq (.reg [⟨some 36, .fa 3 (.t 2), none⟩, ⟨some 37, .load 1 false (.t 36) false, none⟩, ⟨some 38, .len (.t 37), none⟩, ⟨some 39, .mv (.c (.int .i64 0)) false, none⟩])
  (.block 0 (L31_0)))
  (.seq (.reg [⟨some 63, .load 4 true (.t 2) false, none⟩, ⟨some 64, .mv (.t 5) false, none⟩, ⟨some 65, .call 51 [(.t 63), (.t 64)] false, none⟩, ⟨some 66, .mv (.t 6) false, none⟩, ⟨some 67, .bin .sub (.t 65) (.t 66), none⟩, ⟨some 68, .mxn true [(.t 67), (.c (.int .i64 0))], none⟩, ⟨some 69, .mv (.t 6) false, none⟩, ⟨some 70, .call 50 [(.t 68), (.t 69)] false, none⟩, ⟨some 62, .mv (.t 70) false, none⟩, ⟨some 71, .ext (.t 62) 0, none⟩, ⟨some 72, .ext (.t 62) 1, none⟩, ⟨some 10, .mv (.t 71) true, none⟩, ⟨some 11, .mv (.t 72) true, none⟩])
  (.seq (.reg [⟨some 73, .mv (.t 10) false, none⟩, ⟨some 74, .mv (.t 7) false, none⟩, ⟨some 75, .bin .mul (.t 73) (.t 74), none⟩, ⟨some 4, .mv (.t 75) true, none⟩])
  (.ret)))))))), [.t 4]⟩
theorem row31 : RowOk Tryz.prog 31 C31 := ⟨Tryz.f31, ⟨[], [], [], []⟩, lvOf [(0, [2, 5, 6, 7, 37, 38, 39], 1)], Tryz.func31, by kernel_rfl, by kernel_rfl⟩
/-- swingbridge/swingbridgeref11.lock -/
def C32 : CFun := ⟨50, 3, .seq (.reg [⟨some 3, .box (.t 0), none⟩, ⟨some 6, .alloc [(.int .i64 0), (.int .i64 0), (.int .i64 0)], none⟩, ⟨some 7, .mv (.c (.bool false)) true, none⟩])
  (.seq (.seq (.reg [⟨some 8, .load 4 true (.t 3) false, none⟩, ⟨some 9, .mv (.t 1) false, none⟩, ⟨some 10, .call 21 [(.t 8), (.t 9)] false, none⟩, ⟨some 11, .un .not (.t 10), none⟩, ⟨some 12, .mv (.t 11) false, none⟩, ⟨some 13, .mv (.t 2) false, some (12, false)⟩, ⟨some 14, .bin .lss (.t 13) (.c (.int .i64 0)), some (12, false)⟩, ⟨some 15, .pick (.t 12) (.c (.bool true)) (.t 14), none⟩, ⟨some 16, .mv (.t 15) false, none⟩, ⟨some 17, .mv (.t 2) false, some (16, false)⟩, ⟨some 18, .fa 3 (.t 3), some (16, false)⟩, ⟨some 19, .load 1 false (.t 18) false, some (16, false)⟩, ⟨some 20, .mv (.t 1) false, some (16, false)⟩, ⟨some 21, .ia 6 (.t 19) (.t 20), some (16, false)⟩, ⟨some 22, .fa 5 (.t 21), some (16, false)⟩, ⟨some 23, .load 1 false (.t 22) false, some (16, false)⟩, ⟨some 24, .len (.t 23), some (16, false)⟩, ⟨some 25, .bin .geq (.t 17) (.t 24), some (16, false)⟩, ⟨some 26, .pick (.t 16) (.c (.bool true)) (.t 25), none⟩, ⟨some 27, .mv (.t 26) false, none⟩, ⟨some 28, .fa 3 (.t 3), some (27, false)⟩, ⟨some 29, .load 1 false (.t 28) false, some (27, false)⟩, ⟨some 30, .mv (.t 1) false, some (27, false)⟩, ⟨some 31, .ia 6 (.t 29) (.t 30), some (27, false)⟩, ⟨some 32, .fa 5 (.t 31), some (27, false)⟩, ⟨some 33, .load 1 false (.t 32) false, some (27, false)⟩, ⟨some 34, .mv (.t 2) false, some (27, false)⟩, ⟨some 35, .ia 3 (.t 33) (.t 34), some (27, false)⟩, ⟨some 36, .fa 0 (.t 35), some (27, false)⟩, ⟨some 37, .load 1 false (.t 36) false, some (27, false)⟩, ⟨some 38, .bin .neq (.t 37) (.c (.int .i64 3)), some (27, false)⟩, ⟨some 39, .pick (.t 27) (.c (.bool true)) (.t 38), none⟩])
  (.cond (.t 39) (.seq (.reg [⟨some 40, .build [(.int .i64 0), (.int .i64 0), (.int .i64 0)] [], none⟩, ⟨none, .store 3 (.t 6) (.t 40), none⟩, ⟨some 7, .mv (.c (.bool false)) true, none⟩])
  (.ret))
  (.skip)))
  (.seq (.reg [⟨some 41, .fa 3 (.t 3), none⟩, ⟨some 42, .load 1 false (.t 41) false, none⟩, ⟨some 43, .mv (.t 1) false, none⟩, ⟨some 44, .ia 6 (.t 42) (.t 43), none⟩, ⟨some 45, .fa 5 (.t 44), none⟩, ⟨some 46, .load 1 false (.t 45) false, none⟩, ⟨some 47, .mv (.t 2) false, none⟩, ⟨some 48, .ia 3 (.t 46) (.t 47), none⟩, ⟨some 49, .load 3 true (.t 48) false, none⟩, ⟨none, .store 3 (.t 6) (.t 49), none⟩, ⟨some 7, .mv (.c (.bool true)) true, none⟩])
  (.ret))), [.cell 6 3, .t 7]⟩
theorem row32 : RowOk Tryz.prog 32 C32 := ⟨Tryz.f32, ⟨[], [], [], []⟩, lvOf [], Tryz.func32, by kernel_rfl, by kernel_rfl⟩
def B33_0 : C := .seq (.seq (.reg [⟨some 11, .mv (.t 7) false, none⟩, ⟨some 12, .mv (.t 5) false, none⟩, ⟨some 13, .len (.t 12), none⟩, ⟨some 14, .bin .lss (.t 11) (.t 13), none⟩])
  (.cond (.t 14) (.skip)
  (.exit 0)))
  (.seq (.block 1 (.reg [⟨some 17, .mv (.t 6) false, none⟩, ⟨some 18, .mv (.t 5) false, none⟩, ⟨some 19, .mv (.t 7) false, none⟩, ⟨some 20, .ia 1 (.t 18) (.t 19), none⟩, ⟨some 21, .load 1 false (.t 20) false, none⟩, ⟨some 22, .bin .add (.t 17) (.t 21), none⟩, ⟨some 6, .mv (.t 22) true, none⟩]))
  (.reg [⟨some 15, .mv (.t 7) false, none⟩, ⟨some 16, .bin .add (.t 15) (.c (.int .i64 1)), none⟩, ⟨some 7, .mv (.t 16) true, none⟩]))
def L33_0 : C := .loop [5, 6, 7] 0 B33_0
theorem go33_0 (s : Env × Bx) (nb) : evL tab ext nb L33_0 s = (loopIn nb [5, 6, 7] 0 s).bind fun s0 => (evL tab ext nb B33_0 s0).bind (seqG tab ext nb L33_0) := eL_loop _ _ _
/-- swingbridge/swingbridgeref2.Sum -/
def C33 : CFun := ⟨24, 2, .seq (.reg [⟨some 4, .mv (.c (.int .i64 0)) true, none⟩])
  (.seq (.reg [⟨some 8, .mv (.t 0) false, none⟩, ⟨some 9, .mv (.t 1) false, none⟩, ⟨some 10, .call 52 [(.t 8), (.t 9)] false, none⟩, ⟨some 5, .mv (.t 10) true, none⟩])
  (.seq (.reg [⟨some 6, .mv (.c (.int .i64 0)) true, none⟩])
  (.seq (.seq (.reg [⟨some 7, .mv (.c (.int .i64 0)) true, none⟩])
  (.block 0 (L33_0)))
  (.seq (.reg [⟨some 23, .mv (.t 6) false, none⟩, ⟨some 4, .mv (.t 23) true, none⟩])
  (.ret))))), [.t 4]⟩
theorem row33 : RowOk Tryz.prog 33 C33 := ⟨Tryz.f33, ⟨[], [], [], []⟩, lvOf [(0, [5, 6, 7], 0)], Tryz.func33, by kernel_rfl, by kernel_rfl⟩
def B34_0 : C := .seq (.seq (.reg [⟨some 7, .mv (.t 6) false, none⟩, ⟨some 8, .fa 3 (.t 2), none⟩, ⟨some 9, .load 1 false (.t 8) false, none⟩, ⟨some 10, .len (.t 9), none⟩, ⟨some 11, .bin .lss (.t 7) (.t 10), none⟩])
  (.cond (.t 11) (.skip)
  (.exit 0)))
  (.seq (.block 1 (.seq (.reg [⟨some 14, .mv (.t 6) false, none⟩, ⟨some 15, .mv (.t 1) false, none⟩, ⟨some 16, .bin .neq (.t 14) (.t 15), none⟩])
  (.cond (.t 16) (.reg [⟨some 17, .mv (.t 5) true, none⟩, ⟨some 18, .fa 3 (.t 2), none⟩, ⟨some 19, .load 1 false (.t 18) false, none⟩, ⟨some 20, .mv (.t 6) false, none⟩, ⟨some 21, .ia 6 (.t 19) (.t 20), none⟩, ⟨some 22, .load 6 true (.t 21) false, none⟩, ⟨some 23, .call 22 [(.t 22)] false, none⟩, ⟨some 24, .bsl 1 1 [(.int .i64 0)] [(0, 1, (.t 23))] false, none⟩, ⟨some 25, .app 1 8 (.t 17) (.t 24) false, none⟩, ⟨some 5, .mv (.t 25) true, none⟩])
  (.skip))))
  (.reg [⟨some 12, .mv (.t 6) false, none⟩, ⟨some 13, .bin .add (.t 12) (.c (.int .i64 1)), none⟩, ⟨some 6, .mv (.t 13) true, none⟩]))
def L34_0 : C := .loop [1, 2, 5, 6] 1 B34_0
theorem go34_0 (s : Env × Bx) (nb) : evL tab ext nb L34_0 s = (loopIn nb [1, 2, 5, 6] 1 s).bind fun s0 => (evL tab ext nb B34_0 s0).bind (seqG tab ext nb L34_0) := eL_loop _ _ _
/-- swingbridge/swingbridgeref11.others -/
def C34 : CFun := ⟨27, 2, .seq (.reg [⟨some 2, .box (.t 0), none⟩, ⟨some 4, .mv (.c (.slice none 0 0)) true, none⟩])
  (.seq (.reg [⟨some 5, .mv (.c (.slice none 0 0)) true, none⟩])
  (.seq (.seq (.reg [⟨some 6, .mv (.c (.int .i64 0)) true, none⟩])
  (.block 0 (L34_0)))
  (.seq (.reg [⟨some 26, .mv (.t 5) false, none⟩, ⟨some 4, .mv (.t 26) true, none⟩])
  (.ret)))), [.t 4]⟩
theorem row34 : RowOk Tryz.prog 34 C34 := ⟨Tryz.f34, ⟨[], [], [], []⟩, lvOf [(0, [1, 2, 5, 6], 1)], Tryz.func34, by kernel_rfl, by kernel_rfl⟩
def B35_0 : C := .seq (.seq (.reg [⟨some 11, .mv (.t 8) false, none⟩, ⟨some 12, .fa 3 (.t 3), none⟩, ⟨some 13, .load 1 false (.t 12) false, none⟩, ⟨some 14, .len (.t 13), none⟩, ⟨some 15, .bin .lss (.t 11) (.t 14), none⟩, ⟨some 16, .mv (.t 15) false, none⟩, ⟨some 17, .load 4 true (.t 3) false, some (16, true)⟩, ⟨some 18, .mv (.t 1) false, some (16, true)⟩, ⟨some 19, .call 21 [(.t 17), (.t 18)] false, some (16, true)⟩, ⟨some 20, .pick (.t 16) (.t 19) (.c (.bool false)), none⟩])
  (.cond (.t 20) (.skip)
  (.exit 0)))
  (.seq (.block 1 (.seq (.reg [⟨some 23, .fa 3 (.t 3), none⟩, ⟨some 24, .load 1 false (.t 23) false, none⟩, ⟨some 25, .mv (.t 8) false, none⟩, ⟨some 26, .ia 6 (.t 24) (.t 25), none⟩, ⟨some 27, .fa 3 (.t 26), none⟩, ⟨some 28, .load 1 false (.t 27) false, none⟩, ⟨some 29, .fa 3 (.t 3), none⟩, ⟨some 30, .load 1 false (.t 29) false, none⟩, ⟨some 31, .mv (.t 1) false, none⟩, ⟨some 32, .ia 6 (.t 30) (.t 31), none⟩, ⟨some 33, .fa 3 (.t 32), none⟩, ⟨some 34, .load 1 false (.t 33) false, none⟩, ⟨some 35, .bin .gtr (.t 28) (.t 34), none⟩])
  (.cond (.t 35) (.seq (.reg [⟨some 37, .load 4 true (.t 3) false, none⟩, ⟨some 38, .mv (.t 8) false, none⟩, ⟨some 39, .mv (.t 2) false, none⟩, ⟨some 40, .call 53 [(.t 37), (.t 38), (.t 39)] false, none⟩, ⟨some 36, .mv (.t 40) false, none⟩, ⟨some 41, .ext (.t 36) 0, none⟩, ⟨some 42, .ext (.t 36) 1, none⟩, ⟨some 9, .mv (.t 41) true, none⟩, ⟨some 10, .mv (.t 42) true, none⟩])
  (.reg [⟨some 43, .mv (.t 7) false, none⟩, ⟨some 44, .mv (.t 10) false, none⟩, ⟨some 45, .mxn true [(.t 43), (.t 44)], none⟩, ⟨some 7, .mv (.t 45) true, none⟩]))
  (.skip))))
  (.reg [⟨some 21, .mv (.t 8) false, none⟩, ⟨some 22, .bin .add (.t 21) (.c (.int .i64 1)), none⟩, ⟨some 8, .mv (.t 22) true, none⟩]))
def L35_0 : C := .loop [1, 2, 3, 7, 8] 1 B35_0
theorem go35_0 (s : Env × Bx) (nb) : evL tab ext nb L35_0 s = (loopIn nb [1, 2, 3, 7, 8] 1 s).bind fun s0 => (evL tab ext nb B35_0 s0).bind (seqG tab ext nb L35_0) := eL_loop _ _ _
/-- swingbridge/swingbridgeref11.Lower -/
def C35 : CFun := ⟨47, 3, .seq (.reg [⟨some 3, .box (.t 0), none⟩, ⟨some 6, .mv (.c (.int .i64 0)) true, none⟩])
  (.seq (.reg [⟨some 7, .mv (.c (.int .i64 0)) true, none⟩])
  (.seq (.seq (.reg [⟨some 8, .mv (.c (.int .i64 0)) true, none⟩])
  (.block 0 (L35_0)))
  (.seq (.reg [⟨some 46, .mv (.t 7) false, none⟩, ⟨some 6, .mv (.t 46) true, none⟩])
  (.ret)))), [.t 6]⟩
theorem row35 : RowOk Tryz.prog 35 C35 := ⟨Tryz.f35, ⟨[], [], [], []⟩, lvOf [(0, [1, 2, 3, 7, 8], 1)], Tryz.func35, by kernel_rfl, by kernel_rfl⟩
def B36_0 : C := .seq (.seq (.reg [⟨some 27, .mv (.t 12) false, none⟩, ⟨some 28, .fa 3 (.t 5), none⟩, ⟨some 29, .load 1 false (.t 28) false, none⟩, ⟨some 30, .len (.t 29), none⟩, ⟨some 31, .bin .lss (.t 27) (.t 30), none⟩])
  (.cond (.t 31) (.skip)
  (.exit 0)))
  (.seq (.block 1 (.seq (.reg [⟨some 34, .fa 3 (.t 5), none⟩, ⟨some 35, .load 1 false (.t 34) false, none⟩, ⟨some 36, .mv (.t 12) false, none⟩, ⟨some 37, .ia 6 (.t 35) (.t 36), none⟩, ⟨some 38, .fa 3 (.t 37), none⟩, ⟨some 39, .load 1 false (.t 38) false, none⟩, ⟨some 40, .fa 3 (.t 5), none⟩, ⟨some 41, .load 1 false (.t 40) false, none⟩, ⟨some 42, .mv (.t 2) false, none⟩, ⟨some 43, .ia 6 (.t 41) (.t 42), none⟩, ⟨some 44, .fa 3 (.t 43), none⟩, ⟨some 45, .load 1 false (.t 44) false, none⟩, ⟨some 46, .bin .lss (.t 39) (.t 45), none⟩])
  (.cond (.t 46) (.seq (.reg [⟨some 48, .load 4 true (.t 5) false, none⟩, ⟨some 49, .mv (.t 12) false, none⟩, ⟨some 50, .mv (.t 3) false, none⟩, ⟨some 51, .call 53 [(.t 48), (.t 49), (.t 50)] false, none⟩, ⟨some 47, .mv (.t 51) false, none⟩, ⟨some 52, .ext (.t 47) 0, none⟩, ⟨some 53, .ext (.t 47) 1, none⟩, ⟨some 13, .mv (.t 52) true, none⟩, ⟨some 14, .mv (.t 53) true, none⟩])
  (.reg [⟨some 54, .mv (.t 11) false, none⟩, ⟨some 55, .mv (.t 4) false, none⟩, ⟨some 56, .mv (.t 1) false, none⟩, ⟨some 57, .mv (.t 12) false, none⟩, ⟨some 58, .ia 1 (.t 56) (.t 57), none⟩, ⟨some 59, .load 1 false (.t 58) false, none⟩, ⟨some 60, .fa 3 (.t 5), none⟩, ⟨some 61, .load 1 false (.t 60) false, none⟩, ⟨some 62, .mv (.t 12) false, none⟩, ⟨some 63, .ia 6 (.t 61) (.t 62), none⟩, ⟨some 64, .fa 1 (.t 63), none⟩, ⟨some 65, .load 1 false (.t 64) false, none⟩, ⟨some 66, .mv (.t 13) false, none⟩, ⟨some 67, .call 54 [(.t 55), (.t 59), (.t 65), (.t 66)] false, none⟩, ⟨some 68, .bin .add (.t 54) (.t 67), none⟩, ⟨some 69, .mxn false [(.t 68), (.c (.int .i64 1000000))], none⟩, ⟨some 11, .mv (.t 69) true, none⟩]))
  (.skip))))
  (.reg [⟨some 32, .mv (.t 12) false, none⟩, ⟨some 33, .bin .add (.t 32) (.c (.int .i64 1)), none⟩, ⟨some 12, .mv (.t 33) true, none⟩]))
def L36_0 : C := .loop [1, 2, 3, 4, 5, 11, 12] 1 B36_0
theorem go36_0 (s : Env × Bx) (nb) : evL tab ext nb L36_0 s = (loopIn nb [1, 2, 3, 4, 5, 11, 12] 1 s).bind fun s0 => (evL tab ext nb B36_0 s0).bind (seqG tab ext nb L36_0) := eL_loop _ _ _
/-- swingbridge/swingbridgeref11.Higher -/
def C36 : CFun := ⟨71, 5, .seq (.reg [⟨some 5, .box (.t 0), none⟩, ⟨some 10, .mv (.c (.int .i64 0)) true, none⟩])
  (.seq (.reg [⟨some 11, .mv (.c (.int .i64 0)) true, none⟩])
  (.seq (.seq (.reg [⟨some 15, .load 4 true (.t 5) false, none⟩, ⟨some 16, .mv (.t 2) false, none⟩, ⟨some 17, .call 21 [(.t 15), (.t 16)] false, none⟩, ⟨some 18, .un .not (.t 17), none⟩, ⟨some 19, .mv (.t 18) false, none⟩, ⟨some 20, .mv (.t 1) false, some (19, false)⟩, ⟨some 21, .len (.t 20), some (19, false)⟩, ⟨some 22, .fa 3 (.t 5), some (19, false)⟩, ⟨some 23, .load 1 false (.t 22) false, some (19, false)⟩, ⟨some 24, .len (.t 23), some (19, false)⟩, ⟨some 25, .bin .neq (.t 21) (.t 24), some (19, false)⟩, ⟨some 26, .pick (.t 19) (.c (.bool true)) (.t 25), none⟩])
  (.cond (.t 26) (.seq (.reg [⟨some 10, .mv (.c (.int .i64 0)) true, none⟩])
  (.ret))
  (.skip)))
  (.seq (.seq (.reg [⟨some 12, .mv (.c (.int .i64 0)) true, none⟩])
  (.block 0 (L36_0)))
  (.seq (.reg [⟨some 70, .mv (.t 11) false, none⟩, ⟨some 10, .mv (.t 70) true, none⟩])
  (.ret))))), [.t 10]⟩
theorem row36 : RowOk Tryz.prog 36 C36 := ⟨Tryz.f36, ⟨[], [], [], []⟩, lvOf [(0, [1, 2, 3, 4, 5, 11, 12], 1)], Tryz.func36, by kernel_rfl, by kernel_rfl⟩
/-- swingbridge/swingbridgeref11.Inside -/
def C37 : CFun := ⟨25, 3, .seq (.reg [⟨some 3, .box (.t 0), none⟩, ⟨some 6, .mv (.c (.int .i64 0)) true, none⟩, ⟨some 7, .mv (.c (.bool false)) true, none⟩])
  (.seq (.reg [⟨some 11, .load 4 true (.t 3) false, none⟩, ⟨some 12, .mv (.t 1) false, none⟩, ⟨some 13, .mv (.t 2) false, none⟩, ⟨some 14, .call 32 [(.t 11), (.t 12), (.t 13)] false, none⟩, ⟨some 10, .mv (.t 14) false, none⟩, ⟨some 15, .ext (.t 10) 0, none⟩, ⟨some 16, .ext (.t 10) 1, none⟩, ⟨some 8, .alloc [(.int .i64 0), (.int .i64 0), (.int .i64 0)], none⟩, ⟨none, .store 3 (.t 8) (.t 15), none⟩, ⟨some 9, .mv (.t 16) true, none⟩])
  (.seq (.seq (.reg [⟨some 17, .mv (.t 9) false, none⟩, ⟨some 18, .un .not (.t 17), none⟩])
  (.cond (.t 18) (.seq (.reg [⟨some 6, .mv (.c (.int .i64 0)) true, none⟩, ⟨some 7, .mv (.c (.bool false)) true, none⟩])
  (.ret))
  (.skip)))
  (.seq (.reg [⟨some 19, .fa 1 (.t 8), none⟩, ⟨some 20, .load 1 false (.t 19) false, none⟩, ⟨some 21, .load 4 true (.t 3) false, none⟩, ⟨some 22, .mv (.t 1) false, none⟩, ⟨some 23, .call 55 [(.t 21), (.t 22)] false, none⟩, ⟨some 24, .bin .add (.t 20) (.t 23), none⟩, ⟨some 6, .mv (.t 24) true, none⟩, ⟨some 7, .mv (.c (.bool true)) true, none⟩])
  (.ret)))), [.t 6, .t 7]⟩
theorem row37 : RowOk Tryz.prog 37 C37 := ⟨Tryz.f37, ⟨[], [], [], []⟩, lvOf [], Tryz.func37, by kernel_rfl, by kernel_rfl⟩
def B38_0 : C := .seq (.seq (.reg [⟨some 28, .mv (.t 7) false, none⟩, ⟨some 29, .fa 3 (.t 2), none⟩, ⟨some 30, .load 1 false (.t 29) false, none⟩, ⟨some 31, .len (.t 30), none⟩, ⟨some 32, .bin .lss (.t 28) (.t 31), none⟩])
  (.cond (.t 32) (.skip)
  (.exit 0)))
  (.seq (.block 1 (.seq (.reg [⟨some 35, .fa 3 (.t 2), none⟩, ⟨some 36, .load 1 false (.t 35) false, none⟩, ⟨some 37, .mv (.t 7) false, none⟩, ⟨some 38, .ia 6 (.t 36) (.t 37), none⟩, ⟨some 39, .load 6 true (.t 38) false, none⟩, ⟨some 40, .call 22 [(.t 39)] false, none⟩, ⟨some 8, .mv (.t 40) true, none⟩])
  (.seq (.reg [⟨some 41, .fa 3 (.t 2), none⟩, ⟨some 42, .load 1 false (.t 41) false, none⟩, ⟨some 43, .mv (.t 7) false, none⟩, ⟨some 44, .ia 6 (.t 42) (.t 43), none⟩, ⟨some 45, .fa 4 (.t 44), none⟩, ⟨some 46, .load 1 false (.t 45) false, none⟩, ⟨some 47, .mv (.t 5) false, none⟩, ⟨some 48, .bin .eql (.t 46) (.t 47), none⟩, ⟨some 49, .mv (.t 48) false, none⟩, ⟨some 50, .mv (.t 8) false, some (49, true)⟩, ⟨some 51, .bin .gtr (.t 50) (.c (.int .i64 0)), some (49, true)⟩, ⟨some 52, .pick (.t 49) (.t 51) (.c (.bool false)), none⟩])
  (.cond (.t 52) (.reg [⟨some 53, .mv (.t 6) false, none⟩, ⟨some 54, .mv (.t 8) false, none⟩, ⟨some 55, .load 4 true (.t 2) false, none⟩, ⟨some 56, .mv (.t 7) false, none⟩, ⟨some 57, .call 55 [(.t 55), (.t 56)] false, none⟩, ⟨some 58, .bin .add (.t 54) (.t 57), none⟩, ⟨some 59, .mxn true [(.t 53), (.t 58)], none⟩, ⟨some 6, .mv (.t 59) true, none⟩])
  (.skip)))))
  (.reg [⟨some 33, .mv (.t 7) false, none⟩, ⟨some 34, .bin .add (.t 33) (.c (.int .i64 1)), none⟩, ⟨some 7, .mv (.t 34) true, none⟩]))
def L38_0 : C := .loop [2, 5, 6, 7] 1 B38_0
theorem go38_0 (s : Env × Bx) (nb) : evL tab ext nb L38_0 s = (loopIn nb [2, 5, 6, 7] 1 s).bind fun s0 => (evL tab ext nb B38_0 s0).bind (seqG tab ext nb L38_0) := eL_loop _ _ _
/-- swingbridge/swingbridgeref11.Outside -/
def C38 : CFun := ⟨78, 2, .seq (.reg [⟨some 2, .box (.t 0), none⟩, ⟨some 4, .mv (.c (.int .i64 0)) true, none⟩])
  (.seq (.seq (.reg [⟨some 9, .load 4 true (.t 2) false, none⟩, ⟨some 10, .mv (.t 1) false, none⟩, ⟨some 11, .call 21 [(.t 9), (.t 10)] false, none⟩, ⟨some 12, .un .not (.t 11), none⟩, ⟨some 13, .mv (.t 12) false, none⟩, ⟨some 14, .fa 3 (.t 2), some (13, false)⟩, ⟨some 15, .load 1 false (.t 14) false, some (13, false)⟩, ⟨some 16, .mv (.t 1) false, some (13, false)⟩, ⟨some 17, .ia 6 (.t 15) (.t 16), some (13, false)⟩, ⟨some 18, .load 6 true (.t 17) false, some (13, false)⟩, ⟨some 19, .call 22 [(.t 18)] false, some (13, false)⟩, ⟨some 20, .bin .eql (.t 19) (.c (.int .i64 0)), some (13, false)⟩, ⟨some 21, .pick (.t 13) (.c (.bool true)) (.t 20), none⟩])
  (.cond (.t 21) (.seq (.reg [⟨some 4, .mv (.c (.int .i64 0)) true, none⟩])
  (.ret))
  (.skip)))
  (.seq (.reg [⟨some 22, .fa 3 (.t 2), none⟩, ⟨some 23, .load 1 false (.t 22) false, none⟩, ⟨some 24, .mv (.t 1) false, none⟩, ⟨some 25, .ia 6 (.t 23) (.t 24), none⟩, ⟨some 26, .fa 4 (.t 25), none⟩, ⟨some 27, .load 1 false (.t 26) false, none⟩, ⟨some 5, .mv (.t 27) true, none⟩])
  (.seq (.reg [⟨some 6, .mv (.c (.int .i64 0)) true, none⟩])
  (.seq (.seq (.reg [⟨some 7, .mv (.c (.int .i64 0)) true, none⟩])
  (.block 0 (L38_0)))
  (.seq (.reg [⟨some 60, .load 4 true (.t 2) false, none⟩, ⟨some 61, .mv (.t 5) false, none⟩, ⟨some 62, .call 57 [(.t 60), (.t 61)] false, none⟩, ⟨some 63, .fa 1 (.t 2), none⟩, ⟨some 64, .load 1 false (.t 63) false, none⟩, ⟨some 65, .mv (.t 5) false, none⟩, ⟨some 66, .ia 1 (.t 64) (.t 65), none⟩, ⟨some 67, .load 1 false (.t 66) false, none⟩, ⟨some 68, .bin .sub (.t 62) (.t 67), none⟩, ⟨some 69, .mxn true [(.c (.int .i64 0)), (.t 68)], none⟩, ⟨some 70, .fa 1 (.t 2), none⟩, ⟨some 71, .load 1 false (.t 70) false, none⟩, ⟨some 72, .mv (.t 5) false, none⟩, ⟨some 73, .ia 1 (.t 71) (.t 72), none⟩, ⟨some 74, .load 1 false (.t 73) false, none⟩, ⟨some 75, .call 56 [(.t 69), (.t 74)] false, none⟩, ⟨some 76, .mv (.t 6) false, none⟩, ⟨some 77, .bin .mul (.t 75) (.t 76), none⟩, ⟨some 4, .mv (.t 77) true, none⟩])
  (.ret)))))), [.t 4]⟩
theorem row38 : RowOk Tryz.prog 38 C38 := ⟨Tryz.f38, ⟨[], [], [], []⟩, lvOf [(0, [2, 5, 6, 7], 1)], Tryz.func38, by kernel_rfl, by kernel_rfl⟩
/-- swingbridge/task.between -/
def C39 : CFun := ⟨15, 3, .seq (.reg [⟨some 6, .mv (.c (.bool false)) true, none⟩])
  (.seq (.reg [⟨some 7, .mv (.t 0) false, none⟩, ⟨some 8, .mv (.t 1) false, none⟩, ⟨some 9, .bin .geq (.t 7) (.t 8), none⟩, ⟨some 10, .mv (.t 9) false, none⟩, ⟨some 11, .mv (.t 0) false, some (10, true)⟩, ⟨some 12, .mv (.t 2) false, some (10, true)⟩, ⟨some 13, .bin .leq (.t 11) (.t 12), some (10, true)⟩, ⟨some 14, .pick (.t 10) (.t 13) (.c (.bool false)), none⟩, ⟨some 6, .mv (.t 14) true, none⟩])
  (.ret)), [.t 6]⟩
theorem row39 : RowOk Tryz.prog 39 C39 := ⟨Tryz.f39, ⟨[], [], [], []⟩, lvOf [], Tryz.func39, by kernel_rfl, by kernel_rfl⟩
/-- swingbridge/task.placed -/
def C40 : CFun := ⟨32, 1, .seq (.reg [⟨some 1, .box (.t 0), none⟩, ⟨some 2, .mv (.c (.bool false)) true, none⟩])
  (.seq (.reg [⟨some 6, .fa 1 (.t 1), none⟩, ⟨some 7, .load 1 false (.t 6) false, none⟩, ⟨some 8, .len (.t 7), none⟩, ⟨some 9, .call 39 [(.t 8), (.c (.int .i64 1)), (.c (.int .i64 3))] false, none⟩, ⟨some 10, .mv (.t 9) false, none⟩, ⟨some 11, .fa 2 (.t 1), some (10, true)⟩, ⟨some 12, .load 1 false (.t 11) false, some (10, true)⟩, ⟨some 13, .len (.t 12), some (10, true)⟩, ⟨some 14, .bin .leq (.t 13) (.c (.int .i64 4)), some (10, true)⟩, ⟨some 15, .pick (.t 10) (.t 14) (.c (.bool false)), none⟩, ⟨some 3, .mv (.t 15) true, none⟩])
  (.seq (.reg [⟨some 4, .mv (.f 58) true, none⟩])
  (.seq (.reg [⟨some 16, .mkf 59 [(.t 1)], none⟩, ⟨some 5, .mv (.t 16) true, none⟩])
  (.seq (.reg [⟨some 17, .mv (.t 3) false, none⟩, ⟨some 18, .mv (.t 17) false, none⟩, ⟨some 19, .fa 1 (.t 1), some (18, true)⟩, ⟨some 20, .load 1 false (.t 19) false, some (18, true)⟩, ⟨some 21, .mv (.t 4) false, some (18, true)⟩, ⟨some 22, .calli 60 [(.t 20), (.t 21)], some (18, true)⟩, ⟨some 23, .un .not (.t 22), some (18, true)⟩, ⟨some 24, .pick (.t 18) (.t 23) (.c (.bool false)), none⟩, ⟨some 25, .mv (.t 24) false, none⟩, ⟨some 26, .fa 2 (.t 1), some (25, true)⟩, ⟨some 27, .load 1 false (.t 26) false, some (25, true)⟩, ⟨some 28, .mv (.t 5) false, some (25, true)⟩, ⟨some 29, .calli 60 [(.t 27), (.t 28)], some (25, true)⟩, ⟨some 30, .un .not (.t 29), some (25, true)⟩, ⟨some 31, .pick (.t 25) (.t 30) (.c (.bool false)), none⟩, ⟨some 2, .mv (.t 31) true, none⟩])
  (.ret))))), [.t 2]⟩
theorem row40 : RowOk Tryz.prog 40 C40 := ⟨Tryz.f40, ⟨[], [], [], []⟩, lvOf [], Tryz.func40, by kernel_rfl, by kernel_rfl⟩
/-- swingbridge/task.one -/
def C41 : CFun := ⟨60, 2, .seq (.reg [⟨some 2, .box (.t 0), none⟩, ⟨some 4, .mv (.c (.int .i64 0)) true, none⟩])
  (.seq (.reg [⟨some 7, .fa 3 (.t 2), none⟩, ⟨some 8, .load 1 false (.t 7) false, none⟩, ⟨some 9, .mv (.t 1) false, none⟩, ⟨some 10, .ia 6 (.t 8) (.t 9), none⟩, ⟨some 11, .load 6 true (.t 10) false, none⟩, ⟨some 5, .alloc [(.string ⟨#[]⟩), (.int .i64 0), (.int .i64 0), (.int .i64 0), (.int .i64 0), (.slice none 0 0)], none⟩, ⟨none, .store 6 (.t 5) (.t 11), none⟩])
  (.seq (.reg [⟨some 12, .mkf 61 [(.t 5)], none⟩, ⟨some 6, .mv (.t 12) true, none⟩])
  (.seq (.block 0 (.seq (.reg [⟨some 14, .fa 0 (.t 5), none⟩, ⟨some 15, .load 1 false (.t 14) false, none⟩, ⟨some 16, .call 62 [(.t 15)] false, none⟩, ⟨some 17, .un .not (.t 16), none⟩, ⟨some 18, .mv (.t 17) false, none⟩, ⟨some 19, .fa 1 (.t 5), some (18, false)⟩, ⟨some 20, .load 1 false (.t 19) false, some (18, false)⟩, ⟨some 21, .call 39 [(.t 20), (.c (.int .i64 1)), (.c (.int .i64 3000))] false, some (18, false)⟩, ⟨some 22, .un .not (.t 21), some (18, false)⟩, ⟨some 23, .pick (.t 18) (.c (.bool true)) (.t 22), none⟩, ⟨some 24, .mv (.t 23) false, none⟩, ⟨some 25, .fa 2 (.t 5), some (24, false)⟩, ⟨some 26, .load 1 false (.t 25) false, some (24, false)⟩, ⟨some 27, .fa 1 (.t 5), some (24, false)⟩, ⟨some 28, .load 1 false (.t 27) false, some (24, false)⟩, ⟨some 29, .call 39 [(.t 26), (.c (.int .i64 1)), (.t 28)] false, some (24, false)⟩, ⟨some 30, .un .not (.t 29), some (24, false)⟩, ⟨some 31, .pick (.t 24) (.c (.bool true)) (.t 30), none⟩, ⟨some 32, .mv (.t 31) false, none⟩, ⟨some 33, .fa 3 (.t 5), some (32, false)⟩, ⟨some 34, .load 1 false (.t 33) false, some (32, false)⟩, ⟨some 35, .call 39 [(.t 34), (.c (.int .i64 1)), (.c (.int .i64 1000))] false, some (32, false)⟩, ⟨some 36, .un .not (.t 35), some (32, false)⟩, ⟨some 37, .pick (.t 32) (.c (.bool true)) (.t 36), none⟩, ⟨some 13, .mv (.t 37) true, none⟩])
  (.cond (.t 13) (.seq (.reg [⟨some 4, .mv (.c (.int .i64 10)) true, none⟩])
  (.ret))
  (.seq (.reg [⟨some 39, .fa 4 (.t 5), none⟩, ⟨some 40, .load 1 false (.t 39) false, none⟩, ⟨some 41, .fa 1 (.t 2), none⟩, ⟨some 42, .load 1 false (.t 41) false, none⟩, ⟨some 43, .len (.t 42), none⟩, ⟨some 44, .bin .sub (.t 43) (.c (.int .i64 1)), none⟩, ⟨some 45, .call 39 [(.t 40), (.c (.int .i64 0)), (.t 44)] false, none⟩, ⟨some 46, .un .not (.t 45), none⟩, ⟨some 38, .mv (.t 46) true, none⟩])
  (.cond (.t 38) (.seq (.reg [⟨some 4, .mv (.c (.int .i64 16)) true, none⟩])
  (.ret))
  (.seq (.reg [⟨some 48, .fa 3 (.t 2), none⟩, ⟨some 49, .load 1 false (.t 48) false, none⟩, ⟨some 50, .mv (.t 1) false, none⟩, ⟨some 51, .slc 6 (.t 49) none (some (.t 50)) none, none⟩, ⟨some 52, .mv (.t 6) false, none⟩, ⟨some 53, .calli 63 [(.t 51), (.t 52)], none⟩, ⟨some 47, .mv (.t 53) true, none⟩])
  (.cond (.t 47) (.seq (.reg [⟨some 4, .mv (.c (.int .i64 17)) true, none⟩])
  (.ret))
  (.seq (.reg [⟨some 55, .load 4 true (.t 2) false, none⟩, ⟨some 56, .fa 5 (.t 5), none⟩, ⟨some 57, .load 1 false (.t 56) false, none⟩, ⟨some 58, .call 64 [(.t 55), (.t 57)] false, none⟩, ⟨some 59, .un .not (.t 58), none⟩, ⟨some 54, .mv (.t 59) true, none⟩])
  (.cond (.t 54) (.seq (.reg [⟨some 4, .mv (.c (.int .i64 15)) true, none⟩])
  (.ret))
  (.skip))))))))))
  (.seq (.reg [⟨some 4, .mv (.c (.int .i64 0)) true, none⟩])
  (.ret))))), [.t 4]⟩
theorem row41 : RowOk Tryz.prog 41 C41 := ⟨Tryz.f41, ⟨[], [], [], []⟩, lvOf [], Tryz.func41, by kernel_rfl, by kernel_rfl⟩
/-- swingbridge/swingbridgeref7.OK -/
def C42 : CFun := ⟨12, 1, .seq (.reg [⟨some 1, .box (.t 0), none⟩, ⟨some 2, .mv (.c (.bool false)) true, none⟩])
  (.seq (.reg [⟨some 6, .load 4 true (.t 1) false, none⟩, ⟨some 7, .call 65 [(.t 6)] false, none⟩, ⟨some 5, .mv (.t 7) false, none⟩, ⟨some 8, .ext (.t 5) 0, none⟩, ⟨some 9, .ext (.t 5) 1, none⟩, ⟨some 3, .mv (.t 8) true, none⟩, ⟨some 4, .mv (.t 9) true, none⟩])
  (.seq (.reg [⟨some 10, .mv (.t 4) false, none⟩, ⟨some 11, .bin .eql (.t 10) (.c (.int .i64 0)), none⟩, ⟨some 2, .mv (.t 11) true, none⟩])
  (.ret))), [.t 2]⟩
theorem row42 : RowOk Tryz.prog 42 C42 := ⟨Tryz.f42, ⟨[], [], [], []⟩, lvOf [], Tryz.func42, by kernel_rfl, by kernel_rfl⟩
def B43_0 : C := .seq (.reg [⟨some 10, .bin .lss (.t 9) (.t 8), none⟩])
  (.seq (.cond (.t 10) (.skip)
  (.exit 0))
  (.seq (.block 1 (.seq (.reg [⟨some 11, .ia 3 (.t 7) (.t 9), none⟩, ⟨some 12, .load 3 true (.t 11) false, none⟩, ⟨some 5, .alloc [(.int .i64 0), (.int .i64 0), (.int .i64 0)], none⟩, ⟨none, .store 3 (.t 5) (.t 12), none⟩])
  (.seq (.reg [⟨some 13, .fa 0 (.t 5), none⟩, ⟨some 14, .load 1 false (.t 13) false, none⟩, ⟨some 15, .bin .eql (.t 14) (.c (.int .i64 3)), none⟩])
  (.cond (.t 15) (.reg [⟨some 16, .mv (.t 3) false, none⟩, ⟨some 17, .fa 1 (.t 5), none⟩, ⟨some 18, .load 1 false (.t 17) false, none⟩, ⟨some 19, .mxn true [(.t 16), (.t 18)], none⟩, ⟨some 3, .mv (.t 19) true, none⟩])
  (.skip)))))
  (.reg [⟨some 20, .bin .add (.t 9) (.c (.int .i64 1)), none⟩, ⟨some 9, .mv (.t 20) false, none⟩])))
def L43_0 : C := .loop [3, 7, 8, 9] 1 B43_0
theorem go43_0 (s : Env × Bx) (nb) : evL tab ext nb L43_0 s = (loopIn nb [3, 7, 8, 9] 1 s).bind fun s0 => (evL tab ext nb B43_0 s0).bind (seqG tab ext nb L43_0) := eL_loop _ _ _
/-- swingbridge/demand.Longest -/
def C43 : CFun := ⟨22, 1, .seq (.reg [⟨some 1, .box (.t 0), none⟩, ⟨some 2, .mv (.c (.int .i64 0)) true, none⟩])
  (.seq (.reg [⟨some 3, .mv (.c (.int .i64 0)) true, none⟩])
  (.seq (.seq (.reg [⟨some 6, .fa 5 (.t 1), none⟩, ⟨some 7, .load 1 false (.t 6) false, none⟩, ⟨some 8, .len (.t 7), none⟩, ⟨some 9, .mv (.c (.int .i64 0)) false, none⟩])
  (.block 0 (L43_0)))
  (.seq (.reg [⟨some 21, .mv (.t 3) false, none⟩, ⟨some 2, .mv (.t 21) true, none⟩])
  (.ret)))), [.t 2]⟩
theorem row43 : RowOk Tryz.prog 43 C43 := ⟨Tryz.f43, ⟨[], [], [], []⟩, lvOf [(0, [3, 7, 8, 9], 1)], Tryz.func43, by kernel_rfl, by kernel_rfl⟩
/-- swingbridge/sorted.Top -/
def C44 : CFun := ⟨17, 2, .seq (.reg [⟨some 4, .mv (.c (.slice none 0 0)) true, none⟩])
  (.seq (.reg [⟨some 6, .mv (.t 0) false, none⟩, ⟨some 7, .calli 66 [(.t 6)], none⟩, ⟨some 5, .mv (.t 7) true, none⟩])
  (.seq (.reg [⟨some 8, .mv (.t 5) false, none⟩, ⟨some 9, .calli 67 [(.t 8), (.f 68)], none⟩])
  (.seq (.reg [⟨some 10, .mv (.t 5) false, none⟩, ⟨some 11, .mv (.t 1) false, none⟩, ⟨some 12, .mxn true [(.t 11), (.c (.int .i64 0))], none⟩, ⟨some 13, .mv (.t 5) false, none⟩, ⟨some 14, .len (.t 13), none⟩, ⟨some 15, .mxn false [(.t 12), (.t 14)], none⟩, ⟨some 16, .slc 1 (.t 10) none (some (.t 15)) none, none⟩, ⟨some 4, .mv (.t 16) true, none⟩])
  (.ret)))), [.t 4]⟩
theorem row44 : RowOk Tryz.prog 44 C44 := ⟨Tryz.f44, ⟨[], [], [], [66]⟩, lvOf [], Tryz.func44, by kernel_rfl, by kernel_rfl⟩
def B45_0 : C := .seq (.reg [⟨some 16, .bin .lss (.t 15) (.t 14), none⟩])
  (.seq (.cond (.t 16) (.skip)
  (.exit 0))
  (.seq (.block 1 (.seq (.reg [⟨some 17, .ia 1 (.t 13) (.t 15), none⟩, ⟨some 18, .load 1 false (.t 17) false, none⟩, ⟨some 9, .mv (.t 18) true, none⟩])
  (.reg [⟨some 19, .mv (.t 7) false, none⟩, ⟨some 20, .mv (.t 9) false, none⟩, ⟨some 21, .mxn true [(.t 19), (.t 20)], none⟩, ⟨some 7, .mv (.t 21) true, none⟩])))
  (.reg [⟨some 22, .bin .add (.t 15) (.c (.int .i64 1)), none⟩, ⟨some 15, .mv (.t 22) false, none⟩])))
def L45_0 : C := .loop [7, 13, 14, 15] 1 B45_0
theorem go45_0 (s : Env × Bx) (nb) : evL tab ext nb L45_0 s = (loopIn nb [7, 13, 14, 15] 1 s).bind fun s0 => (evL tab ext nb B45_0 s0).bind (seqG tab ext nb L45_0) := eL_loop _ _ _
/-- swingbridge/demand.Most -/
def C45 : CFun := ⟨24, 3, .seq (.reg [⟨some 3, .box (.t 0), none⟩, ⟨some 6, .mv (.c (.int .i64 0)) true, none⟩])
  (.seq (.reg [⟨some 7, .mv (.c (.int .i64 0)) true, none⟩])
  (.seq (.seq (.reg [⟨some 10, .load 4 true (.t 3) false, none⟩, ⟨some 11, .mv (.t 1) false, none⟩, ⟨some 12, .mv (.t 2) false, none⟩, ⟨some 13, .call 70 [(.t 10), (.t 11), (.t 12)] false, none⟩, ⟨some 14, .len (.t 13), none⟩, ⟨some 15, .mv (.c (.int .i64 0)) false, none⟩])
  (.block 0 (L45_0)))
  (.seq (.reg [⟨some 23, .mv (.t 7) false, none⟩, ⟨some 6, .mv (.t 23) true, none⟩])
  (.ret)))), [.t 6]⟩
theorem row45 : RowOk Tryz.prog 45 C45 := ⟨Tryz.f45, ⟨[], [], [], []⟩, lvOf [(0, [7, 13, 14, 15], 1)], Tryz.func45, by kernel_rfl, by kernel_rfl⟩
/-- swingbridge/count.Work -/
def C46 : CFun := ⟨19, 4, .seq (.reg [⟨some 8, .mv (.c (.int .i64 0)) true, none⟩])
  (.seq (.reg [⟨some 9, .mv (.t 0) false, none⟩, ⟨some 10, .mv (.t 1) false, none⟩, ⟨some 11, .mv (.t 2) false, none⟩, ⟨some 12, .call 73 [(.t 9), (.t 10), (.t 11)] false, none⟩, ⟨some 13, .mv (.t 3) false, none⟩, ⟨some 14, .mxn true [(.t 13), (.c (.int .i64 0))], none⟩, ⟨some 15, .call 72 [(.t 12), (.t 14)] false, none⟩, ⟨some 16, .ext (.t 15) 0, none⟩, ⟨some 17, .ext (.t 15) 1, none⟩, ⟨some 18, .call 71 [(.t 16), (.t 17)] false, none⟩, ⟨some 8, .mv (.t 18) true, none⟩])
  (.ret)), [.t 8]⟩
theorem row46 : RowOk Tryz.prog 46 C46 := ⟨Tryz.f46, ⟨[], [], [], []⟩, lvOf [], Tryz.func46, by kernel_rfl, by kernel_rfl⟩
def B47_0 : C := .seq (.reg [⟨some 16, .bin .lss (.t 15) (.t 14), none⟩])
  (.seq (.cond (.t 16) (.skip)
  (.exit 0))
  (.seq (.block 1 (.seq (.reg [⟨some 17, .ia 1 (.t 13) (.t 15), none⟩, ⟨some 18, .load 1 false (.t 17) false, none⟩, ⟨some 9, .mv (.t 18) true, none⟩])
  (.reg [⟨some 19, .mv (.t 7) false, none⟩, ⟨some 20, .mv (.t 9) false, none⟩, ⟨some 21, .bin .add (.t 19) (.t 20), none⟩, ⟨some 7, .mv (.t 21) true, none⟩])))
  (.reg [⟨some 22, .bin .add (.t 15) (.c (.int .i64 1)), none⟩, ⟨some 15, .mv (.t 22) false, none⟩])))
def L47_0 : C := .loop [7, 13, 14, 15] 1 B47_0
theorem go47_0 (s : Env × Bx) (nb) : evL tab ext nb L47_0 s = (loopIn nb [7, 13, 14, 15] 1 s).bind fun s0 => (evL tab ext nb B47_0 s0).bind (seqG tab ext nb L47_0) := eL_loop _ _ _
/-- swingbridge/demand.At -/
def C47 : CFun := ⟨24, 3, .seq (.reg [⟨some 3, .box (.t 0), none⟩, ⟨some 6, .mv (.c (.int .i64 0)) true, none⟩])
  (.seq (.reg [⟨some 7, .mv (.c (.int .i64 0)) true, none⟩])
  (.seq (.seq (.reg [⟨some 10, .load 4 true (.t 3) false, none⟩, ⟨some 11, .mv (.t 1) false, none⟩, ⟨some 12, .mv (.t 2) false, none⟩, ⟨some 13, .call 70 [(.t 10), (.t 11), (.t 12)] false, none⟩, ⟨some 14, .len (.t 13), none⟩, ⟨some 15, .mv (.c (.int .i64 0)) false, none⟩])
  (.block 0 (L47_0)))
  (.seq (.reg [⟨some 23, .mv (.t 7) false, none⟩, ⟨some 6, .mv (.t 23) true, none⟩])
  (.ret)))), [.t 6]⟩
theorem row47 : RowOk Tryz.prog 47 C47 := ⟨Tryz.f47, ⟨[], [], [], []⟩, lvOf [(0, [7, 13, 14, 15], 1)], Tryz.func47, by kernel_rfl, by kernel_rfl⟩
/-- swingbridge/token.there -/
def C48 : CFun := ⟨25, 2, .seq (.reg [⟨some 2, .box (.t 0), none⟩, ⟨some 4, .mv (.c (.bool false)) true, none⟩])
  (.seq (.reg [⟨some 8, .load 4 true (.t 2) false, none⟩, ⟨some 9, .call 20 [(.t 8)] false, none⟩, ⟨some 7, .mv (.t 9) false, none⟩, ⟨some 10, .ext (.t 7) 0, none⟩, ⟨some 11, .ext (.t 7) 1, none⟩, ⟨some 5, .mv (.t 10) true, none⟩, ⟨some 6, .mv (.t 11) true, none⟩])
  (.seq (.reg [⟨some 12, .mv (.t 6) false, none⟩, ⟨some 13, .bin .eql (.t 12) (.c (.int .i64 0)), none⟩, ⟨some 14, .mv (.t 13) false, none⟩, ⟨some 15, .mv (.t 1) false, some (14, true)⟩, ⟨some 16, .bin .geq (.t 15) (.c (.int .i64 0)), some (14, true)⟩, ⟨some 17, .pick (.t 14) (.t 16) (.c (.bool false)), none⟩, ⟨some 18, .mv (.t 17) false, none⟩, ⟨some 19, .mv (.t 1) false, some (18, true)⟩, ⟨some 20, .fa 3 (.t 2), some (18, true)⟩, ⟨some 21, .load 1 false (.t 20) false, some (18, true)⟩, ⟨some 22, .len (.t 21), some (18, true)⟩, ⟨some 23, .bin .lss (.t 19) (.t 22), some (18, true)⟩, ⟨some 24, .pick (.t 18) (.t 23) (.c (.bool false)), none⟩, ⟨some 4, .mv (.t 24) true, none⟩])
  (.ret))), [.t 4]⟩
theorem row48 : RowOk Tryz.prog 48 C48 := ⟨Tryz.f48, ⟨[], [], [], []⟩, lvOf [], Tryz.func48, by kernel_rfl, by kernel_rfl⟩
def B49_0 : C := .seq (.reg [⟨some 12, .bin .lss (.t 11) (.t 10), none⟩])
  (.seq (.cond (.t 12) (.skip)
  (.exit 0))
  (.seq (.block 1 (.seq (.reg [⟨some 13, .mv (.t 11) false, none⟩, ⟨some 14, .ia 6 (.t 9) (.t 11), none⟩, ⟨some 15, .load 6 true (.t 14) false, none⟩, ⟨some 7, .alloc [(.string ⟨#[]⟩), (.int .i64 0), (.int .i64 0), (.int .i64 0), (.int .i64 0), (.slice none 0 0)], none⟩, ⟨some 6, .mv (.t 13) true, none⟩, ⟨none, .store 6 (.t 7) (.t 15), none⟩])
  (.seq (.seq (.reg [⟨some 16, .mv (.t 6) false, none⟩, ⟨some 17, .mv (.t 1) false, none⟩, ⟨some 18, .bin .eql (.t 16) (.t 17), none⟩])
  (.cond (.t 18) (.exit 1)
  (.skip)))
  (.reg [⟨some 19, .mv (.t 5) true, none⟩, ⟨some 20, .load 6 true (.t 7) false, none⟩, ⟨some 21, .call 43 [(.t 20)] false, none⟩, ⟨some 22, .bsl 1 1 [(.int .i64 0)] [(0, 1, (.t 21))] false, none⟩, ⟨some 23, .app 1 8 (.t 19) (.t 22) false, none⟩, ⟨some 5, .mv (.t 23) true, none⟩]))))
  (.reg [⟨some 24, .bin .add (.t 11) (.c (.int .i64 1)), none⟩, ⟨some 11, .mv (.t 24) false, none⟩])))
def L49_0 : C := .loop [1, 2, 5, 9, 10, 11] 1 B49_0
theorem go49_0 (s : Env × Bx) (nb) : evL tab ext nb L49_0 s = (loopIn nb [1, 2, 5, 9, 10, 11] 1 s).bind fun s0 => (evL tab ext nb B49_0 s0).bind (seqG tab ext nb L49_0) := eL_loop _ _ _
/-- swingbridge/token.others -/
def C49 : CFun := ⟨30, 2, .seq (.reg [⟨some 2, .box (.t 0), none⟩, ⟨some 4, .mv (.c (.int .i64 0)) true, none⟩])
  (.scope (.seq (.reg [⟨some 5, .mv (.c (.slice none 0 0)) true, none⟩])
  (.seq (.skip)
  (.seq (.seq (.reg [⟨some 8, .fa 3 (.t 2), none⟩, ⟨some 9, .load 1 false (.t 8) false, none⟩, ⟨some 10, .len (.t 9), none⟩, ⟨some 11, .mv (.c (.int .i64 0)) false, none⟩])
  (.block 0 (L49_0)))
  (.seq (.reg [⟨some 25, .mv (.t 5) false, none⟩, ⟨some 26, .load 4 true (.t 2) false, none⟩, ⟨some 27, .call 74 [(.t 26)] false, none⟩, ⟨some 28, .bin .sub (.t 27) (.c (.int .i64 1)), none⟩, ⟨some 29, .call 26 [(.t 25), (.t 28)] false, none⟩, ⟨some 4, .mv (.t 29) true, none⟩])
  (.ret)))))), [.t 4]⟩
theorem row49 : RowOk Tryz.prog 49 C49 := ⟨Tryz.f49, ⟨[], [], [], []⟩, lvOf [(0, [1, 2, 5, 9, 10, 11], 1)], Tryz.func49, by kernel_rfl, by kernel_rfl⟩
/-- swingbridge/calc.Up -/
def C50 : CFun := ⟨39, 2, .seq (.reg [⟨some 4, .mv (.c (.int .i64 0)) true, none⟩, ⟨some 5, .mv (.c (.bool false)) true, none⟩])
  (.seq (.seq (.reg [⟨some 9, .mv (.t 1) false, none⟩, ⟨some 10, .bin .eql (.t 9) (.c (.int .i64 0)), none⟩])
  (.cond (.t 10) (.seq (.reg [⟨some 4, .mv (.c (.int .i64 0)) true, none⟩, ⟨some 5, .mv (.c (.bool false)) true, none⟩])
  (.ret))
  (.skip)))
  (.seq (.reg [⟨some 11, .mv (.t 0) false, none⟩, ⟨some 12, .bin .lss (.t 11) (.c (.int .i64 0)), none⟩, ⟨some 13, .mv (.t 1) false, none⟩, ⟨some 14, .bin .lss (.t 13) (.c (.int .i64 0)), none⟩, ⟨some 15, .eqb true (.t 12) (.t 14), none⟩, ⟨some 6, .mv (.t 15) true, none⟩])
  (.seq (.reg [⟨some 16, .mv (.t 0) false, none⟩, ⟨some 17, .call 75 [(.t 16)] false, none⟩, ⟨some 18, .mv (.t 1) false, none⟩, ⟨some 19, .call 75 [(.t 18)] false, none⟩, ⟨some 20, .bin .quo (.t 17) (.t 19), none⟩, ⟨some 21, .mv (.t 0) false, none⟩, ⟨some 22, .call 75 [(.t 21)] false, none⟩, ⟨some 23, .mv (.t 1) false, none⟩, ⟨some 24, .call 75 [(.t 23)] false, none⟩, ⟨some 25, .bin .rem (.t 22) (.t 24), none⟩, ⟨some 7, .mv (.t 20) true, none⟩, ⟨some 8, .mv (.t 25) true, none⟩])
  (.seq (.seq (.reg [⟨some 26, .mv (.t 8) false, none⟩, ⟨some 27, .bin .gtr (.t 26) (.c (.int .u64 0)), none⟩, ⟨some 28, .mv (.t 27) false, none⟩, ⟨some 29, .mv (.t 6) false, some (28, true)⟩, ⟨some 30, .un .not (.t 29), some (28, true)⟩, ⟨some 31, .pick (.t 28) (.t 30) (.c (.bool false)), none⟩])
  (.cond (.t 31) (.reg [⟨some 32, .mv (.t 7) false, none⟩, ⟨some 33, .bin .add (.t 32) (.c (.int .u64 1)), none⟩, ⟨some 7, .mv (.t 33) true, none⟩])
  (.skip)))
  (.seq (.reg [⟨some 34, .mv (.t 7) false, none⟩, ⟨some 35, .mv (.t 6) false, none⟩, ⟨some 36, .call 76 [(.t 34), (.t 35)] false, none⟩, ⟨some 37, .ext (.t 36) 0, none⟩, ⟨some 38, .ext (.t 36) 1, none⟩, ⟨some 4, .mv (.t 37) true, none⟩, ⟨some 5, .mv (.t 38) true, none⟩])
  (.ret)))))), [.t 4, .t 5]⟩
theorem row50 : RowOk Tryz.prog 50 C50 := ⟨Tryz.f50, ⟨[], [], [], []⟩, lvOf [], Tryz.func50, by kernel_rfl, by kernel_rfl⟩
def B51_0 : C := .seq (.reg [⟨some 12, .bin .lss (.t 11) (.t 10), none⟩])
  (.seq (.cond (.t 12) (.skip)
  (.exit 0))
  (.seq (.block 1 (.seq (.reg [⟨some 13, .mv (.t 11) false, none⟩, ⟨some 14, .ia 6 (.t 9) (.t 11), none⟩, ⟨some 15, .load 6 true (.t 14) false, none⟩, ⟨some 7, .alloc [(.string ⟨#[]⟩), (.int .i64 0), (.int .i64 0), (.int .i64 0), (.int .i64 0), (.slice none 0 0)], none⟩, ⟨some 6, .mv (.t 13) true, none⟩, ⟨none, .store 6 (.t 7) (.t 15), none⟩])
  (.seq (.reg [⟨some 16, .load 4 true (.t 2) false, none⟩, ⟨some 17, .mv (.t 6) false, none⟩, ⟨some 18, .call 77 [(.t 16), (.t 17)] false, none⟩, ⟨some 19, .mv (.t 18) false, none⟩, ⟨some 20, .fa 4 (.t 7), some (19, true)⟩, ⟨some 21, .load 1 false (.t 20) false, some (19, true)⟩, ⟨some 22, .mv (.t 1) false, some (19, true)⟩, ⟨some 23, .bin .eql (.t 21) (.t 22), some (19, true)⟩, ⟨some 24, .pick (.t 19) (.t 23) (.c (.bool false)), none⟩, ⟨some 25, .mv (.t 24) false, none⟩, ⟨some 26, .load 6 true (.t 7) false, some (25, true)⟩, ⟨some 27, .call 43 [(.t 26)] false, some (25, true)⟩, ⟨some 28, .bin .gtr (.t 27) (.c (.int .i64 0)), some (25, true)⟩, ⟨some 29, .pick (.t 25) (.t 28) (.c (.bool false)), none⟩])
  (.cond (.t 29) (.reg [⟨some 30, .mv (.t 5) false, none⟩, ⟨some 31, .bin .add (.t 30) (.c (.int .i64 1)), none⟩, ⟨some 5, .mv (.t 31) true, none⟩])
  (.skip)))))
  (.reg [⟨some 32, .bin .add (.t 11) (.c (.int .i64 1)), none⟩, ⟨some 11, .mv (.t 32) false, none⟩])))
def L51_0 : C := .loop [1, 2, 5, 9, 10, 11] 1 B51_0
theorem go51_0 (s : Env × Bx) (nb) : evL tab ext nb L51_0 s = (loopIn nb [1, 2, 5, 9, 10, 11] 1 s).bind fun s0 => (evL tab ext nb B51_0 s0).bind (seqG tab ext nb L51_0) := eL_loop _ _ _
/-- swingbridge/demand.Askers -/
def C51 : CFun := ⟨34, 2, .seq (.reg [⟨some 2, .box (.t 0), none⟩, ⟨some 4, .mv (.c (.int .i64 0)) true, none⟩])
  (.seq (.reg [⟨some 5, .mv (.c (.int .i64 0)) true, none⟩])
  (.seq (.seq (.reg [⟨some 8, .fa 3 (.t 2), none⟩, ⟨some 9, .load 1 false (.t 8) false, none⟩, ⟨some 10, .len (.t 9), none⟩, ⟨some 11, .mv (.c (.int .i64 0)) false, none⟩])
  (.block 0 (L51_0)))
  (.seq (.reg [⟨some 33, .mv (.t 5) false, none⟩, ⟨some 4, .mv (.t 33) true, none⟩])
  (.ret)))), [.t 4]⟩
theorem row51 : RowOk Tryz.prog 51 C51 := ⟨Tryz.f51, ⟨[], [], [], []⟩, lvOf [(0, [1, 2, 5, 9, 10, 11], 1)], Tryz.func51, by kernel_rfl, by kernel_rfl⟩
def B52_2 : C := .seq (.seq (.reg [⟨some 20, .mv (.t 8) false, none⟩, ⟨some 21, .mv (.t 5) false, none⟩, ⟨some 22, .len (.t 21), none⟩, ⟨some 23, .bin .lss (.t 20) (.t 22), none⟩])
  (.cond (.t 23) (.skip)
  (.exit 2)))
  (.seq (.block 3 (.seq (.reg [⟨some 26, .mv (.t 5) false, none⟩, ⟨some 27, .mv (.t 8) false, none⟩, ⟨some 28, .ia 1 (.t 26) (.t 27), none⟩, ⟨some 29, .load 1 false (.t 28) false, none⟩, ⟨some 30, .mv (.t 5) false, none⟩, ⟨some 31, .mv (.t 7) false, none⟩, ⟨some 32, .ia 1 (.t 30) (.t 31), none⟩, ⟨some 33, .load 1 false (.t 32) false, none⟩, ⟨some 34, .bin .gtr (.t 29) (.t 33), none⟩])
  (.cond (.t 34) (.reg [⟨some 35, .mv (.t 8) false, none⟩, ⟨some 7, .mv (.t 35) true, none⟩])
  (.skip))))
  (.reg [⟨some 24, .mv (.t 8) false, none⟩, ⟨some 25, .bin .add (.t 24) (.c (.int .i64 1)), none⟩, ⟨some 8, .mv (.t 25) true, none⟩]))
def L52_2 : C := .loop [1, 5, 6, 7, 8] 0 B52_2
theorem go52_2 (s : Env × Bx) (nb) : evL tab ext nb L52_2 s = (loopIn nb [1, 5, 6, 7, 8] 0 s).bind fun s0 => (evL tab ext nb B52_2 s0).bind (seqG tab ext nb L52_2) := eL_loop _ _ _
def B52_0 : C := .seq (.seq (.reg [⟨some 11, .mv (.t 6) false, none⟩, ⟨some 12, .len (.t 11), none⟩, ⟨some 13, .mv (.t 1) false, none⟩, ⟨some 14, .bin .lss (.t 12) (.t 13), none⟩, ⟨some 15, .mv (.t 14) false, none⟩, ⟨some 16, .mv (.t 5) false, some (15, true)⟩, ⟨some 17, .len (.t 16), some (15, true)⟩, ⟨some 18, .bin .gtr (.t 17) (.c (.int .i64 0)), some (15, true)⟩, ⟨some 19, .pick (.t 15) (.t 18) (.c (.bool false)), none⟩])
  (.cond (.t 19) (.skip)
  (.exit 0)))
  (.block 1 (.seq (.reg [⟨some 7, .mv (.c (.int .i64 0)) true, none⟩])
  (.seq (.seq (.reg [⟨some 8, .mv (.c (.int .i64 1)) true, none⟩])
  (.block 2 (L52_2)))
  (.seq (.reg [⟨some 36, .mv (.t 6) true, none⟩, ⟨some 37, .mv (.t 5) false, none⟩, ⟨some 38, .mv (.t 7) false, none⟩, ⟨some 39, .ia 1 (.t 37) (.t 38), none⟩, ⟨some 40, .load 1 false (.t 39) false, none⟩, ⟨some 41, .bsl 1 1 [(.int .i64 0)] [(0, 1, (.t 40))] false, none⟩, ⟨some 42, .app 1 8 (.t 36) (.t 41) false, none⟩, ⟨some 6, .mv (.t 42) true, none⟩])
  (.reg [⟨some 43, .mv (.t 5) false, none⟩, ⟨some 44, .mv (.t 7) false, none⟩, ⟨some 45, .slc 1 (.t 43) none (some (.t 44)) none, none⟩, ⟨some 46, .app 1 8 (.c (.slice none 0 0)) (.t 45) false, none⟩, ⟨some 47, .mv (.t 5) false, none⟩, ⟨some 48, .mv (.t 7) false, none⟩, ⟨some 49, .bin .add (.t 48) (.c (.int .i64 1)), none⟩, ⟨some 50, .slc 1 (.t 47) (some (.t 49)) none none, none⟩, ⟨some 51, .app 1 8 (.t 46) (.t 50) false, none⟩, ⟨some 5, .mv (.t 51) true, none⟩])))))
def L52_0 : C := .loop [1, 5, 6] 0 B52_0
theorem go52_0 (s : Env × Bx) (nb) : evL tab ext nb L52_0 s = (loopIn nb [1, 5, 6] 0 s).bind fun s0 => (evL tab ext nb B52_0 s0).bind (seqG tab ext nb L52_0) := eL_loop _ _ _
/-- swingbridge/swingbridgeref2.Top -/
def C52 : CFun := ⟨53, 2, .seq (.reg [⟨some 4, .mv (.c (.slice none 0 0)) true, none⟩])
  (.seq (.reg [⟨some 9, .mv (.t 0) false, none⟩, ⟨some 10, .app 1 8 (.c (.slice none 0 0)) (.t 9) false, none⟩, ⟨some 5, .mv (.t 10) true, none⟩])
  (.seq (.reg [⟨some 6, .mv (.c (.slice none 0 0)) true, none⟩])
  (.seq (.block 0 (L52_0))
  (.seq (.reg [⟨some 52, .mv (.t 6) false, none⟩, ⟨some 4, .mv (.t 52) true, none⟩])
  (.ret))))), [.t 4]⟩
theorem row52 : RowOk Tryz.prog 52 C52 := ⟨Tryz.f52, ⟨[], [], [], []⟩, lvOf [(0, [1, 5, 6], 0), (2, [1, 5, 6, 7, 8], 0)], Tryz.func52, by kernel_rfl, by kernel_rfl⟩
def B53_0 : C := .seq (.seq (.reg [⟨some 21, .mv (.t 11) false, none⟩, ⟨some 22, .fa 5 (.t 10), none⟩, ⟨some 23, .load 1 false (.t 22) false, none⟩, ⟨some 24, .len (.t 23), none⟩, ⟨some 25, .bin .lss (.t 21) (.t 24), none⟩])
  (.cond (.t 25) (.skip)
  (.exit 0)))
  (.seq (.block 1 (.seq (.reg [⟨some 28, .fa 5 (.t 10), none⟩, ⟨some 29, .load 1 false (.t 28) false, none⟩, ⟨some 30, .mv (.t 11) false, none⟩, ⟨some 31, .ia 3 (.t 29) (.t 30), none⟩, ⟨some 32, .fa 0 (.t 31), none⟩, ⟨some 33, .load 1 false (.t 32) false, none⟩, ⟨some 34, .bin .eql (.t 33) (.c (.int .i64 3)), none⟩, ⟨some 35, .mv (.t 34) false, none⟩, ⟨some 36, .fa 2 (.t 3), some (35, true)⟩, ⟨some 37, .load 1 false (.t 36) false, some (35, true)⟩, ⟨some 38, .fa 5 (.t 10), some (35, true)⟩, ⟨some 39, .load 1 false (.t 38) false, some (35, true)⟩, ⟨some 40, .mv (.t 11) false, some (35, true)⟩, ⟨some 41, .ia 3 (.t 39) (.t 40), some (35, true)⟩, ⟨some 42, .fa 2 (.t 41), some (35, true)⟩, ⟨some 43, .load 1 false (.t 42) false, some (35, true)⟩, ⟨some 44, .ia 1 (.t 37) (.t 43), some (35, true)⟩, ⟨some 45, .load 1 false (.t 44) false, some (35, true)⟩, ⟨some 46, .mv (.t 2) false, some (35, true)⟩, ⟨some 47, .bin .eql (.t 45) (.t 46), some (35, true)⟩, ⟨some 48, .pick (.t 35) (.t 47) (.c (.bool false)), none⟩])
  (.cond (.t 48) (.reg [⟨some 49, .mv (.t 8) false, none⟩, ⟨some 50, .fa 5 (.t 10), none⟩, ⟨some 51, .load 1 false (.t 50) false, none⟩, ⟨some 52, .mv (.t 11) false, none⟩, ⟨some 53, .ia 3 (.t 51) (.t 52), none⟩, ⟨some 54, .fa 1 (.t 53), none⟩, ⟨some 55, .load 1 false (.t 54) false, none⟩, ⟨some 56, .bin .add (.t 49) (.t 55), none⟩, ⟨some 57, .mv (.t 9) false, none⟩, ⟨some 58, .fa 5 (.t 10), none⟩, ⟨some 59, .load 1 false (.t 58) false, none⟩, ⟨some 60, .mv (.t 11) false, none⟩, ⟨some 61, .ia 3 (.t 59) (.t 60), none⟩, ⟨some 62, .fa 1 (.t 61), none⟩, ⟨some 63, .load 1 false (.t 62) false, none⟩, ⟨some 64, .mxn true [(.t 57), (.t 63)], none⟩, ⟨some 8, .mv (.t 56) true, none⟩, ⟨some 9, .mv (.t 64) true, none⟩])
  (.skip))))
  (.reg [⟨some 26, .mv (.t 11) false, none⟩, ⟨some 27, .bin .add (.t 26) (.c (.int .i64 1)), none⟩, ⟨some 11, .mv (.t 27) true, none⟩]))
def L53_0 : C := .loop [2, 3, 8, 9, 10, 11] 2 B53_0
theorem go53_0 (s : Env × Bx) (nb) : evL tab ext nb L53_0 s = (loopIn nb [2, 3, 8, 9, 10, 11] 2 s).bind fun s0 => (evL tab ext nb B53_0 s0).bind (seqG tab ext nb L53_0) := eL_loop _ _ _
/-- swingbridge/swingbridgeref11.At -/
def C53 : CFun := ⟨67, 3, .seq (.reg [⟨some 3, .box (.t 0), none⟩, ⟨some 6, .mv (.c (.int .i64 0)) true, none⟩, ⟨some 7, .mv (.c (.int .i64 0)) true, none⟩])
  (.seq (.reg [⟨some 8, .mv (.c (.int .i64 0)) true, none⟩, ⟨some 9, .mv (.c (.int .i64 0)) true, none⟩])
  (.seq (.seq (.reg [⟨some 12, .load 4 true (.t 3) false, none⟩, ⟨some 13, .mv (.t 1) false, none⟩, ⟨some 14, .call 21 [(.t 12), (.t 13)] false, none⟩, ⟨some 15, .un .not (.t 14), none⟩])
  (.cond (.t 15) (.seq (.reg [⟨some 6, .mv (.c (.int .i64 0)) true, none⟩, ⟨some 7, .mv (.c (.int .i64 0)) true, none⟩])
  (.ret))
  (.skip)))
  (.seq (.reg [⟨some 16, .fa 3 (.t 3), none⟩, ⟨some 17, .load 1 false (.t 16) false, none⟩, ⟨some 18, .mv (.t 1) false, none⟩, ⟨some 19, .ia 6 (.t 17) (.t 18), none⟩, ⟨some 20, .load 6 true (.t 19) false, none⟩, ⟨some 10, .alloc [(.string ⟨#[]⟩), (.int .i64 0), (.int .i64 0), (.int .i64 0), (.int .i64 0), (.slice none 0 0)], none⟩, ⟨none, .store 6 (.t 10) (.t 20), none⟩])
  (.seq (.seq (.reg [⟨some 11, .mv (.c (.int .i64 0)) true, none⟩])
  (.block 0 (L53_0)))
  (.seq (.reg [⟨some 65, .mv (.t 8) false, none⟩, ⟨some 66, .mv (.t 9) false, none⟩, ⟨some 6, .mv (.t 65) true, none⟩, ⟨some 7, .mv (.t 66) true, none⟩])
  (.ret)))))), [.t 6, .t 7]⟩
theorem row53 : RowOk Tryz.prog 53 C53 := ⟨Tryz.f53, ⟨[], [], [], []⟩, lvOf [(0, [2, 3, 8, 9, 10, 11], 2)], Tryz.func53, by kernel_rfl, by kernel_rfl⟩
/-- swingbridge/swingbridgeref11.Work -/
def C54 : CFun := ⟨18, 4, .seq (.reg [⟨some 8, .mv (.c (.int .i64 0)) true, none⟩])
  (.seq (.reg [⟨some 9, .mv (.t 0) false, none⟩, ⟨some 10, .mv (.t 1) false, none⟩, ⟨some 11, .mv (.t 2) false, none⟩, ⟨some 12, .call 78 [(.t 9), (.t 10), (.t 11)] false, none⟩, ⟨some 13, .mv (.t 3) false, none⟩, ⟨some 14, .mxn false [(.t 13), (.c (.int .i64 1073741824))], none⟩, ⟨some 15, .mxn true [(.c (.int .i64 0)), (.t 14)], none⟩, ⟨some 16, .bin .mul (.t 12) (.t 15), none⟩, ⟨some 17, .mxn false [(.t 16), (.c (.int .i64 1000000))], none⟩, ⟨some 8, .mv (.t 17) true, none⟩])
  (.ret)), [.t 8]⟩
theorem row54 : RowOk Tryz.prog 54 C54 := ⟨Tryz.f54, ⟨[], [], [], []⟩, lvOf [], Tryz.func54, by kernel_rfl, by kernel_rfl⟩
/-- swingbridge/swingbridgeref11.inside -/
def C55 : CFun := ⟨12, 2, .seq (.reg [⟨some 2, .box (.t 0), none⟩, ⟨some 4, .mv (.c (.int .i64 0)) true, none⟩])
  (.seq (.reg [⟨some 5, .load 4 true (.t 2) false, none⟩, ⟨some 6, .mv (.t 1) false, none⟩, ⟨some 7, .call 34 [(.t 5), (.t 6)] false, none⟩, ⟨some 8, .load 4 true (.t 2) false, none⟩, ⟨some 9, .call 79 [(.t 8)] false, none⟩, ⟨some 10, .bin .sub (.t 9) (.c (.int .i64 1)), none⟩, ⟨some 11, .call 33 [(.t 7), (.t 10)] false, none⟩, ⟨some 4, .mv (.t 11) true, none⟩])
  (.ret)), [.t 4]⟩
theorem row55 : RowOk Tryz.prog 55 C55 := ⟨Tryz.f55, ⟨[], [], [], []⟩, lvOf [], Tryz.func55, by kernel_rfl, by kernel_rfl⟩
/-- swingbridge/swingbridgeref11.up -/
def C56 : CFun := ⟨11, 2, .seq (.reg [⟨some 4, .mv (.c (.int .i64 0)) true, none⟩])
  (.seq (.reg [⟨some 5, .mv (.t 0) false, none⟩, ⟨some 6, .mv (.t 1) false, none⟩, ⟨some 7, .bin .add (.t 5) (.t 6), none⟩, ⟨some 8, .bin .sub (.t 7) (.c (.int .i64 1)), none⟩, ⟨some 9, .mv (.t 1) false, none⟩, ⟨some 10, .bin .quo (.t 8) (.t 9), none⟩, ⟨some 4, .mv (.t 10) true, none⟩])
  (.ret)), [.t 4]⟩
theorem row56 : RowOk Tryz.prog 56 C56 := ⟨Tryz.f56, ⟨[], [], [], []⟩, lvOf [], Tryz.func56, by kernel_rfl, by kernel_rfl⟩
def B57_0 : C := .seq (.seq (.reg [⟨some 7, .mv (.t 6) false, none⟩, ⟨some 8, .fa 3 (.t 2), none⟩, ⟨some 9, .load 1 false (.t 8) false, none⟩, ⟨some 10, .len (.t 9), none⟩, ⟨some 11, .bin .lss (.t 7) (.t 10), none⟩, ⟨some 12, .mv (.t 11) false, none⟩, ⟨some 13, .load 4 true (.t 2) false, some (12, true)⟩, ⟨some 14, .call 42 [(.t 13)] false, some (12, true)⟩, ⟨some 15, .pick (.t 12) (.t 14) (.c (.bool false)), none⟩])
  (.cond (.t 15) (.skip)
  (.exit 0)))
  (.seq (.block 1 (.seq (.reg [⟨some 18, .fa 3 (.t 2), none⟩, ⟨some 19, .load 1 false (.t 18) false, none⟩, ⟨some 20, .mv (.t 6) false, none⟩, ⟨some 21, .ia 6 (.t 19) (.t 20), none⟩, ⟨some 22, .fa 4 (.t 21), none⟩, ⟨some 23, .load 1 false (.t 22) false, none⟩, ⟨some 24, .mv (.t 1) false, none⟩, ⟨some 25, .bin .eql (.t 23) (.t 24), none⟩, ⟨some 26, .mv (.t 25) false, none⟩, ⟨some 27, .fa 3 (.t 2), some (26, true)⟩, ⟨some 28, .load 1 false (.t 27) false, some (26, true)⟩, ⟨some 29, .mv (.t 6) false, some (26, true)⟩, ⟨some 30, .ia 6 (.t 28) (.t 29), some (26, true)⟩, ⟨some 31, .load 6 true (.t 30) false, some (26, true)⟩, ⟨some 32, .call 22 [(.t 31)] false, some (26, true)⟩, ⟨some 33, .bin .gtr (.t 32) (.c (.int .i64 0)), some (26, true)⟩, ⟨some 34, .pick (.t 26) (.t 33) (.c (.bool false)), none⟩])
  (.cond (.t 34) (.reg [⟨some 35, .mv (.t 5) false, none⟩, ⟨some 36, .bin .add (.t 35) (.c (.int .i64 1)), none⟩, ⟨some 5, .mv (.t 36) true, none⟩])
  (.skip))))
  (.reg [⟨some 16, .mv (.t 6) false, none⟩, ⟨some 17, .bin .add (.t 16) (.c (.int .i64 1)), none⟩, ⟨some 6, .mv (.t 17) true, none⟩]))
def L57_0 : C := .loop [1, 2, 5, 6] 1 B57_0
theorem go57_0 (s : Env × Bx) (nb) : evL tab ext nb L57_0 s = (loopIn nb [1, 2, 5, 6] 1 s).bind fun s0 => (evL tab ext nb B57_0 s0).bind (seqG tab ext nb L57_0) := eL_loop _ _ _
/-- swingbridge/swingbridgeref11.Askers -/
def C57 : CFun := ⟨38, 2, .seq (.reg [⟨some 2, .box (.t 0), none⟩, ⟨some 4, .mv (.c (.int .i64 0)) true, none⟩])
  (.seq (.reg [⟨some 5, .mv (.c (.int .i64 0)) true, none⟩])
  (.seq (.seq (.reg [⟨some 6, .mv (.c (.int .i64 0)) true, none⟩])
  (.block 0 (L57_0)))
  (.seq (.reg [⟨some 37, .mv (.t 5) false, none⟩, ⟨some 4, .mv (.t 37) true, none⟩])
  (.ret)))), [.t 4]⟩
theorem row57 : RowOk Tryz.prog 57 C57 := ⟨Tryz.f57, ⟨[], [], [], []⟩, lvOf [(0, [1, 2, 5, 6], 1)], Tryz.func57, by kernel_rfl, by kernel_rfl⟩
/-- swingbridge/task.placed$1 -/
def C58 : CFun := ⟨6, 1, .seq (.reg [⟨some 2, .mv (.c (.bool false)) true, none⟩])
  (.seq (.reg [⟨some 3, .mv (.t 0) false, none⟩, ⟨some 4, .call 39 [(.t 3), (.c (.int .i64 1)), (.c (.int .i64 3))] false, none⟩, ⟨some 5, .un .not (.t 4), none⟩, ⟨some 2, .mv (.t 5) true, none⟩])
  (.ret)), [.t 2]⟩
theorem row58 : RowOk Tryz.prog 58 C58 := ⟨Tryz.f58, ⟨[], [], [], []⟩, lvOf [], Tryz.func58, by kernel_rfl, by kernel_rfl⟩
/-- swingbridge/task.placed$2 -/
def C59 : CFun := ⟨11, 2, .seq (.reg [⟨some 3, .mv (.c (.bool false)) true, none⟩])
  (.seq (.reg [⟨some 4, .mv (.t 0) false, none⟩, ⟨some 5, .fa 1 (.t 1), none⟩, ⟨some 6, .load 1 false (.t 5) false, none⟩, ⟨some 7, .len (.t 6), none⟩, ⟨some 8, .bin .sub (.t 7) (.c (.int .i64 1)), none⟩, ⟨some 9, .call 39 [(.t 4), (.c (.int .i64 0)), (.t 8)] false, none⟩, ⟨some 10, .un .not (.t 9), none⟩, ⟨some 3, .mv (.t 10) true, none⟩])
  (.ret)), [.t 3]⟩
theorem row59 : RowOk Tryz.prog 59 C59 := ⟨Tryz.f59, ⟨[], [], [], []⟩, lvOf [], Tryz.func59, by kernel_rfl, by kernel_rfl⟩
/-- slices.ContainsFunc[[]int,int] -/
def C60 : CFun := ⟨9, 2, .seq (.reg [⟨some 4, .mv (.c (.bool false)) true, none⟩])
  (.seq (.reg [⟨some 5, .mv (.t 0) false, none⟩, ⟨some 6, .mv (.t 1) false, none⟩, ⟨some 7, .calli 80 [(.t 5), (.t 6)], none⟩, ⟨some 8, .bin .geq (.t 7) (.c (.int .i64 0)), none⟩, ⟨some 4, .mv (.t 8) true, none⟩])
  (.ret)), [.t 4]⟩
theorem row60 : RowOk Tryz.prog 60 C60 := ⟨Tryz.f60, ⟨[], [], [], []⟩, lvOf [], Tryz.func60, by kernel_rfl, by kernel_rfl⟩
/-- swingbridge/task.one$1 -/
def C61 : CFun := ⟨16, 2, .seq (.reg [⟨some 2, .box (.t 0), none⟩, ⟨some 3, .mv (.c (.bool false)) true, none⟩])
  (.seq (.reg [⟨some 4, .fa 0 (.t 2), none⟩, ⟨some 5, .load 1 false (.t 4) false, none⟩, ⟨some 6, .fa 0 (.t 1), none⟩, ⟨some 7, .load 1 false (.t 6) false, none⟩, ⟨some 8, .bin .eql (.t 5) (.t 7), none⟩, ⟨some 9, .mv (.t 8) false, none⟩, ⟨some 10, .fa 3 (.t 2), some (9, false)⟩, ⟨some 11, .load 1 false (.t 10) false, some (9, false)⟩, ⟨some 12, .fa 3 (.t 1), some (9, false)⟩, ⟨some 13, .load 1 false (.t 12) false, some (9, false)⟩, ⟨some 14, .bin .eql (.t 11) (.t 13), some (9, false)⟩, ⟨some 15, .pick (.t 9) (.c (.bool true)) (.t 14), none⟩, ⟨some 3, .mv (.t 15) true, none⟩])
  (.ret)), [.t 3]⟩
theorem row61 : RowOk Tryz.prog 61 C61 := ⟨Tryz.f61, ⟨[], [], [], []⟩, lvOf [], Tryz.func61, by kernel_rfl, by kernel_rfl⟩
def B62_0 : C := .seq (.reg [⟨some 9, .bin .lss (.t 8) (.t 7), none⟩])
  (.seq (.cond (.t 9) (.skip)
  (.exit 0))
  (.seq (.block 1 (.seq (.reg [⟨some 10, .mv (.t 8) false, none⟩, ⟨some 3, .mv (.t 10) true, none⟩])
  (.seq (.reg [⟨some 11, .mv (.t 0) false, none⟩, ⟨some 12, .mv (.t 3) false, none⟩, ⟨some 13, .ix (.t 11) (.t 12), none⟩, ⟨some 4, .mv (.t 13) true, none⟩])
  (.seq (.reg [⟨some 14, .mv (.t 4) false, none⟩, ⟨some 15, .bin .geq (.t 14) (.c (.int .u8 48)), none⟩, ⟨some 16, .mv (.t 15) false, none⟩, ⟨some 17, .mv (.t 4) false, some (16, true)⟩, ⟨some 18, .bin .leq (.t 17) (.c (.int .u8 57)), some (16, true)⟩, ⟨some 19, .pick (.t 16) (.t 18) (.c (.bool false)), none⟩, ⟨some 5, .mv (.t 19) true, none⟩])
  (.seq (.reg [⟨some 20, .mv (.t 4) false, none⟩, ⟨some 21, .bin .lss (.t 20) (.c (.int .u8 97)), none⟩, ⟨some 22, .mv (.t 21) false, none⟩, ⟨some 23, .mv (.t 4) false, some (22, false)⟩, ⟨some 24, .bin .gtr (.t 23) (.c (.int .u8 122)), some (22, false)⟩, ⟨some 25, .pick (.t 22) (.c (.bool true)) (.t 24), none⟩, ⟨some 26, .mv (.t 25) false, none⟩, ⟨some 27, .mv (.t 3) false, some (26, true)⟩, ⟨some 28, .bin .eql (.t 27) (.c (.int .i64 0)), some (26, true)⟩, ⟨some 29, .mv (.t 28) false, some (26, true)⟩, ⟨some 30, .mv (.t 5) false, some (29, false)⟩, ⟨some 31, .un .not (.t 30), some (29, false)⟩, ⟨some 32, .pick (.t 29) (.c (.bool true)) (.t 31), some (26, true)⟩, ⟨some 33, .pick (.t 26) (.t 32) (.c (.bool false)), none⟩])
  (.cond (.t 33) (.seq (.reg [⟨some 2, .mv (.c (.bool false)) true, none⟩])
  (.ret))
  (.skip)))))))
  (.reg [⟨some 34, .bin .add (.t 8) (.c (.int .i64 1)), none⟩, ⟨some 8, .mv (.t 34) false, none⟩])))
def L62_0 : C := .loop [0, 7, 8] 0 B62_0
theorem go62_0 (s : Env × Bx) (nb) : evL tab ext nb L62_0 s = (loopIn nb [0, 7, 8] 0 s).bind fun s0 => (evL tab ext nb B62_0 s0).bind (seqG tab ext nb L62_0) := eL_loop _ _ _
/-- swingbridge/words.Name -/
def C62 : CFun := ⟨42, 1, .seq (.reg [⟨some 2, .mv (.c (.bool false)) true, none⟩])
  (.seq (.seq (.reg [⟨some 6, .mv (.t 0) false, none⟩, ⟨some 7, .slen (.t 6), none⟩, ⟨some 8, .mv (.c (.int .i64 0)) false, none⟩])
  (.block 0 (L62_0)))
  (.seq (.reg [⟨some 35, .mv (.t 0) false, none⟩, ⟨some 36, .bin .neq (.t 35) (.c (.string ⟨#[]⟩)), none⟩, ⟨some 37, .mv (.t 36) false, none⟩, ⟨some 38, .mv (.t 0) false, some (37, true)⟩, ⟨some 39, .slen (.t 38), some (37, true)⟩, ⟨some 40, .bin .leq (.t 39) (.c (.int .i64 8)), some (37, true)⟩, ⟨some 41, .pick (.t 37) (.t 40) (.c (.bool false)), none⟩, ⟨some 2, .mv (.t 41) true, none⟩])
  (.ret))), [.t 2]⟩
theorem row62 : RowOk Tryz.prog 62 C62 := ⟨Tryz.f62, ⟨[], [], [], []⟩, lvOf [(0, [0, 7, 8], 0)], Tryz.func62, by kernel_rfl, by kernel_rfl⟩
/-- slices.ContainsFunc[[]swingbridge/api.Task,swingbridge/api.Task] -/
def C63 : CFun := ⟨9, 2, .seq (.reg [⟨some 4, .mv (.c (.bool false)) true, none⟩])
  (.seq (.reg [⟨some 5, .mv (.t 0) false, none⟩, ⟨some 6, .mv (.t 1) false, none⟩, ⟨some 7, .calli 81 [(.t 5), (.t 6)], none⟩, ⟨some 8, .bin .geq (.t 7) (.c (.int .i64 0)), none⟩, ⟨some 4, .mv (.t 8) true, none⟩])
  (.ret)), [.t 4]⟩
theorem row63 : RowOk Tryz.prog 63 C63 := ⟨Tryz.f63, ⟨[], [], [], []⟩, lvOf [], Tryz.func63, by kernel_rfl, by kernel_rfl⟩
def B64_0 : C := .seq (.reg [⟨some 10, .bin .lss (.t 9) (.t 8), none⟩])
  (.seq (.cond (.t 10) (.skip)
  (.exit 0))
  (.seq (.block 1 (.seq (.reg [⟨some 11, .ia 3 (.t 7) (.t 9), none⟩, ⟨some 12, .load 3 true (.t 11) false, none⟩, ⟨some 6, .alloc [(.int .i64 0), (.int .i64 0), (.int .i64 0)], none⟩, ⟨none, .store 3 (.t 6) (.t 12), none⟩])
  (.seq (.block 2 (.seq (.reg [⟨some 14, .fa 0 (.t 6), none⟩, ⟨some 15, .load 1 false (.t 14) false, none⟩, ⟨some 16, .call 39 [(.t 15), (.c (.int .i64 1)), (.c (.int .i64 3))] false, none⟩, ⟨some 17, .un .not (.t 16), none⟩, ⟨some 18, .mv (.t 17) false, none⟩, ⟨some 19, .fa 1 (.t 6), some (18, false)⟩, ⟨some 20, .load 1 false (.t 19) false, some (18, false)⟩, ⟨some 21, .call 39 [(.t 20), (.c (.int .i64 1)), (.c (.int .i64 60))] false, some (18, false)⟩, ⟨some 22, .un .not (.t 21), some (18, false)⟩, ⟨some 23, .pick (.t 18) (.c (.bool true)) (.t 22), none⟩, ⟨some 13, .mv (.t 23) true, none⟩])
  (.cond (.t 13) (.seq (.reg [⟨some 4, .mv (.c (.bool false)) true, none⟩])
  (.ret))
  (.seq (.reg [⟨some 25, .fa 0 (.t 6), none⟩, ⟨some 26, .load 1 false (.t 25) false, none⟩, ⟨some 27, .bin .eql (.t 26) (.c (.int .i64 3)), none⟩, ⟨some 28, .mv (.t 27) false, none⟩, ⟨some 29, .fa 2 (.t 6), some (28, true)⟩, ⟨some 30, .load 1 false (.t 29) false, some (28, true)⟩, ⟨some 31, .fa 2 (.t 2), some (28, true)⟩, ⟨some 32, .load 1 false (.t 31) false, some (28, true)⟩, ⟨some 33, .len (.t 32), some (28, true)⟩, ⟨some 34, .bin .sub (.t 33) (.c (.int .i64 1)), some (28, true)⟩, ⟨some 35, .call 39 [(.t 30), (.c (.int .i64 0)), (.t 34)] false, some (28, true)⟩, ⟨some 36, .pick (.t 28) (.t 35) (.c (.bool false)), none⟩, ⟨some 24, .mv (.t 36) true, none⟩])
  (.cond (.t 24) (.exit 1)
  (.seq (.reg [⟨some 38, .fa 0 (.t 6), none⟩, ⟨some 39, .load 1 false (.t 38) false, none⟩, ⟨some 40, .bin .neq (.t 39) (.c (.int .i64 3)), none⟩, ⟨some 41, .mv (.t 40) false, none⟩, ⟨some 42, .fa 2 (.t 6), some (41, true)⟩, ⟨some 43, .load 1 false (.t 42) false, some (41, true)⟩, ⟨some 44, .bin .eql (.t 43) (.c (.int .i64 0)), some (41, true)⟩, ⟨some 45, .pick (.t 41) (.t 44) (.c (.bool false)), none⟩, ⟨some 37, .mv (.t 45) true, none⟩])
  (.cond (.t 37) (.exit 1)
  (.skip))))))))
  (.seq (.reg [⟨some 4, .mv (.c (.bool false)) true, none⟩])
  (.ret)))))
  (.reg [⟨some 46, .bin .add (.t 9) (.c (.int .i64 1)), none⟩, ⟨some 9, .mv (.t 46) false, none⟩])))
def L64_0 : C := .loop [1, 2, 7, 8, 9] 1 B64_0
theorem go64_0 (s : Env × Bx) (nb) : evL tab ext nb L64_0 s = (loopIn nb [1, 2, 7, 8, 9] 1 s).bind fun s0 => (evL tab ext nb B64_0 s0).bind (seqG tab ext nb L64_0) := eL_loop _ _ _
/-- swingbridge/task.parted -/
def C64 : CFun := ⟨50, 2, .seq (.reg [⟨some 2, .box (.t 0), none⟩, ⟨some 4, .mv (.c (.bool false)) true, none⟩])
  (.scope (.seq (.skip)
  (.seq (.seq (.reg [⟨some 7, .mv (.t 1) false, none⟩, ⟨some 8, .len (.t 7), none⟩, ⟨some 9, .mv (.c (.int .i64 0)) false, none⟩])
  (.block 0 (L64_0)))
  (.seq (.reg [⟨some 47, .mv (.t 1) false, none⟩, ⟨some 48, .len (.t 47), none⟩, ⟨some 49, .call 39 [(.t 48), (.c (.int .i64 1)), (.c (.int .i64 6))] false, none⟩, ⟨some 4, .mv (.t 49) true, none⟩])
  (.ret))))), [.t 4]⟩
theorem row64 : RowOk Tryz.prog 64 C64 := ⟨Tryz.f64, ⟨[], [], [], []⟩, lvOf [(0, [1, 2, 7, 8, 9], 1)], Tryz.func64, by kernel_rfl, by kernel_rfl⟩
def B65_1 : C := .seq (.seq (.reg [⟨some 29, .mv (.t 4) false, none⟩, ⟨some 30, .fa 3 (.t 1), none⟩, ⟨some 31, .load 1 false (.t 30) false, none⟩, ⟨some 32, .len (.t 31), none⟩, ⟨some 33, .bin .lss (.t 29) (.t 32), none⟩])
  (.cond (.t 33) (.skip)
  (.exit 1)))
  (.seq (.block 2 (.seq (.reg [⟨some 36, .load 4 true (.t 1) false, none⟩, ⟨some 37, .mv (.t 4) false, none⟩, ⟨some 38, .call 83 [(.t 36), (.t 37)] false, none⟩, ⟨some 5, .mv (.t 38) true, none⟩])
  (.seq (.reg [⟨some 39, .mv (.t 5) false, none⟩, ⟨some 40, .bin .neq (.t 39) (.c (.int .i64 0)), none⟩])
  (.cond (.t 40) (.seq (.reg [⟨some 41, .mv (.t 4) false, none⟩, ⟨some 42, .mv (.t 5) false, none⟩, ⟨some 2, .mv (.t 41) true, none⟩, ⟨some 3, .mv (.t 42) true, none⟩])
  (.ret))
  (.skip)))))
  (.reg [⟨some 34, .mv (.t 4) false, none⟩, ⟨some 35, .bin .add (.t 34) (.c (.int .i64 1)), none⟩, ⟨some 4, .mv (.t 35) true, none⟩]))
def L65_1 : C := .loop [1, 4] 1 B65_1
theorem go65_1 (s : Env × Bx) (nb) : evL tab ext nb L65_1 s = (loopIn nb [1, 4] 1 s).bind fun s0 => (evL tab ext nb B65_1 s0).bind (seqG tab ext nb L65_1) := eL_loop _ _ _
/-- swingbridge/swingbridgeref7.Check -/
def C65 : CFun := ⟨43, 1, .seq (.reg [⟨some 1, .box (.t 0), none⟩, ⟨some 2, .mv (.c (.int .i64 0)) true, none⟩, ⟨some 3, .mv (.c (.int .i64 0)) true, none⟩])
  (.seq (.block 0 (.seq (.reg [⟨some 7, .fa 0 (.t 1), none⟩, ⟨some 8, .load 1 false (.t 7) false, none⟩, ⟨some 9, .bin .lss (.t 8) (.c (.int .i64 1)), none⟩, ⟨some 10, .mv (.t 9) false, none⟩, ⟨some 11, .fa 0 (.t 1), some (10, false)⟩, ⟨some 12, .load 1 false (.t 11) false, some (10, false)⟩, ⟨some 13, .bin .gtr (.t 12) (.c (.int .i64 3)), some (10, false)⟩, ⟨some 14, .pick (.t 10) (.c (.bool true)) (.t 13), none⟩, ⟨some 6, .mv (.t 14) true, none⟩])
  (.cond (.t 6) (.seq (.reg [⟨some 2, .mv (.c (.int .i64 (-1))) true, none⟩, ⟨some 3, .mv (.c (.int .i64 10)) true, none⟩])
  (.ret))
  (.seq (.reg [⟨some 16, .load 4 true (.t 1) false, none⟩, ⟨some 17, .call 82 [(.t 16)] false, none⟩, ⟨some 18, .un .not (.t 17), none⟩, ⟨some 15, .mv (.t 18) true, none⟩])
  (.cond (.t 15) (.seq (.reg [⟨some 2, .mv (.c (.int .i64 (-1))) true, none⟩, ⟨some 3, .mv (.c (.int .i64 16)) true, none⟩])
  (.ret))
  (.seq (.reg [⟨some 20, .fa 3 (.t 1), none⟩, ⟨some 21, .load 1 false (.t 20) false, none⟩, ⟨some 22, .len (.t 21), none⟩, ⟨some 23, .bin .gtr (.t 22) (.c (.int .i64 6)), none⟩, ⟨some 19, .mv (.t 23) true, none⟩])
  (.cond (.t 19) (.seq (.reg [⟨some 2, .mv (.c (.int .i64 (-1))) true, none⟩, ⟨some 3, .mv (.c (.int .i64 11)) true, none⟩])
  (.ret))
  (.seq (.reg [⟨some 25, .fa 3 (.t 1), none⟩, ⟨some 26, .load 1 false (.t 25) false, none⟩, ⟨some 27, .len (.t 26), none⟩, ⟨some 28, .bin .eql (.t 27) (.c (.int .i64 0)), none⟩, ⟨some 24, .mv (.t 28) true, none⟩])
  (.cond (.t 24) (.seq (.reg [⟨some 2, .mv (.c (.int .i64 (-1))) true, none⟩, ⟨some 3, .mv (.c (.int .i64 14)) true, none⟩])
  (.ret))
  (.skip))))))))))
  (.seq (.seq (.reg [⟨some 4, .mv (.c (.int .i64 0)) true, none⟩])
  (.block 1 (L65_1)))
  (.seq (.reg [⟨some 2, .mv (.c (.int .i64 (-1))) true, none⟩, ⟨some 3, .mv (.c (.int .i64 0)) true, none⟩])
  (.ret)))), [.t 2, .t 3]⟩
theorem row65 : RowOk Tryz.prog 65 C65 := ⟨Tryz.f65, ⟨[], [], [], []⟩, lvOf [(1, [1, 4], 1)], Tryz.func65, by kernel_rfl, by kernel_rfl⟩
/-- slices.Clone[[]int,int] -/
def C66 : CFun := ⟨8, 1, .seq (.reg [⟨some 2, .mv (.c (.slice none 0 0)) true, none⟩])
  (.seq (.seq (.reg [⟨some 3, .mv (.t 0) false, none⟩, ⟨some 4, .isnil false (.t 3), none⟩])
  (.cond (.t 4) (.seq (.reg [⟨some 2, .mv (.c (.slice none 0 0)) true, none⟩])
  (.ret))
  (.skip)))
  (.seq (.reg [⟨some 5, .bsl 1 0 [] [] false, none⟩, ⟨some 6, .mv (.t 0) false, none⟩, ⟨some 7, .app 1 8 (.t 5) (.t 6) true, none⟩, ⟨some 2, .mv (.t 7) true, none⟩])
  (.ret))), [.t 2]⟩
theorem row66 : RowOk Tryz.prog 66 C66 := ⟨Tryz.f66, ⟨[], [7], [], []⟩, lvOf [], Tryz.func66, by kernel_rfl, by kernel_rfl⟩
/-- slices.SortFunc[[]int,int] -/
def C67 : CFun := ⟨14, 2, .seq (.reg [⟨some 5, .mv (.t 0) false, none⟩, ⟨some 6, .len (.t 5), none⟩, ⟨some 4, .mv (.t 6) true, none⟩])
  (.reg [⟨some 7, .mv (.t 0) false, none⟩, ⟨some 8, .mv (.t 4) false, none⟩, ⟨some 9, .mv (.t 4) false, none⟩, ⟨some 10, .conv .u64 (.t 9), none⟩, ⟨some 11, .call 85 [(.t 10)] false, none⟩, ⟨some 12, .mv (.t 1) false, none⟩, ⟨some 13, .calli 84 [(.t 7), (.c (.int .i64 0)), (.t 8), (.t 11), (.t 12)], none⟩]), []⟩
theorem row67 : RowOk Tryz.prog 67 C67 := ⟨Tryz.f67, ⟨[], [], [], []⟩, lvOf [], Tryz.func67, by kernel_rfl, by kernel_rfl⟩
/-- swingbridge/sorted.Top$1 -/
def C68 : CFun := ⟨8, 2, .seq (.reg [⟨some 4, .mv (.c (.int .i64 0)) true, none⟩])
  (.seq (.reg [⟨some 5, .mv (.t 1) false, none⟩, ⟨some 6, .mv (.t 0) false, none⟩, ⟨some 7, .call 69 [(.t 5), (.t 6)] false, none⟩, ⟨some 4, .mv (.t 7) true, none⟩])
  (.ret)), [.t 4]⟩
theorem row68 : RowOk Tryz.prog 68 C68 := ⟨Tryz.f68, ⟨[], [], [], []⟩, lvOf [], Tryz.func68, by kernel_rfl, by kernel_rfl⟩
/-- cmp.Compare[int] -/
def C69 : CFun := ⟨20, 2, .seq (.reg [⟨some 4, .mv (.c (.int .i64 0)) true, none⟩])
  (.seq (.reg [⟨some 7, .mv (.t 0) false, none⟩, ⟨some 8, .call 86 [(.t 7)] false, none⟩, ⟨some 5, .mv (.t 8) true, none⟩])
  (.seq (.reg [⟨some 9, .mv (.t 1) false, none⟩, ⟨some 10, .call 86 [(.t 9)] false, none⟩, ⟨some 6, .mv (.t 10) true, none⟩])
  (.seq (.seq (.reg [⟨some 11, .mv (.t 5) false, none⟩])
  (.cond (.t 11) (.seq (.seq (.reg [⟨some 12, .mv (.t 6) false, none⟩])
  (.cond (.t 12) (.seq (.reg [⟨some 4, .mv (.c (.int .i64 0)) true, none⟩])
  (.ret))
  (.skip)))
  (.seq (.reg [⟨some 4, .mv (.c (.int .i64 (-1))) true, none⟩])
  (.ret)))
  (.skip)))
  (.seq (.seq (.reg [⟨some 13, .mv (.t 6) false, none⟩])
  (.cond (.t 13) (.seq (.reg [⟨some 4, .mv (.c (.int .i64 1)) true, none⟩])
  (.ret))
  (.skip)))
  (.seq (.seq (.reg [⟨some 14, .mv (.t 0) false, none⟩, ⟨some 15, .mv (.t 1) false, none⟩, ⟨some 16, .bin .lss (.t 14) (.t 15), none⟩])
  (.cond (.t 16) (.seq (.reg [⟨some 4, .mv (.c (.int .i64 (-1))) true, none⟩])
  (.ret))
  (.skip)))
  (.seq (.seq (.reg [⟨some 17, .mv (.t 0) false, none⟩, ⟨some 18, .mv (.t 1) false, none⟩, ⟨some 19, .bin .gtr (.t 17) (.t 18), none⟩])
  (.cond (.t 19) (.seq (.reg [⟨some 4, .mv (.c (.int .i64 1)) true, none⟩])
  (.ret))
  (.skip)))
  (.seq (.reg [⟨some 4, .mv (.c (.int .i64 0)) true, none⟩])
  (.ret)))))))), [.t 4]⟩
theorem row69 : RowOk Tryz.prog 69 C69 := ⟨Tryz.f69, ⟨[], [], [], []⟩, lvOf [], Tryz.func69, by kernel_rfl, by kernel_rfl⟩
def B70_0 : C := .seq (.reg [⟨some 22, .bin .lss (.t 21) (.t 20), none⟩])
  (.seq (.cond (.t 22) (.skip)
  (.exit 0))
  (.seq (.block 1 (.seq (.reg [⟨some 23, .ia 3 (.t 19) (.t 21), none⟩, ⟨some 24, .load 3 true (.t 23) false, none⟩, ⟨some 9, .alloc [(.int .i64 0), (.int .i64 0), (.int .i64 0)], none⟩, ⟨none, .store 3 (.t 9) (.t 24), none⟩])
  (.seq (.reg [⟨some 25, .fa 0 (.t 9), none⟩, ⟨some 26, .load 1 false (.t 25) false, none⟩, ⟨some 27, .bin .eql (.t 26) (.c (.int .i64 3)), none⟩, ⟨some 28, .mv (.t 27) false, none⟩, ⟨some 29, .fa 2 (.t 3), some (28, true)⟩, ⟨some 30, .load 1 false (.t 29) false, some (28, true)⟩, ⟨some 31, .fa 2 (.t 9), some (28, true)⟩, ⟨some 32, .load 1 false (.t 31) false, some (28, true)⟩, ⟨some 33, .ia 1 (.t 30) (.t 32), some (28, true)⟩, ⟨some 34, .load 1 false (.t 33) false, some (28, true)⟩, ⟨some 35, .mv (.t 2) false, some (28, true)⟩, ⟨some 36, .bin .eql (.t 34) (.t 35), some (28, true)⟩, ⟨some 37, .pick (.t 28) (.t 36) (.c (.bool false)), none⟩])
  (.cond (.t 37) (.reg [⟨some 38, .mv (.t 7) true, none⟩, ⟨some 39, .fa 1 (.t 9), none⟩, ⟨some 40, .load 1 false (.t 39) false, none⟩, ⟨some 41, .bsl 1 1 [(.int .i64 0)] [(0, 1, (.t 40))] false, none⟩, ⟨some 42, .app 1 8 (.t 38) (.t 41) false, none⟩, ⟨some 7, .mv (.t 42) true, none⟩])
  (.skip)))))
  (.reg [⟨some 43, .bin .add (.t 21) (.c (.int .i64 1)), none⟩, ⟨some 21, .mv (.t 43) false, none⟩])))
def L70_0 : C := .loop [2, 3, 7, 19, 20, 21] 1 B70_0
theorem go70_0 (s : Env × Bx) (nb) : evL tab ext nb L70_0 s = (loopIn nb [2, 3, 7, 19, 20, 21] 1 s).bind fun s0 => (evL tab ext nb B70_0 s0).bind (seqG tab ext nb L70_0) := eL_loop _ _ _
/-- swingbridge/demand.homed -/
def C70 : CFun := ⟨45, 3, .seq (.reg [⟨some 3, .box (.t 0), none⟩, ⟨some 6, .mv (.c (.slice none 0 0)) true, none⟩])
  (.seq (.reg [⟨some 7, .mv (.c (.slice none 0 0)) true, none⟩])
  (.seq (.seq (.reg [⟨some 10, .load 4 true (.t 3) false, none⟩, ⟨some 11, .mv (.t 1) false, none⟩, ⟨some 12, .call 77 [(.t 10), (.t 11)] false, none⟩, ⟨some 13, .un .not (.t 12), none⟩])
  (.cond (.t 13) (.seq (.reg [⟨some 6, .mv (.c (.slice none 0 0)) true, none⟩])
  (.ret))
  (.skip)))
  (.seq (.seq (.reg [⟨some 14, .fa 3 (.t 3), none⟩, ⟨some 15, .load 1 false (.t 14) false, none⟩, ⟨some 16, .mv (.t 1) false, none⟩, ⟨some 17, .ia 6 (.t 15) (.t 16), none⟩, ⟨some 18, .fa 5 (.t 17), none⟩, ⟨some 19, .load 1 false (.t 18) false, none⟩, ⟨some 20, .len (.t 19), none⟩, ⟨some 21, .mv (.c (.int .i64 0)) false, none⟩])
  (.block 0 (L70_0)))
  (.seq (.reg [⟨some 44, .mv (.t 7) false, none⟩, ⟨some 6, .mv (.t 44) true, none⟩])
  (.ret))))), [.t 6]⟩
theorem row70 : RowOk Tryz.prog 70 C70 := ⟨Tryz.f70, ⟨[], [], [], []⟩, lvOf [(0, [2, 3, 7, 19, 20, 21], 1)], Tryz.func70, by kernel_rfl, by kernel_rfl⟩
/-- swingbridge/count.held -/
def C71 : CFun := ⟨9, 2, .seq (.reg [⟨some 4, .mv (.c (.int .i64 0)) true, none⟩])
  (.seq (.seq (.reg [⟨some 5, .mv (.t 1) false, none⟩, ⟨some 6, .un .not (.t 5), none⟩])
  (.cond (.t 6) (.seq (.reg [⟨some 4, .mv (.c (.int .i64 1000000)) true, none⟩])
  (.ret))
  (.skip)))
  (.seq (.reg [⟨some 7, .mv (.t 0) false, none⟩, ⟨some 8, .mxn false [(.t 7), (.c (.int .i64 1000000))], none⟩, ⟨some 4, .mv (.t 8) true, none⟩])
  (.ret))), [.t 4]⟩
theorem row71 : RowOk Tryz.prog 71 C71 := ⟨Tryz.f71, ⟨[], [], [], []⟩, lvOf [], Tryz.func71, by kernel_rfl, by kernel_rfl⟩
/-- swingbridge/calc.Mul -/
def C72 : CFun := ⟨27, 2, .seq (.reg [⟨some 4, .mv (.c (.int .i64 0)) true, none⟩, ⟨some 5, .mv (.c (.bool false)) true, none⟩])
  (.seq (.reg [⟨some 9, .mv (.t 0) false, none⟩, ⟨some 10, .call 75 [(.t 9)] false, none⟩, ⟨some 11, .mv (.t 1) false, none⟩, ⟨some 12, .call 75 [(.t 11)] false, none⟩, ⟨some 13, .call 87 [(.t 10), (.t 12)] false, none⟩, ⟨some 8, .mv (.t 13) false, none⟩, ⟨some 14, .ext (.t 8) 0, none⟩, ⟨some 15, .ext (.t 8) 1, none⟩, ⟨some 6, .mv (.t 14) true, none⟩, ⟨some 7, .mv (.t 15) true, none⟩])
  (.seq (.seq (.reg [⟨some 16, .mv (.t 6) false, none⟩, ⟨some 17, .bin .gtr (.t 16) (.c (.int .u64 0)), none⟩])
  (.cond (.t 17) (.seq (.reg [⟨some 4, .mv (.c (.int .i64 0)) true, none⟩, ⟨some 5, .mv (.c (.bool false)) true, none⟩])
  (.ret))
  (.skip)))
  (.seq (.reg [⟨some 18, .mv (.t 7) false, none⟩, ⟨some 19, .mv (.t 0) false, none⟩, ⟨some 20, .bin .lss (.t 19) (.c (.int .i64 0)), none⟩, ⟨some 21, .mv (.t 1) false, none⟩, ⟨some 22, .bin .lss (.t 21) (.c (.int .i64 0)), none⟩, ⟨some 23, .eqb true (.t 20) (.t 22), none⟩, ⟨some 24, .call 76 [(.t 18), (.t 23)] false, none⟩, ⟨some 25, .ext (.t 24) 0, none⟩, ⟨some 26, .ext (.t 24) 1, none⟩, ⟨some 4, .mv (.t 25) true, none⟩, ⟨some 5, .mv (.t 26) true, none⟩])
  (.ret)))), [.t 4, .t 5]⟩
theorem row72 : RowOk Tryz.prog 72 C72 := ⟨Tryz.f72, ⟨[], [], [], []⟩, lvOf [], Tryz.func72, by kernel_rfl, by kernel_rfl⟩
/-- swingbridge/count.Jobs -/
def C73 : CFun := ⟨36, 3, .seq (.reg [⟨some 6, .mv (.c (.int .i64 0)) true, none⟩])
  (.seq (.seq (.reg [⟨some 9, .mv (.t 0) false, none⟩, ⟨some 10, .bin .lss (.t 9) (.c (.int .i64 1)), none⟩, ⟨some 11, .mv (.t 10) false, none⟩, ⟨some 12, .mv (.t 1) false, some (11, false)⟩, ⟨some 13, .bin .lss (.t 12) (.c (.int .i64 0)), some (11, false)⟩, ⟨some 14, .pick (.t 11) (.c (.bool true)) (.t 13), none⟩, ⟨some 15, .mv (.t 14) false, none⟩, ⟨some 16, .mv (.t 2) false, some (15, false)⟩, ⟨some 17, .bin .lss (.t 16) (.c (.int .i64 1)), some (15, false)⟩, ⟨some 18, .pick (.t 15) (.c (.bool true)) (.t 17), none⟩])
  (.cond (.t 18) (.seq (.reg [⟨some 6, .mv (.c (.int .i64 0)) true, none⟩])
  (.ret))
  (.skip)))
  (.seq (.reg [⟨some 20, .mv (.t 0) false, none⟩, ⟨some 21, .mv (.t 1) false, none⟩, ⟨some 22, .call 88 [(.t 20), (.t 21)] false, none⟩, ⟨some 19, .mv (.t 22) false, none⟩, ⟨some 23, .ext (.t 19) 0, none⟩, ⟨some 24, .ext (.t 19) 1, none⟩, ⟨some 7, .mv (.t 23) true, none⟩, ⟨some 8, .mv (.t 24) true, none⟩])
  (.seq (.seq (.reg [⟨some 25, .mv (.t 8) false, none⟩])
  (.cond (.t 25) (.seq (.reg [⟨some 26, .mv (.t 7) false, none⟩, ⟨some 27, .mv (.t 2) false, none⟩, ⟨some 28, .call 50 [(.t 26), (.t 27)] false, none⟩, ⟨some 29, .ext (.t 28) 0, none⟩, ⟨some 30, .ext (.t 28) 1, none⟩, ⟨some 31, .call 71 [(.t 29), (.t 30)] false, none⟩, ⟨some 6, .mv (.t 31) true, none⟩])
  (.ret))
  (.skip)))
  (.seq (.reg [⟨some 32, .mv (.t 0) false, none⟩, ⟨some 33, .mv (.t 1) false, none⟩, ⟨some 34, .mv (.t 2) false, none⟩, ⟨some 35, .call 89 [(.t 32), (.t 33), (.t 34)] false, none⟩, ⟨some 6, .mv (.t 35) true, none⟩])
  (.ret))))), [.t 6]⟩
theorem row73 : RowOk Tryz.prog 73 C73 := ⟨Tryz.f73, ⟨[], [], [], []⟩, lvOf [], Tryz.func73, by kernel_rfl, by kernel_rfl⟩
def B74_0 : C := .seq (.reg [⟨some 12, .bin .lss (.t 11) (.t 10), none⟩])
  (.seq (.cond (.t 12) (.skip)
  (.exit 0))
  (.seq (.block 1 (.seq (.reg [⟨some 13, .ia 1 (.t 9) (.t 11), none⟩, ⟨some 14, .load 1 false (.t 13) false, none⟩, ⟨some 5, .mv (.t 14) true, none⟩])
  (.reg [⟨some 15, .mv (.t 3) false, none⟩, ⟨some 16, .mv (.t 5) false, none⟩, ⟨some 17, .bin .add (.t 15) (.t 16), none⟩, ⟨some 3, .mv (.t 17) true, none⟩])))
  (.reg [⟨some 18, .bin .add (.t 11) (.c (.int .i64 1)), none⟩, ⟨some 11, .mv (.t 18) false, none⟩])))
def L74_0 : C := .loop [3, 9, 10, 11] 1 B74_0
theorem go74_0 (s : Env × Bx) (nb) : evL tab ext nb L74_0 s = (loopIn nb [3, 9, 10, 11] 1 s).bind fun s0 => (evL tab ext nb B74_0 s0).bind (seqG tab ext nb L74_0) := eL_loop _ _ _
/-- swingbridge/demand.Cores -/
def C74 : CFun := ⟨20, 1, .seq (.reg [⟨some 1, .box (.t 0), none⟩, ⟨some 2, .mv (.c (.int .i64 0)) true, none⟩])
  (.seq (.reg [⟨some 3, .mv (.c (.int .i64 0)) true, none⟩])
  (.seq (.seq (.reg [⟨some 6, .load 4 true (.t 1) false, none⟩, ⟨some 7, .call 77 [(.t 6), (.c (.int .i64 0))] false, none⟩])
  (.cond (.t 7) (.seq (.reg [⟨some 8, .fa 1 (.t 1), none⟩, ⟨some 9, .load 1 false (.t 8) false, none⟩, ⟨some 10, .len (.t 9), none⟩, ⟨some 11, .mv (.c (.int .i64 0)) false, none⟩])
  (.block 0 (L74_0)))
  (.skip)))
  (.seq (.reg [⟨some 19, .mv (.t 3) false, none⟩, ⟨some 2, .mv (.t 19) true, none⟩])
  (.ret)))), [.t 2]⟩
theorem row74 : RowOk Tryz.prog 74 C74 := ⟨Tryz.f74, ⟨[], [], [], []⟩, lvOf [(0, [3, 9, 10, 11], 1)], Tryz.func74, by kernel_rfl, by kernel_rfl⟩
/-- swingbridge/calc.size -/
def C75 : CFun := ⟨10, 1, .seq (.reg [⟨some 2, .mv (.c (.int .u64 0)) true, none⟩])
  (.seq (.seq (.reg [⟨some 3, .mv (.t 0) false, none⟩, ⟨some 4, .bin .lss (.t 3) (.c (.int .i64 0)), none⟩])
  (.cond (.t 4) (.seq (.reg [⟨some 5, .mv (.t 0) false, none⟩, ⟨some 6, .conv .u64 (.t 5), none⟩, ⟨some 7, .un .neg (.t 6), none⟩, ⟨some 2, .mv (.t 7) true, none⟩])
  (.ret))
  (.skip)))
  (.seq (.reg [⟨some 8, .mv (.t 0) false, none⟩, ⟨some 9, .conv .u64 (.t 8), none⟩, ⟨some 2, .mv (.t 9) true, none⟩])
  (.ret))), [.t 2]⟩
theorem row75 : RowOk Tryz.prog 75 C75 := ⟨Tryz.f75, ⟨[], [], [], []⟩, lvOf [], Tryz.func75, by kernel_rfl, by kernel_rfl⟩
/-- swingbridge/calc.signed -/
def C76 : CFun := ⟨27, 2, .seq (.reg [⟨some 4, .mv (.c (.int .i64 0)) true, none⟩, ⟨some 5, .mv (.c (.bool false)) true, none⟩])
  (.seq (.block 0 (.seq (.reg [⟨some 7, .mv (.t 0) false, none⟩, ⟨some 8, .bin .eql (.t 7) (.c (.int .u64 0)), none⟩, ⟨some 6, .mv (.t 8) true, none⟩])
  (.cond (.t 6) (.seq (.reg [⟨some 4, .mv (.c (.int .i64 0)) true, none⟩, ⟨some 5, .mv (.c (.bool true)) true, none⟩])
  (.ret))
  (.seq (.reg [⟨some 10, .mv (.t 1) false, none⟩, ⟨some 11, .mv (.t 10) false, none⟩, ⟨some 12, .mv (.t 0) false, some (11, true)⟩, ⟨some 13, .bin .leq (.t 12) (.c (.int .u64 9223372036854775808)), some (11, true)⟩, ⟨some 14, .pick (.t 11) (.t 13) (.c (.bool false)), none⟩, ⟨some 9, .mv (.t 14) true, none⟩])
  (.cond (.t 9) (.seq (.reg [⟨some 15, .mv (.t 0) false, none⟩, ⟨some 16, .un .neg (.t 15), none⟩, ⟨some 17, .conv .i64 (.t 16), none⟩, ⟨some 4, .mv (.t 17) true, none⟩, ⟨some 5, .mv (.c (.bool true)) true, none⟩])
  (.ret))
  (.seq (.reg [⟨some 19, .mv (.t 1) false, none⟩, ⟨some 20, .un .not (.t 19), none⟩, ⟨some 21, .mv (.t 20) false, none⟩, ⟨some 22, .mv (.t 0) false, some (21, true)⟩, ⟨some 23, .bin .leq (.t 22) (.c (.int .u64 9223372036854775807)), some (21, true)⟩, ⟨some 24, .pick (.t 21) (.t 23) (.c (.bool false)), none⟩, ⟨some 18, .mv (.t 24) true, none⟩])
  (.cond (.t 18) (.seq (.reg [⟨some 25, .mv (.t 0) false, none⟩, ⟨some 26, .conv .i64 (.t 25), none⟩, ⟨some 4, .mv (.t 26) true, none⟩, ⟨some 5, .mv (.c (.bool true)) true, none⟩])
  (.ret))
  (.skip))))))))
  (.seq (.reg [⟨some 4, .mv (.c (.int .i64 0)) true, none⟩, ⟨some 5, .mv (.c (.bool false)) true, none⟩])
  (.ret))), [.t 4, .t 5]⟩
theorem row76 : RowOk Tryz.prog 76 C76 := ⟨Tryz.f76, ⟨[], [], [], []⟩, lvOf [], Tryz.func76, by kernel_rfl, by kernel_rfl⟩
/-- swingbridge/demand.there -/
def C77 : CFun := ⟨25, 2, .seq (.reg [⟨some 2, .box (.t 0), none⟩, ⟨some 4, .mv (.c (.bool false)) true, none⟩])
  (.seq (.reg [⟨some 8, .load 4 true (.t 2) false, none⟩, ⟨some 9, .call 20 [(.t 8)] false, none⟩, ⟨some 7, .mv (.t 9) false, none⟩, ⟨some 10, .ext (.t 7) 0, none⟩, ⟨some 11, .ext (.t 7) 1, none⟩, ⟨some 5, .mv (.t 10) true, none⟩, ⟨some 6, .mv (.t 11) true, none⟩])
  (.seq (.reg [⟨some 12, .mv (.t 6) false, none⟩, ⟨some 13, .bin .eql (.t 12) (.c (.int .i64 0)), none⟩, ⟨some 14, .mv (.t 13) false, none⟩, ⟨some 15, .mv (.t 1) false, some (14, true)⟩, ⟨some 16, .bin .geq (.t 15) (.c (.int .i64 0)), some (14, true)⟩, ⟨some 17, .pick (.t 14) (.t 16) (.c (.bool false)), none⟩, ⟨some 18, .mv (.t 17) false, none⟩, ⟨some 19, .mv (.t 1) false, some (18, true)⟩, ⟨some 20, .fa 3 (.t 2), some (18, true)⟩, ⟨some 21, .load 1 false (.t 20) false, some (18, true)⟩, ⟨some 22, .len (.t 21), some (18, true)⟩, ⟨some 23, .bin .lss (.t 19) (.t 22), some (18, true)⟩, ⟨some 24, .pick (.t 18) (.t 23) (.c (.bool false)), none⟩, ⟨some 4, .mv (.t 24) true, none⟩])
  (.ret))), [.t 4]⟩
theorem row77 : RowOk Tryz.prog 77 C77 := ⟨Tryz.f77, ⟨[], [], [], []⟩, lvOf [], Tryz.func77, by kernel_rfl, by kernel_rfl⟩
/-- swingbridge/swingbridgeref11.Jobs -/
def C78 : CFun := ⟨54, 3, .seq (.reg [⟨some 6, .mv (.c (.int .i64 0)) true, none⟩])
  (.seq (.seq (.reg [⟨some 10, .mv (.t 0) false, none⟩, ⟨some 11, .bin .lss (.t 10) (.c (.int .i64 1)), none⟩, ⟨some 12, .mv (.t 11) false, none⟩, ⟨some 13, .mv (.t 1) false, some (12, false)⟩, ⟨some 14, .bin .lss (.t 13) (.c (.int .i64 0)), some (12, false)⟩, ⟨some 15, .pick (.t 12) (.c (.bool true)) (.t 14), none⟩, ⟨some 16, .mv (.t 15) false, none⟩, ⟨some 17, .mv (.t 2) false, some (16, false)⟩, ⟨some 18, .bin .lss (.t 17) (.c (.int .i64 1)), some (16, false)⟩, ⟨some 19, .pick (.t 16) (.c (.bool true)) (.t 18), none⟩])
  (.cond (.t 19) (.seq (.reg [⟨some 6, .mv (.c (.int .i64 0)) true, none⟩])
  (.ret))
  (.skip)))
  (.seq (.reg [⟨some 20, .mv (.t 0) false, none⟩, ⟨some 21, .mv (.t 2) false, none⟩, ⟨some 22, .bin .quo (.t 20) (.t 21), none⟩, ⟨some 23, .mxn false [(.t 22), (.c (.int .i64 1000000))], none⟩, ⟨some 24, .mv (.t 1) false, none⟩, ⟨some 25, .mv (.t 2) false, none⟩, ⟨some 26, .bin .quo (.t 24) (.t 25), none⟩, ⟨some 27, .mxn false [(.t 26), (.c (.int .i64 1000000))], none⟩, ⟨some 28, .bin .add (.t 23) (.t 27), none⟩, ⟨some 7, .mv (.t 28) true, none⟩])
  (.seq (.reg [⟨some 29, .mv (.t 0) false, none⟩, ⟨some 30, .mv (.t 2) false, none⟩, ⟨some 31, .bin .rem (.t 29) (.t 30), none⟩, ⟨some 32, .mv (.t 1) false, none⟩, ⟨some 33, .mv (.t 2) false, none⟩, ⟨some 34, .bin .rem (.t 32) (.t 33), none⟩, ⟨some 8, .mv (.t 31) true, none⟩, ⟨some 9, .mv (.t 34) true, none⟩])
  (.seq (.block 0 (.seq (.reg [⟨some 36, .mv (.t 8) false, none⟩, ⟨some 37, .mv (.t 2) false, none⟩, ⟨some 38, .mv (.t 9) false, none⟩, ⟨some 39, .bin .sub (.t 37) (.t 38), none⟩, ⟨some 40, .bin .gtr (.t 36) (.t 39), none⟩, ⟨some 35, .mv (.t 40) true, none⟩])
  (.cond (.t 35) (.reg [⟨some 41, .mv (.t 7) false, none⟩, ⟨some 42, .bin .add (.t 41) (.c (.int .i64 2)), none⟩, ⟨some 7, .mv (.t 42) true, none⟩])
  (.seq (.reg [⟨some 44, .mv (.t 8) false, none⟩, ⟨some 45, .bin .gtr (.t 44) (.c (.int .i64 0)), none⟩, ⟨some 46, .mv (.t 45) false, none⟩, ⟨some 47, .mv (.t 9) false, some (46, false)⟩, ⟨some 48, .bin .gtr (.t 47) (.c (.int .i64 0)), some (46, false)⟩, ⟨some 49, .pick (.t 46) (.c (.bool true)) (.t 48), none⟩, ⟨some 43, .mv (.t 49) true, none⟩])
  (.cond (.t 43) (.reg [⟨some 50, .mv (.t 7) false, none⟩, ⟨some 51, .bin .add (.t 50) (.c (.int .i64 1)), none⟩, ⟨some 7, .mv (.t 51) true, none⟩])
  (.skip))))))
  (.seq (.reg [⟨some 52, .mv (.t 7) false, none⟩, ⟨some 53, .mxn false [(.t 52), (.c (.int .i64 1000000))], none⟩, ⟨some 6, .mv (.t 53) true, none⟩])
  (.ret)))))), [.t 6]⟩
theorem row78 : RowOk Tryz.prog 78 C78 := ⟨Tryz.f78, ⟨[], [], [], []⟩, lvOf [], Tryz.func78, by kernel_rfl, by kernel_rfl⟩
def B79_0 : C := .seq (.seq (.reg [⟨some 5, .mv (.t 4) false, none⟩, ⟨some 6, .fa 1 (.t 1), none⟩, ⟨some 7, .load 1 false (.t 6) false, none⟩, ⟨some 8, .len (.t 7), none⟩, ⟨some 9, .bin .lss (.t 5) (.t 8), none⟩, ⟨some 10, .mv (.t 9) false, none⟩, ⟨some 11, .load 4 true (.t 1) false, some (10, true)⟩, ⟨some 12, .call 42 [(.t 11)] false, some (10, true)⟩, ⟨some 13, .pick (.t 10) (.t 12) (.c (.bool false)), none⟩])
  (.cond (.t 13) (.skip)
  (.exit 0)))
  (.seq (.block 1 (.reg [⟨some 16, .mv (.t 3) false, none⟩, ⟨some 17, .fa 1 (.t 1), none⟩, ⟨some 18, .load 1 false (.t 17) false, none⟩, ⟨some 19, .mv (.t 4) false, none⟩, ⟨some 20, .ia 1 (.t 18) (.t 19), none⟩, ⟨some 21, .load 1 false (.t 20) false, none⟩, ⟨some 22, .bin .add (.t 16) (.t 21), none⟩, ⟨some 3, .mv (.t 22) true, none⟩]))
  (.reg [⟨some 14, .mv (.t 4) false, none⟩, ⟨some 15, .bin .add (.t 14) (.c (.int .i64 1)), none⟩, ⟨some 4, .mv (.t 15) true, none⟩]))
def L79_0 : C := .loop [1, 3, 4] 1 B79_0
theorem go79_0 (s : Env × Bx) (nb) : evL tab ext nb L79_0 s = (loopIn nb [1, 3, 4] 1 s).bind fun s0 => (evL tab ext nb B79_0 s0).bind (seqG tab ext nb L79_0) := eL_loop _ _ _
/-- swingbridge/swingbridgeref11.Cores -/
def C79 : CFun := ⟨24, 1, .seq (.reg [⟨some 1, .box (.t 0), none⟩, ⟨some 2, .mv (.c (.int .i64 0)) true, none⟩])
  (.seq (.reg [⟨some 3, .mv (.c (.int .i64 0)) true, none⟩])
  (.seq (.seq (.reg [⟨some 4, .mv (.c (.int .i64 0)) true, none⟩])
  (.block 0 (L79_0)))
  (.seq (.reg [⟨some 23, .mv (.t 3) false, none⟩, ⟨some 2, .mv (.t 23) true, none⟩])
  (.ret)))), [.t 2]⟩
theorem row79 : RowOk Tryz.prog 79 C79 := ⟨Tryz.f79, ⟨[], [], [], []⟩, lvOf [(0, [1, 3, 4], 1)], Tryz.func79, by kernel_rfl, by kernel_rfl⟩
def B80_0 : C := .seq (.reg [⟨some 9, .bin .lss (.t 8) (.t 7), none⟩])
  (.seq (.cond (.t 9) (.skip)
  (.exit 0))
  (.seq (.block 1 (.seq (.reg [⟨some 10, .mv (.t 8) false, none⟩, ⟨some 5, .mv (.t 10) true, none⟩])
  (.seq (.reg [⟨some 11, .mv (.t 1) false, none⟩, ⟨some 12, .mv (.t 0) false, none⟩, ⟨some 13, .mv (.t 5) false, none⟩, ⟨some 14, .ia 1 (.t 12) (.t 13), none⟩, ⟨some 15, .load 1 false (.t 14) false, none⟩, ⟨some 16, .callv (.t 11) [(.t 15)], none⟩])
  (.cond (.t 16) (.seq (.reg [⟨some 17, .mv (.t 5) false, none⟩, ⟨some 4, .mv (.t 17) true, none⟩])
  (.ret))
  (.skip)))))
  (.reg [⟨some 18, .bin .add (.t 8) (.c (.int .i64 1)), none⟩, ⟨some 8, .mv (.t 18) false, none⟩])))
def L80_0 : C := .loop [0, 1, 7, 8] 0 B80_0
theorem go80_0 (s : Env × Bx) (nb) : evL tab ext nb L80_0 s = (loopIn nb [0, 1, 7, 8] 0 s).bind fun s0 => (evL tab ext nb B80_0 s0).bind (seqG tab ext nb L80_0) := eL_loop _ _ _
/-- slices.IndexFunc[[]int,int] -/
def C80 : CFun := ⟨19, 2, .seq (.reg [⟨some 4, .mv (.c (.int .i64 0)) true, none⟩])
  (.seq (.seq (.reg [⟨some 6, .mv (.t 0) false, none⟩, ⟨some 7, .len (.t 6), none⟩, ⟨some 8, .mv (.c (.int .i64 0)) false, none⟩])
  (.block 0 (L80_0)))
  (.seq (.reg [⟨some 4, .mv (.c (.int .i64 (-1))) true, none⟩])
  (.ret))), [.t 4]⟩
theorem row80 : RowOk Tryz.prog 80 C80 := ⟨Tryz.f80, ⟨[], [], [], []⟩, lvOf [(0, [0, 1, 7, 8], 0)], Tryz.func80, by kernel_rfl, by kernel_rfl⟩
def B81_0 : C := .seq (.reg [⟨some 9, .bin .lss (.t 8) (.t 7), none⟩])
  (.seq (.cond (.t 9) (.skip)
  (.exit 0))
  (.seq (.block 1 (.seq (.reg [⟨some 10, .mv (.t 8) false, none⟩, ⟨some 5, .mv (.t 10) true, none⟩])
  (.seq (.reg [⟨some 11, .mv (.t 1) false, none⟩, ⟨some 12, .mv (.t 0) false, none⟩, ⟨some 13, .mv (.t 5) false, none⟩, ⟨some 14, .ia 6 (.t 12) (.t 13), none⟩, ⟨some 15, .load 6 true (.t 14) false, none⟩, ⟨some 16, .callv (.t 11) [(.t 15)], none⟩])
  (.cond (.t 16) (.seq (.reg [⟨some 17, .mv (.t 5) false, none⟩, ⟨some 4, .mv (.t 17) true, none⟩])
  (.ret))
  (.skip)))))
  (.reg [⟨some 18, .bin .add (.t 8) (.c (.int .i64 1)), none⟩, ⟨some 8, .mv (.t 18) false, none⟩])))
def L81_0 : C := .loop [0, 1, 7, 8] 0 B81_0
theorem go81_0 (s : Env × Bx) (nb) : evL tab ext nb L81_0 s = (loopIn nb [0, 1, 7, 8] 0 s).bind fun s0 => (evL tab ext nb B81_0 s0).bind (seqG tab ext nb L81_0) := eL_loop _ _ _
/-- slices.IndexFunc[[]swingbridge/api.Task,swingbridge/api.Task] -/
def C81 : CFun := ⟨19, 2, .seq (.reg [⟨some 4, .mv (.c (.int .i64 0)) true, none⟩])
  (.seq (.seq (.reg [⟨some 6, .mv (.t 0) false, none⟩, ⟨some 7, .len (.t 6), none⟩, ⟨some 8, .mv (.c (.int .i64 0)) false, none⟩])
  (.block 0 (L81_0)))
  (.seq (.reg [⟨some 4, .mv (.c (.int .i64 (-1))) true, none⟩])
  (.ret))), [.t 4]⟩
theorem row81 : RowOk Tryz.prog 81 C81 := ⟨Tryz.f81, ⟨[], [], [], []⟩, lvOf [(0, [0, 1, 7, 8], 0)], Tryz.func81, by kernel_rfl, by kernel_rfl⟩
def B82_0 : C := .seq (.seq (.reg [⟨some 21, .mv (.t 3) false, none⟩, ⟨some 22, .fa 1 (.t 1), none⟩, ⟨some 23, .load 1 false (.t 22) false, none⟩, ⟨some 24, .len (.t 23), none⟩, ⟨some 25, .bin .lss (.t 21) (.t 24), none⟩])
  (.cond (.t 25) (.skip)
  (.exit 0)))
  (.seq (.block 1 (.seq (.reg [⟨some 28, .fa 1 (.t 1), none⟩, ⟨some 29, .load 1 false (.t 28) false, none⟩, ⟨some 30, .mv (.t 3) false, none⟩, ⟨some 31, .ia 1 (.t 29) (.t 30), none⟩, ⟨some 32, .load 1 false (.t 31) false, none⟩, ⟨some 33, .bin .lss (.t 32) (.c (.int .i64 1)), none⟩, ⟨some 34, .mv (.t 33) false, none⟩, ⟨some 35, .fa 1 (.t 1), some (34, false)⟩, ⟨some 36, .load 1 false (.t 35) false, some (34, false)⟩, ⟨some 37, .mv (.t 3) false, some (34, false)⟩, ⟨some 38, .ia 1 (.t 36) (.t 37), some (34, false)⟩, ⟨some 39, .load 1 false (.t 38) false, some (34, false)⟩, ⟨some 40, .bin .gtr (.t 39) (.c (.int .i64 3)), some (34, false)⟩, ⟨some 41, .pick (.t 34) (.c (.bool true)) (.t 40), none⟩])
  (.cond (.t 41) (.seq (.reg [⟨some 2, .mv (.c (.bool false)) true, none⟩])
  (.ret))
  (.skip))))
  (.reg [⟨some 26, .mv (.t 3) false, none⟩, ⟨some 27, .bin .add (.t 26) (.c (.int .i64 1)), none⟩, ⟨some 3, .mv (.t 27) true, none⟩]))
def L82_0 : C := .loop [1, 3] 1 B82_0
theorem go82_0 (s : Env × Bx) (nb) : evL tab ext nb L82_0 s = (loopIn nb [1, 3] 1 s).bind fun s0 => (evL tab ext nb B82_0 s0).bind (seqG tab ext nb L82_0) := eL_loop _ _ _
def B82_2 : C := .seq (.seq (.reg [⟨some 42, .mv (.t 4) false, none⟩, ⟨some 43, .fa 2 (.t 1), none⟩, ⟨some 44, .load 1 false (.t 43) false, none⟩, ⟨some 45, .len (.t 44), none⟩, ⟨some 46, .bin .lss (.t 42) (.t 45), none⟩])
  (.cond (.t 46) (.skip)
  (.exit 2)))
  (.seq (.block 3 (.seq (.reg [⟨some 49, .fa 2 (.t 1), none⟩, ⟨some 50, .load 1 false (.t 49) false, none⟩, ⟨some 51, .mv (.t 4) false, none⟩, ⟨some 52, .ia 1 (.t 50) (.t 51), none⟩, ⟨some 53, .load 1 false (.t 52) false, none⟩, ⟨some 54, .bin .lss (.t 53) (.c (.int .i64 0)), none⟩, ⟨some 55, .mv (.t 54) false, none⟩, ⟨some 56, .fa 2 (.t 1), some (55, false)⟩, ⟨some 57, .load 1 false (.t 56) false, some (55, false)⟩, ⟨some 58, .mv (.t 4) false, some (55, false)⟩, ⟨some 59, .ia 1 (.t 57) (.t 58), some (55, false)⟩, ⟨some 60, .load 1 false (.t 59) false, some (55, false)⟩, ⟨some 61, .fa 1 (.t 1), some (55, false)⟩, ⟨some 62, .load 1 false (.t 61) false, some (55, false)⟩, ⟨some 63, .len (.t 62), some (55, false)⟩, ⟨some 64, .bin .geq (.t 60) (.t 63), some (55, false)⟩, ⟨some 65, .pick (.t 55) (.c (.bool true)) (.t 64), none⟩])
  (.cond (.t 65) (.seq (.reg [⟨some 2, .mv (.c (.bool false)) true, none⟩])
  (.ret))
  (.skip))))
  (.reg [⟨some 47, .mv (.t 4) false, none⟩, ⟨some 48, .bin .add (.t 47) (.c (.int .i64 1)), none⟩, ⟨some 4, .mv (.t 48) true, none⟩]))
def L82_2 : C := .loop [1, 4] 1 B82_2
theorem go82_2 (s : Env × Bx) (nb) : evL tab ext nb L82_2 s = (loopIn nb [1, 4] 1 s).bind fun s0 => (evL tab ext nb B82_2 s0).bind (seqG tab ext nb L82_2) := eL_loop _ _ _
/-- swingbridge/swingbridgeref7.places -/
def C82 : CFun := ⟨66, 1, .seq (.reg [⟨some 1, .box (.t 0), none⟩, ⟨some 2, .mv (.c (.bool false)) true, none⟩])
  (.seq (.seq (.reg [⟨some 5, .fa 1 (.t 1), none⟩, ⟨some 6, .load 1 false (.t 5) false, none⟩, ⟨some 7, .len (.t 6), none⟩, ⟨some 8, .bin .lss (.t 7) (.c (.int .i64 1)), none⟩, ⟨some 9, .mv (.t 8) false, none⟩, ⟨some 10, .fa 1 (.t 1), some (9, false)⟩, ⟨some 11, .load 1 false (.t 10) false, some (9, false)⟩, ⟨some 12, .len (.t 11), some (9, false)⟩, ⟨some 13, .bin .gtr (.t 12) (.c (.int .i64 3)), some (9, false)⟩, ⟨some 14, .pick (.t 9) (.c (.bool true)) (.t 13), none⟩, ⟨some 15, .mv (.t 14) false, none⟩, ⟨some 16, .fa 2 (.t 1), some (15, false)⟩, ⟨some 17, .load 1 false (.t 16) false, some (15, false)⟩, ⟨some 18, .len (.t 17), some (15, false)⟩, ⟨some 19, .bin .gtr (.t 18) (.c (.int .i64 4)), some (15, false)⟩, ⟨some 20, .pick (.t 15) (.c (.bool true)) (.t 19), none⟩])
  (.cond (.t 20) (.seq (.reg [⟨some 2, .mv (.c (.bool false)) true, none⟩])
  (.ret))
  (.skip)))
  (.seq (.seq (.reg [⟨some 3, .mv (.c (.int .i64 0)) true, none⟩])
  (.block 0 (L82_0)))
  (.seq (.seq (.reg [⟨some 4, .mv (.c (.int .i64 0)) true, none⟩])
  (.block 2 (L82_2)))
  (.seq (.reg [⟨some 2, .mv (.c (.bool true)) true, none⟩])
  (.ret))))), [.t 2]⟩
theorem row82 : RowOk Tryz.prog 82 C82 := ⟨Tryz.f82, ⟨[], [], [], []⟩, lvOf [(0, [1, 3], 1), (2, [1, 4], 1)], Tryz.func82, by kernel_rfl, by kernel_rfl⟩
end Go.Proofs.YtgndbkeiickihaaGreatEv
