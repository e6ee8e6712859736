/- The seat's functions in compact code; each row is checked against the program. -/
import Derived.Test.YtclebnamhpgdmaaEv4
import Derived.Test.YtclebnamhpgdmaaProg
import Derived.KernelRfl
namespace Go.Proofs.YtclebnamhpgdmaaEv
open Go
set_option maxRecDepth 100000
variable {tab : Nat → Option CFun} {ext : CallF}
def B3_0 : C := .seq (.seq (.reg [⟨some 46, .mv (.t 11) false, none⟩, ⟨some 47, .fa 3 (.t 4), none⟩, ⟨some 48, .load 1 false (.t 47) false, none⟩, ⟨some 49, .len (.t 48), none⟩, ⟨some 50, .bin .lss (.t 46) (.t 49), none⟩])
  (.cond (.t 50) (.skip)
  (.exit 0)))
  (.seq (.block 1 (.seq (.reg [⟨some 53, .mv (.t 9) true, none⟩, ⟨some 54, .mv (.t 1) false, none⟩, ⟨some 55, .mv (.t 11) false, none⟩, ⟨some 56, .ia 1 (.t 54) (.t 55), none⟩, ⟨some 57, .load 1 false (.t 56) false, none⟩, ⟨some 58, .conv .i64 (.t 57), none⟩, ⟨some 59, .bsl 1 1 [(.int .i64 0)] [(0, 1, (.t 58))] false, none⟩, ⟨some 60, .app 1 8 (.t 53) (.t 59) false, none⟩, ⟨some 9, .mv (.t 60) true, none⟩])
  (.reg [⟨some 61, .mv (.t 10) true, none⟩, ⟨some 62, .mv (.t 1) false, none⟩, ⟨some 63, .mv (.t 11) false, none⟩, ⟨some 64, .ia 1 (.t 62) (.t 63), none⟩, ⟨some 65, .load 1 false (.t 64) false, none⟩, ⟨some 66, .conv .i64 (.t 65), none⟩, ⟨some 67, .mv (.t 2) false, none⟩, ⟨some 68, .mv (.t 11) false, none⟩, ⟨some 69, .ia 1 (.t 67) (.t 68), none⟩, ⟨some 70, .load 1 false (.t 69) false, none⟩, ⟨some 71, .conv .i64 (.t 70), none⟩, ⟨some 72, .bin .add (.t 66) (.t 71), none⟩, ⟨some 73, .bsl 1 1 [(.int .i64 0)] [(0, 1, (.t 72))] false, none⟩, ⟨some 74, .app 1 8 (.t 61) (.t 73) false, none⟩, ⟨some 10, .mv (.t 74) true, none⟩])))
  (.reg [⟨some 51, .mv (.t 11) false, none⟩, ⟨some 52, .bin .add (.t 51) (.c (.int .i64 1)), none⟩, ⟨some 11, .mv (.t 52) true, none⟩]))
def L3_0 : C := .loop [1, 2, 3, 4, 9, 10, 11] 1 B3_0
theorem go3_0 (s : Env × Bx) (nb) : evL tab ext nb L3_0 s = (loopIn nb [1, 2, 3, 4, 9, 10, 11] 1 s).bind fun s0 => (evL tab ext nb B3_0 s0).bind (seqG tab ext nb L3_0) := eL_loop _ _ _
def B3_2 : C := .seq (.seq (.reg [⟨some 77, .mv (.t 13) false, none⟩, ⟨some 78, .fa 3 (.t 4), none⟩, ⟨some 79, .load 1 false (.t 78) false, none⟩, ⟨some 80, .len (.t 79), none⟩, ⟨some 81, .bin .lss (.t 77) (.t 80), none⟩])
  (.cond (.t 81) (.skip)
  (.exit 2)))
  (.seq (.block 3 (.seq (.reg [⟨some 85, .load 4 true (.t 4) false, none⟩, ⟨some 86, .mv (.t 9) false, none⟩, ⟨some 87, .mv (.t 13) false, none⟩, ⟨some 88, .call 16 [(.t 85), (.t 86), (.t 87)] false, none⟩, ⟨some 84, .mv (.t 88) false, none⟩, ⟨some 89, .ext (.t 84) 0, none⟩, ⟨some 90, .ext (.t 84) 1, none⟩, ⟨some 14, .mv (.t 89) true, none⟩, ⟨some 15, .mv (.t 90) true, none⟩])
  (.seq (.reg [⟨some 92, .load 4 true (.t 4) false, none⟩, ⟨some 93, .mv (.t 10) false, none⟩, ⟨some 94, .mv (.t 13) false, none⟩, ⟨some 95, .call 16 [(.t 92), (.t 93), (.t 94)] false, none⟩, ⟨some 91, .mv (.t 95) false, none⟩, ⟨some 96, .ext (.t 91) 0, none⟩, ⟨some 97, .ext (.t 91) 1, none⟩, ⟨some 16, .mv (.t 96) true, none⟩, ⟨some 17, .mv (.t 97) true, none⟩])
  (.seq (.reg [⟨some 99, .load 4 true (.t 4) false, none⟩, ⟨some 100, .mv (.t 9) false, none⟩, ⟨some 101, .mv (.t 13) false, none⟩, ⟨some 102, .call 17 [(.t 99), (.t 100), (.t 101)] false, none⟩, ⟨some 98, .mv (.t 102) false, none⟩, ⟨some 103, .ext (.t 98) 0, none⟩, ⟨some 104, .ext (.t 98) 1, none⟩, ⟨some 18, .mv (.t 103) true, none⟩, ⟨some 19, .mv (.t 104) true, none⟩])
  (.seq (.reg [⟨some 105, .mv (.t 17) false, none⟩, ⟨some 106, .mv (.t 105) false, none⟩, ⟨some 107, .mv (.t 15) false, some (106, true)⟩, ⟨some 108, .un .not (.t 107), some (106, true)⟩, ⟨some 109, .mv (.t 108) false, some (106, true)⟩, ⟨some 110, .mv (.t 16) false, some (109, false)⟩, ⟨some 111, .mv (.t 14) false, some (109, false)⟩, ⟨some 112, .bin .lss (.t 110) (.t 111), some (109, false)⟩, ⟨some 113, .pick (.t 109) (.c (.bool true)) (.t 112), some (106, true)⟩, ⟨some 114, .pick (.t 106) (.t 113) (.c (.bool false)), none⟩, ⟨some 115, .mv (.t 114) false, none⟩, ⟨some 116, .load 4 true (.t 4) false, some (115, false)⟩, ⟨some 117, .mv (.t 9) false, some (115, false)⟩, ⟨some 118, .mv (.t 13) false, some (115, false)⟩, ⟨some 119, .mv (.t 12) false, some (115, false)⟩, ⟨some 120, .call 18 [(.t 116), (.t 117), (.t 118), (.t 119)] false, some (115, false)⟩, ⟨some 121, .load 4 true (.t 4) false, some (115, false)⟩, ⟨some 122, .mv (.t 10) false, some (115, false)⟩, ⟨some 123, .mv (.t 13) false, some (115, false)⟩, ⟨some 124, .mv (.t 12) false, some (115, false)⟩, ⟨some 125, .bin .add (.t 124) (.c (.int .i64 3)), some (115, false)⟩, ⟨some 126, .call 18 [(.t 121), (.t 122), (.t 123), (.t 125)] false, some (115, false)⟩, ⟨some 127, .bin .gtr (.t 120) (.t 126), some (115, false)⟩, ⟨some 128, .pick (.t 115) (.c (.bool true)) (.t 127), none⟩, ⟨some 129, .mv (.t 128) false, none⟩, ⟨some 130, .mv (.t 15) false, some (129, false)⟩, ⟨some 131, .mv (.t 19) false, some (129, false)⟩, ⟨some 132, .eqb true (.t 130) (.t 131), some (129, false)⟩, ⟨some 133, .pick (.t 129) (.c (.bool true)) (.t 132), none⟩, ⟨some 134, .mv (.t 133) false, none⟩, ⟨some 135, .mv (.t 15) false, some (134, false)⟩, ⟨some 136, .mv (.t 135) false, some (134, false)⟩, ⟨some 137, .mv (.t 14) false, some (136, true)⟩, ⟨some 138, .mv (.t 18) false, some (136, true)⟩, ⟨some 139, .bin .lss (.t 137) (.t 138), some (136, true)⟩, ⟨some 140, .pick (.t 136) (.t 139) (.c (.bool false)), some (134, false)⟩, ⟨some 141, .pick (.t 134) (.c (.bool true)) (.t 140), none⟩])
  (.cond (.t 141) (.seq (.reg [⟨some 8, .mv (.c (.bool false)) true, none⟩])
  (.ret))
  (.skip)))))))
  (.reg [⟨some 82, .mv (.t 13) false, none⟩, ⟨some 83, .bin .add (.t 82) (.c (.int .i64 1)), none⟩, ⟨some 13, .mv (.t 83) true, none⟩]))
def L3_2 : C := .loop [4, 9, 10, 12, 13] 1 B3_2
theorem go3_2 (s : Env × Bx) (nb) : evL tab ext nb L3_2 s = (loopIn nb [4, 9, 10, 12, 13] 1 s).bind fun s0 => (evL tab ext nb B3_2 s0).bind (seqG tab ext nb L3_2) := eL_loop _ _ _
/-- swingbridge/swingbridgelaw17.BoundRises -/
def C3 : CFun := ⟨142, 4, .seq (.reg [⟨some 4, .box (.t 0), none⟩, ⟨some 8, .mv (.c (.bool false)) true, none⟩])
  (.seq (.seq (.reg [⟨some 20, .call 13 [] false, none⟩, ⟨some 21, .un .not (.t 20), none⟩])
  (.cond (.t 21) (.seq (.reg [⟨some 8, .mv (.c (.bool false)) true, none⟩])
  (.ret))
  (.skip)))
  (.seq (.seq (.reg [⟨some 22, .load 4 true (.t 4) false, none⟩, ⟨some 23, .call 14 [(.t 22)] false, none⟩, ⟨some 24, .un .not (.t 23), none⟩, ⟨some 25, .mv (.t 24) false, none⟩, ⟨some 26, .load 4 true (.t 4) false, some (25, false)⟩, ⟨some 27, .call 15 [(.t 26), (.c (.int .i64 0))] false, some (25, false)⟩, ⟨some 28, .un .not (.t 27), some (25, false)⟩, ⟨some 29, .pick (.t 25) (.c (.bool true)) (.t 28), none⟩, ⟨some 30, .mv (.t 29) false, none⟩, ⟨some 31, .mv (.t 1) false, some (30, false)⟩, ⟨some 32, .len (.t 31), some (30, false)⟩, ⟨some 33, .fa 3 (.t 4), some (30, false)⟩, ⟨some 34, .load 1 false (.t 33) false, some (30, false)⟩, ⟨some 35, .len (.t 34), some (30, false)⟩, ⟨some 36, .bin .lss (.t 32) (.t 35), some (30, false)⟩, ⟨some 37, .pick (.t 30) (.c (.bool true)) (.t 36), none⟩, ⟨some 38, .mv (.t 37) false, none⟩, ⟨some 39, .mv (.t 2) false, some (38, false)⟩, ⟨some 40, .len (.t 39), some (38, false)⟩, ⟨some 41, .fa 3 (.t 4), some (38, false)⟩, ⟨some 42, .load 1 false (.t 41) false, some (38, false)⟩, ⟨some 43, .len (.t 42), some (38, false)⟩, ⟨some 44, .bin .lss (.t 40) (.t 43), some (38, false)⟩, ⟨some 45, .pick (.t 38) (.c (.bool true)) (.t 44), none⟩])
  (.cond (.t 45) (.seq (.reg [⟨some 8, .mv (.c (.bool true)) true, none⟩])
  (.ret))
  (.skip)))
  (.seq (.reg [⟨some 9, .mv (.c (.slice none 0 0)) true, none⟩, ⟨some 10, .mv (.c (.slice none 0 0)) true, none⟩])
  (.seq (.seq (.reg [⟨some 11, .mv (.c (.int .i64 0)) true, none⟩])
  (.block 0 (L3_0)))
  (.seq (.reg [⟨some 75, .mv (.t 3) false, none⟩, ⟨some 76, .conv .i64 (.t 75), none⟩, ⟨some 12, .mv (.t 76) true, none⟩])
  (.seq (.seq (.reg [⟨some 13, .mv (.c (.int .i64 0)) true, none⟩])
  (.block 2 (L3_2)))
  (.seq (.reg [⟨some 8, .mv (.c (.bool true)) true, none⟩])
  (.ret)))))))), [.t 8]⟩
theorem row3 : RowOk Try.prog 3 C3 := ⟨Try.f3, ⟨[], [], [], []⟩, lvOf [(0, [1, 2, 3, 4, 9, 10, 11], 1), (2, [4, 9, 10, 12, 13], 1)], Try.func3, by kernel_rfl, by kernel_rfl⟩
/-- swingbridge/swingbridgelaw17.BoundAlone -/
def C4 : CFun := ⟨114, 6, .seq (.reg [⟨some 12, .mv (.c (.bool false)) true, none⟩])
  (.seq (.seq (.reg [⟨some 23, .call 13 [] false, none⟩, ⟨some 24, .un .not (.t 23), none⟩])
  (.cond (.t 24) (.seq (.reg [⟨some 12, .mv (.c (.bool false)) true, none⟩])
  (.ret))
  (.skip)))
  (.seq (.reg [⟨some 25, .mv (.t 5) false, none⟩, ⟨some 26, .bin .rem (.t 25) (.c (.int .u8 3)), none⟩, ⟨some 27, .conv .i64 (.t 26), none⟩, ⟨some 28, .bin .add (.t 27) (.c (.int .i64 1)), none⟩, ⟨some 13, .mv (.t 28) true, none⟩])
  (.seq (.reg [⟨some 29, .mv (.t 0) false, none⟩, ⟨some 30, .bin .rem (.t 29) (.c (.int .u8 50)), none⟩, ⟨some 31, .conv .i64 (.t 30), none⟩, ⟨some 32, .bin .add (.t 31) (.c (.int .i64 1)), none⟩, ⟨some 33, .mv (.t 1) false, none⟩, ⟨some 34, .bin .rem (.t 33) (.c (.int .u8 50)), none⟩, ⟨some 35, .conv .i64 (.t 34), none⟩, ⟨some 36, .bin .add (.t 35) (.c (.int .i64 1)), none⟩, ⟨some 37, .mv (.t 2) false, none⟩, ⟨some 38, .bin .rem (.t 37) (.c (.int .u8 50)), none⟩, ⟨some 39, .conv .i64 (.t 38), none⟩, ⟨some 40, .bin .add (.t 39) (.c (.int .i64 1)), none⟩, ⟨some 14, .mv (.t 32) true, none⟩, ⟨some 15, .mv (.t 36) true, none⟩, ⟨some 16, .mv (.t 40) true, none⟩])
  (.seq (.reg [⟨some 41, .mv (.t 13) false, none⟩, ⟨some 42, .mv (.t 14) false, none⟩, ⟨some 43, .build [(.int .i64 0), (.int .i64 0), (.int .i64 0)] [(0, 1, (.c (.int .i64 1))), (1, 1, (.t 42))], none⟩, ⟨some 44, .mv (.t 15) false, none⟩, ⟨some 45, .build [(.int .i64 0), (.int .i64 0), (.int .i64 0)] [(0, 1, (.c (.int .i64 2))), (1, 1, (.t 44))], none⟩, ⟨some 46, .mv (.t 16) false, none⟩, ⟨some 47, .build [(.int .i64 0), (.int .i64 0), (.int .i64 0)] [(0, 1, (.c (.int .i64 3))), (1, 1, (.t 46))], none⟩, ⟨some 48, .bsl 3 3 [(.int .i64 0), (.int .i64 0), (.int .i64 0), (.int .i64 0), (.int .i64 0), (.int .i64 0), (.int .i64 0), (.int .i64 0), (.int .i64 0)] [(0, 3, (.t 43)), (3, 3, (.t 45)), (6, 3, (.t 47))] false, none⟩, ⟨some 49, .call 19 [(.t 41), (.t 48)] true, none⟩, ⟨some 17, .alloc [(.int .i64 0), (.slice none 0 0), (.slice none 0 0), (.slice none 0 0)], none⟩, ⟨none, .store 4 (.t 17) (.t 49), none⟩])
  (.seq (.reg [⟨some 51, .load 4 true (.t 17) false, none⟩, ⟨some 52, .bsl 1 1 [(.int .i64 0)] [(0, 1, (.c (.int .i64 100)))] false, none⟩, ⟨some 53, .call 16 [(.t 51), (.t 52), (.c (.int .i64 0))] false, none⟩, ⟨some 50, .mv (.t 53) false, none⟩, ⟨some 54, .ext (.t 50) 0, none⟩, ⟨some 55, .ext (.t 50) 1, none⟩, ⟨some 18, .mv (.t 54) true, none⟩, ⟨some 19, .mv (.t 55) true, none⟩])
  (.seq (.reg [⟨some 56, .bsl 1 2 [(.int .i64 0), (.int .i64 0)] [(0, 1, (.c (.int .i64 1))), (1, 1, (.c (.int .i64 1)))] false, none⟩, ⟨some 57, .fa 1 (.t 17), none⟩, ⟨none, .store 1 (.t 57) (.t 56), none⟩])
  (.seq (.reg [⟨some 58, .bsl 1 2 [(.int .i64 0), (.int .i64 0)] [(0, 1, (.c (.int .i64 0))), (1, 1, (.c (.int .i64 1)))] false, none⟩, ⟨some 59, .fa 2 (.t 17), none⟩, ⟨none, .store 1 (.t 59) (.t 58), none⟩])
  (.seq (.reg [⟨some 60, .fa 3 (.t 17), none⟩, ⟨some 61, .load 1 false (.t 60) true, none⟩, ⟨some 62, .mv (.t 3) false, none⟩, ⟨some 63, .bin .rem (.t 62) (.c (.int .u8 50)), none⟩, ⟨some 64, .conv .i64 (.t 63), none⟩, ⟨some 65, .bin .add (.t 64) (.c (.int .i64 1)), none⟩, ⟨some 66, .build [(.int .i64 0), (.int .i64 0), (.int .i64 0)] [(0, 1, (.c (.int .i64 1))), (1, 1, (.t 65))], none⟩, ⟨some 67, .mv (.t 4) false, none⟩, ⟨some 68, .bin .rem (.t 67) (.c (.int .u8 50)), none⟩, ⟨some 69, .conv .i64 (.t 68), none⟩, ⟨some 70, .bin .add (.t 69) (.c (.int .i64 1)), none⟩, ⟨some 71, .build [(.int .i64 0), (.int .i64 0), (.int .i64 0)] [(0, 1, (.c (.int .i64 3))), (1, 1, (.t 70)), (2, 1, (.c (.int .i64 1)))], none⟩, ⟨some 72, .bsl 3 2 [(.int .i64 0), (.int .i64 0), (.int .i64 0), (.int .i64 0), (.int .i64 0), (.int .i64 0)] [(0, 3, (.t 66)), (3, 3, (.t 71))] false, none⟩, ⟨some 73, .build [(.string ⟨#[]⟩), (.int .i64 0), (.int .i64 0), (.int .i64 0), (.int .i64 0), (.slice none 0 0)] [(0, 1, (.c (.string ⟨#[98]⟩))), (1, 1, (.c (.int .i64 3000))), (2, 1, (.c (.int .i64 3000))), (3, 1, (.c (.int .i64 2))), (4, 1, (.c (.int .i64 1))), (5, 1, (.t 72))], none⟩, ⟨some 74, .bsl 6 1 [(.string ⟨#[]⟩), (.int .i64 0), (.int .i64 0), (.int .i64 0), (.int .i64 0), (.slice none 0 0)] [(0, 6, (.t 73))] false, none⟩, ⟨some 75, .app 6 72 (.t 61) (.t 74) false, none⟩, ⟨some 76, .fa 3 (.t 17), none⟩, ⟨none, .store 1 (.t 76) (.t 75), none⟩])
  (.seq (.reg [⟨some 78, .load 4 true (.t 17) false, none⟩, ⟨some 79, .bsl 1 2 [(.int .i64 0), (.int .i64 0)] [(0, 1, (.c (.int .i64 100))), (1, 1, (.c (.int .i64 100)))] false, none⟩, ⟨some 80, .call 16 [(.t 78), (.t 79), (.c (.int .i64 0))] false, none⟩, ⟨some 77, .mv (.t 80) false, none⟩, ⟨some 81, .ext (.t 77) 0, none⟩, ⟨some 82, .ext (.t 77) 1, none⟩, ⟨some 20, .mv (.t 81) true, none⟩, ⟨some 21, .mv (.t 82) true, none⟩])
  (.seq (.reg [⟨some 83, .mv (.t 14) false, none⟩, ⟨some 84, .mv (.t 15) false, none⟩, ⟨some 85, .bin .add (.t 83) (.t 84), none⟩, ⟨some 86, .mv (.t 16) false, none⟩, ⟨some 87, .bin .add (.t 85) (.t 86), none⟩, ⟨some 22, .mv (.t 87) true, none⟩])
  (.seq (.seq (.reg [⟨some 88, .mv (.t 13) false, none⟩, ⟨some 89, .bin .neq (.t 88) (.c (.int .i64 2)), none⟩])
  (.cond (.t 89) (.reg [⟨some 90, .mv (.t 22) false, none⟩, ⟨some 91, .mv (.t 4) false, none⟩, ⟨some 92, .bin .rem (.t 91) (.c (.int .u8 50)), none⟩, ⟨some 93, .conv .i64 (.t 92), none⟩, ⟨some 94, .bin .add (.t 90) (.t 93), none⟩, ⟨some 95, .bin .add (.t 94) (.c (.int .i64 1)), none⟩, ⟨some 22, .mv (.t 95) true, none⟩])
  (.skip)))
  (.seq (.reg [⟨some 96, .mv (.t 19) false, none⟩, ⟨some 97, .mv (.t 96) false, none⟩, ⟨some 98, .mv (.t 18) false, some (97, true)⟩, ⟨some 99, .mv (.t 14) false, some (97, true)⟩, ⟨some 100, .mv (.t 15) false, some (97, true)⟩, ⟨some 101, .bin .add (.t 99) (.t 100), some (97, true)⟩, ⟨some 102, .mv (.t 16) false, some (97, true)⟩, ⟨some 103, .bin .add (.t 101) (.t 102), some (97, true)⟩, ⟨some 104, .bin .eql (.t 98) (.t 103), some (97, true)⟩, ⟨some 105, .pick (.t 97) (.t 104) (.c (.bool false)), none⟩, ⟨some 106, .mv (.t 105) false, none⟩, ⟨some 107, .mv (.t 21) false, some (106, true)⟩, ⟨some 108, .pick (.t 106) (.t 107) (.c (.bool false)), none⟩, ⟨some 109, .mv (.t 108) false, none⟩, ⟨some 110, .mv (.t 20) false, some (109, true)⟩, ⟨some 111, .mv (.t 22) false, some (109, true)⟩, ⟨some 112, .bin .eql (.t 110) (.t 111), some (109, true)⟩, ⟨some 113, .pick (.t 109) (.t 112) (.c (.bool false)), none⟩, ⟨some 12, .mv (.t 113) true, none⟩])
  (.ret))))))))))))), [.t 12]⟩
theorem row4 : RowOk Try.prog 4 C4 := ⟨Try.f4, ⟨[], [], [19], []⟩, lvOf [], Try.func4, by kernel_rfl, by kernel_rfl⟩
/-- swingbridge/swingbridgelaw17.BoundSleeps -/
def C6 : CFun := ⟨96, 3, .seq (.reg [⟨some 6, .mv (.c (.bool false)) true, none⟩])
  (.seq (.seq (.reg [⟨some 15, .call 13 [] false, none⟩, ⟨some 16, .un .not (.t 15), none⟩])
  (.cond (.t 16) (.seq (.reg [⟨some 6, .mv (.c (.bool false)) true, none⟩])
  (.ret))
  (.skip)))
  (.seq (.reg [⟨some 17, .call 20 [(.c (.int .i64 1)), (.c (.int .i64 3)), (.c (.int .i64 2)), (.c (.int .i64 4)), (.c (.int .i64 5))] false, none⟩, ⟨some 7, .alloc [(.int .i64 0), (.slice none 0 0), (.slice none 0 0), (.slice none 0 0)], none⟩, ⟨none, .store 4 (.t 7) (.t 17), none⟩])
  (.seq (.reg [⟨some 18, .load 4 true (.t 7) false, none⟩, ⟨some 8, .alloc [(.int .i64 0), (.slice none 0 0), (.slice none 0 0), (.slice none 0 0)], none⟩, ⟨none, .store 4 (.t 8) (.t 18), none⟩])
  (.seq (.reg [⟨some 19, .fa 3 (.t 7), none⟩, ⟨some 20, .load 1 false (.t 19) false, none⟩, ⟨some 21, .app 6 72 (.c (.slice none 0 0)) (.t 20) true, none⟩, ⟨some 22, .fa 3 (.t 8), none⟩, ⟨none, .store 1 (.t 22) (.t 21), none⟩])
  (.seq (.reg [⟨some 23, .fa 3 (.t 8), none⟩, ⟨some 24, .load 1 false (.t 23) false, none⟩, ⟨some 25, .mv (.t 0) false, none⟩, ⟨some 26, .bin .rem (.t 25) (.c (.int .u8 60)), none⟩, ⟨some 27, .conv .i64 (.t 26), none⟩, ⟨some 28, .bin .add (.t 27) (.c (.int .i64 1)), none⟩, ⟨some 29, .build [(.int .i64 0), (.int .i64 0), (.int .i64 0)] [(0, 1, (.c (.int .i64 2))), (1, 1, (.t 28))], none⟩, ⟨some 30, .bsl 3 1 [(.int .i64 0), (.int .i64 0), (.int .i64 0)] [(0, 3, (.t 29))] false, none⟩, ⟨some 31, .fa 3 (.t 7), none⟩, ⟨some 32, .load 1 false (.t 31) false, none⟩, ⟨some 33, .ia 6 (.t 32) (.c (.int .i64 1)), none⟩, ⟨some 34, .fa 5 (.t 33), none⟩, ⟨some 35, .load 1 false (.t 34) false, none⟩, ⟨some 36, .app 3 24 (.t 30) (.t 35) false, none⟩, ⟨some 37, .ia 6 (.t 24) (.c (.int .i64 1)), none⟩, ⟨some 38, .fa 5 (.t 37), none⟩, ⟨none, .store 1 (.t 38) (.t 36), none⟩])
  (.seq (.reg [⟨some 39, .fa 3 (.t 8), none⟩, ⟨some 40, .load 1 false (.t 39) false, none⟩, ⟨some 41, .mv (.t 1) false, none⟩, ⟨some 42, .bin .rem (.t 41) (.c (.int .u8 60)), none⟩, ⟨some 43, .conv .i64 (.t 42), none⟩, ⟨some 44, .bin .add (.t 43) (.c (.int .i64 1)), none⟩, ⟨some 45, .build [(.int .i64 0), (.int .i64 0), (.int .i64 0)] [(0, 1, (.c (.int .i64 2))), (1, 1, (.t 44))], none⟩, ⟨some 46, .bsl 3 1 [(.int .i64 0), (.int .i64 0), (.int .i64 0)] [(0, 3, (.t 45))] false, none⟩, ⟨some 47, .fa 3 (.t 7), none⟩, ⟨some 48, .load 1 false (.t 47) false, none⟩, ⟨some 49, .ia 6 (.t 48) (.c (.int .i64 0)), none⟩, ⟨some 50, .fa 5 (.t 49), none⟩, ⟨some 51, .load 1 false (.t 50) false, none⟩, ⟨some 52, .app 3 24 (.t 46) (.t 51) false, none⟩, ⟨some 53, .ia 6 (.t 40) (.c (.int .i64 0)), none⟩, ⟨some 54, .fa 5 (.t 53), none⟩, ⟨none, .store 1 (.t 54) (.t 52), none⟩])
  (.seq (.reg [⟨some 55, .bsl 1 2 [(.int .i64 0), (.int .i64 0)] [(0, 1, (.c (.int .i64 80))), (1, 1, (.c (.int .i64 90)))] false, none⟩, ⟨some 56, .mv (.t 2) false, none⟩, ⟨some 57, .bin .rem (.t 56) (.c (.int .u16 3000)), none⟩, ⟨some 58, .conv .i64 (.t 57), none⟩, ⟨some 9, .mv (.t 55) true, none⟩, ⟨some 10, .mv (.t 58) true, none⟩])
  (.seq (.reg [⟨some 60, .load 4 true (.t 7) false, none⟩, ⟨some 61, .mv (.t 9) false, none⟩, ⟨some 62, .call 17 [(.t 60), (.t 61), (.c (.int .i64 0))] false, none⟩, ⟨some 59, .mv (.t 62) false, none⟩, ⟨some 63, .ext (.t 59) 0, none⟩, ⟨some 64, .ext (.t 59) 1, none⟩, ⟨some 11, .mv (.t 63) true, none⟩, ⟨some 12, .mv (.t 64) true, none⟩])
  (.seq (.reg [⟨some 66, .load 4 true (.t 8) false, none⟩, ⟨some 67, .mv (.t 9) false, none⟩, ⟨some 68, .call 17 [(.t 66), (.t 67), (.c (.int .i64 0))] false, none⟩, ⟨some 65, .mv (.t 68) false, none⟩, ⟨some 69, .ext (.t 65) 0, none⟩, ⟨some 70, .ext (.t 65) 1, none⟩, ⟨some 13, .mv (.t 69) true, none⟩, ⟨some 14, .mv (.t 70) true, none⟩])
  (.seq (.reg [⟨some 71, .load 4 true (.t 7) false, none⟩, ⟨some 72, .mv (.t 9) false, none⟩, ⟨some 73, .mv (.t 10) false, none⟩, ⟨some 74, .call 18 [(.t 71), (.t 72), (.c (.int .i64 0)), (.t 73)] false, none⟩, ⟨some 75, .load 4 true (.t 8) false, none⟩, ⟨some 76, .mv (.t 9) false, none⟩, ⟨some 77, .mv (.t 10) false, none⟩, ⟨some 78, .call 18 [(.t 75), (.t 76), (.c (.int .i64 0)), (.t 77)] false, none⟩, ⟨some 79, .bin .eql (.t 74) (.t 78), none⟩, ⟨some 80, .mv (.t 79) false, none⟩, ⟨some 81, .mv (.t 12) false, some (80, true)⟩, ⟨some 82, .pick (.t 80) (.t 81) (.c (.bool false)), none⟩, ⟨some 83, .mv (.t 82) false, none⟩, ⟨some 84, .mv (.t 14) false, some (83, true)⟩, ⟨some 85, .pick (.t 83) (.t 84) (.c (.bool false)), none⟩, ⟨some 86, .mv (.t 85) false, none⟩, ⟨some 87, .mv (.t 13) false, some (86, true)⟩, ⟨some 88, .mv (.t 11) false, some (86, true)⟩, ⟨some 89, .mv (.t 1) false, some (86, true)⟩, ⟨some 90, .bin .rem (.t 89) (.c (.int .u8 60)), some (86, true)⟩, ⟨some 91, .conv .i64 (.t 90), some (86, true)⟩, ⟨some 92, .bin .add (.t 88) (.t 91), some (86, true)⟩, ⟨some 93, .bin .add (.t 92) (.c (.int .i64 1)), some (86, true)⟩, ⟨some 94, .bin .eql (.t 87) (.t 93), some (86, true)⟩, ⟨some 95, .pick (.t 86) (.t 94) (.c (.bool false)), none⟩, ⟨some 6, .mv (.t 95) true, none⟩])
  (.ret))))))))))), [.t 6]⟩
theorem row6 : RowOk Try.prog 6 C6 := ⟨Try.f6, ⟨[], [21], [], []⟩, lvOf [], Try.func6, by kernel_rfl, by kernel_rfl⟩
def B7_2 : C := .seq (.seq (.reg [⟨some 136, .mv (.t 14) false, none⟩, ⟨some 137, .mv (.t 12) false, none⟩, ⟨some 138, .len (.t 137), none⟩, ⟨some 139, .bin .lss (.t 136) (.t 138), none⟩])
  (.cond (.t 139) (.skip)
  (.exit 2)))
  (.seq (.block 3 (.seq (.reg [⟨some 142, .mv (.t 12) false, none⟩, ⟨some 143, .mv (.t 14) false, none⟩, ⟨some 144, .ia 1 (.t 142) (.t 143), none⟩, ⟨some 145, .load 1 false (.t 144) false, none⟩, ⟨some 146, .fa 2 (.t 5), none⟩, ⟨some 147, .load 1 false (.t 146) false, none⟩, ⟨some 148, .mv (.t 9) false, none⟩, ⟨some 149, .ia 1 (.t 147) (.t 148), none⟩, ⟨some 150, .load 1 false (.t 149) false, none⟩, ⟨some 151, .mv (.t 14) false, none⟩, ⟨some 152, .ia 1 (.t 150) (.t 151), none⟩, ⟨some 153, .load 1 false (.t 152) false, none⟩, ⟨some 154, .bin .neq (.t 145) (.t 153), none⟩])
  (.cond (.t 154) (.seq (.reg [⟨some 4, .mv (.c (.bool false)) true, none⟩])
  (.ret))
  (.skip))))
  (.reg [⟨some 140, .mv (.t 14) false, none⟩, ⟨some 141, .bin .add (.t 140) (.c (.int .i64 1)), none⟩, ⟨some 14, .mv (.t 141) true, none⟩]))
def L7_2 : C := .loop [1, 2, 5, 7, 8, 9, 12, 14] 3 B7_2
theorem go7_2 (s : Env × Bx) (nb) : evL tab ext nb L7_2 s = (loopIn nb [1, 2, 5, 7, 8, 9, 12, 14] 3 s).bind fun s0 => (evL tab ext nb B7_2 s0).bind (seqG tab ext nb L7_2) := eL_loop _ _ _
def B7_0 : C := .seq (.seq (.reg [⟨some 78, .mv (.t 9) false, none⟩, ⟨some 79, .mv (.t 7) false, none⟩, ⟨some 80, .len (.t 79), none⟩, ⟨some 81, .bin .lss (.t 78) (.t 80), none⟩])
  (.cond (.t 81) (.skip)
  (.exit 0)))
  (.seq (.block 1 (.seq (.reg [⟨some 85, .load 4 true (.t 2) false, none⟩, ⟨some 86, .fa 1 (.t 5), none⟩, ⟨some 87, .load 1 false (.t 86) false, none⟩, ⟨some 88, .mv (.t 9) false, none⟩, ⟨some 89, .call 16 [(.t 85), (.t 87), (.t 88)] false, none⟩, ⟨some 84, .mv (.t 89) false, none⟩, ⟨some 90, .ext (.t 84) 0, none⟩, ⟨some 91, .ext (.t 84) 1, none⟩, ⟨some 10, .mv (.t 90) true, none⟩, ⟨some 11, .mv (.t 91) true, none⟩])
  (.seq (.reg [⟨some 93, .load 4 true (.t 2) false, none⟩, ⟨some 94, .fa 1 (.t 5), none⟩, ⟨some 95, .load 1 false (.t 94) false, none⟩, ⟨some 96, .mv (.t 9) false, none⟩, ⟨some 97, .call 26 [(.t 93), (.t 95), (.t 96)] false, none⟩, ⟨some 92, .mv (.t 97) false, none⟩, ⟨some 98, .ext (.t 92) 0, none⟩, ⟨some 99, .ext (.t 92) 1, none⟩, ⟨some 12, .mv (.t 98) true, none⟩, ⟨some 13, .mv (.t 99) true, none⟩])
  (.seq (.seq (.reg [⟨some 100, .mv (.t 11) false, none⟩, ⟨some 101, .un .not (.t 100), none⟩, ⟨some 102, .mv (.t 101) false, none⟩, ⟨some 103, .mv (.t 10) false, some (102, false)⟩, ⟨some 104, .fa 1 (.t 5), some (102, false)⟩, ⟨some 105, .load 1 false (.t 104) false, some (102, false)⟩, ⟨some 106, .mv (.t 9) false, some (102, false)⟩, ⟨some 107, .ia 1 (.t 105) (.t 106), some (102, false)⟩, ⟨some 108, .load 1 false (.t 107) false, some (102, false)⟩, ⟨some 109, .bin .neq (.t 103) (.t 108), some (102, false)⟩, ⟨some 110, .pick (.t 102) (.c (.bool true)) (.t 109), none⟩, ⟨some 111, .mv (.t 110) false, none⟩, ⟨some 112, .mv (.t 10) false, some (111, false)⟩, ⟨some 113, .fa 3 (.t 2), some (111, false)⟩, ⟨some 114, .load 1 false (.t 113) false, some (111, false)⟩, ⟨some 115, .mv (.t 9) false, some (111, false)⟩, ⟨some 116, .ia 6 (.t 114) (.t 115), some (111, false)⟩, ⟨some 117, .fa 2 (.t 116), some (111, false)⟩, ⟨some 118, .load 1 false (.t 117) false, some (111, false)⟩, ⟨some 119, .bin .gtr (.t 112) (.t 118), some (111, false)⟩, ⟨some 120, .pick (.t 111) (.c (.bool true)) (.t 119), none⟩, ⟨some 121, .mv (.t 120) false, none⟩, ⟨some 122, .mv (.t 13) false, some (121, false)⟩, ⟨some 123, .un .not (.t 122), some (121, false)⟩, ⟨some 124, .pick (.t 121) (.c (.bool true)) (.t 123), none⟩, ⟨some 125, .mv (.t 124) false, none⟩, ⟨some 126, .mv (.t 12) false, some (125, false)⟩, ⟨some 127, .len (.t 126), some (125, false)⟩, ⟨some 128, .fa 2 (.t 5), some (125, false)⟩, ⟨some 129, .load 1 false (.t 128) false, some (125, false)⟩, ⟨some 130, .mv (.t 9) false, some (125, false)⟩, ⟨some 131, .ia 1 (.t 129) (.t 130), some (125, false)⟩, ⟨some 132, .load 1 false (.t 131) false, some (125, false)⟩, ⟨some 133, .len (.t 132), some (125, false)⟩, ⟨some 134, .bin .neq (.t 127) (.t 133), some (125, false)⟩, ⟨some 135, .pick (.t 125) (.c (.bool true)) (.t 134), none⟩])
  (.cond (.t 135) (.seq (.reg [⟨some 4, .mv (.c (.bool false)) true, none⟩])
  (.ret))
  (.skip)))
  (.seq (.seq (.reg [⟨some 14, .mv (.c (.int .i64 0)) true, none⟩])
  (.block 2 (L7_2)))
  (.seq (.reg [⟨some 155, .mv (.t 9) false, none⟩, ⟨some 156, .mv (.t 1) false, none⟩, ⟨some 157, .len (.t 156), none⟩, ⟨some 158, .bin .lss (.t 155) (.t 157), none⟩, ⟨some 159, .mv (.t 158) false, none⟩, ⟨some 160, .mv (.t 1) false, some (159, true)⟩, ⟨some 161, .mv (.t 9) false, some (159, true)⟩, ⟨some 162, .ia 1 (.t 160) (.t 161), some (159, true)⟩, ⟨some 163, .load 1 false (.t 162) false, some (159, true)⟩, ⟨some 164, .bin .gtr (.t 163) (.c (.int .u8 0)), some (159, true)⟩, ⟨some 165, .pick (.t 159) (.t 164) (.c (.bool false)), none⟩])
  (.cond (.t 165) (.seq (.reg [⟨some 166, .mv (.t 7) false, none⟩, ⟨some 167, .mv (.t 9) false, none⟩, ⟨some 168, .mv (.t 7) false, none⟩, ⟨some 169, .mv (.t 9) false, none⟩, ⟨some 170, .ia 1 (.t 168) (.t 169), none⟩, ⟨some 171, .load 1 false (.t 170) false, none⟩, ⟨some 172, .mv (.t 1) false, none⟩, ⟨some 173, .mv (.t 9) false, none⟩, ⟨some 174, .ia 1 (.t 172) (.t 173), none⟩, ⟨some 175, .load 1 false (.t 174) false, none⟩, ⟨some 176, .conv .i64 (.t 175), none⟩, ⟨some 177, .bin .sub (.t 171) (.t 176), none⟩, ⟨some 178, .mxn true [(.c (.int .i64 1)), (.t 177)], none⟩, ⟨some 179, .ia 1 (.t 166) (.t 167), none⟩, ⟨none, .store 1 (.t 179) (.t 178), none⟩])
  (.reg [⟨some 180, .mv (.t 8) false, none⟩, ⟨some 181, .mv (.t 180) false, none⟩, ⟨some 182, .mv (.t 7) false, some (181, false)⟩, ⟨some 183, .mv (.t 9) false, some (181, false)⟩, ⟨some 184, .ia 1 (.t 182) (.t 183), some (181, false)⟩, ⟨some 185, .load 1 false (.t 184) false, some (181, false)⟩, ⟨some 186, .fa 1 (.t 5), some (181, false)⟩, ⟨some 187, .load 1 false (.t 186) false, some (181, false)⟩, ⟨some 188, .mv (.t 9) false, some (181, false)⟩, ⟨some 189, .ia 1 (.t 187) (.t 188), some (181, false)⟩, ⟨some 190, .load 1 false (.t 189) false, some (181, false)⟩, ⟨some 191, .bin .lss (.t 185) (.t 190), some (181, false)⟩, ⟨some 192, .pick (.t 181) (.c (.bool true)) (.t 191), none⟩, ⟨some 8, .mv (.t 192) true, none⟩]))
  (.skip))))))))
  (.reg [⟨some 82, .mv (.t 9) false, none⟩, ⟨some 83, .bin .add (.t 82) (.c (.int .i64 1)), none⟩, ⟨some 9, .mv (.t 83) true, none⟩]))
def L7_0 : C := .loop [1, 2, 5, 7, 8, 9] 3 B7_0
theorem go7_0 (s : Env × Bx) (nb) : evL tab ext nb L7_0 s = (loopIn nb [1, 2, 5, 7, 8, 9] 3 s).bind fun s0 => (evL tab ext nb B7_0 s0).bind (seqG tab ext nb L7_0) := eL_loop _ _ _
/-- swingbridge/swingbridgelaw18.AdmitHolds -/
def C7 : CFun := ⟨201, 2, .seq (.reg [⟨some 2, .box (.t 0), none⟩, ⟨some 4, .mv (.c (.bool false)) true, none⟩])
  (.seq (.seq (.reg [⟨some 15, .call 21 [] false, none⟩, ⟨some 16, .un .not (.t 15), none⟩])
  (.cond (.t 16) (.seq (.reg [⟨some 4, .mv (.c (.bool false)) true, none⟩])
  (.ret))
  (.skip)))
  (.seq (.seq (.reg [⟨some 17, .load 4 true (.t 2) false, none⟩, ⟨some 18, .call 22 [(.t 17)] false, none⟩, ⟨some 19, .un .not (.t 18), none⟩])
  (.cond (.t 19) (.seq (.reg [⟨some 4, .mv (.c (.bool true)) true, none⟩])
  (.ret))
  (.skip)))
  (.seq (.reg [⟨some 21, .load 4 true (.t 2) false, none⟩, ⟨some 22, .call 23 [(.t 21)] false, none⟩, ⟨some 20, .mv (.t 22) false, none⟩, ⟨some 23, .ext (.t 20) 0, none⟩, ⟨some 24, .ext (.t 20) 1, none⟩, ⟨some 5, .alloc [(.bool false), (.slice none 0 0), (.slice none 0 0)], none⟩, ⟨none, .store 3 (.t 5) (.t 23), none⟩, ⟨some 6, .mv (.t 24) true, none⟩])
  (.seq (.seq (.reg [⟨some 25, .mv (.t 6) false, none⟩, ⟨some 26, .bin .neq (.t 25) (.c (.int .i64 0)), none⟩])
  (.cond (.t 26) (.seq (.reg [⟨some 27, .fa 0 (.t 5), none⟩, ⟨some 28, .load 1 false (.t 27) false, none⟩, ⟨some 29, .un .not (.t 28), none⟩, ⟨some 30, .mv (.t 29) false, none⟩, ⟨some 31, .fa 1 (.t 5), some (30, true)⟩, ⟨some 32, .load 1 false (.t 31) false, some (30, true)⟩, ⟨some 33, .len (.t 32), some (30, true)⟩, ⟨some 34, .bin .eql (.t 33) (.c (.int .i64 0)), some (30, true)⟩, ⟨some 35, .pick (.t 30) (.t 34) (.c (.bool false)), none⟩, ⟨some 36, .mv (.t 35) false, none⟩, ⟨some 37, .fa 2 (.t 5), some (36, true)⟩, ⟨some 38, .load 1 false (.t 37) false, some (36, true)⟩, ⟨some 39, .len (.t 38), some (36, true)⟩, ⟨some 40, .bin .eql (.t 39) (.c (.int .i64 0)), some (36, true)⟩, ⟨some 41, .pick (.t 36) (.t 40) (.c (.bool false)), none⟩, ⟨some 4, .mv (.t 41) true, none⟩])
  (.ret))
  (.skip)))
  (.seq (.seq (.reg [⟨some 42, .fa 0 (.t 5), none⟩, ⟨some 43, .load 1 false (.t 42) false, none⟩, ⟨some 44, .un .not (.t 43), none⟩, ⟨some 45, .mv (.t 44) false, none⟩, ⟨some 46, .load 4 true (.t 2) false, some (45, false)⟩, ⟨some 47, .call 24 [(.t 46)] false, some (45, false)⟩, ⟨some 48, .un .not (.t 47), some (45, false)⟩, ⟨some 49, .pick (.t 45) (.c (.bool true)) (.t 48), none⟩, ⟨some 50, .mv (.t 49) false, none⟩, ⟨some 51, .fa 1 (.t 5), some (50, false)⟩, ⟨some 52, .load 1 false (.t 51) false, some (50, false)⟩, ⟨some 53, .len (.t 52), some (50, false)⟩, ⟨some 54, .fa 3 (.t 2), some (50, false)⟩, ⟨some 55, .load 1 false (.t 54) false, some (50, false)⟩, ⟨some 56, .len (.t 55), some (50, false)⟩, ⟨some 57, .bin .neq (.t 53) (.t 56), some (50, false)⟩, ⟨some 58, .pick (.t 50) (.c (.bool true)) (.t 57), none⟩, ⟨some 59, .mv (.t 58) false, none⟩, ⟨some 60, .fa 2 (.t 5), some (59, false)⟩, ⟨some 61, .load 1 false (.t 60) false, some (59, false)⟩, ⟨some 62, .len (.t 61), some (59, false)⟩, ⟨some 63, .fa 3 (.t 2), some (59, false)⟩, ⟨some 64, .load 1 false (.t 63) false, some (59, false)⟩, ⟨some 65, .len (.t 64), some (59, false)⟩, ⟨some 66, .bin .neq (.t 62) (.t 65), some (59, false)⟩, ⟨some 67, .pick (.t 59) (.c (.bool true)) (.t 66), none⟩, ⟨some 68, .mv (.t 67) false, none⟩, ⟨some 69, .load 4 true (.t 2) false, some (68, false)⟩, ⟨some 70, .fa 1 (.t 5), some (68, false)⟩, ⟨some 71, .load 1 false (.t 70) false, some (68, false)⟩, ⟨some 72, .call 25 [(.t 69), (.t 71)] false, some (68, false)⟩, ⟨some 73, .un .not (.t 72), some (68, false)⟩, ⟨some 74, .pick (.t 68) (.c (.bool true)) (.t 73), none⟩])
  (.cond (.t 74) (.seq (.reg [⟨some 4, .mv (.c (.bool false)) true, none⟩])
  (.ret))
  (.skip)))
  (.seq (.reg [⟨some 75, .fa 1 (.t 5), none⟩, ⟨some 76, .load 1 false (.t 75) false, none⟩, ⟨some 77, .app 1 8 (.c (.slice none 0 0)) (.t 76) true, none⟩, ⟨some 7, .mv (.t 77) true, none⟩])
  (.seq (.reg [⟨some 8, .mv (.c (.bool false)) true, none⟩])
  (.seq (.seq (.reg [⟨some 9, .mv (.c (.int .i64 0)) true, none⟩])
  (.block 0 (L7_0)))
  (.seq (.reg [⟨some 193, .mv (.t 8) false, none⟩, ⟨some 194, .un .not (.t 193), none⟩, ⟨some 195, .mv (.t 194) false, none⟩, ⟨some 196, .load 4 true (.t 2) false, some (195, false)⟩, ⟨some 197, .mv (.t 7) false, some (195, false)⟩, ⟨some 198, .call 25 [(.t 196), (.t 197)] false, some (195, false)⟩, ⟨some 199, .un .not (.t 198), some (195, false)⟩, ⟨some 200, .pick (.t 195) (.c (.bool true)) (.t 199), none⟩, ⟨some 4, .mv (.t 200) true, none⟩])
  (.ret)))))))))), [.t 4]⟩
theorem row7 : RowOk Try.prog 7 C7 := ⟨Try.f7, ⟨[], [77], [], []⟩, lvOf [(0, [1, 2, 5, 7, 8, 9], 3), (2, [1, 2, 5, 7, 8, 9, 12, 14], 3)], Try.func7, by kernel_rfl, by kernel_rfl⟩
def B8_0 : C := .seq (.seq (.reg [⟨some 101, .mv (.t 12) false, none⟩, ⟨some 102, .fa 1 (.t 8), none⟩, ⟨some 103, .load 1 false (.t 102) false, none⟩, ⟨some 104, .len (.t 103), none⟩, ⟨some 105, .bin .lss (.t 101) (.t 104), none⟩])
  (.cond (.t 105) (.skip)
  (.exit 0)))
  (.seq (.block 1 (.seq (.reg [⟨some 108, .fa 1 (.t 10), none⟩, ⟨some 109, .load 1 false (.t 108) false, none⟩, ⟨some 110, .mv (.t 12) false, none⟩, ⟨some 111, .ia 1 (.t 109) (.t 110), none⟩, ⟨some 112, .load 1 false (.t 111) false, none⟩, ⟨some 113, .fa 1 (.t 8), none⟩, ⟨some 114, .load 1 false (.t 113) false, none⟩, ⟨some 115, .mv (.t 12) false, none⟩, ⟨some 116, .mv (.t 6) false, none⟩, ⟨some 117, .bin .add (.t 115) (.t 116), none⟩, ⟨some 118, .mv (.t 5) false, none⟩, ⟨some 119, .bin .rem (.t 117) (.t 118), none⟩, ⟨some 120, .ia 1 (.t 114) (.t 119), none⟩, ⟨some 121, .load 1 false (.t 120) false, none⟩, ⟨some 122, .bin .neq (.t 112) (.t 121), none⟩])
  (.cond (.t 122) (.seq (.reg [⟨some 4, .mv (.c (.bool false)) true, none⟩])
  (.ret))
  (.skip))))
  (.reg [⟨some 106, .mv (.t 12) false, none⟩, ⟨some 107, .bin .add (.t 106) (.c (.int .i64 1)), none⟩, ⟨some 12, .mv (.t 107) true, none⟩]))
def L8_0 : C := .loop [5, 6, 8, 10, 12] 4 B8_0
theorem go8_0 (s : Env × Bx) (nb) : evL tab ext nb L8_0 s = (loopIn nb [5, 6, 8, 10, 12] 4 s).bind fun s0 => (evL tab ext nb B8_0 s0).bind (seqG tab ext nb L8_0) := eL_loop _ _ _
/-- swingbridge/swingbridgelaw18.AdmitTurns -/
def C8 : CFun := ⟨123, 2, .seq (.reg [⟨some 2, .box (.t 0), none⟩, ⟨some 4, .mv (.c (.bool false)) true, none⟩])
  (.seq (.seq (.reg [⟨some 13, .call 21 [] false, none⟩, ⟨some 14, .un .not (.t 13), none⟩])
  (.cond (.t 14) (.seq (.reg [⟨some 4, .mv (.c (.bool false)) true, none⟩])
  (.ret))
  (.skip)))
  (.seq (.seq (.reg [⟨some 15, .load 4 true (.t 2) false, none⟩, ⟨some 16, .call 22 [(.t 15)] false, none⟩, ⟨some 17, .un .not (.t 16), none⟩, ⟨some 18, .mv (.t 17) false, none⟩, ⟨some 19, .fa 3 (.t 2), some (18, false)⟩, ⟨some 20, .load 1 false (.t 19) false, some (18, false)⟩, ⟨some 21, .len (.t 20), some (18, false)⟩, ⟨some 22, .bin .eql (.t 21) (.c (.int .i64 0)), some (18, false)⟩, ⟨some 23, .pick (.t 18) (.c (.bool true)) (.t 22), none⟩])
  (.cond (.t 23) (.seq (.reg [⟨some 4, .mv (.c (.bool true)) true, none⟩])
  (.ret))
  (.skip)))
  (.seq (.reg [⟨some 24, .fa 3 (.t 2), none⟩, ⟨some 25, .load 1 false (.t 24) false, none⟩, ⟨some 26, .len (.t 25), none⟩, ⟨some 5, .mv (.t 26) true, none⟩])
  (.seq (.reg [⟨some 27, .mv (.t 1) false, none⟩, ⟨some 28, .conv .i64 (.t 27), none⟩, ⟨some 29, .mv (.t 5) false, none⟩, ⟨some 30, .bin .rem (.t 28) (.t 29), none⟩, ⟨some 6, .mv (.t 30) true, none⟩])
  (.seq (.reg [⟨some 31, .load 4 true (.t 2) false, none⟩, ⟨some 7, .alloc [(.int .i64 0), (.slice none 0 0), (.slice none 0 0), (.slice none 0 0)], none⟩, ⟨none, .store 4 (.t 7) (.t 31), none⟩])
  (.seq (.reg [⟨some 32, .fa 3 (.t 2), none⟩, ⟨some 33, .load 1 false (.t 32) false, none⟩, ⟨some 34, .mv (.t 6) false, none⟩, ⟨some 35, .slc 6 (.t 33) (some (.t 34)) none none, none⟩, ⟨some 36, .app 6 72 (.c (.slice none 0 0)) (.t 35) false, none⟩, ⟨some 37, .fa 3 (.t 2), none⟩, ⟨some 38, .load 1 false (.t 37) false, none⟩, ⟨some 39, .mv (.t 6) false, none⟩, ⟨some 40, .slc 6 (.t 38) none (some (.t 39)) none, none⟩, ⟨some 41, .app 6 72 (.t 36) (.t 40) false, none⟩, ⟨some 42, .fa 3 (.t 7), none⟩, ⟨none, .store 1 (.t 42) (.t 41), none⟩])
  (.seq (.reg [⟨some 44, .load 4 true (.t 2) false, none⟩, ⟨some 45, .call 23 [(.t 44)] false, none⟩, ⟨some 43, .mv (.t 45) false, none⟩, ⟨some 46, .ext (.t 43) 0, none⟩, ⟨some 47, .ext (.t 43) 1, none⟩, ⟨some 8, .alloc [(.bool false), (.slice none 0 0), (.slice none 0 0)], none⟩, ⟨none, .store 3 (.t 8) (.t 46), none⟩, ⟨some 9, .mv (.t 47) true, none⟩])
  (.seq (.reg [⟨some 49, .load 4 true (.t 7) false, none⟩, ⟨some 50, .call 23 [(.t 49)] false, none⟩, ⟨some 48, .mv (.t 50) false, none⟩, ⟨some 51, .ext (.t 48) 0, none⟩, ⟨some 52, .ext (.t 48) 1, none⟩, ⟨some 10, .alloc [(.bool false), (.slice none 0 0), (.slice none 0 0)], none⟩, ⟨none, .store 3 (.t 10) (.t 51), none⟩, ⟨some 11, .mv (.t 52) true, none⟩])
  (.seq (.seq (.reg [⟨some 53, .load 4 true (.t 2) false, none⟩, ⟨some 54, .call 24 [(.t 53)] false, none⟩, ⟨some 55, .un .not (.t 54), none⟩])
  (.cond (.t 55) (.seq (.reg [⟨some 56, .mv (.t 9) false, none⟩, ⟨some 57, .bin .eql (.t 56) (.c (.int .i64 0)), none⟩, ⟨some 58, .mv (.t 11) false, none⟩, ⟨some 59, .bin .eql (.t 58) (.c (.int .i64 0)), none⟩, ⟨some 60, .eqb false (.t 57) (.t 59), none⟩, ⟨some 61, .mv (.t 60) false, none⟩, ⟨some 62, .fa 0 (.t 8), some (61, true)⟩, ⟨some 63, .load 1 false (.t 62) false, some (61, true)⟩, ⟨some 64, .un .not (.t 63), some (61, true)⟩, ⟨some 65, .pick (.t 61) (.t 64) (.c (.bool false)), none⟩, ⟨some 66, .mv (.t 65) false, none⟩, ⟨some 67, .fa 0 (.t 10), some (66, true)⟩, ⟨some 68, .load 1 false (.t 67) false, some (66, true)⟩, ⟨some 69, .un .not (.t 68), some (66, true)⟩, ⟨some 70, .pick (.t 66) (.t 69) (.c (.bool false)), none⟩, ⟨some 4, .mv (.t 70) true, none⟩])
  (.ret))
  (.skip)))
  (.seq (.seq (.reg [⟨some 71, .mv (.t 9) false, none⟩, ⟨some 72, .mv (.t 11) false, none⟩, ⟨some 73, .bin .neq (.t 71) (.t 72), none⟩, ⟨some 74, .mv (.t 73) false, none⟩, ⟨some 75, .fa 0 (.t 8), some (74, false)⟩, ⟨some 76, .load 1 false (.t 75) false, some (74, false)⟩, ⟨some 77, .fa 0 (.t 10), some (74, false)⟩, ⟨some 78, .load 1 false (.t 77) false, some (74, false)⟩, ⟨some 79, .eqb true (.t 76) (.t 78), some (74, false)⟩, ⟨some 80, .pick (.t 74) (.c (.bool true)) (.t 79), none⟩, ⟨some 81, .mv (.t 80) false, none⟩, ⟨some 82, .fa 1 (.t 8), some (81, false)⟩, ⟨some 83, .load 1 false (.t 82) false, some (81, false)⟩, ⟨some 84, .len (.t 83), some (81, false)⟩, ⟨some 85, .fa 1 (.t 10), some (81, false)⟩, ⟨some 86, .load 1 false (.t 85) false, some (81, false)⟩, ⟨some 87, .len (.t 86), some (81, false)⟩, ⟨some 88, .bin .neq (.t 84) (.t 87), some (81, false)⟩, ⟨some 89, .pick (.t 81) (.c (.bool true)) (.t 88), none⟩, ⟨some 90, .mv (.t 89) false, none⟩, ⟨some 91, .fa 0 (.t 8), some (90, false)⟩, ⟨some 92, .load 1 false (.t 91) false, some (90, false)⟩, ⟨some 93, .mv (.t 92) false, some (90, false)⟩, ⟨some 94, .fa 1 (.t 8), some (93, true)⟩, ⟨some 95, .load 1 false (.t 94) false, some (93, true)⟩, ⟨some 96, .len (.t 95), some (93, true)⟩, ⟨some 97, .mv (.t 5) false, some (93, true)⟩, ⟨some 98, .bin .neq (.t 96) (.t 97), some (93, true)⟩, ⟨some 99, .pick (.t 93) (.t 98) (.c (.bool false)), some (90, false)⟩, ⟨some 100, .pick (.t 90) (.c (.bool true)) (.t 99), none⟩])
  (.cond (.t 100) (.seq (.reg [⟨some 4, .mv (.c (.bool false)) true, none⟩])
  (.ret))
  (.skip)))
  (.seq (.seq (.reg [⟨some 12, .mv (.c (.int .i64 0)) true, none⟩])
  (.block 0 (L8_0)))
  (.seq (.reg [⟨some 4, .mv (.c (.bool true)) true, none⟩])
  (.ret))))))))))))), [.t 4]⟩
theorem row8 : RowOk Try.prog 8 C8 := ⟨Try.f8, ⟨[], [], [], []⟩, lvOf [(0, [5, 6, 8, 10, 12], 4)], Try.func8, by kernel_rfl, by kernel_rfl⟩
/-- swingbridge/swingbridgelaw18.AdmitSlack -/
def C9 : CFun := ⟨117, 3, .seq (.reg [⟨some 3, .box (.t 0), none⟩, ⟨some 6, .mv (.c (.bool false)) true, none⟩])
  (.seq (.seq (.reg [⟨some 15, .call 21 [] false, none⟩, ⟨some 16, .un .not (.t 15), none⟩])
  (.cond (.t 16) (.seq (.reg [⟨some 6, .mv (.c (.bool false)) true, none⟩])
  (.ret))
  (.skip)))
  (.seq (.seq (.reg [⟨some 17, .load 4 true (.t 3) false, none⟩, ⟨some 18, .call 22 [(.t 17)] false, none⟩, ⟨some 19, .un .not (.t 18), none⟩])
  (.cond (.t 19) (.seq (.reg [⟨some 6, .mv (.c (.bool true)) true, none⟩])
  (.ret))
  (.skip)))
  (.seq (.reg [⟨some 21, .load 4 true (.t 3) false, none⟩, ⟨some 22, .call 23 [(.t 21)] false, none⟩, ⟨some 20, .mv (.t 22) false, none⟩, ⟨some 23, .ext (.t 20) 0, none⟩, ⟨some 24, .ext (.t 20) 1, none⟩, ⟨some 7, .alloc [(.bool false), (.slice none 0 0), (.slice none 0 0)], none⟩, ⟨none, .store 3 (.t 7) (.t 23), none⟩, ⟨some 8, .mv (.t 24) true, none⟩])
  (.seq (.seq (.reg [⟨some 25, .mv (.t 8) false, none⟩, ⟨some 26, .bin .neq (.t 25) (.c (.int .i64 0)), none⟩, ⟨some 27, .mv (.t 26) false, none⟩, ⟨some 28, .fa 1 (.t 7), some (27, false)⟩, ⟨some 29, .load 1 false (.t 28) false, some (27, false)⟩, ⟨some 30, .len (.t 29), some (27, false)⟩, ⟨some 31, .fa 3 (.t 3), some (27, false)⟩, ⟨some 32, .load 1 false (.t 31) false, some (27, false)⟩, ⟨some 33, .len (.t 32), some (27, false)⟩, ⟨some 34, .bin .neq (.t 30) (.t 33), some (27, false)⟩, ⟨some 35, .pick (.t 27) (.c (.bool true)) (.t 34), none⟩, ⟨some 36, .mv (.t 35) false, none⟩, ⟨some 37, .fa 1 (.t 7), some (36, false)⟩, ⟨some 38, .load 1 false (.t 37) false, some (36, false)⟩, ⟨some 39, .len (.t 38), some (36, false)⟩, ⟨some 40, .bin .eql (.t 39) (.c (.int .i64 0)), some (36, false)⟩, ⟨some 41, .pick (.t 36) (.c (.bool true)) (.t 40), none⟩])
  (.cond (.t 41) (.seq (.reg [⟨some 42, .mv (.t 8) false, none⟩, ⟨some 43, .bin .neq (.t 42) (.c (.int .i64 0)), none⟩, ⟨some 6, .mv (.t 43) true, none⟩])
  (.ret))
  (.skip)))
  (.seq (.reg [⟨some 44, .mv (.t 1) false, none⟩, ⟨some 45, .conv .i64 (.t 44), none⟩, ⟨some 46, .fa 3 (.t 3), none⟩, ⟨some 47, .load 1 false (.t 46) false, none⟩, ⟨some 48, .len (.t 47), none⟩, ⟨some 49, .bin .rem (.t 45) (.t 48), none⟩, ⟨some 9, .mv (.t 49) true, none⟩])
  (.seq (.reg [⟨some 50, .load 4 true (.t 3) false, none⟩, ⟨some 10, .alloc [(.int .i64 0), (.slice none 0 0), (.slice none 0 0), (.slice none 0 0)], none⟩, ⟨none, .store 4 (.t 10) (.t 50), none⟩])
  (.seq (.reg [⟨some 51, .fa 3 (.t 3), none⟩, ⟨some 52, .load 1 false (.t 51) false, none⟩, ⟨some 53, .app 6 72 (.c (.slice none 0 0)) (.t 52) true, none⟩, ⟨some 54, .fa 3 (.t 10), none⟩, ⟨none, .store 1 (.t 54) (.t 53), none⟩])
  (.seq (.reg [⟨some 55, .fa 3 (.t 10), none⟩, ⟨some 56, .load 1 false (.t 55) false, none⟩, ⟨some 57, .mv (.t 9) false, none⟩, ⟨some 58, .fa 3 (.t 10), none⟩, ⟨some 59, .load 1 false (.t 58) false, none⟩, ⟨some 60, .mv (.t 9) false, none⟩, ⟨some 61, .ia 6 (.t 59) (.t 60), none⟩, ⟨some 62, .fa 1 (.t 61), none⟩, ⟨some 63, .load 1 false (.t 62) false, none⟩, ⟨some 64, .fa 3 (.t 10), none⟩, ⟨some 65, .load 1 false (.t 64) false, none⟩, ⟨some 66, .mv (.t 9) false, none⟩, ⟨some 67, .ia 6 (.t 65) (.t 66), none⟩, ⟨some 68, .fa 2 (.t 67), none⟩, ⟨some 69, .load 1 false (.t 68) false, none⟩, ⟨some 70, .mv (.t 2) false, none⟩, ⟨some 71, .conv .i64 (.t 70), none⟩, ⟨some 72, .bin .add (.t 69) (.t 71), none⟩, ⟨some 73, .mxn false [(.t 63), (.t 72)], none⟩, ⟨some 74, .ia 6 (.t 56) (.t 57), none⟩, ⟨some 75, .fa 2 (.t 74), none⟩, ⟨none, .store 1 (.t 75) (.t 73), none⟩])
  (.seq (.reg [⟨some 77, .load 4 true (.t 10) false, none⟩, ⟨some 78, .call 23 [(.t 77)] false, none⟩, ⟨some 76, .mv (.t 78) false, none⟩, ⟨some 79, .ext (.t 76) 0, none⟩, ⟨some 80, .ext (.t 76) 1, none⟩, ⟨some 11, .alloc [(.bool false), (.slice none 0 0), (.slice none 0 0)], none⟩, ⟨none, .store 3 (.t 11) (.t 79), none⟩, ⟨some 12, .mv (.t 80) true, none⟩])
  (.seq (.seq (.reg [⟨some 81, .mv (.t 12) false, none⟩, ⟨some 82, .bin .neq (.t 81) (.c (.int .i64 0)), none⟩, ⟨some 83, .mv (.t 82) false, none⟩, ⟨some 84, .load 3 true (.t 7) false, some (83, false)⟩, ⟨some 85, .load 3 true (.t 11) false, some (83, false)⟩, ⟨some 86, .call 27 [(.t 84), (.t 85)] false, some (83, false)⟩, ⟨some 87, .un .not (.t 86), some (83, false)⟩, ⟨some 88, .pick (.t 83) (.c (.bool true)) (.t 87), none⟩])
  (.cond (.t 88) (.seq (.reg [⟨some 6, .mv (.c (.bool false)) true, none⟩])
  (.ret))
  (.skip)))
  (.seq (.seq (.reg [⟨some 89, .fa 1 (.t 7), none⟩, ⟨some 90, .load 1 false (.t 89) false, none⟩, ⟨some 91, .mv (.t 9) false, none⟩, ⟨some 92, .ia 1 (.t 90) (.t 91), none⟩, ⟨some 93, .load 1 false (.t 92) false, none⟩, ⟨some 94, .bin .lss (.t 93) (.c (.int .i64 2)), none⟩])
  (.cond (.t 94) (.seq (.reg [⟨some 6, .mv (.c (.bool true)) true, none⟩])
  (.ret))
  (.skip)))
  (.seq (.reg [⟨some 95, .fa 3 (.t 10), none⟩, ⟨some 96, .load 1 false (.t 95) false, none⟩, ⟨some 97, .mv (.t 9) false, none⟩, ⟨some 98, .fa 1 (.t 7), none⟩, ⟨some 99, .load 1 false (.t 98) false, none⟩, ⟨some 100, .mv (.t 9) false, none⟩, ⟨some 101, .ia 1 (.t 99) (.t 100), none⟩, ⟨some 102, .load 1 false (.t 101) false, none⟩, ⟨some 103, .bin .sub (.t 102) (.c (.int .i64 1)), none⟩, ⟨some 104, .ia 6 (.t 96) (.t 97), none⟩, ⟨some 105, .fa 2 (.t 104), none⟩, ⟨none, .store 1 (.t 105) (.t 103), none⟩])
  (.seq (.reg [⟨some 107, .load 4 true (.t 10) false, none⟩, ⟨some 108, .call 23 [(.t 107)] false, none⟩, ⟨some 106, .mv (.t 108) false, none⟩, ⟨some 109, .ext (.t 106) 0, none⟩, ⟨some 110, .ext (.t 106) 1, none⟩, ⟨some 13, .alloc [(.bool false), (.slice none 0 0), (.slice none 0 0)], none⟩, ⟨none, .store 3 (.t 13) (.t 109), none⟩, ⟨some 14, .mv (.t 110) true, none⟩])
  (.seq (.reg [⟨some 111, .mv (.t 14) false, none⟩, ⟨some 112, .bin .eql (.t 111) (.c (.int .i64 19)), none⟩, ⟨some 113, .mv (.t 112) false, none⟩, ⟨some 114, .mv (.t 14) false, some (113, false)⟩, ⟨some 115, .bin .eql (.t 114) (.c (.int .i64 20)), some (113, false)⟩, ⟨some 116, .pick (.t 113) (.c (.bool true)) (.t 115), none⟩, ⟨some 6, .mv (.t 116) true, none⟩])
  (.ret))))))))))))))), [.t 6]⟩
theorem row9 : RowOk Try.prog 9 C9 := ⟨Try.f9, ⟨[], [53], [], []⟩, lvOf [], Try.func9, by kernel_rfl, by kernel_rfl⟩
def B11_0 : C := .seq (.seq (.reg [⟨some 49, .mv (.t 14) false, none⟩, ⟨some 50, .bin .lss (.t 49) (.c (.int .i64 1000)), none⟩, ⟨some 51, .mv (.t 50) false, none⟩, ⟨some 52, .mv (.t 13) false, some (51, true)⟩, ⟨some 53, .bin .leq (.t 52) (.c (.int .i64 400)), some (51, true)⟩, ⟨some 54, .pick (.t 51) (.t 53) (.c (.bool false)), none⟩])
  (.cond (.t 54) (.skip)
  (.exit 0)))
  (.seq (.block 1 (.seq (.reg [⟨some 57, .mv (.t 8) false, none⟩, ⟨some 58, .mv (.t 7) false, none⟩, ⟨some 59, .mv (.t 13) false, none⟩, ⟨some 60, .mv (.t 7) false, none⟩, ⟨some 61, .bin .add (.t 59) (.t 60), none⟩, ⟨some 62, .mv (.t 9) false, none⟩, ⟨some 63, .bin .add (.t 61) (.t 62), none⟩, ⟨some 64, .bin .sub (.t 63) (.c (.int .i64 1)), none⟩, ⟨some 65, .mv (.t 9) false, none⟩, ⟨some 66, .bin .quo (.t 64) (.t 65), none⟩, ⟨some 67, .bin .mul (.t 58) (.t 66), none⟩, ⟨some 68, .bin .add (.t 57) (.t 67), none⟩, ⟨some 15, .mv (.t 68) true, none⟩])
  (.seq (.seq (.reg [⟨some 69, .mv (.t 15) false, none⟩, ⟨some 70, .mv (.t 13) false, none⟩, ⟨some 71, .bin .eql (.t 69) (.t 70), none⟩])
  (.cond (.t 71) (.exit 0)
  (.skip)))
  (.reg [⟨some 72, .mv (.t 15) false, none⟩, ⟨some 13, .mv (.t 72) true, none⟩]))))
  (.reg [⟨some 55, .mv (.t 14) false, none⟩, ⟨some 56, .bin .add (.t 55) (.c (.int .i64 1)), none⟩, ⟨some 14, .mv (.t 56) true, none⟩]))
def L11_0 : C := .loop [7, 8, 9, 11, 12, 13, 14] 2 B11_0
theorem go11_0 (s : Env × Bx) (nb) : evL tab ext nb L11_0 s = (loopIn nb [7, 8, 9, 11, 12, 13, 14] 2 s).bind fun s0 => (evL tab ext nb B11_0 s0).bind (seqG tab ext nb L11_0) := eL_loop _ _ _
/-- swingbridge/swingbridgelaw18.AdmitTwo -/
def C11 : CFun := ⟨110, 3, .seq (.reg [⟨some 6, .mv (.c (.bool false)) true, none⟩])
  (.seq (.seq (.reg [⟨some 16, .call 21 [] false, none⟩, ⟨some 17, .un .not (.t 16), none⟩])
  (.cond (.t 17) (.seq (.reg [⟨some 6, .mv (.c (.bool false)) true, none⟩])
  (.ret))
  (.skip)))
  (.seq (.reg [⟨some 18, .mv (.t 0) false, none⟩, ⟨some 19, .bin .rem (.t 18) (.c (.int .u8 40)), none⟩, ⟨some 20, .conv .i64 (.t 19), none⟩, ⟨some 21, .bin .add (.t 20) (.c (.int .i64 1)), none⟩, ⟨some 22, .mv (.t 1) false, none⟩, ⟨some 23, .bin .rem (.t 22) (.c (.int .u8 40)), none⟩, ⟨some 24, .conv .i64 (.t 23), none⟩, ⟨some 25, .bin .add (.t 24) (.c (.int .i64 1)), none⟩, ⟨some 26, .mv (.t 2) false, none⟩, ⟨some 27, .bin .rem (.t 26) (.c (.int .u8 100)), none⟩, ⟨some 28, .conv .i64 (.t 27), none⟩, ⟨some 29, .bin .add (.t 28) (.c (.int .i64 41)), none⟩, ⟨some 7, .mv (.t 21) true, none⟩, ⟨some 8, .mv (.t 25) true, none⟩, ⟨some 9, .mv (.t 29) true, none⟩])
  (.seq (.reg [⟨some 30, .bsl 1 1 [(.int .i64 0)] [(0, 1, (.c (.int .i64 1)))] false, none⟩, ⟨some 31, .mv (.t 9) false, none⟩, ⟨some 32, .mv (.t 9) false, none⟩, ⟨some 33, .mv (.t 7) false, none⟩, ⟨some 34, .build [(.int .i64 0), (.int .i64 0), (.int .i64 0)] [(0, 1, (.c (.int .i64 1))), (1, 1, (.t 33))], none⟩, ⟨some 35, .bsl 3 1 [(.int .i64 0), (.int .i64 0), (.int .i64 0)] [(0, 3, (.t 34))] false, none⟩, ⟨some 36, .build [(.string ⟨#[]⟩), (.int .i64 0), (.int .i64 0), (.int .i64 0), (.int .i64 0), (.slice none 0 0)] [(0, 1, (.c (.string ⟨#[97]⟩))), (1, 1, (.t 31)), (2, 1, (.t 32)), (3, 1, (.c (.int .i64 1))), (5, 1, (.t 35))], none⟩, ⟨some 37, .mv (.t 8) false, none⟩, ⟨some 38, .build [(.int .i64 0), (.int .i64 0), (.int .i64 0)] [(0, 1, (.c (.int .i64 1))), (1, 1, (.t 37))], none⟩, ⟨some 39, .bsl 3 1 [(.int .i64 0), (.int .i64 0), (.int .i64 0)] [(0, 3, (.t 38))] false, none⟩, ⟨some 40, .build [(.string ⟨#[]⟩), (.int .i64 0), (.int .i64 0), (.int .i64 0), (.int .i64 0), (.slice none 0 0)] [(0, 1, (.c (.string ⟨#[98]⟩))), (1, 1, (.c (.int .i64 400))), (2, 1, (.c (.int .i64 400))), (3, 1, (.c (.int .i64 2))), (5, 1, (.t 39))], none⟩, ⟨some 41, .bsl 6 2 [(.string ⟨#[]⟩), (.int .i64 0), (.int .i64 0), (.int .i64 0), (.int .i64 0), (.slice none 0 0), (.string ⟨#[]⟩), (.int .i64 0), (.int .i64 0), (.int .i64 0), (.int .i64 0), (.slice none 0 0)] [(0, 6, (.t 36)), (6, 6, (.t 40))] false, none⟩, ⟨some 42, .build [(.int .i64 0), (.slice none 0 0), (.slice none 0 0), (.slice none 0 0)] [(0, 1, (.c (.int .i64 1))), (1, 1, (.t 30)), (3, 1, (.t 41))], none⟩, ⟨some 10, .alloc [(.int .i64 0), (.slice none 0 0), (.slice none 0 0), (.slice none 0 0)], none⟩, ⟨none, .store 4 (.t 10) (.t 42), none⟩])
  (.seq (.reg [⟨some 44, .load 4 true (.t 10) false, none⟩, ⟨some 45, .call 23 [(.t 44)] false, none⟩, ⟨some 43, .mv (.t 45) false, none⟩, ⟨some 46, .ext (.t 43) 0, none⟩, ⟨some 47, .ext (.t 43) 1, none⟩, ⟨some 11, .alloc [(.bool false), (.slice none 0 0), (.slice none 0 0)], none⟩, ⟨none, .store 3 (.t 11) (.t 46), none⟩, ⟨some 12, .mv (.t 47) true, none⟩])
  (.seq (.reg [⟨some 48, .mv (.t 8) false, none⟩, ⟨some 13, .mv (.t 48) true, none⟩])
  (.seq (.seq (.reg [⟨some 14, .mv (.c (.int .i64 0)) true, none⟩])
  (.block 0 (L11_0)))
  (.seq (.seq (.reg [⟨some 73, .mv (.t 13) false, none⟩, ⟨some 74, .bin .gtr (.t 73) (.c (.int .i64 400)), none⟩])
  (.cond (.t 74) (.seq (.reg [⟨some 75, .mv (.t 12) false, none⟩, ⟨some 76, .bin .neq (.t 75) (.c (.int .i64 0)), none⟩, ⟨some 77, .mv (.t 76) false, none⟩, ⟨some 78, .fa 0 (.t 11), some (77, true)⟩, ⟨some 79, .load 1 false (.t 78) false, some (77, true)⟩, ⟨some 80, .un .not (.t 79), some (77, true)⟩, ⟨some 81, .pick (.t 77) (.t 80) (.c (.bool false)), none⟩, ⟨some 6, .mv (.t 81) true, none⟩])
  (.ret))
  (.skip)))
  (.seq (.reg [⟨some 82, .mv (.t 12) false, none⟩, ⟨some 83, .bin .eql (.t 82) (.c (.int .i64 20)), none⟩, ⟨some 84, .mv (.t 83) false, none⟩, ⟨some 85, .mv (.t 12) false, some (84, false)⟩, ⟨some 86, .bin .eql (.t 85) (.c (.int .i64 0)), some (84, false)⟩, ⟨some 87, .mv (.t 86) false, some (84, false)⟩, ⟨some 88, .fa 1 (.t 11), some (87, true)⟩, ⟨some 89, .load 1 false (.t 88) false, some (87, true)⟩, ⟨some 90, .len (.t 89), some (87, true)⟩, ⟨some 91, .bin .eql (.t 90) (.c (.int .i64 2)), some (87, true)⟩, ⟨some 92, .pick (.t 87) (.t 91) (.c (.bool false)), some (84, false)⟩, ⟨some 93, .mv (.t 92) false, some (84, false)⟩, ⟨some 94, .fa 1 (.t 11), some (93, true)⟩, ⟨some 95, .load 1 false (.t 94) false, some (93, true)⟩, ⟨some 96, .ia 1 (.t 95) (.c (.int .i64 0)), some (93, true)⟩, ⟨some 97, .load 1 false (.t 96) false, some (93, true)⟩, ⟨some 98, .mv (.t 7) false, some (93, true)⟩, ⟨some 99, .bin .eql (.t 97) (.t 98), some (93, true)⟩, ⟨some 100, .pick (.t 93) (.t 99) (.c (.bool false)), some (84, false)⟩, ⟨some 101, .mv (.t 100) false, some (84, false)⟩, ⟨some 102, .fa 1 (.t 11), some (101, true)⟩, ⟨some 103, .load 1 false (.t 102) false, some (101, true)⟩, ⟨some 104, .ia 1 (.t 103) (.c (.int .i64 1)), some (101, true)⟩, ⟨some 105, .load 1 false (.t 104) false, some (101, true)⟩, ⟨some 106, .mv (.t 13) false, some (101, true)⟩, ⟨some 107, .bin .eql (.t 105) (.t 106), some (101, true)⟩, ⟨some 108, .pick (.t 101) (.t 107) (.c (.bool false)), some (84, false)⟩, ⟨some 109, .pick (.t 84) (.c (.bool true)) (.t 108), none⟩, ⟨some 6, .mv (.t 109) true, none⟩])
  (.ret))))))))), [.t 6]⟩
theorem row11 : RowOk Try.prog 11 C11 := ⟨Try.f11, ⟨[], [], [], []⟩, lvOf [(0, [7, 8, 9, 11, 12, 13, 14], 2)], Try.func11, by kernel_rfl, by kernel_rfl⟩
def B12_0 : C := .seq (.seq (.reg [⟨some 19, .mv (.t 6) false, none⟩, ⟨some 20, .bin .lss (.t 19) (.c (.int .i64 5)), none⟩])
  (.cond (.t 20) (.skip)
  (.exit 0)))
  (.seq (.block 1 (.seq (.reg [⟨some 23, .mv (.t 6) false, none⟩, ⟨some 24, .mv (.t 1) false, none⟩, ⟨some 25, .bin .rem (.t 24) (.c (.int .u8 3)), none⟩, ⟨some 26, .conv .i64 (.t 25), none⟩, ⟨some 27, .bin .add (.t 23) (.t 26), none⟩, ⟨some 28, .bin .rem (.t 27) (.c (.int .i64 3)), none⟩, ⟨some 29, .bin .add (.c (.int .i64 1)) (.t 28), none⟩, ⟨some 7, .mv (.t 29) true, none⟩])
  (.reg [⟨some 30, .fa 3 (.t 5), none⟩, ⟨some 31, .load 1 false (.t 30) true, none⟩, ⟨some 32, .mv (.t 6) false, none⟩, ⟨some 33, .bin .add (.c (.int .i64 97)) (.t 32), none⟩, ⟨some 34, .conv .u8 (.t 33), none⟩, ⟨some 35, .bsl 1 1 [(.int .u8 0)] [(0, 1, (.t 34))] false, none⟩, ⟨some 36, .bstr (.t 35), none⟩, ⟨some 37, .mv (.t 6) false, none⟩, ⟨some 38, .bin .mul (.c (.int .i64 50)) (.t 37), none⟩, ⟨some 39, .bin .add (.c (.int .i64 200)) (.t 38), none⟩, ⟨some 40, .mv (.t 6) false, none⟩, ⟨some 41, .bin .mul (.c (.int .i64 50)) (.t 40), none⟩, ⟨some 42, .bin .add (.c (.int .i64 200)) (.t 41), none⟩, ⟨some 43, .mv (.t 6) false, none⟩, ⟨some 44, .bin .add (.t 43) (.c (.int .i64 1)), none⟩, ⟨some 45, .mv (.t 6) false, none⟩, ⟨some 46, .bin .rem (.t 45) (.c (.int .i64 2)), none⟩, ⟨some 47, .mv (.t 6) false, none⟩, ⟨some 48, .bin .add (.c (.int .i64 2)) (.t 47), none⟩, ⟨some 49, .build [(.int .i64 0), (.int .i64 0), (.int .i64 0)] [(0, 1, (.c (.int .i64 1))), (1, 1, (.t 48))], none⟩, ⟨some 50, .mv (.t 7) false, none⟩, ⟨some 51, .mv (.t 6) false, none⟩, ⟨some 52, .bin .rem (.t 51) (.c (.int .i64 2)), none⟩, ⟨some 53, .build [(.int .i64 0), (.int .i64 0), (.int .i64 0)] [(0, 1, (.c (.int .i64 3))), (1, 1, (.t 50)), (2, 1, (.t 52))], none⟩, ⟨some 54, .build [(.int .i64 0), (.int .i64 0), (.int .i64 0)] [(0, 1, (.c (.int .i64 2))), (1, 1, (.c (.int .i64 3)))], none⟩, ⟨some 55, .mv (.t 6) false, none⟩, ⟨some 56, .bin .rem (.t 55) (.c (.int .i64 2)), none⟩, ⟨some 57, .bin .sub (.c (.int .i64 1)) (.t 56), none⟩, ⟨some 58, .build [(.int .i64 0), (.int .i64 0), (.int .i64 0)] [(0, 1, (.c (.int .i64 3))), (1, 1, (.c (.int .i64 1))), (2, 1, (.t 57))], none⟩, ⟨some 59, .bsl 3 4 [(.int .i64 0), (.int .i64 0), (.int .i64 0), (.int .i64 0), (.int .i64 0), (.int .i64 0), (.int .i64 0), (.int .i64 0), (.int .i64 0), (.int .i64 0), (.int .i64 0), (.int .i64 0)] [(0, 3, (.t 49)), (3, 3, (.t 53)), (6, 3, (.t 54)), (9, 3, (.t 58))] false, none⟩, ⟨some 60, .build [(.string ⟨#[]⟩), (.int .i64 0), (.int .i64 0), (.int .i64 0), (.int .i64 0), (.slice none 0 0)] [(0, 1, (.t 36)), (1, 1, (.t 39)), (2, 1, (.t 42)), (3, 1, (.t 44)), (4, 1, (.t 46)), (5, 1, (.t 59))], none⟩, ⟨some 61, .bsl 6 1 [(.string ⟨#[]⟩), (.int .i64 0), (.int .i64 0), (.int .i64 0), (.int .i64 0), (.slice none 0 0)] [(0, 6, (.t 60))] false, none⟩, ⟨some 62, .app 6 72 (.t 31) (.t 61) false, none⟩, ⟨some 63, .fa 3 (.t 5), none⟩, ⟨none, .store 1 (.t 63) (.t 62), none⟩])))
  (.reg [⟨some 21, .mv (.t 6) false, none⟩, ⟨some 22, .bin .add (.t 21) (.c (.int .i64 1)), none⟩, ⟨some 6, .mv (.t 22) true, none⟩]))
def L12_0 : C := .loop [1, 5, 6] 1 B12_0
theorem go12_0 (s : Env × Bx) (nb) : evL tab ext nb L12_0 s = (loopIn nb [1, 5, 6] 1 s).bind fun s0 => (evL tab ext nb B12_0 s0).bind (seqG tab ext nb L12_0) := eL_loop _ _ _
/-- swingbridge/swingbridgelaw18.AdmitReference -/
def C12 : CFun := ⟨87, 2, .seq (.reg [⟨some 4, .mv (.c (.bool false)) true, none⟩])
  (.seq (.seq (.reg [⟨some 10, .call 21 [] false, none⟩, ⟨some 11, .un .not (.t 10), none⟩])
  (.cond (.t 11) (.seq (.reg [⟨some 4, .mv (.c (.bool false)) true, none⟩])
  (.ret))
  (.skip)))
  (.seq (.reg [⟨some 12, .mv (.t 0) false, none⟩, ⟨some 13, .bin .rem (.t 12) (.c (.int .u8 3)), none⟩, ⟨some 14, .conv .i64 (.t 13), none⟩, ⟨some 15, .bin .add (.t 14) (.c (.int .i64 1)), none⟩, ⟨some 16, .bsl 1 2 [(.int .i64 0), (.int .i64 0)] [(0, 1, (.c (.int .i64 1))), (1, 1, (.c (.int .i64 2)))] false, none⟩, ⟨some 17, .bsl 1 2 [(.int .i64 0), (.int .i64 0)] [(0, 1, (.c (.int .i64 0))), (1, 1, (.c (.int .i64 1)))] false, none⟩, ⟨some 18, .build [(.int .i64 0), (.slice none 0 0), (.slice none 0 0), (.slice none 0 0)] [(0, 1, (.t 15)), (1, 1, (.t 16)), (2, 1, (.t 17))], none⟩, ⟨some 5, .alloc [(.int .i64 0), (.slice none 0 0), (.slice none 0 0), (.slice none 0 0)], none⟩, ⟨none, .store 4 (.t 5) (.t 18), none⟩])
  (.seq (.seq (.reg [⟨some 6, .mv (.c (.int .i64 0)) true, none⟩])
  (.block 0 (L12_0)))
  (.seq (.reg [⟨some 65, .load 4 true (.t 5) false, none⟩, ⟨some 66, .call 23 [(.t 65)] false, none⟩, ⟨some 64, .mv (.t 66) false, none⟩, ⟨some 67, .ext (.t 64) 0, none⟩, ⟨some 68, .ext (.t 64) 1, none⟩, ⟨some 8, .alloc [(.bool false), (.slice none 0 0), (.slice none 0 0)], none⟩, ⟨none, .store 3 (.t 8) (.t 67), none⟩, ⟨some 9, .mv (.t 68) true, none⟩])
  (.seq (.reg [⟨some 69, .mv (.t 9) false, none⟩, ⟨some 70, .bin .eql (.t 69) (.c (.int .i64 0)), none⟩, ⟨some 71, .mv (.t 70) false, none⟩, ⟨some 72, .fa 0 (.t 8), some (71, true)⟩, ⟨some 73, .load 1 false (.t 72) false, some (71, true)⟩, ⟨some 74, .pick (.t 71) (.t 73) (.c (.bool false)), none⟩, ⟨some 75, .mv (.t 74) false, none⟩, ⟨some 76, .fa 1 (.t 8), some (75, true)⟩, ⟨some 77, .load 1 false (.t 76) false, some (75, true)⟩, ⟨some 78, .len (.t 77), some (75, true)⟩, ⟨some 79, .bin .eql (.t 78) (.c (.int .i64 5)), some (75, true)⟩, ⟨some 80, .pick (.t 75) (.t 79) (.c (.bool false)), none⟩, ⟨some 81, .mv (.t 80) false, none⟩, ⟨some 82, .load 4 true (.t 5) false, some (81, true)⟩, ⟨some 83, .fa 1 (.t 8), some (81, true)⟩, ⟨some 84, .load 1 false (.t 83) false, some (81, true)⟩, ⟨some 85, .call 25 [(.t 82), (.t 84)] false, some (81, true)⟩, ⟨some 86, .pick (.t 81) (.t 85) (.c (.bool false)), none⟩, ⟨some 4, .mv (.t 86) true, none⟩])
  (.ret)))))), [.t 4]⟩
theorem row12 : RowOk Try.prog 12 C12 := ⟨Try.f12, ⟨[], [], [], []⟩, lvOf [(0, [1, 5, 6], 1)], Try.func12, by kernel_rfl, by kernel_rfl⟩
/-- swingbridge/swingbridgelaw17.known -/
def C13 : CFun := ⟨54, 0, .seq (.reg [⟨some 0, .mv (.c (.bool false)) true, none⟩])
  (.seq (.reg [⟨some 8, .call 20 [(.c (.int .i64 1)), (.c (.int .i64 1)), (.c (.int .i64 3)), (.c (.int .i64 5)), (.c (.int .i64 4))] false, none⟩, ⟨some 1, .alloc [(.int .i64 0), (.slice none 0 0), (.slice none 0 0), (.slice none 0 0)], none⟩, ⟨none, .store 4 (.t 1) (.t 8), none⟩])
  (.seq (.reg [⟨some 10, .load 4 true (.t 1) false, none⟩, ⟨some 11, .bsl 1 2 [(.int .i64 0), (.int .i64 0)] [(0, 1, (.c (.int .i64 20))), (1, 1, (.c (.int .i64 40)))] false, none⟩, ⟨some 12, .call 17 [(.t 10), (.t 11), (.c (.int .i64 0))] false, none⟩, ⟨some 9, .mv (.t 12) false, none⟩, ⟨some 13, .ext (.t 9) 0, none⟩, ⟨some 14, .ext (.t 9) 1, none⟩, ⟨some 2, .mv (.t 13) true, none⟩, ⟨some 3, .mv (.t 14) true, none⟩])
  (.seq (.reg [⟨some 16, .load 4 true (.t 1) false, none⟩, ⟨some 17, .bsl 1 2 [(.int .i64 0), (.int .i64 0)] [(0, 1, (.c (.int .i64 20))), (1, 1, (.c (.int .i64 40)))] false, none⟩, ⟨some 18, .call 16 [(.t 16), (.t 17), (.c (.int .i64 1))] false, none⟩, ⟨some 15, .mv (.t 18) false, none⟩, ⟨some 19, .ext (.t 15) 0, none⟩, ⟨some 20, .ext (.t 15) 1, none⟩, ⟨some 4, .mv (.t 19) true, none⟩, ⟨some 5, .mv (.t 20) true, none⟩])
  (.seq (.reg [⟨some 22, .load 4 true (.t 1) false, none⟩, ⟨some 23, .call 17 [(.t 22), (.c (.slice none 0 0)), (.c (.int .i64 0))] false, none⟩, ⟨some 21, .mv (.t 23) false, none⟩, ⟨some 24, .ext (.t 21) 0, none⟩, ⟨some 25, .ext (.t 21) 1, none⟩, ⟨some 6, .mv (.t 24) true, none⟩, ⟨some 7, .mv (.t 25) true, none⟩])
  (.seq (.reg [⟨some 26, .mv (.t 3) false, none⟩, ⟨some 27, .mv (.t 26) false, none⟩, ⟨some 28, .mv (.t 2) false, some (27, true)⟩, ⟨some 29, .bin .eql (.t 28) (.c (.int .i64 8)), some (27, true)⟩, ⟨some 30, .pick (.t 27) (.t 29) (.c (.bool false)), none⟩, ⟨some 31, .mv (.t 30) false, none⟩, ⟨some 32, .load 4 true (.t 1) false, some (31, true)⟩, ⟨some 33, .bsl 1 2 [(.int .i64 0), (.int .i64 0)] [(0, 1, (.c (.int .i64 20))), (1, 1, (.c (.int .i64 40)))] false, some (31, true)⟩, ⟨some 34, .call 18 [(.t 32), (.t 33), (.c (.int .i64 0)), (.c (.int .i64 20))] false, some (31, true)⟩, ⟨some 35, .bin .eql (.t 34) (.c (.int .i64 4)), some (31, true)⟩, ⟨some 36, .pick (.t 31) (.t 35) (.c (.bool false)), none⟩, ⟨some 37, .mv (.t 36) false, none⟩, ⟨some 38, .load 4 true (.t 1) false, some (37, true)⟩, ⟨some 39, .bsl 1 2 [(.int .i64 0), (.int .i64 0)] [(0, 1, (.c (.int .i64 20))), (1, 1, (.c (.int .i64 40)))] false, some (37, true)⟩, ⟨some 40, .call 18 [(.t 38), (.t 39), (.c (.int .i64 1)), (.c (.int .i64 40))] false, some (37, true)⟩, ⟨some 41, .bin .eql (.t 40) (.c (.int .i64 4)), some (37, true)⟩, ⟨some 42, .pick (.t 37) (.t 41) (.c (.bool false)), none⟩, ⟨some 43, .mv (.t 42) false, none⟩, ⟨some 44, .mv (.t 5) false, some (43, true)⟩, ⟨some 45, .pick (.t 43) (.t 44) (.c (.bool false)), none⟩, ⟨some 46, .mv (.t 45) false, none⟩, ⟨some 47, .mv (.t 4) false, some (46, true)⟩, ⟨some 48, .bin .eql (.t 47) (.c (.int .i64 16)), some (46, true)⟩, ⟨some 49, .pick (.t 46) (.t 48) (.c (.bool false)), none⟩, ⟨some 50, .mv (.t 49) false, none⟩, ⟨some 51, .mv (.t 7) false, some (50, true)⟩, ⟨some 52, .un .not (.t 51), some (50, true)⟩, ⟨some 53, .pick (.t 50) (.t 52) (.c (.bool false)), none⟩, ⟨some 0, .mv (.t 53) true, none⟩])
  (.ret)))))), [.t 0]⟩
theorem row13 : RowOk Try.prog 13 C13 := ⟨Try.f13, ⟨[], [], [], []⟩, lvOf [], Try.func13, by kernel_rfl, by kernel_rfl⟩
def B14_0 : C := .seq (.seq (.reg [⟨some 20, .mv (.t 3) false, none⟩, ⟨some 21, .fa 3 (.t 1), none⟩, ⟨some 22, .load 1 false (.t 21) false, none⟩, ⟨some 23, .len (.t 22), none⟩, ⟨some 24, .bin .lss (.t 20) (.t 23), none⟩])
  (.cond (.t 24) (.skip)
  (.exit 0)))
  (.seq (.block 1 (.seq (.reg [⟨some 27, .fa 3 (.t 1), none⟩, ⟨some 28, .load 1 false (.t 27) false, none⟩, ⟨some 29, .mv (.t 3) false, none⟩, ⟨some 30, .ia 6 (.t 28) (.t 29), none⟩, ⟨some 31, .fa 0 (.t 30), none⟩, ⟨some 32, .load 1 false (.t 31) false, none⟩, ⟨some 33, .slen (.t 32), none⟩, ⟨some 34, .bin .gtr (.t 33) (.c (.int .i64 20)), none⟩, ⟨some 35, .mv (.t 34) false, none⟩, ⟨some 36, .fa 3 (.t 1), some (35, false)⟩, ⟨some 37, .load 1 false (.t 36) false, some (35, false)⟩, ⟨some 38, .mv (.t 3) false, some (35, false)⟩, ⟨some 39, .ia 6 (.t 37) (.t 38), some (35, false)⟩, ⟨some 40, .fa 5 (.t 39), some (35, false)⟩, ⟨some 41, .load 1 false (.t 40) false, some (35, false)⟩, ⟨some 42, .len (.t 41), some (35, false)⟩, ⟨some 43, .bin .gtr (.t 42) (.c (.int .i64 10)), some (35, false)⟩, ⟨some 44, .pick (.t 35) (.c (.bool true)) (.t 43), none⟩])
  (.cond (.t 44) (.seq (.reg [⟨some 2, .mv (.c (.bool false)) true, none⟩])
  (.ret))
  (.skip))))
  (.reg [⟨some 25, .mv (.t 3) false, none⟩, ⟨some 26, .bin .add (.t 25) (.c (.int .i64 1)), none⟩, ⟨some 3, .mv (.t 26) true, none⟩]))
def L14_0 : C := .loop [1, 3] 1 B14_0
theorem go14_0 (s : Env × Bx) (nb) : evL tab ext nb L14_0 s = (loopIn nb [1, 3] 1 s).bind fun s0 => (evL tab ext nb B14_0 s0).bind (seqG tab ext nb L14_0) := eL_loop _ _ _
/-- swingbridge/swingbridgelaw17.few -/
def C14 : CFun := ⟨45, 1, .seq (.reg [⟨some 1, .box (.t 0), none⟩, ⟨some 2, .mv (.c (.bool false)) true, none⟩])
  (.seq (.seq (.reg [⟨some 4, .fa 1 (.t 1), none⟩, ⟨some 5, .load 1 false (.t 4) false, none⟩, ⟨some 6, .len (.t 5), none⟩, ⟨some 7, .bin .gtr (.t 6) (.c (.int .i64 8)), none⟩, ⟨some 8, .mv (.t 7) false, none⟩, ⟨some 9, .fa 2 (.t 1), some (8, false)⟩, ⟨some 10, .load 1 false (.t 9) false, some (8, false)⟩, ⟨some 11, .len (.t 10), some (8, false)⟩, ⟨some 12, .bin .gtr (.t 11) (.c (.int .i64 10)), some (8, false)⟩, ⟨some 13, .pick (.t 8) (.c (.bool true)) (.t 12), none⟩, ⟨some 14, .mv (.t 13) false, none⟩, ⟨some 15, .fa 3 (.t 1), some (14, false)⟩, ⟨some 16, .load 1 false (.t 15) false, some (14, false)⟩, ⟨some 17, .len (.t 16), some (14, false)⟩, ⟨some 18, .bin .gtr (.t 17) (.c (.int .i64 9)), some (14, false)⟩, ⟨some 19, .pick (.t 14) (.c (.bool true)) (.t 18), none⟩])
  (.cond (.t 19) (.seq (.reg [⟨some 2, .mv (.c (.bool false)) true, none⟩])
  (.ret))
  (.skip)))
  (.seq (.seq (.reg [⟨some 3, .mv (.c (.int .i64 0)) true, none⟩])
  (.block 0 (L14_0)))
  (.seq (.reg [⟨some 2, .mv (.c (.bool true)) true, none⟩])
  (.ret)))), [.t 2]⟩
theorem row14 : RowOk Try.prog 14 C14 := ⟨Try.f14, ⟨[], [], [], []⟩, lvOf [(0, [1, 3], 1)], Try.func14, by kernel_rfl, by kernel_rfl⟩
/-- swingbridge/swingbridgeref11.There -/
def C15 : CFun := ⟨18, 2, .seq (.reg [⟨some 2, .box (.t 0), none⟩, ⟨some 4, .mv (.c (.bool false)) true, none⟩])
  (.seq (.reg [⟨some 5, .load 4 true (.t 2) false, none⟩, ⟨some 6, .call 24 [(.t 5)] false, none⟩, ⟨some 7, .mv (.t 6) false, none⟩, ⟨some 8, .mv (.t 1) false, some (7, true)⟩, ⟨some 9, .bin .geq (.t 8) (.c (.int .i64 0)), some (7, true)⟩, ⟨some 10, .pick (.t 7) (.t 9) (.c (.bool false)), none⟩, ⟨some 11, .mv (.t 10) false, none⟩, ⟨some 12, .mv (.t 1) false, some (11, true)⟩, ⟨some 13, .fa 3 (.t 2), some (11, true)⟩, ⟨some 14, .load 1 false (.t 13) false, some (11, true)⟩, ⟨some 15, .len (.t 14), some (11, true)⟩, ⟨some 16, .bin .lss (.t 12) (.t 15), some (11, true)⟩, ⟨some 17, .pick (.t 11) (.t 16) (.c (.bool false)), none⟩, ⟨some 4, .mv (.t 17) true, none⟩])
  (.ret)), [.t 4]⟩
theorem row15 : RowOk Try.prog 15 C15 := ⟨Try.f15, ⟨[], [], [], []⟩, lvOf [], Try.func15, by kernel_rfl, by kernel_rfl⟩
/-- swingbridge/bound.Next -/
def C16 : CFun := ⟨37, 3, .seq (.reg [⟨some 3, .box (.t 0), none⟩, ⟨some 6, .mv (.c (.int .i64 0)) true, none⟩, ⟨some 7, .mv (.c (.bool false)) true, none⟩])
  (.seq (.reg [⟨some 11, .load 4 true (.t 3) false, none⟩, ⟨some 12, .mv (.t 1) false, none⟩, ⟨some 13, .mv (.t 2) false, none⟩, ⟨some 14, .call 17 [(.t 11), (.t 12), (.t 13)] false, none⟩, ⟨some 10, .mv (.t 14) false, none⟩, ⟨some 15, .ext (.t 10) 0, none⟩, ⟨some 16, .ext (.t 10) 1, none⟩, ⟨some 8, .mv (.t 15) true, none⟩, ⟨some 9, .mv (.t 16) true, none⟩])
  (.seq (.seq (.reg [⟨some 17, .mv (.t 9) false, none⟩, ⟨some 18, .un .not (.t 17), none⟩, ⟨some 19, .mv (.t 18) false, none⟩, ⟨some 20, .mv (.t 1) false, some (19, false)⟩, ⟨some 21, .len (.t 20), some (19, false)⟩, ⟨some 22, .fa 3 (.t 3), some (19, false)⟩, ⟨some 23, .load 1 false (.t 22) false, some (19, false)⟩, ⟨some 24, .len (.t 23), some (19, false)⟩, ⟨some 25, .bin .neq (.t 21) (.t 24), some (19, false)⟩, ⟨some 26, .pick (.t 19) (.c (.bool true)) (.t 25), none⟩])
  (.cond (.t 26) (.seq (.reg [⟨some 6, .mv (.c (.int .i64 0)) true, none⟩, ⟨some 7, .mv (.c (.bool false)) true, none⟩])
  (.ret))
  (.skip)))
  (.seq (.reg [⟨some 27, .mv (.t 8) false, none⟩, ⟨some 28, .load 4 true (.t 3) false, none⟩, ⟨some 29, .mv (.t 1) false, none⟩, ⟨some 30, .mv (.t 2) false, none⟩, ⟨some 31, .mv (.t 1) false, none⟩, ⟨some 32, .mv (.t 2) false, none⟩, ⟨some 33, .ia 1 (.t 31) (.t 32), none⟩, ⟨some 34, .load 1 false (.t 33) false, none⟩, ⟨some 35, .call 18 [(.t 28), (.t 29), (.t 30), (.t 34)] false, none⟩, ⟨some 36, .bin .add (.t 27) (.t 35), none⟩, ⟨some 6, .mv (.t 36) true, none⟩, ⟨some 7, .mv (.c (.bool true)) true, none⟩])
  (.ret)))), [.t 6, .t 7]⟩
theorem row16 : RowOk Try.prog 16 C16 := ⟨Try.f16, ⟨[], [], [], []⟩, lvOf [], Try.func16, by kernel_rfl, by kernel_rfl⟩
/-- swingbridge/bound.Own -/
def C17 : CFun := ⟨34, 3, .seq (.reg [⟨some 3, .box (.t 0), none⟩, ⟨some 6, .mv (.c (.int .i64 0)) true, none⟩, ⟨some 7, .mv (.c (.bool false)) true, none⟩])
  (.seq (.reg [⟨some 11, .load 4 true (.t 3) false, none⟩, ⟨some 12, .mv (.t 1) false, none⟩, ⟨some 13, .mv (.t 2) false, none⟩, ⟨some 14, .call 29 [(.t 11), (.t 12), (.t 13)] false, none⟩, ⟨some 10, .mv (.t 14) false, none⟩, ⟨some 15, .ext (.t 10) 0, none⟩, ⟨some 16, .ext (.t 10) 1, none⟩, ⟨some 8, .mv (.t 15) true, none⟩, ⟨some 9, .mv (.t 16) true, none⟩])
  (.seq (.seq (.reg [⟨some 17, .mv (.t 9) false, none⟩, ⟨some 18, .un .not (.t 17), none⟩])
  (.cond (.t 18) (.seq (.reg [⟨some 6, .mv (.c (.int .i64 0)) true, none⟩, ⟨some 7, .mv (.c (.bool false)) true, none⟩])
  (.ret))
  (.skip)))
  (.seq (.reg [⟨some 19, .fa 3 (.t 3), none⟩, ⟨some 20, .load 1 false (.t 19) false, none⟩, ⟨some 21, .mv (.t 2) false, none⟩, ⟨some 22, .ia 6 (.t 20) (.t 21), none⟩, ⟨some 23, .load 6 true (.t 22) false, none⟩, ⟨some 24, .call 30 [(.t 23)] false, none⟩, ⟨some 25, .fa 3 (.t 3), none⟩, ⟨some 26, .load 1 false (.t 25) false, none⟩, ⟨some 27, .mv (.t 2) false, none⟩, ⟨some 28, .ia 6 (.t 26) (.t 27), none⟩, ⟨some 29, .load 6 true (.t 28) false, none⟩, ⟨some 30, .call 31 [(.t 29)] false, none⟩, ⟨some 31, .bin .add (.t 24) (.t 30), none⟩, ⟨some 32, .mv (.t 8) false, none⟩, ⟨some 33, .bin .add (.t 31) (.t 32), none⟩, ⟨some 6, .mv (.t 33) true, none⟩, ⟨some 7, .mv (.c (.bool true)) true, none⟩])
  (.ret)))), [.t 6, .t 7]⟩
theorem row17 : RowOk Try.prog 17 C17 := ⟨Try.f17, ⟨[], [], [], []⟩, lvOf [], Try.func17, by kernel_rfl, by kernel_rfl⟩
def B18_0 : C := .seq (.reg [⟨some 50, .bin .lss (.t 49) (.t 48), none⟩])
  (.seq (.cond (.t 50) (.skip)
  (.exit 0))
  (.seq (.block 1 (.seq (.reg [⟨some 51, .mv (.t 49) false, none⟩, ⟨some 52, .ia 6 (.t 47) (.t 49), none⟩, ⟨some 53, .load 6 true (.t 52) false, none⟩, ⟨some 14, .alloc [(.string ⟨#[]⟩), (.int .i64 0), (.int .i64 0), (.int .i64 0), (.int .i64 0), (.slice none 0 0)], none⟩, ⟨some 13, .mv (.t 51) true, none⟩, ⟨none, .store 6 (.t 14) (.t 53), none⟩])
  (.seq (.seq (.reg [⟨some 54, .mv (.t 13) false, none⟩, ⟨some 55, .mv (.t 2) false, none⟩, ⟨some 56, .bin .eql (.t 54) (.t 55), none⟩])
  (.cond (.t 56) (.exit 1)
  (.skip)))
  (.reg [⟨some 57, .mv (.t 12) false, none⟩, ⟨some 58, .mv (.t 3) false, none⟩, ⟨some 59, .mv (.t 1) false, none⟩, ⟨some 60, .mv (.t 13) false, none⟩, ⟨some 61, .ia 1 (.t 59) (.t 60), none⟩, ⟨some 62, .load 1 false (.t 61) false, none⟩, ⟨some 63, .fa 1 (.t 14), none⟩, ⟨some 64, .load 1 false (.t 63) false, none⟩, ⟨some 65, .load 4 true (.t 4) false, none⟩, ⟨some 66, .mv (.t 2) false, none⟩, ⟨some 67, .mv (.t 13) false, none⟩, ⟨some 68, .call 36 [(.t 65), (.t 66), (.t 67)] false, none⟩, ⟨some 69, .call 35 [(.t 58), (.t 62), (.t 64), (.t 68)] false, none⟩, ⟨some 70, .bin .add (.t 57) (.t 69), none⟩, ⟨some 12, .mv (.t 70) true, none⟩]))))
  (.reg [⟨some 71, .bin .add (.t 49) (.c (.int .i64 1)), none⟩, ⟨some 49, .mv (.t 71) false, none⟩])))
def L18_0 : C := .loop [1, 2, 3, 4, 12, 47, 48, 49] 1 B18_0
theorem go18_0 (s : Env × Bx) (nb) : evL tab ext nb L18_0 s = (loopIn nb [1, 2, 3, 4, 12, 47, 48, 49] 1 s).bind fun s0 => (evL tab ext nb B18_0 s0).bind (seqG tab ext nb L18_0) := eL_loop _ _ _
/-- swingbridge/bound.Others -/
def C18 : CFun := ⟨84, 4, .seq (.reg [⟨some 4, .box (.t 0), none⟩, ⟨some 8, .mv (.c (.int .i64 0)) true, none⟩])
  (.scope (.seq (.reg [⟨some 16, .load 4 true (.t 4) false, none⟩, ⟨some 17, .call 32 [(.t 16)] false, none⟩, ⟨some 15, .mv (.t 17) false, none⟩, ⟨some 18, .ext (.t 15) 0, none⟩, ⟨some 19, .ext (.t 15) 1, none⟩, ⟨some 9, .mv (.t 18) true, none⟩, ⟨some 10, .mv (.t 19) true, none⟩])
  (.seq (.reg [⟨some 11, .mv (.f 33) true, none⟩])
  (.seq (.seq (.reg [⟨some 20, .mv (.t 10) false, none⟩, ⟨some 21, .bin .neq (.t 20) (.c (.int .i64 0)), none⟩, ⟨some 22, .mv (.t 21) false, none⟩, ⟨some 23, .mv (.t 2) false, some (22, false)⟩, ⟨some 24, .bin .lss (.t 23) (.c (.int .i64 0)), some (22, false)⟩, ⟨some 25, .pick (.t 22) (.c (.bool true)) (.t 24), none⟩, ⟨some 26, .mv (.t 25) false, none⟩, ⟨some 27, .mv (.t 2) false, some (26, false)⟩, ⟨some 28, .fa 3 (.t 4), some (26, false)⟩, ⟨some 29, .load 1 false (.t 28) false, some (26, false)⟩, ⟨some 30, .len (.t 29), some (26, false)⟩, ⟨some 31, .bin .geq (.t 27) (.t 30), some (26, false)⟩, ⟨some 32, .pick (.t 26) (.c (.bool true)) (.t 31), none⟩, ⟨some 33, .mv (.t 32) false, none⟩, ⟨some 34, .mv (.t 1) false, some (33, false)⟩, ⟨some 35, .len (.t 34), some (33, false)⟩, ⟨some 36, .fa 3 (.t 4), some (33, false)⟩, ⟨some 37, .load 1 false (.t 36) false, some (33, false)⟩, ⟨some 38, .len (.t 37), some (33, false)⟩, ⟨some 39, .bin .neq (.t 35) (.t 38), some (33, false)⟩, ⟨some 40, .pick (.t 33) (.c (.bool true)) (.t 39), none⟩, ⟨some 41, .mv (.t 40) false, none⟩, ⟨some 42, .mv (.t 1) false, some (41, false)⟩, ⟨some 43, .mv (.t 11) false, some (41, false)⟩, ⟨some 44, .calli 34 [(.t 42), (.t 43)], some (41, false)⟩, ⟨some 45, .pick (.t 41) (.c (.bool true)) (.t 44), none⟩])
  (.cond (.t 45) (.seq (.reg [⟨some 8, .mv (.c (.int .i64 0)) true, none⟩])
  (.ret))
  (.skip)))
  (.seq (.reg [⟨some 12, .mv (.c (.int .i64 0)) true, none⟩])
  (.seq (.skip)
  (.seq (.seq (.reg [⟨some 46, .fa 3 (.t 4), none⟩, ⟨some 47, .load 1 false (.t 46) false, none⟩, ⟨some 48, .len (.t 47), none⟩, ⟨some 49, .mv (.c (.int .i64 0)) false, none⟩])
  (.block 0 (L18_0)))
  (.seq (.reg [⟨some 72, .mv (.t 12) false, none⟩, ⟨some 73, .fa 1 (.t 4), none⟩, ⟨some 74, .load 1 false (.t 73) false, none⟩, ⟨some 75, .fa 3 (.t 4), none⟩, ⟨some 76, .load 1 false (.t 75) false, none⟩, ⟨some 77, .mv (.t 2) false, none⟩, ⟨some 78, .ia 6 (.t 76) (.t 77), none⟩, ⟨some 79, .fa 4 (.t 78), none⟩, ⟨some 80, .load 1 false (.t 79) false, none⟩, ⟨some 81, .ia 1 (.t 74) (.t 80), none⟩, ⟨some 82, .load 1 false (.t 81) false, none⟩, ⟨some 83, .bin .quo (.t 72) (.t 82), none⟩, ⟨some 8, .mv (.t 83) true, none⟩])
  (.ret))))))))), [.t 8]⟩
theorem row18 : RowOk Try.prog 18 C18 := ⟨Try.f18, ⟨[], [], [], []⟩, lvOf [(0, [1, 2, 3, 4, 12, 47, 48, 49], 1)], Try.func18, by kernel_rfl, by kernel_rfl⟩
/-- swingbridge/swingbridgelaw17.one -/
def C19 : CFun := ⟨12, 2, .seq (.reg [⟨some 4, .alloc [(.int .i64 0), (.slice none 0 0), (.slice none 0 0), (.slice none 0 0)], none⟩])
  (.seq (.reg [⟨some 5, .mv (.t 0) false, none⟩, ⟨some 6, .bsl 1 1 [(.int .i64 0)] [(0, 1, (.c (.int .i64 1)))] false, none⟩, ⟨some 7, .bsl 1 1 [(.int .i64 0)] [(0, 1, (.c (.int .i64 0)))] false, none⟩, ⟨some 8, .mv (.t 1) false, none⟩, ⟨some 9, .build [(.string ⟨#[]⟩), (.int .i64 0), (.int .i64 0), (.int .i64 0), (.int .i64 0), (.slice none 0 0)] [(0, 1, (.c (.string ⟨#[97]⟩))), (1, 1, (.c (.int .i64 100))), (2, 1, (.c (.int .i64 100))), (3, 1, (.c (.int .i64 1))), (5, 1, (.t 8))], none⟩, ⟨some 10, .bsl 6 1 [(.string ⟨#[]⟩), (.int .i64 0), (.int .i64 0), (.int .i64 0), (.int .i64 0), (.slice none 0 0)] [(0, 6, (.t 9))] false, none⟩, ⟨some 11, .build [(.int .i64 0), (.slice none 0 0), (.slice none 0 0), (.slice none 0 0)] [(0, 1, (.t 5)), (1, 1, (.t 6)), (2, 1, (.t 7)), (3, 1, (.t 10))], none⟩, ⟨none, .store 4 (.t 4) (.t 11), none⟩])
  (.ret)), [.cell 4 4]⟩
theorem row19 : RowOk Try.prog 19 C19 := ⟨Try.f19, ⟨[], [], [], []⟩, lvOf [], Try.func19, by kernel_rfl, by kernel_rfl⟩
/-- swingbridge/swingbridgelaw17.two -/
def C20 : CFun := ⟨31, 5, .seq (.reg [⟨some 10, .alloc [(.int .i64 0), (.slice none 0 0), (.slice none 0 0), (.slice none 0 0)], none⟩])
  (.seq (.reg [⟨some 12, .mv (.t 0) false, none⟩, ⟨some 13, .mv (.t 1) false, none⟩, ⟨some 14, .build [(.int .i64 0), (.int .i64 0), (.int .i64 0)] [(0, 1, (.c (.int .i64 1))), (1, 1, (.t 13))], none⟩, ⟨some 15, .mv (.t 2) false, none⟩, ⟨some 16, .build [(.int .i64 0), (.int .i64 0), (.int .i64 0)] [(0, 1, (.c (.int .i64 3))), (1, 1, (.t 15))], none⟩, ⟨some 17, .bsl 3 2 [(.int .i64 0), (.int .i64 0), (.int .i64 0), (.int .i64 0), (.int .i64 0), (.int .i64 0)] [(0, 3, (.t 14)), (3, 3, (.t 16))] false, none⟩, ⟨some 18, .call 19 [(.t 12), (.t 17)] true, none⟩, ⟨some 11, .alloc [(.int .i64 0), (.slice none 0 0), (.slice none 0 0), (.slice none 0 0)], none⟩, ⟨none, .store 4 (.t 11) (.t 18), none⟩])
  (.seq (.reg [⟨some 19, .fa 3 (.t 11), none⟩, ⟨some 20, .load 1 false (.t 19) true, none⟩, ⟨some 21, .mv (.t 3) false, none⟩, ⟨some 22, .build [(.int .i64 0), (.int .i64 0), (.int .i64 0)] [(0, 1, (.c (.int .i64 1))), (1, 1, (.t 21))], none⟩, ⟨some 23, .mv (.t 4) false, none⟩, ⟨some 24, .build [(.int .i64 0), (.int .i64 0), (.int .i64 0)] [(0, 1, (.c (.int .i64 3))), (1, 1, (.t 23))], none⟩, ⟨some 25, .bsl 3 2 [(.int .i64 0), (.int .i64 0), (.int .i64 0), (.int .i64 0), (.int .i64 0), (.int .i64 0)] [(0, 3, (.t 22)), (3, 3, (.t 24))] false, none⟩, ⟨some 26, .build [(.string ⟨#[]⟩), (.int .i64 0), (.int .i64 0), (.int .i64 0), (.int .i64 0), (.slice none 0 0)] [(0, 1, (.c (.string ⟨#[98]⟩))), (1, 1, (.c (.int .i64 200))), (2, 1, (.c (.int .i64 200))), (3, 1, (.c (.int .i64 2))), (5, 1, (.t 25))], none⟩, ⟨some 27, .bsl 6 1 [(.string ⟨#[]⟩), (.int .i64 0), (.int .i64 0), (.int .i64 0), (.int .i64 0), (.slice none 0 0)] [(0, 6, (.t 26))] false, none⟩, ⟨some 28, .app 6 72 (.t 20) (.t 27) false, none⟩, ⟨some 29, .fa 3 (.t 11), none⟩, ⟨none, .store 1 (.t 29) (.t 28), none⟩])
  (.seq (.reg [⟨some 30, .load 4 true (.t 11) false, none⟩, ⟨none, .store 4 (.t 10) (.t 30), none⟩])
  (.ret)))), [.cell 10 4]⟩
theorem row20 : RowOk Try.prog 20 C20 := ⟨Try.f20, ⟨[], [], [19], []⟩, lvOf [], Try.func20, by kernel_rfl, by kernel_rfl⟩
def B22_0 : C := .seq (.seq (.reg [⟨some 20, .mv (.t 3) false, none⟩, ⟨some 21, .fa 3 (.t 1), none⟩, ⟨some 22, .load 1 false (.t 21) false, none⟩, ⟨some 23, .len (.t 22), none⟩, ⟨some 24, .bin .lss (.t 20) (.t 23), none⟩])
  (.cond (.t 24) (.skip)
  (.exit 0)))
  (.seq (.block 1 (.seq (.reg [⟨some 27, .fa 3 (.t 1), none⟩, ⟨some 28, .load 1 false (.t 27) false, none⟩, ⟨some 29, .mv (.t 3) false, none⟩, ⟨some 30, .ia 6 (.t 28) (.t 29), none⟩, ⟨some 31, .fa 0 (.t 30), none⟩, ⟨some 32, .load 1 false (.t 31) false, none⟩, ⟨some 33, .slen (.t 32), none⟩, ⟨some 34, .bin .gtr (.t 33) (.c (.int .i64 20)), none⟩, ⟨some 35, .mv (.t 34) false, none⟩, ⟨some 36, .fa 3 (.t 1), some (35, false)⟩, ⟨some 37, .load 1 false (.t 36) false, some (35, false)⟩, ⟨some 38, .mv (.t 3) false, some (35, false)⟩, ⟨some 39, .ia 6 (.t 37) (.t 38), some (35, false)⟩, ⟨some 40, .fa 5 (.t 39), some (35, false)⟩, ⟨some 41, .load 1 false (.t 40) false, some (35, false)⟩, ⟨some 42, .len (.t 41), some (35, false)⟩, ⟨some 43, .bin .gtr (.t 42) (.c (.int .i64 10)), some (35, false)⟩, ⟨some 44, .pick (.t 35) (.c (.bool true)) (.t 43), none⟩])
  (.cond (.t 44) (.seq (.reg [⟨some 2, .mv (.c (.bool false)) true, none⟩])
  (.ret))
  (.skip))))
  (.reg [⟨some 25, .mv (.t 3) false, none⟩, ⟨some 26, .bin .add (.t 25) (.c (.int .i64 1)), none⟩, ⟨some 3, .mv (.t 26) true, none⟩]))
def L22_0 : C := .loop [1, 3] 1 B22_0
theorem go22_0 (s : Env × Bx) (nb) : evL tab ext nb L22_0 s = (loopIn nb [1, 3] 1 s).bind fun s0 => (evL tab ext nb B22_0 s0).bind (seqG tab ext nb L22_0) := eL_loop _ _ _
/-- swingbridge/swingbridgelaw18.few -/
def C22 : CFun := ⟨45, 1, .seq (.reg [⟨some 1, .box (.t 0), none⟩, ⟨some 2, .mv (.c (.bool false)) true, none⟩])
  (.seq (.seq (.reg [⟨some 4, .fa 1 (.t 1), none⟩, ⟨some 5, .load 1 false (.t 4) false, none⟩, ⟨some 6, .len (.t 5), none⟩, ⟨some 7, .bin .gtr (.t 6) (.c (.int .i64 8)), none⟩, ⟨some 8, .mv (.t 7) false, none⟩, ⟨some 9, .fa 2 (.t 1), some (8, false)⟩, ⟨some 10, .load 1 false (.t 9) false, some (8, false)⟩, ⟨some 11, .len (.t 10), some (8, false)⟩, ⟨some 12, .bin .gtr (.t 11) (.c (.int .i64 10)), some (8, false)⟩, ⟨some 13, .pick (.t 8) (.c (.bool true)) (.t 12), none⟩, ⟨some 14, .mv (.t 13) false, none⟩, ⟨some 15, .fa 3 (.t 1), some (14, false)⟩, ⟨some 16, .load 1 false (.t 15) false, some (14, false)⟩, ⟨some 17, .len (.t 16), some (14, false)⟩, ⟨some 18, .bin .gtr (.t 17) (.c (.int .i64 9)), some (14, false)⟩, ⟨some 19, .pick (.t 14) (.c (.bool true)) (.t 18), none⟩])
  (.cond (.t 19) (.seq (.reg [⟨some 2, .mv (.c (.bool false)) true, none⟩])
  (.ret))
  (.skip)))
  (.seq (.seq (.reg [⟨some 3, .mv (.c (.int .i64 0)) true, none⟩])
  (.block 0 (L22_0)))
  (.seq (.reg [⟨some 2, .mv (.c (.bool true)) true, none⟩])
  (.ret)))), [.t 2]⟩
theorem row22 : RowOk Try.prog 22 C22 := ⟨Try.f22, ⟨[], [], [], []⟩, lvOf [(0, [1, 3], 1)], Try.func22, by kernel_rfl, by kernel_rfl⟩
def B23_0 : C := .seq (.reg [⟨some 36, .bin .lss (.t 35) (.t 34), none⟩])
  (.seq (.cond (.t 36) (.skip)
  (.exit 0))
  (.seq (.block 1 (.seq (.reg [⟨some 37, .mv (.t 35) false, none⟩, ⟨some 9, .mv (.t 37) true, none⟩])
  (.seq (.reg [⟨some 39, .load 4 true (.t 1) false, none⟩, ⟨some 40, .mv (.t 6) false, none⟩, ⟨some 41, .mv (.t 9) false, none⟩, ⟨some 42, .call 26 [(.t 39), (.t 40), (.t 41)] false, none⟩, ⟨some 38, .mv (.t 42) false, none⟩, ⟨some 43, .ext (.t 38) 0, none⟩, ⟨some 44, .ext (.t 38) 1, none⟩, ⟨some 10, .mv (.t 43) true, none⟩, ⟨some 11, .mv (.t 44) true, none⟩])
  (.reg [⟨some 45, .fa 2 (.t 8), none⟩, ⟨some 46, .load 1 false (.t 45) true, none⟩, ⟨some 47, .mv (.t 10) false, none⟩, ⟨some 48, .bsl 1 1 [(.slice none 0 0)] [(0, 1, (.t 47))] false, none⟩, ⟨some 49, .app 1 24 (.t 46) (.t 48) false, none⟩, ⟨some 50, .fa 2 (.t 8), none⟩, ⟨none, .store 1 (.t 50) (.t 49), none⟩]))))
  (.reg [⟨some 51, .bin .add (.t 35) (.c (.int .i64 1)), none⟩, ⟨some 35, .mv (.t 51) false, none⟩])))
def L23_0 : C := .loop [1, 2, 6, 8, 34, 35] 3 B23_0
theorem go23_0 (s : Env × Bx) (nb) : evL tab ext nb L23_0 s = (loopIn nb [1, 2, 6, 8, 34, 35] 3 s).bind fun s0 => (evL tab ext nb B23_0 s0).bind (seqG tab ext nb L23_0) := eL_loop _ _ _
/-- swingbridge/admit.Analyze -/
def C23 : CFun := ⟨53, 1, .seq (.reg [⟨some 1, .box (.t 0), none⟩, ⟨some 2, .alloc [(.bool false), (.slice none 0 0), (.slice none 0 0)], none⟩, ⟨some 3, .mv (.c (.int .i64 0)) true, none⟩])
  (.seq (.seq (.reg [⟨some 13, .load 4 true (.t 1) false, none⟩, ⟨some 14, .call 32 [(.t 13)] false, none⟩, ⟨some 12, .mv (.t 14) false, none⟩, ⟨some 15, .ext (.t 12) 0, none⟩, ⟨some 16, .ext (.t 12) 1, none⟩, ⟨some 4, .mv (.t 15) true, none⟩, ⟨some 5, .mv (.t 16) true, none⟩])
  (.seq (.reg [⟨some 17, .mv (.t 5) false, none⟩, ⟨some 18, .bin .neq (.t 17) (.c (.int .i64 0)), none⟩])
  (.cond (.t 18) (.seq (.reg [⟨some 19, .build [(.bool false), (.slice none 0 0), (.slice none 0 0)] [], none⟩, ⟨some 20, .mv (.t 5) false, none⟩, ⟨none, .store 3 (.t 2) (.t 19), none⟩, ⟨some 3, .mv (.t 20) true, none⟩])
  (.ret))
  (.skip))))
  (.seq (.reg [⟨some 22, .load 4 true (.t 1) false, none⟩, ⟨some 23, .call 38 [(.t 22)] false, none⟩, ⟨some 21, .mv (.t 23) false, none⟩, ⟨some 24, .ext (.t 21) 0, none⟩, ⟨some 25, .ext (.t 21) 1, none⟩, ⟨some 6, .mv (.t 24) true, none⟩, ⟨some 7, .mv (.t 25) true, none⟩])
  (.seq (.seq (.reg [⟨some 26, .mv (.t 7) false, none⟩, ⟨some 27, .bin .neq (.t 26) (.c (.int .i64 0)), none⟩])
  (.cond (.t 27) (.seq (.reg [⟨some 28, .build [(.bool false), (.slice none 0 0), (.slice none 0 0)] [], none⟩, ⟨some 29, .mv (.t 7) false, none⟩, ⟨none, .store 3 (.t 2) (.t 28), none⟩, ⟨some 3, .mv (.t 29) true, none⟩])
  (.ret))
  (.skip)))
  (.seq (.reg [⟨some 30, .mv (.t 6) false, none⟩, ⟨some 31, .build [(.bool false), (.slice none 0 0), (.slice none 0 0)] [(0, 1, (.c (.bool true))), (1, 1, (.t 30))], none⟩, ⟨some 8, .alloc [(.bool false), (.slice none 0 0), (.slice none 0 0)], none⟩, ⟨none, .store 3 (.t 8) (.t 31), none⟩])
  (.seq (.seq (.reg [⟨some 32, .fa 3 (.t 1), none⟩, ⟨some 33, .load 1 false (.t 32) false, none⟩, ⟨some 34, .len (.t 33), none⟩, ⟨some 35, .mv (.c (.int .i64 0)) false, none⟩])
  (.block 0 (L23_0)))
  (.seq (.reg [⟨some 52, .load 3 true (.t 8) false, none⟩, ⟨none, .store 3 (.t 2) (.t 52), none⟩, ⟨some 3, .mv (.c (.int .i64 0)) true, none⟩])
  (.ret))))))), [.cell 2 3, .t 3]⟩
theorem row23 : RowOk Try.prog 23 C23 := ⟨Try.f23, ⟨[], [], [], []⟩, lvOf [(0, [1, 2, 6, 8, 34, 35], 3)], Try.func23, by kernel_rfl, by kernel_rfl⟩
/-- swingbridge/swingbridgeref7.OK -/
def C24 : CFun := ⟨12, 1, .seq (.reg [⟨some 1, .box (.t 0), none⟩, ⟨some 2, .mv (.c (.bool false)) true, none⟩])
  (.seq (.reg [⟨some 6, .load 4 true (.t 1) false, none⟩, ⟨some 7, .call 39 [(.t 6)] false, none⟩, ⟨some 5, .mv (.t 7) false, none⟩, ⟨some 8, .ext (.t 5) 0, none⟩, ⟨some 9, .ext (.t 5) 1, none⟩, ⟨some 3, .mv (.t 8) true, none⟩, ⟨some 4, .mv (.t 9) true, none⟩])
  (.seq (.reg [⟨some 10, .mv (.t 4) false, none⟩, ⟨some 11, .bin .eql (.t 10) (.c (.int .i64 0)), none⟩, ⟨some 2, .mv (.t 11) true, none⟩])
  (.ret))), [.t 2]⟩
theorem row24 : RowOk Try.prog 24 C24 := ⟨Try.f24, ⟨[], [], [], []⟩, lvOf [], Try.func24, by kernel_rfl, by kernel_rfl⟩
def B25_0 : C := .seq (.reg [⟨some 32, .bin .lss (.t 31) (.t 30), none⟩])
  (.seq (.cond (.t 32) (.skip)
  (.exit 0))
  (.seq (.block 1 (.seq (.reg [⟨some 33, .mv (.t 31) false, none⟩, ⟨some 34, .ia 6 (.t 29) (.t 31), none⟩, ⟨some 35, .load 6 true (.t 34) false, none⟩, ⟨some 8, .alloc [(.string ⟨#[]⟩), (.int .i64 0), (.int .i64 0), (.int .i64 0), (.int .i64 0), (.slice none 0 0)], none⟩, ⟨some 7, .mv (.t 33) true, none⟩, ⟨none, .store 6 (.t 8) (.t 35), none⟩])
  (.seq (.reg [⟨some 36, .mv (.t 1) false, none⟩, ⟨some 37, .mv (.t 7) false, none⟩, ⟨some 38, .ia 1 (.t 36) (.t 37), none⟩, ⟨some 39, .load 1 false (.t 38) false, none⟩, ⟨some 40, .bin .lss (.t 39) (.c (.int .i64 1)), none⟩, ⟨some 41, .mv (.t 40) false, none⟩, ⟨some 42, .mv (.t 1) false, some (41, false)⟩, ⟨some 43, .mv (.t 7) false, some (41, false)⟩, ⟨some 44, .ia 1 (.t 42) (.t 43), some (41, false)⟩, ⟨some 45, .load 1 false (.t 44) false, some (41, false)⟩, ⟨some 46, .fa 2 (.t 8), some (41, false)⟩, ⟨some 47, .load 1 false (.t 46) false, some (41, false)⟩, ⟨some 48, .bin .gtr (.t 45) (.t 47), some (41, false)⟩, ⟨some 49, .pick (.t 41) (.c (.bool true)) (.t 48), none⟩])
  (.cond (.t 49) (.seq (.reg [⟨some 4, .mv (.c (.bool false)) true, none⟩])
  (.ret))
  (.skip)))))
  (.reg [⟨some 50, .bin .add (.t 31) (.c (.int .i64 1)), none⟩, ⟨some 31, .mv (.t 50) false, none⟩])))
def L25_0 : C := .loop [1, 2, 29, 30, 31] 1 B25_0
theorem go25_0 (s : Env × Bx) (nb) : evL tab ext nb L25_0 s = (loopIn nb [1, 2, 29, 30, 31] 1 s).bind fun s0 => (evL tab ext nb B25_0 s0).bind (seqG tab ext nb L25_0) := eL_loop _ _ _
def B25_2 : C := .seq (.reg [⟨some 54, .bin .lss (.t 53) (.t 52), none⟩])
  (.seq (.cond (.t 54) (.skip)
  (.exit 2))
  (.seq (.block 3 (.seq (.reg [⟨some 55, .mv (.t 53) false, none⟩, ⟨some 56, .ia 1 (.t 51) (.t 53), none⟩, ⟨some 57, .load 1 false (.t 56) false, none⟩, ⟨some 9, .mv (.t 55) true, none⟩, ⟨some 10, .mv (.t 57) true, none⟩])
  (.seq (.reg [⟨some 59, .load 4 true (.t 2) false, none⟩, ⟨some 60, .mv (.t 1) false, none⟩, ⟨some 61, .mv (.t 9) false, none⟩, ⟨some 62, .call 16 [(.t 59), (.t 60), (.t 61)] false, none⟩, ⟨some 58, .mv (.t 62) false, none⟩, ⟨some 63, .ext (.t 58) 0, none⟩, ⟨some 64, .ext (.t 58) 1, none⟩, ⟨some 11, .mv (.t 63) true, none⟩, ⟨some 12, .mv (.t 64) true, none⟩])
  (.seq (.reg [⟨some 65, .mv (.t 12) false, none⟩, ⟨some 66, .un .not (.t 65), none⟩, ⟨some 67, .mv (.t 66) false, none⟩, ⟨some 68, .mv (.t 11) false, some (67, false)⟩, ⟨some 69, .mv (.t 10) false, some (67, false)⟩, ⟨some 70, .bin .gtr (.t 68) (.t 69), some (67, false)⟩, ⟨some 71, .pick (.t 67) (.c (.bool true)) (.t 70), none⟩])
  (.cond (.t 71) (.seq (.reg [⟨some 4, .mv (.c (.bool false)) true, none⟩])
  (.ret))
  (.skip))))))
  (.reg [⟨some 72, .bin .add (.t 53) (.c (.int .i64 1)), none⟩, ⟨some 53, .mv (.t 72) false, none⟩])))
def L25_2 : C := .loop [1, 2, 51, 52, 53] 1 B25_2
theorem go25_2 (s : Env × Bx) (nb) : evL tab ext nb L25_2 s = (loopIn nb [1, 2, 51, 52, 53] 1 s).bind fun s0 => (evL tab ext nb B25_2 s0).bind (seqG tab ext nb L25_2) := eL_loop _ _ _
/-- swingbridge/admit.Holds -/
def C25 : CFun := ⟨73, 2, .seq (.reg [⟨some 2, .box (.t 0), none⟩, ⟨some 4, .mv (.c (.bool false)) true, none⟩])
  (.seq (.seq (.reg [⟨some 14, .load 4 true (.t 2) false, none⟩, ⟨some 15, .call 32 [(.t 14)] false, none⟩, ⟨some 13, .mv (.t 15) false, none⟩, ⟨some 16, .ext (.t 13) 0, none⟩, ⟨some 17, .ext (.t 13) 1, none⟩, ⟨some 5, .mv (.t 16) true, none⟩, ⟨some 6, .mv (.t 17) true, none⟩])
  (.seq (.reg [⟨some 18, .mv (.t 6) false, none⟩, ⟨some 19, .bin .neq (.t 18) (.c (.int .i64 0)), none⟩, ⟨some 20, .mv (.t 19) false, none⟩, ⟨some 21, .mv (.t 1) false, some (20, false)⟩, ⟨some 22, .len (.t 21), some (20, false)⟩, ⟨some 23, .fa 3 (.t 2), some (20, false)⟩, ⟨some 24, .load 1 false (.t 23) false, some (20, false)⟩, ⟨some 25, .len (.t 24), some (20, false)⟩, ⟨some 26, .bin .neq (.t 22) (.t 25), some (20, false)⟩, ⟨some 27, .pick (.t 20) (.c (.bool true)) (.t 26), none⟩])
  (.cond (.t 27) (.seq (.reg [⟨some 4, .mv (.c (.bool false)) true, none⟩])
  (.ret))
  (.skip))))
  (.seq (.seq (.reg [⟨some 28, .fa 3 (.t 2), none⟩, ⟨some 29, .load 1 false (.t 28) false, none⟩, ⟨some 30, .len (.t 29), none⟩, ⟨some 31, .mv (.c (.int .i64 0)) false, none⟩])
  (.block 0 (L25_0)))
  (.seq (.seq (.reg [⟨some 51, .mv (.t 1) false, none⟩, ⟨some 52, .len (.t 51), none⟩, ⟨some 53, .mv (.c (.int .i64 0)) false, none⟩])
  (.block 2 (L25_2)))
  (.seq (.reg [⟨some 4, .mv (.c (.bool true)) true, none⟩])
  (.ret))))), [.t 4]⟩
theorem row25 : RowOk Try.prog 25 C25 := ⟨Try.f25, ⟨[], [], [], []⟩, lvOf [(0, [1, 2, 29, 30, 31], 1), (2, [1, 2, 51, 52, 53], 1)], Try.func25, by kernel_rfl, by kernel_rfl⟩
def B26_0 : C := .seq (.reg [⟨some 49, .bin .lss (.t 48) (.t 47), none⟩])
  (.seq (.cond (.t 49) (.skip)
  (.exit 0))
  (.seq (.block 1 (.seq (.reg [⟨some 50, .mv (.t 48) false, none⟩, ⟨some 51, .ia 3 (.t 46) (.t 48), none⟩, ⟨some 52, .load 3 true (.t 51) false, none⟩, ⟨some 12, .alloc [(.int .i64 0), (.int .i64 0), (.int .i64 0)], none⟩, ⟨some 11, .mv (.t 50) true, none⟩, ⟨none, .store 3 (.t 12) (.t 52), none⟩])
  (.seq (.seq (.reg [⟨some 53, .fa 0 (.t 12), none⟩, ⟨some 54, .load 1 false (.t 53) false, none⟩, ⟨some 55, .bin .neq (.t 54) (.c (.int .i64 3)), none⟩])
  (.cond (.t 55) (.exit 1)
  (.skip)))
  (.seq (.reg [⟨some 57, .load 4 true (.t 3) false, none⟩, ⟨some 58, .mv (.t 1) false, none⟩, ⟨some 59, .mv (.t 2) false, none⟩, ⟨some 60, .mv (.t 11) false, none⟩, ⟨some 61, .call 40 [(.t 57), (.t 58), (.t 59), (.t 60)] false, none⟩, ⟨some 56, .mv (.t 61) false, none⟩, ⟨some 62, .ext (.t 56) 0, none⟩, ⟨some 63, .ext (.t 56) 1, none⟩, ⟨some 13, .mv (.t 62) true, none⟩, ⟨some 14, .mv (.t 63) true, none⟩])
  (.seq (.seq (.reg [⟨some 64, .mv (.t 14) false, none⟩, ⟨some 65, .un .not (.t 64), none⟩])
  (.cond (.t 65) (.seq (.reg [⟨some 6, .mv (.c (.slice none 0 0)) true, none⟩, ⟨some 7, .mv (.c (.bool false)) true, none⟩])
  (.ret))
  (.skip)))
  (.reg [⟨some 66, .mv (.t 10) false, none⟩, ⟨some 67, .mv (.t 11) false, none⟩, ⟨some 68, .mv (.t 13) false, none⟩, ⟨some 69, .ia 1 (.t 66) (.t 67), none⟩, ⟨none, .store 1 (.t 69) (.t 68), none⟩]))))))
  (.reg [⟨some 70, .bin .add (.t 48) (.c (.int .i64 1)), none⟩, ⟨some 48, .mv (.t 70) false, none⟩])))
def L26_0 : C := .loop [1, 2, 3, 10, 46, 47, 48] 2 B26_0
theorem go26_0 (s : Env × Bx) (nb) : evL tab ext nb L26_0 s = (loopIn nb [1, 2, 3, 10, 46, 47, 48] 2 s).bind fun s0 => (evL tab ext nb B26_0 s0).bind (seqG tab ext nb L26_0) := eL_loop _ _ _
/-- swingbridge/wait.All -/
def C26 : CFun := ⟨72, 3, .seq (.reg [⟨some 3, .box (.t 0), none⟩, ⟨some 6, .mv (.c (.slice none 0 0)) true, none⟩, ⟨some 7, .mv (.c (.bool false)) true, none⟩])
  (.scope (.seq (.seq (.reg [⟨some 16, .load 4 true (.t 3) false, none⟩, ⟨some 17, .call 32 [(.t 16)] false, none⟩, ⟨some 15, .mv (.t 17) false, none⟩, ⟨some 18, .ext (.t 15) 0, none⟩, ⟨some 19, .ext (.t 15) 1, none⟩, ⟨some 8, .mv (.t 18) true, none⟩, ⟨some 9, .mv (.t 19) true, none⟩])
  (.seq (.reg [⟨some 20, .mv (.t 9) false, none⟩, ⟨some 21, .bin .neq (.t 20) (.c (.int .i64 0)), none⟩, ⟨some 22, .mv (.t 21) false, none⟩, ⟨some 23, .mv (.t 2) false, some (22, false)⟩, ⟨some 24, .bin .lss (.t 23) (.c (.int .i64 0)), some (22, false)⟩, ⟨some 25, .pick (.t 22) (.c (.bool true)) (.t 24), none⟩, ⟨some 26, .mv (.t 25) false, none⟩, ⟨some 27, .mv (.t 2) false, some (26, false)⟩, ⟨some 28, .fa 3 (.t 3), some (26, false)⟩, ⟨some 29, .load 1 false (.t 28) false, some (26, false)⟩, ⟨some 30, .len (.t 29), some (26, false)⟩, ⟨some 31, .bin .geq (.t 27) (.t 30), some (26, false)⟩, ⟨some 32, .pick (.t 26) (.c (.bool true)) (.t 31), none⟩])
  (.cond (.t 32) (.seq (.reg [⟨some 6, .mv (.c (.slice none 0 0)) true, none⟩, ⟨some 7, .mv (.c (.bool false)) true, none⟩])
  (.ret))
  (.skip))))
  (.seq (.reg [⟨some 33, .fa 3 (.t 3), none⟩, ⟨some 34, .load 1 false (.t 33) false, none⟩, ⟨some 35, .mv (.t 2) false, none⟩, ⟨some 36, .ia 6 (.t 34) (.t 35), none⟩, ⟨some 37, .fa 5 (.t 36), none⟩, ⟨some 38, .load 1 false (.t 37) false, none⟩, ⟨some 39, .len (.t 38), none⟩, ⟨some 40, .mksl 1 8 [(.int .i64 0)] (.t 39) true, none⟩, ⟨some 10, .mv (.t 40) true, none⟩])
  (.seq (.skip)
  (.seq (.seq (.reg [⟨some 41, .fa 3 (.t 3), none⟩, ⟨some 42, .load 1 false (.t 41) false, none⟩, ⟨some 43, .mv (.t 2) false, none⟩, ⟨some 44, .ia 6 (.t 42) (.t 43), none⟩, ⟨some 45, .fa 5 (.t 44), none⟩, ⟨some 46, .load 1 false (.t 45) false, none⟩, ⟨some 47, .len (.t 46), none⟩, ⟨some 48, .mv (.c (.int .i64 0)) false, none⟩])
  (.block 0 (L26_0)))
  (.seq (.reg [⟨some 71, .mv (.t 10) false, none⟩, ⟨some 6, .mv (.t 71) true, none⟩, ⟨some 7, .mv (.c (.bool true)) true, none⟩])
  (.ret))))))), [.t 6, .t 7]⟩
theorem row26 : RowOk Try.prog 26 C26 := ⟨Try.f26, ⟨[], [40], [], []⟩, lvOf [(0, [1, 2, 3, 10, 46, 47, 48], 2)], Try.func26, by kernel_rfl, by kernel_rfl⟩
def B27_0 : C := .seq (.seq (.reg [⟨some 28, .mv (.t 5) false, none⟩, ⟨some 29, .fa 2 (.t 2), none⟩, ⟨some 30, .load 1 false (.t 29) false, none⟩, ⟨some 31, .len (.t 30), none⟩, ⟨some 32, .bin .lss (.t 28) (.t 31), none⟩])
  (.cond (.t 32) (.skip)
  (.exit 0)))
  (.seq (.block 1 (.seq (.reg [⟨some 35, .fa 2 (.t 2), none⟩, ⟨some 36, .load 1 false (.t 35) false, none⟩, ⟨some 37, .mv (.t 5) false, none⟩, ⟨some 38, .ia 1 (.t 36) (.t 37), none⟩, ⟨some 39, .load 1 false (.t 38) false, none⟩, ⟨some 40, .fa 2 (.t 3), none⟩, ⟨some 41, .load 1 false (.t 40) false, none⟩, ⟨some 42, .mv (.t 5) false, none⟩, ⟨some 43, .ia 1 (.t 41) (.t 42), none⟩, ⟨some 44, .load 1 false (.t 43) false, none⟩, ⟨some 45, .call 41 [(.t 39), (.t 44)] false, none⟩, ⟨some 46, .un .not (.t 45), none⟩])
  (.cond (.t 46) (.seq (.reg [⟨some 4, .mv (.c (.bool false)) true, none⟩])
  (.ret))
  (.skip))))
  (.reg [⟨some 33, .mv (.t 5) false, none⟩, ⟨some 34, .bin .add (.t 33) (.c (.int .i64 1)), none⟩, ⟨some 5, .mv (.t 34) true, none⟩]))
def L27_0 : C := .loop [2, 3, 5] 2 B27_0
theorem go27_0 (s : Env × Bx) (nb) : evL tab ext nb L27_0 s = (loopIn nb [2, 3, 5] 2 s).bind fun s0 => (evL tab ext nb B27_0 s0).bind (seqG tab ext nb L27_0) := eL_loop _ _ _
/-- swingbridge/swingbridgeref11.Same -/
def C27 : CFun := ⟨47, 2, .seq (.reg [⟨some 2, .box (.t 0), none⟩, ⟨some 3, .box (.t 1), none⟩, ⟨some 4, .mv (.c (.bool false)) true, none⟩])
  (.seq (.seq (.reg [⟨some 6, .fa 0 (.t 2), none⟩, ⟨some 7, .load 1 false (.t 6) false, none⟩, ⟨some 8, .fa 0 (.t 3), none⟩, ⟨some 9, .load 1 false (.t 8) false, none⟩, ⟨some 10, .eqb true (.t 7) (.t 9), none⟩, ⟨some 11, .mv (.t 10) false, none⟩, ⟨some 12, .fa 1 (.t 2), some (11, false)⟩, ⟨some 13, .load 1 false (.t 12) false, some (11, false)⟩, ⟨some 14, .fa 1 (.t 3), some (11, false)⟩, ⟨some 15, .load 1 false (.t 14) false, some (11, false)⟩, ⟨some 16, .call 41 [(.t 13), (.t 15)] false, some (11, false)⟩, ⟨some 17, .un .not (.t 16), some (11, false)⟩, ⟨some 18, .pick (.t 11) (.c (.bool true)) (.t 17), none⟩, ⟨some 19, .mv (.t 18) false, none⟩, ⟨some 20, .fa 2 (.t 2), some (19, false)⟩, ⟨some 21, .load 1 false (.t 20) false, some (19, false)⟩, ⟨some 22, .len (.t 21), some (19, false)⟩, ⟨some 23, .fa 2 (.t 3), some (19, false)⟩, ⟨some 24, .load 1 false (.t 23) false, some (19, false)⟩, ⟨some 25, .len (.t 24), some (19, false)⟩, ⟨some 26, .bin .neq (.t 22) (.t 25), some (19, false)⟩, ⟨some 27, .pick (.t 19) (.c (.bool true)) (.t 26), none⟩])
  (.cond (.t 27) (.seq (.reg [⟨some 4, .mv (.c (.bool false)) true, none⟩])
  (.ret))
  (.skip)))
  (.seq (.seq (.reg [⟨some 5, .mv (.c (.int .i64 0)) true, none⟩])
  (.block 0 (L27_0)))
  (.seq (.reg [⟨some 4, .mv (.c (.bool true)) true, none⟩])
  (.ret)))), [.t 4]⟩
theorem row27 : RowOk Try.prog 27 C27 := ⟨Try.f27, ⟨[], [], [], []⟩, lvOf [(0, [2, 3, 5], 2)], Try.func27, by kernel_rfl, by kernel_rfl⟩
/-- swingbridge/swingbridgelaw18.one -/
def C28 : CFun := ⟨12, 2, .seq (.reg [⟨some 4, .alloc [(.int .i64 0), (.slice none 0 0), (.slice none 0 0), (.slice none 0 0)], none⟩])
  (.seq (.reg [⟨some 5, .mv (.t 0) false, none⟩, ⟨some 6, .bsl 1 1 [(.int .i64 0)] [(0, 1, (.c (.int .i64 1)))] false, none⟩, ⟨some 7, .bsl 1 1 [(.int .i64 0)] [(0, 1, (.c (.int .i64 0)))] false, none⟩, ⟨some 8, .mv (.t 1) false, none⟩, ⟨some 9, .build [(.string ⟨#[]⟩), (.int .i64 0), (.int .i64 0), (.int .i64 0), (.int .i64 0), (.slice none 0 0)] [(0, 1, (.c (.string ⟨#[97]⟩))), (1, 1, (.c (.int .i64 100))), (2, 1, (.c (.int .i64 100))), (3, 1, (.c (.int .i64 1))), (5, 1, (.t 8))], none⟩, ⟨some 10, .bsl 6 1 [(.string ⟨#[]⟩), (.int .i64 0), (.int .i64 0), (.int .i64 0), (.int .i64 0), (.slice none 0 0)] [(0, 6, (.t 9))] false, none⟩, ⟨some 11, .build [(.int .i64 0), (.slice none 0 0), (.slice none 0 0), (.slice none 0 0)] [(0, 1, (.t 5)), (1, 1, (.t 6)), (2, 1, (.t 7)), (3, 1, (.t 10))], none⟩, ⟨none, .store 4 (.t 4) (.t 11), none⟩])
  (.ret)), [.cell 4 4]⟩
theorem row28 : RowOk Try.prog 28 C28 := ⟨Try.f28, ⟨[], [], [], []⟩, lvOf [], Try.func28, by kernel_rfl, by kernel_rfl⟩
def B29_0 : C := .seq (.reg [⟨some 23, .bin .lss (.t 22) (.t 21), none⟩])
  (.seq (.cond (.t 23) (.skip)
  (.exit 0))
  (.seq (.block 1 (.seq (.reg [⟨some 24, .ia 1 (.t 20) (.t 22), none⟩, ⟨some 25, .load 1 false (.t 24) false, none⟩, ⟨some 12, .mv (.t 25) true, none⟩])
  (.reg [⟨some 26, .mv (.t 10) false, none⟩, ⟨some 27, .mv (.t 12) false, none⟩, ⟨some 28, .bin .add (.t 26) (.t 27), none⟩, ⟨some 10, .mv (.t 28) true, none⟩])))
  (.reg [⟨some 29, .bin .add (.t 22) (.c (.int .i64 1)), none⟩, ⟨some 22, .mv (.t 29) false, none⟩])))
def L29_0 : C := .loop [9, 10, 20, 21, 22] 1 B29_0
theorem go29_0 (s : Env × Bx) (nb) : evL tab ext nb L29_0 s = (loopIn nb [9, 10, 20, 21, 22] 1 s).bind fun s0 => (evL tab ext nb B29_0 s0).bind (seqG tab ext nb L29_0) := eL_loop _ _ _
/-- swingbridge/wait.Sum -/
def C29 : CFun := ⟨32, 3, .seq (.reg [⟨some 3, .box (.t 0), none⟩, ⟨some 6, .mv (.c (.int .i64 0)) true, none⟩, ⟨some 7, .mv (.c (.bool false)) true, none⟩])
  (.seq (.reg [⟨some 14, .load 4 true (.t 3) false, none⟩, ⟨some 15, .mv (.t 1) false, none⟩, ⟨some 16, .mv (.t 2) false, none⟩, ⟨some 17, .call 26 [(.t 14), (.t 15), (.t 16)] false, none⟩, ⟨some 13, .mv (.t 17) false, none⟩, ⟨some 18, .ext (.t 13) 0, none⟩, ⟨some 19, .ext (.t 13) 1, none⟩, ⟨some 8, .mv (.t 18) true, none⟩, ⟨some 9, .mv (.t 19) true, none⟩])
  (.seq (.reg [⟨some 10, .mv (.c (.int .i64 0)) true, none⟩])
  (.seq (.seq (.reg [⟨some 20, .mv (.t 8) false, none⟩, ⟨some 21, .len (.t 20), none⟩, ⟨some 22, .mv (.c (.int .i64 0)) false, none⟩])
  (.block 0 (L29_0)))
  (.seq (.reg [⟨some 30, .mv (.t 10) false, none⟩, ⟨some 31, .mv (.t 9) false, none⟩, ⟨some 6, .mv (.t 30) true, none⟩, ⟨some 7, .mv (.t 31) true, none⟩])
  (.ret))))), [.t 6, .t 7]⟩
theorem row29 : RowOk Try.prog 29 C29 := ⟨Try.f29, ⟨[], [], [], []⟩, lvOf [(0, [9, 10, 20, 21, 22], 1)], Try.func29, by kernel_rfl, by kernel_rfl⟩
/-- swingbridge/demand.Runs -/
def C30 : CFun := ⟨5, 1, .seq (.reg [⟨some 1, .box (.t 0), none⟩, ⟨some 2, .mv (.c (.int .i64 0)) true, none⟩])
  (.seq (.reg [⟨some 3, .load 6 true (.t 1) false, none⟩, ⟨some 4, .call 42 [(.t 3), (.c (.int .i64 1))] false, none⟩, ⟨some 2, .mv (.t 4) true, none⟩])
  (.ret)), [.t 2]⟩
theorem row30 : RowOk Try.prog 30 C30 := ⟨Try.f30, ⟨[], [], [], []⟩, lvOf [], Try.func30, by kernel_rfl, by kernel_rfl⟩
/-- swingbridge/demand.Sleeps -/
def C31 : CFun := ⟨5, 1, .seq (.reg [⟨some 1, .box (.t 0), none⟩, ⟨some 2, .mv (.c (.int .i64 0)) true, none⟩])
  (.seq (.reg [⟨some 3, .load 6 true (.t 1) false, none⟩, ⟨some 4, .call 42 [(.t 3), (.c (.int .i64 2))] false, none⟩, ⟨some 2, .mv (.t 4) true, none⟩])
  (.ret)), [.t 2]⟩
theorem row31 : RowOk Try.prog 31 C31 := ⟨Try.f31, ⟨[], [], [], []⟩, lvOf [], Try.func31, by kernel_rfl, by kernel_rfl⟩
def B32_1 : C := .seq (.reg [⟨some 29, .bin .lss (.t 28) (.t 27), none⟩])
  (.seq (.cond (.t 29) (.skip)
  (.exit 1))
  (.seq (.block 2 (.seq (.reg [⟨some 30, .mv (.t 28) false, none⟩, ⟨some 4, .mv (.t 30) true, none⟩])
  (.seq (.reg [⟨some 31, .load 4 true (.t 1) false, none⟩, ⟨some 32, .mv (.t 4) false, none⟩, ⟨some 33, .call 45 [(.t 31), (.t 32)] false, none⟩, ⟨some 5, .mv (.t 33) true, none⟩])
  (.seq (.reg [⟨some 34, .mv (.t 5) false, none⟩, ⟨some 35, .bin .neq (.t 34) (.c (.int .i64 0)), none⟩])
  (.cond (.t 35) (.seq (.reg [⟨some 36, .mv (.t 4) false, none⟩, ⟨some 37, .mv (.t 5) false, none⟩, ⟨some 2, .mv (.t 36) true, none⟩, ⟨some 3, .mv (.t 37) true, none⟩])
  (.ret))
  (.skip))))))
  (.reg [⟨some 38, .bin .add (.t 28) (.c (.int .i64 1)), none⟩, ⟨some 28, .mv (.t 38) false, none⟩])))
def L32_1 : C := .loop [1, 27, 28] 1 B32_1
theorem go32_1 (s : Env × Bx) (nb) : evL tab ext nb L32_1 s = (loopIn nb [1, 27, 28] 1 s).bind fun s0 => (evL tab ext nb B32_1 s0).bind (seqG tab ext nb L32_1) := eL_loop _ _ _
/-- swingbridge/task.Check -/
def C32 : CFun := ⟨39, 1, .seq (.reg [⟨some 1, .box (.t 0), none⟩, ⟨some 2, .mv (.c (.int .i64 0)) true, none⟩, ⟨some 3, .mv (.c (.int .i64 0)) true, none⟩])
  (.seq (.block 0 (.seq (.reg [⟨some 7, .fa 0 (.t 1), none⟩, ⟨some 8, .load 1 false (.t 7) false, none⟩, ⟨some 9, .call 43 [(.t 8), (.c (.int .i64 1)), (.c (.int .i64 3))] false, none⟩, ⟨some 10, .un .not (.t 9), none⟩, ⟨some 6, .mv (.t 10) true, none⟩])
  (.cond (.t 6) (.seq (.reg [⟨some 2, .mv (.c (.int .i64 (-1))) true, none⟩, ⟨some 3, .mv (.c (.int .i64 10)) true, none⟩])
  (.ret))
  (.seq (.reg [⟨some 12, .load 4 true (.t 1) false, none⟩, ⟨some 13, .call 44 [(.t 12)] false, none⟩, ⟨some 14, .un .not (.t 13), none⟩, ⟨some 11, .mv (.t 14) true, none⟩])
  (.cond (.t 11) (.seq (.reg [⟨some 2, .mv (.c (.int .i64 (-1))) true, none⟩, ⟨some 3, .mv (.c (.int .i64 16)) true, none⟩])
  (.ret))
  (.seq (.reg [⟨some 16, .fa 3 (.t 1), none⟩, ⟨some 17, .load 1 false (.t 16) false, none⟩, ⟨some 18, .len (.t 17), none⟩, ⟨some 19, .bin .gtr (.t 18) (.c (.int .i64 6)), none⟩, ⟨some 15, .mv (.t 19) true, none⟩])
  (.cond (.t 15) (.seq (.reg [⟨some 2, .mv (.c (.int .i64 (-1))) true, none⟩, ⟨some 3, .mv (.c (.int .i64 11)) true, none⟩])
  (.ret))
  (.seq (.reg [⟨some 21, .fa 3 (.t 1), none⟩, ⟨some 22, .load 1 false (.t 21) false, none⟩, ⟨some 23, .len (.t 22), none⟩, ⟨some 24, .bin .eql (.t 23) (.c (.int .i64 0)), none⟩, ⟨some 20, .mv (.t 24) true, none⟩])
  (.cond (.t 20) (.seq (.reg [⟨some 2, .mv (.c (.int .i64 (-1))) true, none⟩, ⟨some 3, .mv (.c (.int .i64 14)) true, none⟩])
  (.ret))
  (.skip))))))))))
  (.seq (.seq (.reg [⟨some 25, .fa 3 (.t 1), none⟩, ⟨some 26, .load 1 false (.t 25) false, none⟩, ⟨some 27, .len (.t 26), none⟩, ⟨some 28, .mv (.c (.int .i64 0)) false, none⟩])
  (.block 1 (L32_1)))
  (.seq (.reg [⟨some 2, .mv (.c (.int .i64 (-1))) true, none⟩, ⟨some 3, .mv (.c (.int .i64 0)) true, none⟩])
  (.ret)))), [.t 2, .t 3]⟩
theorem row32 : RowOk Try.prog 32 C32 := ⟨Try.f32, ⟨[], [], [], []⟩, lvOf [(1, [1, 27, 28], 1)], Try.func32, by kernel_rfl, by kernel_rfl⟩
/-- swingbridge/bound.Others$1 -/
def C33 : CFun := ⟨5, 1, .seq (.reg [⟨some 2, .mv (.c (.bool false)) true, none⟩])
  (.seq (.reg [⟨some 3, .mv (.t 0) false, none⟩, ⟨some 4, .bin .lss (.t 3) (.c (.int .i64 0)), none⟩, ⟨some 2, .mv (.t 4) true, none⟩])
  (.ret)), [.t 2]⟩
theorem row33 : RowOk Try.prog 33 C33 := ⟨Try.f33, ⟨[], [], [], []⟩, lvOf [], Try.func33, by kernel_rfl, by kernel_rfl⟩
/-- slices.ContainsFunc[[]int,int] -/
def C34 : CFun := ⟨9, 2, .seq (.reg [⟨some 4, .mv (.c (.bool false)) true, none⟩])
  (.seq (.reg [⟨some 5, .mv (.t 0) false, none⟩, ⟨some 6, .mv (.t 1) false, none⟩, ⟨some 7, .calli 46 [(.t 5), (.t 6)], none⟩, ⟨some 8, .bin .geq (.t 7) (.c (.int .i64 0)), none⟩, ⟨some 4, .mv (.t 8) true, none⟩])
  (.ret)), [.t 4]⟩
theorem row34 : RowOk Try.prog 34 C34 := ⟨Try.f34, ⟨[], [], [], []⟩, lvOf [], Try.func34, by kernel_rfl, by kernel_rfl⟩
/-- swingbridge/count.Work -/
def C35 : CFun := ⟨19, 4, .seq (.reg [⟨some 8, .mv (.c (.int .i64 0)) true, none⟩])
  (.seq (.reg [⟨some 9, .mv (.t 0) false, none⟩, ⟨some 10, .mv (.t 1) false, none⟩, ⟨some 11, .mv (.t 2) false, none⟩, ⟨some 12, .call 49 [(.t 9), (.t 10), (.t 11)] false, none⟩, ⟨some 13, .mv (.t 3) false, none⟩, ⟨some 14, .mxn true [(.t 13), (.c (.int .i64 0))], none⟩, ⟨some 15, .call 48 [(.t 12), (.t 14)] false, none⟩, ⟨some 16, .ext (.t 15) 0, none⟩, ⟨some 17, .ext (.t 15) 1, none⟩, ⟨some 18, .call 47 [(.t 16), (.t 17)] false, none⟩, ⟨some 8, .mv (.t 18) true, none⟩])
  (.ret)), [.t 8]⟩
theorem row35 : RowOk Try.prog 35 C35 := ⟨Try.f35, ⟨[], [], [], []⟩, lvOf [], Try.func35, by kernel_rfl, by kernel_rfl⟩
/-- swingbridge/swingbridgelaw18.two -/
def C37 : CFun := ⟨31, 5, .seq (.reg [⟨some 10, .alloc [(.int .i64 0), (.slice none 0 0), (.slice none 0 0), (.slice none 0 0)], none⟩])
  (.seq (.reg [⟨some 12, .mv (.t 0) false, none⟩, ⟨some 13, .mv (.t 1) false, none⟩, ⟨some 14, .build [(.int .i64 0), (.int .i64 0), (.int .i64 0)] [(0, 1, (.c (.int .i64 1))), (1, 1, (.t 13))], none⟩, ⟨some 15, .mv (.t 2) false, none⟩, ⟨some 16, .build [(.int .i64 0), (.int .i64 0), (.int .i64 0)] [(0, 1, (.c (.int .i64 3))), (1, 1, (.t 15))], none⟩, ⟨some 17, .bsl 3 2 [(.int .i64 0), (.int .i64 0), (.int .i64 0), (.int .i64 0), (.int .i64 0), (.int .i64 0)] [(0, 3, (.t 14)), (3, 3, (.t 16))] false, none⟩, ⟨some 18, .call 28 [(.t 12), (.t 17)] true, none⟩, ⟨some 11, .alloc [(.int .i64 0), (.slice none 0 0), (.slice none 0 0), (.slice none 0 0)], none⟩, ⟨none, .store 4 (.t 11) (.t 18), none⟩])
  (.seq (.reg [⟨some 19, .fa 3 (.t 11), none⟩, ⟨some 20, .load 1 false (.t 19) true, none⟩, ⟨some 21, .mv (.t 3) false, none⟩, ⟨some 22, .build [(.int .i64 0), (.int .i64 0), (.int .i64 0)] [(0, 1, (.c (.int .i64 1))), (1, 1, (.t 21))], none⟩, ⟨some 23, .mv (.t 4) false, none⟩, ⟨some 24, .build [(.int .i64 0), (.int .i64 0), (.int .i64 0)] [(0, 1, (.c (.int .i64 3))), (1, 1, (.t 23))], none⟩, ⟨some 25, .bsl 3 2 [(.int .i64 0), (.int .i64 0), (.int .i64 0), (.int .i64 0), (.int .i64 0), (.int .i64 0)] [(0, 3, (.t 22)), (3, 3, (.t 24))] false, none⟩, ⟨some 26, .build [(.string ⟨#[]⟩), (.int .i64 0), (.int .i64 0), (.int .i64 0), (.int .i64 0), (.slice none 0 0)] [(0, 1, (.c (.string ⟨#[98]⟩))), (1, 1, (.c (.int .i64 200))), (2, 1, (.c (.int .i64 200))), (3, 1, (.c (.int .i64 2))), (5, 1, (.t 25))], none⟩, ⟨some 27, .bsl 6 1 [(.string ⟨#[]⟩), (.int .i64 0), (.int .i64 0), (.int .i64 0), (.int .i64 0), (.slice none 0 0)] [(0, 6, (.t 26))] false, none⟩, ⟨some 28, .app 6 72 (.t 20) (.t 27) false, none⟩, ⟨some 29, .fa 3 (.t 11), none⟩, ⟨none, .store 1 (.t 29) (.t 28), none⟩])
  (.seq (.reg [⟨some 30, .load 4 true (.t 11) false, none⟩, ⟨none, .store 4 (.t 10) (.t 30), none⟩])
  (.ret)))), [.cell 10 4]⟩
theorem row37 : RowOk Try.prog 37 C37 := ⟨Try.f37, ⟨[], [], [28], []⟩, lvOf [], Try.func37, by kernel_rfl, by kernel_rfl⟩
def B38_0 : C := .seq (.reg [⟨some 13, .bin .lss (.t 12) (.t 11), none⟩])
  (.seq (.cond (.t 13) (.skip)
  (.exit 0))
  (.seq (.block 1 (.seq (.reg [⟨some 14, .ia 6 (.t 10) (.t 12), none⟩, ⟨some 15, .load 6 true (.t 14) false, none⟩, ⟨some 6, .alloc [(.string ⟨#[]⟩), (.int .i64 0), (.int .i64 0), (.int .i64 0), (.int .i64 0), (.slice none 0 0)], none⟩, ⟨none, .store 6 (.t 6) (.t 15), none⟩])
  (.reg [⟨some 16, .mv (.t 4) true, none⟩, ⟨some 17, .load 6 true (.t 6) false, none⟩, ⟨some 18, .call 30 [(.t 17)] false, none⟩, ⟨some 19, .load 6 true (.t 6) false, none⟩, ⟨some 20, .call 31 [(.t 19)] false, none⟩, ⟨some 21, .bin .add (.t 18) (.t 20), none⟩, ⟨some 22, .load 6 true (.t 6) false, none⟩, ⟨some 23, .call 51 [(.t 22)] false, none⟩, ⟨some 24, .bin .add (.t 21) (.t 23), none⟩, ⟨some 25, .bsl 1 1 [(.int .i64 0)] [(0, 1, (.t 24))] false, none⟩, ⟨some 26, .app 1 8 (.t 16) (.t 25) false, none⟩, ⟨some 4, .mv (.t 26) true, none⟩])))
  (.reg [⟨some 27, .bin .add (.t 12) (.c (.int .i64 1)), none⟩, ⟨some 12, .mv (.t 27) false, none⟩])))
def L38_0 : C := .loop [1, 4, 10, 11, 12] 1 B38_0
theorem go38_0 (s : Env × Bx) (nb) : evL tab ext nb L38_0 s = (loopIn nb [1, 4, 10, 11, 12] 1 s).bind fun s0 => (evL tab ext nb B38_0 s0).bind (seqG tab ext nb L38_0) := eL_loop _ _ _
def B38_2 : C := .seq (.reg [⟨some 29, .bin .lss (.t 28) (.c (.int .i64 200)), none⟩])
  (.seq (.cond (.t 29) (.skip)
  (.exit 2))
  (.seq (.block 3 (.seq (.reg [⟨some 31, .load 4 true (.t 1) false, none⟩, ⟨some 32, .mv (.t 4) false, none⟩, ⟨some 33, .call 52 [(.t 31), (.t 32)] false, none⟩, ⟨some 30, .mv (.t 33) false, none⟩, ⟨some 34, .ext (.t 30) 0, none⟩, ⟨some 35, .ext (.t 30) 1, none⟩, ⟨some 7, .mv (.t 34) true, none⟩, ⟨some 8, .mv (.t 35) true, none⟩])
  (.seq (.block 4 (.seq (.reg [⟨some 37, .mv (.t 8) false, none⟩, ⟨some 38, .un .not (.t 37), none⟩, ⟨some 36, .mv (.t 38) true, none⟩])
  (.cond (.t 36) (.seq (.reg [⟨some 2, .mv (.c (.slice none 0 0)) true, none⟩, ⟨some 3, .mv (.c (.int .i64 19)) true, none⟩])
  (.ret))
  (.seq (.reg [⟨some 40, .mv (.t 7) false, none⟩, ⟨some 41, .mv (.t 4) false, none⟩, ⟨some 42, .call 53 [(.t 40), (.t 41)] false, none⟩, ⟨some 39, .mv (.t 42) true, none⟩])
  (.cond (.t 39) (.seq (.reg [⟨some 43, .mv (.t 4) false, none⟩, ⟨some 2, .mv (.t 43) true, none⟩, ⟨some 3, .mv (.c (.int .i64 0)) true, none⟩])
  (.ret))
  (.skip))))))
  (.seq (.reg [⟨some 44, .mv (.t 7) false, none⟩, ⟨some 4, .mv (.t 44) true, none⟩])
  (.exit 3)))))
  (.reg [⟨some 45, .bin .add (.t 28) (.c (.int .i64 1)), none⟩, ⟨some 28, .mv (.t 45) false, none⟩])))
def L38_2 : C := .loop [1, 4, 28] 1 B38_2
theorem go38_2 (s : Env × Bx) (nb) : evL tab ext nb L38_2 s = (loopIn nb [1, 4, 28] 1 s).bind fun s0 => (evL tab ext nb B38_2 s0).bind (seqG tab ext nb L38_2) := eL_loop _ _ _
/-- swingbridge/admit.least -/
def C38 : CFun := ⟨46, 1, .seq (.reg [⟨some 1, .box (.t 0), none⟩, ⟨some 2, .mv (.c (.slice none 0 0)) true, none⟩, ⟨some 3, .mv (.c (.int .i64 0)) true, none⟩])
  (.scope (.seq (.reg [⟨some 4, .mv (.c (.slice none 0 0)) true, none⟩])
  (.seq (.seq (.reg [⟨some 9, .fa 3 (.t 1), none⟩, ⟨some 10, .load 1 false (.t 9) false, none⟩, ⟨some 11, .len (.t 10), none⟩, ⟨some 12, .mv (.c (.int .i64 0)) false, none⟩])
  (.block 0 (L38_0)))
  (.seq (.skip)
  (.seq (.seq (.reg [⟨some 28, .mv (.c (.int .i64 0)) false, none⟩])
  (.block 2 (L38_2)))
  (.seq (.reg [⟨some 2, .mv (.c (.slice none 0 0)) true, none⟩, ⟨some 3, .mv (.c (.int .i64 20)) true, none⟩])
  (.ret))))))), [.t 2, .t 3]⟩
theorem row38 : RowOk Try.prog 38 C38 := ⟨Try.f38, ⟨[], [], [], []⟩, lvOf [(0, [1, 4, 10, 11, 12], 1), (2, [1, 4, 28], 1)], Try.func38, by kernel_rfl, by kernel_rfl⟩
def B39_1 : C := .seq (.seq (.reg [⟨some 29, .mv (.t 4) false, none⟩, ⟨some 30, .fa 3 (.t 1), none⟩, ⟨some 31, .load 1 false (.t 30) false, none⟩, ⟨some 32, .len (.t 31), none⟩, ⟨some 33, .bin .lss (.t 29) (.t 32), none⟩])
  (.cond (.t 33) (.skip)
  (.exit 1)))
  (.seq (.block 2 (.seq (.reg [⟨some 36, .load 4 true (.t 1) false, none⟩, ⟨some 37, .mv (.t 4) false, none⟩, ⟨some 38, .call 55 [(.t 36), (.t 37)] false, none⟩, ⟨some 5, .mv (.t 38) true, none⟩])
  (.seq (.reg [⟨some 39, .mv (.t 5) false, none⟩, ⟨some 40, .bin .neq (.t 39) (.c (.int .i64 0)), none⟩])
  (.cond (.t 40) (.seq (.reg [⟨some 41, .mv (.t 4) false, none⟩, ⟨some 42, .mv (.t 5) false, none⟩, ⟨some 2, .mv (.t 41) true, none⟩, ⟨some 3, .mv (.t 42) true, none⟩])
  (.ret))
  (.skip)))))
  (.reg [⟨some 34, .mv (.t 4) false, none⟩, ⟨some 35, .bin .add (.t 34) (.c (.int .i64 1)), none⟩, ⟨some 4, .mv (.t 35) true, none⟩]))
def L39_1 : C := .loop [1, 4] 1 B39_1
theorem go39_1 (s : Env × Bx) (nb) : evL tab ext nb L39_1 s = (loopIn nb [1, 4] 1 s).bind fun s0 => (evL tab ext nb B39_1 s0).bind (seqG tab ext nb L39_1) := eL_loop _ _ _
/-- swingbridge/swingbridgeref7.Check -/
def C39 : CFun := ⟨43, 1, .seq (.reg [⟨some 1, .box (.t 0), none⟩, ⟨some 2, .mv (.c (.int .i64 0)) true, none⟩, ⟨some 3, .mv (.c (.int .i64 0)) true, none⟩])
  (.seq (.block 0 (.seq (.reg [⟨some 7, .fa 0 (.t 1), none⟩, ⟨some 8, .load 1 false (.t 7) false, none⟩, ⟨some 9, .bin .lss (.t 8) (.c (.int .i64 1)), none⟩, ⟨some 10, .mv (.t 9) false, none⟩, ⟨some 11, .fa 0 (.t 1), some (10, false)⟩, ⟨some 12, .load 1 false (.t 11) false, some (10, false)⟩, ⟨some 13, .bin .gtr (.t 12) (.c (.int .i64 3)), some (10, false)⟩, ⟨some 14, .pick (.t 10) (.c (.bool true)) (.t 13), none⟩, ⟨some 6, .mv (.t 14) true, none⟩])
  (.cond (.t 6) (.seq (.reg [⟨some 2, .mv (.c (.int .i64 (-1))) true, none⟩, ⟨some 3, .mv (.c (.int .i64 10)) true, none⟩])
  (.ret))
  (.seq (.reg [⟨some 16, .load 4 true (.t 1) false, none⟩, ⟨some 17, .call 54 [(.t 16)] false, none⟩, ⟨some 18, .un .not (.t 17), none⟩, ⟨some 15, .mv (.t 18) true, none⟩])
  (.cond (.t 15) (.seq (.reg [⟨some 2, .mv (.c (.int .i64 (-1))) true, none⟩, ⟨some 3, .mv (.c (.int .i64 16)) true, none⟩])
  (.ret))
  (.seq (.reg [⟨some 20, .fa 3 (.t 1), none⟩, ⟨some 21, .load 1 false (.t 20) false, none⟩, ⟨some 22, .len (.t 21), none⟩, ⟨some 23, .bin .gtr (.t 22) (.c (.int .i64 6)), none⟩, ⟨some 19, .mv (.t 23) true, none⟩])
  (.cond (.t 19) (.seq (.reg [⟨some 2, .mv (.c (.int .i64 (-1))) true, none⟩, ⟨some 3, .mv (.c (.int .i64 11)) true, none⟩])
  (.ret))
  (.seq (.reg [⟨some 25, .fa 3 (.t 1), none⟩, ⟨some 26, .load 1 false (.t 25) false, none⟩, ⟨some 27, .len (.t 26), none⟩, ⟨some 28, .bin .eql (.t 27) (.c (.int .i64 0)), none⟩, ⟨some 24, .mv (.t 28) true, none⟩])
  (.cond (.t 24) (.seq (.reg [⟨some 2, .mv (.c (.int .i64 (-1))) true, none⟩, ⟨some 3, .mv (.c (.int .i64 14)) true, none⟩])
  (.ret))
  (.skip))))))))))
  (.seq (.seq (.reg [⟨some 4, .mv (.c (.int .i64 0)) true, none⟩])
  (.block 1 (L39_1)))
  (.seq (.reg [⟨some 2, .mv (.c (.int .i64 (-1))) true, none⟩, ⟨some 3, .mv (.c (.int .i64 0)) true, none⟩])
  (.ret)))), [.t 2, .t 3]⟩
theorem row39 : RowOk Try.prog 39 C39 := ⟨Try.f39, ⟨[], [], [], []⟩, lvOf [(1, [1, 4], 1)], Try.func39, by kernel_rfl, by kernel_rfl⟩
/-- swingbridge/wait.Part -/
def C40 : CFun := ⟨41, 4, .seq (.reg [⟨some 4, .box (.t 0), none⟩, ⟨some 8, .mv (.c (.int .i64 0)) true, none⟩, ⟨some 9, .mv (.c (.bool false)) true, none⟩])
  (.seq (.seq (.reg [⟨some 10, .mv (.t 1) false, none⟩, ⟨some 11, .len (.t 10), none⟩, ⟨some 12, .fa 3 (.t 4), none⟩, ⟨some 13, .load 1 false (.t 12) false, none⟩, ⟨some 14, .len (.t 13), none⟩, ⟨some 15, .bin .neq (.t 11) (.t 14), none⟩])
  (.cond (.t 15) (.seq (.reg [⟨some 8, .mv (.c (.int .i64 0)) true, none⟩, ⟨some 9, .mv (.c (.bool false)) true, none⟩])
  (.ret))
  (.skip)))
  (.seq (.seq (.reg [⟨some 16, .fa 0 (.t 4), none⟩, ⟨some 17, .load 1 false (.t 16) false, none⟩])
  (.block 0 (.seq (.reg [⟨some 19, .bin .eql (.t 17) (.c (.int .i64 1)), none⟩, ⟨some 18, .mv (.t 19) true, none⟩])
  (.cond (.t 18) (.seq (.reg [⟨some 20, .load 4 true (.t 4) false, none⟩, ⟨some 21, .mv (.t 2) false, none⟩, ⟨some 22, .mv (.t 3) false, none⟩, ⟨some 23, .call 56 [(.t 20), (.t 21), (.t 22)] false, none⟩, ⟨some 24, .ext (.t 23) 0, none⟩, ⟨some 25, .ext (.t 23) 1, none⟩, ⟨some 8, .mv (.t 24) true, none⟩, ⟨some 9, .mv (.t 25) true, none⟩])
  (.ret))
  (.seq (.reg [⟨some 27, .bin .eql (.t 17) (.c (.int .i64 2)), none⟩, ⟨some 26, .mv (.t 27) true, none⟩])
  (.cond (.t 26) (.seq (.reg [⟨some 28, .load 4 true (.t 4) false, none⟩, ⟨some 29, .mv (.t 1) false, none⟩, ⟨some 30, .mv (.t 2) false, none⟩, ⟨some 31, .mv (.t 3) false, none⟩, ⟨some 32, .call 57 [(.t 28), (.t 29), (.t 30), (.t 31)] false, none⟩, ⟨some 33, .ext (.t 32) 0, none⟩, ⟨some 34, .ext (.t 32) 1, none⟩, ⟨some 8, .mv (.t 33) true, none⟩, ⟨some 9, .mv (.t 34) true, none⟩])
  (.ret))
  (.skip)))))))
  (.seq (.reg [⟨some 35, .load 4 true (.t 4) false, none⟩, ⟨some 36, .mv (.t 2) false, none⟩, ⟨some 37, .mv (.t 3) false, none⟩, ⟨some 38, .call 58 [(.t 35), (.t 36), (.t 37)] false, none⟩, ⟨some 39, .ext (.t 38) 0, none⟩, ⟨some 40, .ext (.t 38) 1, none⟩, ⟨some 8, .mv (.t 39) true, none⟩, ⟨some 9, .mv (.t 40) true, none⟩])
  (.ret)))), [.t 8, .t 9]⟩
theorem row40 : RowOk Try.prog 40 C40 := ⟨Try.f40, ⟨[], [], [], []⟩, lvOf [], Try.func40, by kernel_rfl, by kernel_rfl⟩
def B41_0 : C := .seq (.seq (.reg [⟨some 11, .mv (.t 5) false, none⟩, ⟨some 12, .mv (.t 0) false, none⟩, ⟨some 13, .len (.t 12), none⟩, ⟨some 14, .bin .lss (.t 11) (.t 13), none⟩])
  (.cond (.t 14) (.skip)
  (.exit 0)))
  (.seq (.block 1 (.seq (.reg [⟨some 17, .mv (.t 0) false, none⟩, ⟨some 18, .mv (.t 5) false, none⟩, ⟨some 19, .ia 1 (.t 17) (.t 18), none⟩, ⟨some 20, .load 1 false (.t 19) false, none⟩, ⟨some 21, .mv (.t 1) false, none⟩, ⟨some 22, .mv (.t 5) false, none⟩, ⟨some 23, .ia 1 (.t 21) (.t 22), none⟩, ⟨some 24, .load 1 false (.t 23) false, none⟩, ⟨some 25, .bin .neq (.t 20) (.t 24), none⟩])
  (.cond (.t 25) (.seq (.reg [⟨some 4, .mv (.c (.bool false)) true, none⟩])
  (.ret))
  (.skip))))
  (.reg [⟨some 15, .mv (.t 5) false, none⟩, ⟨some 16, .bin .add (.t 15) (.c (.int .i64 1)), none⟩, ⟨some 5, .mv (.t 16) true, none⟩]))
def L41_0 : C := .loop [0, 1, 5] 0 B41_0
theorem go41_0 (s : Env × Bx) (nb) : evL tab ext nb L41_0 s = (loopIn nb [0, 1, 5] 0 s).bind fun s0 => (evL tab ext nb B41_0 s0).bind (seqG tab ext nb L41_0) := eL_loop _ _ _
/-- swingbridge/swingbridgeref2.SameInts -/
def C41 : CFun := ⟨26, 2, .seq (.reg [⟨some 4, .mv (.c (.bool false)) true, none⟩])
  (.seq (.seq (.reg [⟨some 6, .mv (.t 0) false, none⟩, ⟨some 7, .len (.t 6), none⟩, ⟨some 8, .mv (.t 1) false, none⟩, ⟨some 9, .len (.t 8), none⟩, ⟨some 10, .bin .neq (.t 7) (.t 9), none⟩])
  (.cond (.t 10) (.seq (.reg [⟨some 4, .mv (.c (.bool false)) true, none⟩])
  (.ret))
  (.skip)))
  (.seq (.seq (.reg [⟨some 5, .mv (.c (.int .i64 0)) true, none⟩])
  (.block 0 (L41_0)))
  (.seq (.reg [⟨some 4, .mv (.c (.bool true)) true, none⟩])
  (.ret)))), [.t 4]⟩
theorem row41 : RowOk Try.prog 41 C41 := ⟨Try.f41, ⟨[], [], [], []⟩, lvOf [(0, [0, 1, 5], 0)], Try.func41, by kernel_rfl, by kernel_rfl⟩
def B42_0 : C := .seq (.reg [⟨some 12, .bin .lss (.t 11) (.t 10), none⟩])
  (.seq (.cond (.t 12) (.skip)
  (.exit 0))
  (.seq (.block 1 (.seq (.reg [⟨some 13, .ia 3 (.t 9) (.t 11), none⟩, ⟨some 14, .load 3 true (.t 13) false, none⟩, ⟨some 7, .alloc [(.int .i64 0), (.int .i64 0), (.int .i64 0)], none⟩, ⟨none, .store 3 (.t 7) (.t 14), none⟩])
  (.seq (.seq (.reg [⟨some 15, .fa 0 (.t 7), none⟩, ⟨some 16, .load 1 false (.t 15) false, none⟩, ⟨some 17, .mv (.t 1) false, none⟩, ⟨some 18, .bin .neq (.t 16) (.t 17), none⟩])
  (.cond (.t 18) (.exit 1)
  (.skip)))
  (.reg [⟨some 19, .mv (.t 5) false, none⟩, ⟨some 20, .fa 1 (.t 7), none⟩, ⟨some 21, .load 1 false (.t 20) false, none⟩, ⟨some 22, .bin .add (.t 19) (.t 21), none⟩, ⟨some 5, .mv (.t 22) true, none⟩]))))
  (.reg [⟨some 23, .bin .add (.t 11) (.c (.int .i64 1)), none⟩, ⟨some 11, .mv (.t 23) false, none⟩])))
def L42_0 : C := .loop [1, 5, 9, 10, 11] 1 B42_0
theorem go42_0 (s : Env × Bx) (nb) : evL tab ext nb L42_0 s = (loopIn nb [1, 5, 9, 10, 11] 1 s).bind fun s0 => (evL tab ext nb B42_0 s0).bind (seqG tab ext nb L42_0) := eL_loop _ _ _
/-- swingbridge/demand.all -/
def C42 : CFun := ⟨25, 2, .seq (.reg [⟨some 2, .box (.t 0), none⟩, ⟨some 4, .mv (.c (.int .i64 0)) true, none⟩])
  (.scope (.seq (.reg [⟨some 5, .mv (.c (.int .i64 0)) true, none⟩])
  (.seq (.skip)
  (.seq (.seq (.reg [⟨some 8, .fa 5 (.t 2), none⟩, ⟨some 9, .load 1 false (.t 8) false, none⟩, ⟨some 10, .len (.t 9), none⟩, ⟨some 11, .mv (.c (.int .i64 0)) false, none⟩])
  (.block 0 (L42_0)))
  (.seq (.reg [⟨some 24, .mv (.t 5) false, none⟩, ⟨some 4, .mv (.t 24) true, none⟩])
  (.ret)))))), [.t 4]⟩
theorem row42 : RowOk Try.prog 42 C42 := ⟨Try.f42, ⟨[], [], [], []⟩, lvOf [(0, [1, 5, 9, 10, 11], 1)], Try.func42, by kernel_rfl, by kernel_rfl⟩
/-- swingbridge/task.between -/
def C43 : CFun := ⟨15, 3, .seq (.reg [⟨some 6, .mv (.c (.bool false)) true, none⟩])
  (.seq (.reg [⟨some 7, .mv (.t 0) false, none⟩, ⟨some 8, .mv (.t 1) false, none⟩, ⟨some 9, .bin .geq (.t 7) (.t 8), none⟩, ⟨some 10, .mv (.t 9) false, none⟩, ⟨some 11, .mv (.t 0) false, some (10, true)⟩, ⟨some 12, .mv (.t 2) false, some (10, true)⟩, ⟨some 13, .bin .leq (.t 11) (.t 12), some (10, true)⟩, ⟨some 14, .pick (.t 10) (.t 13) (.c (.bool false)), none⟩, ⟨some 6, .mv (.t 14) true, none⟩])
  (.ret)), [.t 6]⟩
theorem row43 : RowOk Try.prog 43 C43 := ⟨Try.f43, ⟨[], [], [], []⟩, lvOf [], Try.func43, by kernel_rfl, by kernel_rfl⟩
/-- swingbridge/task.placed -/
def C44 : CFun := ⟨32, 1, .seq (.reg [⟨some 1, .box (.t 0), none⟩, ⟨some 2, .mv (.c (.bool false)) true, none⟩])
  (.seq (.reg [⟨some 6, .fa 1 (.t 1), none⟩, ⟨some 7, .load 1 false (.t 6) false, none⟩, ⟨some 8, .len (.t 7), none⟩, ⟨some 9, .call 43 [(.t 8), (.c (.int .i64 1)), (.c (.int .i64 3))] false, none⟩, ⟨some 10, .mv (.t 9) false, none⟩, ⟨some 11, .fa 2 (.t 1), some (10, true)⟩, ⟨some 12, .load 1 false (.t 11) false, some (10, true)⟩, ⟨some 13, .len (.t 12), some (10, true)⟩, ⟨some 14, .bin .leq (.t 13) (.c (.int .i64 4)), some (10, true)⟩, ⟨some 15, .pick (.t 10) (.t 14) (.c (.bool false)), none⟩, ⟨some 3, .mv (.t 15) true, none⟩])
  (.seq (.reg [⟨some 4, .mv (.f 59) true, none⟩])
  (.seq (.reg [⟨some 16, .mkf 60 [(.t 1)], none⟩, ⟨some 5, .mv (.t 16) true, none⟩])
  (.seq (.reg [⟨some 17, .mv (.t 3) false, none⟩, ⟨some 18, .mv (.t 17) false, none⟩, ⟨some 19, .fa 1 (.t 1), some (18, true)⟩, ⟨some 20, .load 1 false (.t 19) false, some (18, true)⟩, ⟨some 21, .mv (.t 4) false, some (18, true)⟩, ⟨some 22, .calli 34 [(.t 20), (.t 21)], some (18, true)⟩, ⟨some 23, .un .not (.t 22), some (18, true)⟩, ⟨some 24, .pick (.t 18) (.t 23) (.c (.bool false)), none⟩, ⟨some 25, .mv (.t 24) false, none⟩, ⟨some 26, .fa 2 (.t 1), some (25, true)⟩, ⟨some 27, .load 1 false (.t 26) false, some (25, true)⟩, ⟨some 28, .mv (.t 5) false, some (25, true)⟩, ⟨some 29, .calli 34 [(.t 27), (.t 28)], some (25, true)⟩, ⟨some 30, .un .not (.t 29), some (25, true)⟩, ⟨some 31, .pick (.t 25) (.t 30) (.c (.bool false)), none⟩, ⟨some 2, .mv (.t 31) true, none⟩])
  (.ret))))), [.t 2]⟩
theorem row44 : RowOk Try.prog 44 C44 := ⟨Try.f44, ⟨[], [], [], []⟩, lvOf [], Try.func44, by kernel_rfl, by kernel_rfl⟩
/-- swingbridge/task.one -/
def C45 : CFun := ⟨60, 2, .seq (.reg [⟨some 2, .box (.t 0), none⟩, ⟨some 4, .mv (.c (.int .i64 0)) true, none⟩])
  (.seq (.reg [⟨some 7, .fa 3 (.t 2), none⟩, ⟨some 8, .load 1 false (.t 7) false, none⟩, ⟨some 9, .mv (.t 1) false, none⟩, ⟨some 10, .ia 6 (.t 8) (.t 9), none⟩, ⟨some 11, .load 6 true (.t 10) false, none⟩, ⟨some 5, .alloc [(.string ⟨#[]⟩), (.int .i64 0), (.int .i64 0), (.int .i64 0), (.int .i64 0), (.slice none 0 0)], none⟩, ⟨none, .store 6 (.t 5) (.t 11), none⟩])
  (.seq (.reg [⟨some 12, .mkf 61 [(.t 5)], none⟩, ⟨some 6, .mv (.t 12) true, none⟩])
  (.seq (.block 0 (.seq (.reg [⟨some 14, .fa 0 (.t 5), none⟩, ⟨some 15, .load 1 false (.t 14) false, none⟩, ⟨some 16, .call 62 [(.t 15)] false, none⟩, ⟨some 17, .un .not (.t 16), none⟩, ⟨some 18, .mv (.t 17) false, none⟩, ⟨some 19, .fa 1 (.t 5), some (18, false)⟩, ⟨some 20, .load 1 false (.t 19) false, some (18, false)⟩, ⟨some 21, .call 43 [(.t 20), (.c (.int .i64 1)), (.c (.int .i64 3000))] false, some (18, false)⟩, ⟨some 22, .un .not (.t 21), some (18, false)⟩, ⟨some 23, .pick (.t 18) (.c (.bool true)) (.t 22), none⟩, ⟨some 24, .mv (.t 23) false, none⟩, ⟨some 25, .fa 2 (.t 5), some (24, false)⟩, ⟨some 26, .load 1 false (.t 25) false, some (24, false)⟩, ⟨some 27, .fa 1 (.t 5), some (24, false)⟩, ⟨some 28, .load 1 false (.t 27) false, some (24, false)⟩, ⟨some 29, .call 43 [(.t 26), (.c (.int .i64 1)), (.t 28)] false, some (24, false)⟩, ⟨some 30, .un .not (.t 29), some (24, false)⟩, ⟨some 31, .pick (.t 24) (.c (.bool true)) (.t 30), none⟩, ⟨some 32, .mv (.t 31) false, none⟩, ⟨some 33, .fa 3 (.t 5), some (32, false)⟩, ⟨some 34, .load 1 false (.t 33) false, some (32, false)⟩, ⟨some 35, .call 43 [(.t 34), (.c (.int .i64 1)), (.c (.int .i64 1000))] false, some (32, false)⟩, ⟨some 36, .un .not (.t 35), some (32, false)⟩, ⟨some 37, .pick (.t 32) (.c (.bool true)) (.t 36), none⟩, ⟨some 13, .mv (.t 37) true, none⟩])
  (.cond (.t 13) (.seq (.reg [⟨some 4, .mv (.c (.int .i64 10)) true, none⟩])
  (.ret))
  (.seq (.reg [⟨some 39, .fa 4 (.t 5), none⟩, ⟨some 40, .load 1 false (.t 39) false, none⟩, ⟨some 41, .fa 1 (.t 2), none⟩, ⟨some 42, .load 1 false (.t 41) false, none⟩, ⟨some 43, .len (.t 42), none⟩, ⟨some 44, .bin .sub (.t 43) (.c (.int .i64 1)), none⟩, ⟨some 45, .call 43 [(.t 40), (.c (.int .i64 0)), (.t 44)] false, none⟩, ⟨some 46, .un .not (.t 45), none⟩, ⟨some 38, .mv (.t 46) true, none⟩])
  (.cond (.t 38) (.seq (.reg [⟨some 4, .mv (.c (.int .i64 16)) true, none⟩])
  (.ret))
  (.seq (.reg [⟨some 48, .fa 3 (.t 2), none⟩, ⟨some 49, .load 1 false (.t 48) false, none⟩, ⟨some 50, .mv (.t 1) false, none⟩, ⟨some 51, .slc 6 (.t 49) none (some (.t 50)) none, none⟩, ⟨some 52, .mv (.t 6) false, none⟩, ⟨some 53, .calli 63 [(.t 51), (.t 52)], none⟩, ⟨some 47, .mv (.t 53) true, none⟩])
  (.cond (.t 47) (.seq (.reg [⟨some 4, .mv (.c (.int .i64 17)) true, none⟩])
  (.ret))
  (.seq (.reg [⟨some 55, .load 4 true (.t 2) false, none⟩, ⟨some 56, .fa 5 (.t 5), none⟩, ⟨some 57, .load 1 false (.t 56) false, none⟩, ⟨some 58, .call 64 [(.t 55), (.t 57)] false, none⟩, ⟨some 59, .un .not (.t 58), none⟩, ⟨some 54, .mv (.t 59) true, none⟩])
  (.cond (.t 54) (.seq (.reg [⟨some 4, .mv (.c (.int .i64 15)) true, none⟩])
  (.ret))
  (.skip))))))))))
  (.seq (.reg [⟨some 4, .mv (.c (.int .i64 0)) true, none⟩])
  (.ret))))), [.t 4]⟩
theorem row45 : RowOk Try.prog 45 C45 := ⟨Try.f45, ⟨[], [], [], []⟩, lvOf [], Try.func45, by kernel_rfl, by kernel_rfl⟩
def B46_0 : C := .seq (.reg [⟨some 9, .bin .lss (.t 8) (.t 7), none⟩])
  (.seq (.cond (.t 9) (.skip)
  (.exit 0))
  (.seq (.block 1 (.seq (.reg [⟨some 10, .mv (.t 8) false, none⟩, ⟨some 5, .mv (.t 10) true, none⟩])
  (.seq (.reg [⟨some 11, .mv (.t 1) false, none⟩, ⟨some 12, .mv (.t 0) false, none⟩, ⟨some 13, .mv (.t 5) false, none⟩, ⟨some 14, .ia 1 (.t 12) (.t 13), none⟩, ⟨some 15, .load 1 false (.t 14) false, none⟩, ⟨some 16, .callv (.t 11) [(.t 15)], none⟩])
  (.cond (.t 16) (.seq (.reg [⟨some 17, .mv (.t 5) false, none⟩, ⟨some 4, .mv (.t 17) true, none⟩])
  (.ret))
  (.skip)))))
  (.reg [⟨some 18, .bin .add (.t 8) (.c (.int .i64 1)), none⟩, ⟨some 8, .mv (.t 18) false, none⟩])))
def L46_0 : C := .loop [0, 1, 7, 8] 0 B46_0
theorem go46_0 (s : Env × Bx) (nb) : evL tab ext nb L46_0 s = (loopIn nb [0, 1, 7, 8] 0 s).bind fun s0 => (evL tab ext nb B46_0 s0).bind (seqG tab ext nb L46_0) := eL_loop _ _ _
/-- slices.IndexFunc[[]int,int] -/
def C46 : CFun := ⟨19, 2, .seq (.reg [⟨some 4, .mv (.c (.int .i64 0)) true, none⟩])
  (.seq (.seq (.reg [⟨some 6, .mv (.t 0) false, none⟩, ⟨some 7, .len (.t 6), none⟩, ⟨some 8, .mv (.c (.int .i64 0)) false, none⟩])
  (.block 0 (L46_0)))
  (.seq (.reg [⟨some 4, .mv (.c (.int .i64 (-1))) true, none⟩])
  (.ret))), [.t 4]⟩
theorem row46 : RowOk Try.prog 46 C46 := ⟨Try.f46, ⟨[], [], [], []⟩, lvOf [(0, [0, 1, 7, 8], 0)], Try.func46, by kernel_rfl, by kernel_rfl⟩
/-- swingbridge/count.held -/
def C47 : CFun := ⟨9, 2, .seq (.reg [⟨some 4, .mv (.c (.int .i64 0)) true, none⟩])
  (.seq (.seq (.reg [⟨some 5, .mv (.t 1) false, none⟩, ⟨some 6, .un .not (.t 5), none⟩])
  (.cond (.t 6) (.seq (.reg [⟨some 4, .mv (.c (.int .i64 1000000)) true, none⟩])
  (.ret))
  (.skip)))
  (.seq (.reg [⟨some 7, .mv (.t 0) false, none⟩, ⟨some 8, .mxn false [(.t 7), (.c (.int .i64 1000000))], none⟩, ⟨some 4, .mv (.t 8) true, none⟩])
  (.ret))), [.t 4]⟩
theorem row47 : RowOk Try.prog 47 C47 := ⟨Try.f47, ⟨[], [], [], []⟩, lvOf [], Try.func47, by kernel_rfl, by kernel_rfl⟩
/-- swingbridge/calc.Mul -/
def C48 : CFun := ⟨27, 2, .seq (.reg [⟨some 4, .mv (.c (.int .i64 0)) true, none⟩, ⟨some 5, .mv (.c (.bool false)) true, none⟩])
  (.seq (.reg [⟨some 9, .mv (.t 0) false, none⟩, ⟨some 10, .call 66 [(.t 9)] false, none⟩, ⟨some 11, .mv (.t 1) false, none⟩, ⟨some 12, .call 66 [(.t 11)] false, none⟩, ⟨some 13, .call 65 [(.t 10), (.t 12)] false, none⟩, ⟨some 8, .mv (.t 13) false, none⟩, ⟨some 14, .ext (.t 8) 0, none⟩, ⟨some 15, .ext (.t 8) 1, none⟩, ⟨some 6, .mv (.t 14) true, none⟩, ⟨some 7, .mv (.t 15) true, none⟩])
  (.seq (.seq (.reg [⟨some 16, .mv (.t 6) false, none⟩, ⟨some 17, .bin .gtr (.t 16) (.c (.int .u64 0)), none⟩])
  (.cond (.t 17) (.seq (.reg [⟨some 4, .mv (.c (.int .i64 0)) true, none⟩, ⟨some 5, .mv (.c (.bool false)) true, none⟩])
  (.ret))
  (.skip)))
  (.seq (.reg [⟨some 18, .mv (.t 7) false, none⟩, ⟨some 19, .mv (.t 0) false, none⟩, ⟨some 20, .bin .lss (.t 19) (.c (.int .i64 0)), none⟩, ⟨some 21, .mv (.t 1) false, none⟩, ⟨some 22, .bin .lss (.t 21) (.c (.int .i64 0)), none⟩, ⟨some 23, .eqb true (.t 20) (.t 22), none⟩, ⟨some 24, .call 67 [(.t 18), (.t 23)] false, none⟩, ⟨some 25, .ext (.t 24) 0, none⟩, ⟨some 26, .ext (.t 24) 1, none⟩, ⟨some 4, .mv (.t 25) true, none⟩, ⟨some 5, .mv (.t 26) true, none⟩])
  (.ret)))), [.t 4, .t 5]⟩
theorem row48 : RowOk Try.prog 48 C48 := ⟨Try.f48, ⟨[], [], [], []⟩, lvOf [], Try.func48, by kernel_rfl, by kernel_rfl⟩
/-- swingbridge/count.Jobs -/
def C49 : CFun := ⟨36, 3, .seq (.reg [⟨some 6, .mv (.c (.int .i64 0)) true, none⟩])
  (.seq (.seq (.reg [⟨some 9, .mv (.t 0) false, none⟩, ⟨some 10, .bin .lss (.t 9) (.c (.int .i64 1)), none⟩, ⟨some 11, .mv (.t 10) false, none⟩, ⟨some 12, .mv (.t 1) false, some (11, false)⟩, ⟨some 13, .bin .lss (.t 12) (.c (.int .i64 0)), some (11, false)⟩, ⟨some 14, .pick (.t 11) (.c (.bool true)) (.t 13), none⟩, ⟨some 15, .mv (.t 14) false, none⟩, ⟨some 16, .mv (.t 2) false, some (15, false)⟩, ⟨some 17, .bin .lss (.t 16) (.c (.int .i64 1)), some (15, false)⟩, ⟨some 18, .pick (.t 15) (.c (.bool true)) (.t 17), none⟩])
  (.cond (.t 18) (.seq (.reg [⟨some 6, .mv (.c (.int .i64 0)) true, none⟩])
  (.ret))
  (.skip)))
  (.seq (.reg [⟨some 20, .mv (.t 0) false, none⟩, ⟨some 21, .mv (.t 1) false, none⟩, ⟨some 22, .call 68 [(.t 20), (.t 21)] false, none⟩, ⟨some 19, .mv (.t 22) false, none⟩, ⟨some 23, .ext (.t 19) 0, none⟩, ⟨some 24, .ext (.t 19) 1, none⟩, ⟨some 7, .mv (.t 23) true, none⟩, ⟨some 8, .mv (.t 24) true, none⟩])
  (.seq (.seq (.reg [⟨some 25, .mv (.t 8) false, none⟩])
  (.cond (.t 25) (.seq (.reg [⟨some 26, .mv (.t 7) false, none⟩, ⟨some 27, .mv (.t 2) false, none⟩, ⟨some 28, .call 69 [(.t 26), (.t 27)] false, none⟩, ⟨some 29, .ext (.t 28) 0, none⟩, ⟨some 30, .ext (.t 28) 1, none⟩, ⟨some 31, .call 47 [(.t 29), (.t 30)] false, none⟩, ⟨some 6, .mv (.t 31) true, none⟩])
  (.ret))
  (.skip)))
  (.seq (.reg [⟨some 32, .mv (.t 0) false, none⟩, ⟨some 33, .mv (.t 1) false, none⟩, ⟨some 34, .mv (.t 2) false, none⟩, ⟨some 35, .call 70 [(.t 32), (.t 33), (.t 34)] false, none⟩, ⟨some 6, .mv (.t 35) true, none⟩])
  (.ret))))), [.t 6]⟩
theorem row49 : RowOk Try.prog 49 C49 := ⟨Try.f49, ⟨[], [], [], []⟩, lvOf [], Try.func49, by kernel_rfl, by kernel_rfl⟩
def B50_0 : C := .seq (.reg [⟨some 16, .bin .lss (.t 15) (.t 14), none⟩])
  (.seq (.cond (.t 16) (.skip)
  (.exit 0))
  (.seq (.block 1 (.seq (.reg [⟨some 17, .ia 1 (.t 13) (.t 15), none⟩, ⟨some 18, .load 1 false (.t 17) false, none⟩, ⟨some 9, .mv (.t 18) true, none⟩])
  (.reg [⟨some 19, .mv (.t 7) false, none⟩, ⟨some 20, .mv (.t 9) false, none⟩, ⟨some 21, .bin .add (.t 19) (.t 20), none⟩, ⟨some 7, .mv (.t 21) true, none⟩])))
  (.reg [⟨some 22, .bin .add (.t 15) (.c (.int .i64 1)), none⟩, ⟨some 15, .mv (.t 22) false, none⟩])))
def L50_0 : C := .loop [7, 13, 14, 15] 1 B50_0
theorem go50_0 (s : Env × Bx) (nb) : evL tab ext nb L50_0 s = (loopIn nb [7, 13, 14, 15] 1 s).bind fun s0 => (evL tab ext nb B50_0 s0).bind (seqG tab ext nb L50_0) := eL_loop _ _ _
/-- swingbridge/demand.At -/
def C50 : CFun := ⟨24, 3, .seq (.reg [⟨some 3, .box (.t 0), none⟩, ⟨some 6, .mv (.c (.int .i64 0)) true, none⟩])
  (.seq (.reg [⟨some 7, .mv (.c (.int .i64 0)) true, none⟩])
  (.seq (.seq (.reg [⟨some 10, .load 4 true (.t 3) false, none⟩, ⟨some 11, .mv (.t 1) false, none⟩, ⟨some 12, .mv (.t 2) false, none⟩, ⟨some 13, .call 71 [(.t 10), (.t 11), (.t 12)] false, none⟩, ⟨some 14, .len (.t 13), none⟩, ⟨some 15, .mv (.c (.int .i64 0)) false, none⟩])
  (.block 0 (L50_0)))
  (.seq (.reg [⟨some 23, .mv (.t 7) false, none⟩, ⟨some 6, .mv (.t 23) true, none⟩])
  (.ret)))), [.t 6]⟩
theorem row50 : RowOk Try.prog 50 C50 := ⟨Try.f50, ⟨[], [], [], []⟩, lvOf [(0, [7, 13, 14, 15], 1)], Try.func50, by kernel_rfl, by kernel_rfl⟩
/-- swingbridge/demand.Locks -/
def C51 : CFun := ⟨5, 1, .seq (.reg [⟨some 1, .box (.t 0), none⟩, ⟨some 2, .mv (.c (.int .i64 0)) true, none⟩])
  (.seq (.reg [⟨some 3, .load 6 true (.t 1) false, none⟩, ⟨some 4, .call 42 [(.t 3), (.c (.int .i64 3))] false, none⟩, ⟨some 2, .mv (.t 4) true, none⟩])
  (.ret)), [.t 2]⟩
theorem row51 : RowOk Try.prog 51 C51 := ⟨Try.f51, ⟨[], [], [], []⟩, lvOf [], Try.func51, by kernel_rfl, by kernel_rfl⟩
def B52_0 : C := .seq (.reg [⟨some 15, .bin .lss (.t 14) (.t 13), none⟩])
  (.seq (.cond (.t 15) (.skip)
  (.exit 0))
  (.seq (.block 1 (.seq (.reg [⟨some 16, .mv (.t 14) false, none⟩, ⟨some 17, .ia 6 (.t 12) (.t 14), none⟩, ⟨some 18, .load 6 true (.t 17) false, none⟩, ⟨some 8, .alloc [(.string ⟨#[]⟩), (.int .i64 0), (.int .i64 0), (.int .i64 0), (.int .i64 0), (.slice none 0 0)], none⟩, ⟨some 7, .mv (.t 16) true, none⟩, ⟨none, .store 6 (.t 8) (.t 18), none⟩])
  (.seq (.reg [⟨some 20, .load 4 true (.t 2) false, none⟩, ⟨some 21, .mv (.t 1) false, none⟩, ⟨some 22, .mv (.t 7) false, none⟩, ⟨some 23, .call 16 [(.t 20), (.t 21), (.t 22)] false, none⟩, ⟨some 19, .mv (.t 23) false, none⟩, ⟨some 24, .ext (.t 19) 0, none⟩, ⟨some 25, .ext (.t 19) 1, none⟩, ⟨some 9, .mv (.t 24) true, none⟩, ⟨some 10, .mv (.t 25) true, none⟩])
  (.seq (.seq (.reg [⟨some 26, .mv (.t 10) false, none⟩, ⟨some 27, .un .not (.t 26), none⟩, ⟨some 28, .mv (.t 27) false, none⟩, ⟨some 29, .mv (.t 9) false, some (28, false)⟩, ⟨some 30, .fa 2 (.t 8), some (28, false)⟩, ⟨some 31, .load 1 false (.t 30) false, some (28, false)⟩, ⟨some 32, .bin .gtr (.t 29) (.t 31), some (28, false)⟩, ⟨some 33, .pick (.t 28) (.c (.bool true)) (.t 32), none⟩])
  (.cond (.t 33) (.seq (.reg [⟨some 4, .mv (.c (.slice none 0 0)) true, none⟩, ⟨some 5, .mv (.c (.bool false)) true, none⟩])
  (.ret))
  (.skip)))
  (.reg [⟨some 34, .mv (.t 6) true, none⟩, ⟨some 35, .mv (.t 9) false, none⟩, ⟨some 36, .bsl 1 1 [(.int .i64 0)] [(0, 1, (.t 35))] false, none⟩, ⟨some 37, .app 1 8 (.t 34) (.t 36) false, none⟩, ⟨some 6, .mv (.t 37) true, none⟩])))))
  (.reg [⟨some 38, .bin .add (.t 14) (.c (.int .i64 1)), none⟩, ⟨some 14, .mv (.t 38) false, none⟩])))
def L52_0 : C := .loop [1, 2, 6, 12, 13, 14] 1 B52_0
theorem go52_0 (s : Env × Bx) (nb) : evL tab ext nb L52_0 s = (loopIn nb [1, 2, 6, 12, 13, 14] 1 s).bind fun s0 => (evL tab ext nb B52_0 s0).bind (seqG tab ext nb L52_0) := eL_loop _ _ _
/-- swingbridge/admit.round -/
def C52 : CFun := ⟨40, 2, .seq (.reg [⟨some 2, .box (.t 0), none⟩, ⟨some 4, .mv (.c (.slice none 0 0)) true, none⟩, ⟨some 5, .mv (.c (.bool false)) true, none⟩])
  (.seq (.reg [⟨some 6, .mv (.c (.slice none 0 0)) true, none⟩])
  (.seq (.seq (.reg [⟨some 11, .fa 3 (.t 2), none⟩, ⟨some 12, .load 1 false (.t 11) false, none⟩, ⟨some 13, .len (.t 12), none⟩, ⟨some 14, .mv (.c (.int .i64 0)) false, none⟩])
  (.block 0 (L52_0)))
  (.seq (.reg [⟨some 39, .mv (.t 6) false, none⟩, ⟨some 4, .mv (.t 39) true, none⟩, ⟨some 5, .mv (.c (.bool true)) true, none⟩])
  (.ret)))), [.t 4, .t 5]⟩
theorem row52 : RowOk Try.prog 52 C52 := ⟨Try.f52, ⟨[], [], [], []⟩, lvOf [(0, [1, 2, 6, 12, 13, 14], 1)], Try.func52, by kernel_rfl, by kernel_rfl⟩
def B53_0 : C := .seq (.reg [⟨some 14, .bin .lss (.t 13) (.t 12), none⟩])
  (.seq (.cond (.t 14) (.skip)
  (.exit 0))
  (.seq (.block 1 (.seq (.reg [⟨some 15, .mv (.t 13) false, none⟩, ⟨some 5, .mv (.t 15) true, none⟩])
  (.seq (.reg [⟨some 16, .mv (.t 0) false, none⟩, ⟨some 17, .mv (.t 5) false, none⟩, ⟨some 18, .ia 1 (.t 16) (.t 17), none⟩, ⟨some 19, .load 1 false (.t 18) false, none⟩, ⟨some 20, .mv (.t 1) false, none⟩, ⟨some 21, .mv (.t 5) false, none⟩, ⟨some 22, .ia 1 (.t 20) (.t 21), none⟩, ⟨some 23, .load 1 false (.t 22) false, none⟩, ⟨some 24, .bin .neq (.t 19) (.t 23), none⟩])
  (.cond (.t 24) (.seq (.reg [⟨some 4, .mv (.c (.bool false)) true, none⟩])
  (.ret))
  (.skip)))))
  (.reg [⟨some 25, .bin .add (.t 13) (.c (.int .i64 1)), none⟩, ⟨some 13, .mv (.t 25) false, none⟩])))
def L53_0 : C := .loop [0, 1, 12, 13] 0 B53_0
theorem go53_0 (s : Env × Bx) (nb) : evL tab ext nb L53_0 s = (loopIn nb [0, 1, 12, 13] 0 s).bind fun s0 => (evL tab ext nb B53_0 s0).bind (seqG tab ext nb L53_0) := eL_loop _ _ _
/-- slices.Equal[[]int,int] -/
def C53 : CFun := ⟨26, 2, .seq (.reg [⟨some 4, .mv (.c (.bool false)) true, none⟩])
  (.seq (.seq (.reg [⟨some 6, .mv (.t 0) false, none⟩, ⟨some 7, .len (.t 6), none⟩, ⟨some 8, .mv (.t 1) false, none⟩, ⟨some 9, .len (.t 8), none⟩, ⟨some 10, .bin .neq (.t 7) (.t 9), none⟩])
  (.cond (.t 10) (.seq (.reg [⟨some 4, .mv (.c (.bool false)) true, none⟩])
  (.ret))
  (.skip)))
  (.seq (.seq (.reg [⟨some 11, .mv (.t 0) false, none⟩, ⟨some 12, .len (.t 11), none⟩, ⟨some 13, .mv (.c (.int .i64 0)) false, none⟩])
  (.block 0 (L53_0)))
  (.seq (.reg [⟨some 4, .mv (.c (.bool true)) true, none⟩])
  (.ret)))), [.t 4]⟩
theorem row53 : RowOk Try.prog 53 C53 := ⟨Try.f53, ⟨[], [], [], []⟩, lvOf [(0, [0, 1, 12, 13], 0)], Try.func53, by kernel_rfl, by kernel_rfl⟩
def B54_0 : C := .seq (.seq (.reg [⟨some 21, .mv (.t 3) false, none⟩, ⟨some 22, .fa 1 (.t 1), none⟩, ⟨some 23, .load 1 false (.t 22) false, none⟩, ⟨some 24, .len (.t 23), none⟩, ⟨some 25, .bin .lss (.t 21) (.t 24), none⟩])
  (.cond (.t 25) (.skip)
  (.exit 0)))
  (.seq (.block 1 (.seq (.reg [⟨some 28, .fa 1 (.t 1), none⟩, ⟨some 29, .load 1 false (.t 28) false, none⟩, ⟨some 30, .mv (.t 3) false, none⟩, ⟨some 31, .ia 1 (.t 29) (.t 30), none⟩, ⟨some 32, .load 1 false (.t 31) false, none⟩, ⟨some 33, .bin .lss (.t 32) (.c (.int .i64 1)), none⟩, ⟨some 34, .mv (.t 33) false, none⟩, ⟨some 35, .fa 1 (.t 1), some (34, false)⟩, ⟨some 36, .load 1 false (.t 35) false, some (34, false)⟩, ⟨some 37, .mv (.t 3) false, some (34, false)⟩, ⟨some 38, .ia 1 (.t 36) (.t 37), some (34, false)⟩, ⟨some 39, .load 1 false (.t 38) false, some (34, false)⟩, ⟨some 40, .bin .gtr (.t 39) (.c (.int .i64 3)), some (34, false)⟩, ⟨some 41, .pick (.t 34) (.c (.bool true)) (.t 40), none⟩])
  (.cond (.t 41) (.seq (.reg [⟨some 2, .mv (.c (.bool false)) true, none⟩])
  (.ret))
  (.skip))))
  (.reg [⟨some 26, .mv (.t 3) false, none⟩, ⟨some 27, .bin .add (.t 26) (.c (.int .i64 1)), none⟩, ⟨some 3, .mv (.t 27) true, none⟩]))
def L54_0 : C := .loop [1, 3] 1 B54_0
theorem go54_0 (s : Env × Bx) (nb) : evL tab ext nb L54_0 s = (loopIn nb [1, 3] 1 s).bind fun s0 => (evL tab ext nb B54_0 s0).bind (seqG tab ext nb L54_0) := eL_loop _ _ _
def B54_2 : C := .seq (.seq (.reg [⟨some 42, .mv (.t 4) false, none⟩, ⟨some 43, .fa 2 (.t 1), none⟩, ⟨some 44, .load 1 false (.t 43) false, none⟩, ⟨some 45, .len (.t 44), none⟩, ⟨some 46, .bin .lss (.t 42) (.t 45), none⟩])
  (.cond (.t 46) (.skip)
  (.exit 2)))
  (.seq (.block 3 (.seq (.reg [⟨some 49, .fa 2 (.t 1), none⟩, ⟨some 50, .load 1 false (.t 49) false, none⟩, ⟨some 51, .mv (.t 4) false, none⟩, ⟨some 52, .ia 1 (.t 50) (.t 51), none⟩, ⟨some 53, .load 1 false (.t 52) false, none⟩, ⟨some 54, .bin .lss (.t 53) (.c (.int .i64 0)), none⟩, ⟨some 55, .mv (.t 54) false, none⟩, ⟨some 56, .fa 2 (.t 1), some (55, false)⟩, ⟨some 57, .load 1 false (.t 56) false, some (55, false)⟩, ⟨some 58, .mv (.t 4) false, some (55, false)⟩, ⟨some 59, .ia 1 (.t 57) (.t 58), some (55, false)⟩, ⟨some 60, .load 1 false (.t 59) false, some (55, false)⟩, ⟨some 61, .fa 1 (.t 1), some (55, false)⟩, ⟨some 62, .load 1 false (.t 61) false, some (55, false)⟩, ⟨some 63, .len (.t 62), some (55, false)⟩, ⟨some 64, .bin .geq (.t 60) (.t 63), some (55, false)⟩, ⟨some 65, .pick (.t 55) (.c (.bool true)) (.t 64), none⟩])
  (.cond (.t 65) (.seq (.reg [⟨some 2, .mv (.c (.bool false)) true, none⟩])
  (.ret))
  (.skip))))
  (.reg [⟨some 47, .mv (.t 4) false, none⟩, ⟨some 48, .bin .add (.t 47) (.c (.int .i64 1)), none⟩, ⟨some 4, .mv (.t 48) true, none⟩]))
def L54_2 : C := .loop [1, 4] 1 B54_2
theorem go54_2 (s : Env × Bx) (nb) : evL tab ext nb L54_2 s = (loopIn nb [1, 4] 1 s).bind fun s0 => (evL tab ext nb B54_2 s0).bind (seqG tab ext nb L54_2) := eL_loop _ _ _
/-- swingbridge/swingbridgeref7.places -/
def C54 : CFun := ⟨66, 1, .seq (.reg [⟨some 1, .box (.t 0), none⟩, ⟨some 2, .mv (.c (.bool false)) true, none⟩])
  (.seq (.seq (.reg [⟨some 5, .fa 1 (.t 1), none⟩, ⟨some 6, .load 1 false (.t 5) false, none⟩, ⟨some 7, .len (.t 6), none⟩, ⟨some 8, .bin .lss (.t 7) (.c (.int .i64 1)), none⟩, ⟨some 9, .mv (.t 8) false, none⟩, ⟨some 10, .fa 1 (.t 1), some (9, false)⟩, ⟨some 11, .load 1 false (.t 10) false, some (9, false)⟩, ⟨some 12, .len (.t 11), some (9, false)⟩, ⟨some 13, .bin .gtr (.t 12) (.c (.int .i64 3)), some (9, false)⟩, ⟨some 14, .pick (.t 9) (.c (.bool true)) (.t 13), none⟩, ⟨some 15, .mv (.t 14) false, none⟩, ⟨some 16, .fa 2 (.t 1), some (15, false)⟩, ⟨some 17, .load 1 false (.t 16) false, some (15, false)⟩, ⟨some 18, .len (.t 17), some (15, false)⟩, ⟨some 19, .bin .gtr (.t 18) (.c (.int .i64 4)), some (15, false)⟩, ⟨some 20, .pick (.t 15) (.c (.bool true)) (.t 19), none⟩])
  (.cond (.t 20) (.seq (.reg [⟨some 2, .mv (.c (.bool false)) true, none⟩])
  (.ret))
  (.skip)))
  (.seq (.seq (.reg [⟨some 3, .mv (.c (.int .i64 0)) true, none⟩])
  (.block 0 (L54_0)))
  (.seq (.seq (.reg [⟨some 4, .mv (.c (.int .i64 0)) true, none⟩])
  (.block 2 (L54_2)))
  (.seq (.reg [⟨some 2, .mv (.c (.bool true)) true, none⟩])
  (.ret))))), [.t 2]⟩
theorem row54 : RowOk Try.prog 54 C54 := ⟨Try.f54, ⟨[], [], [], []⟩, lvOf [(0, [1, 3], 1), (2, [1, 4], 1)], Try.func54, by kernel_rfl, by kernel_rfl⟩
def B55_0 : C := .seq (.seq (.reg [⟨some 60, .mv (.t 6) false, none⟩, ⟨some 61, .mv (.t 1) false, none⟩, ⟨some 62, .bin .lss (.t 60) (.t 61), none⟩])
  (.cond (.t 62) (.skip)
  (.exit 0)))
  (.seq (.block 1 (.seq (.reg [⟨some 65, .fa 3 (.t 2), none⟩, ⟨some 66, .load 1 false (.t 65) false, none⟩, ⟨some 67, .mv (.t 6) false, none⟩, ⟨some 68, .ia 6 (.t 66) (.t 67), none⟩, ⟨some 69, .fa 0 (.t 68), none⟩, ⟨some 70, .load 1 false (.t 69) false, none⟩, ⟨some 71, .fa 0 (.t 5), none⟩, ⟨some 72, .load 1 false (.t 71) false, none⟩, ⟨some 73, .bin .eql (.t 70) (.t 72), none⟩, ⟨some 74, .mv (.t 73) false, none⟩, ⟨some 75, .fa 3 (.t 2), some (74, false)⟩, ⟨some 76, .load 1 false (.t 75) false, some (74, false)⟩, ⟨some 77, .mv (.t 6) false, some (74, false)⟩, ⟨some 78, .ia 6 (.t 76) (.t 77), some (74, false)⟩, ⟨some 79, .fa 3 (.t 78), some (74, false)⟩, ⟨some 80, .load 1 false (.t 79) false, some (74, false)⟩, ⟨some 81, .fa 3 (.t 5), some (74, false)⟩, ⟨some 82, .load 1 false (.t 81) false, some (74, false)⟩, ⟨some 83, .bin .eql (.t 80) (.t 82), some (74, false)⟩, ⟨some 84, .pick (.t 74) (.c (.bool true)) (.t 83), none⟩])
  (.cond (.t 84) (.seq (.reg [⟨some 4, .mv (.c (.int .i64 17)) true, none⟩])
  (.ret))
  (.skip))))
  (.reg [⟨some 63, .mv (.t 6) false, none⟩, ⟨some 64, .bin .add (.t 63) (.c (.int .i64 1)), none⟩, ⟨some 6, .mv (.t 64) true, none⟩]))
def L55_0 : C := .loop [1, 2, 5, 6] 2 B55_0
theorem go55_0 (s : Env × Bx) (nb) : evL tab ext nb L55_0 s = (loopIn nb [1, 2, 5, 6] 2 s).bind fun s0 => (evL tab ext nb B55_0 s0).bind (seqG tab ext nb L55_0) := eL_loop _ _ _
def B55_2 : C := .seq (.seq (.reg [⟨some 95, .mv (.t 7) false, none⟩, ⟨some 96, .fa 5 (.t 5), none⟩, ⟨some 97, .load 1 false (.t 96) false, none⟩, ⟨some 98, .len (.t 97), none⟩, ⟨some 99, .bin .lss (.t 95) (.t 98), none⟩])
  (.cond (.t 99) (.skip)
  (.exit 2)))
  (.seq (.block 3 (.seq (.reg [⟨some 102, .load 4 true (.t 2) false, none⟩, ⟨some 103, .fa 5 (.t 5), none⟩, ⟨some 104, .load 1 false (.t 103) false, none⟩, ⟨some 105, .mv (.t 7) false, none⟩, ⟨some 106, .ia 3 (.t 104) (.t 105), none⟩, ⟨some 107, .load 3 true (.t 106) false, none⟩, ⟨some 108, .call 73 [(.t 102), (.t 107)] false, none⟩, ⟨some 109, .un .not (.t 108), none⟩])
  (.cond (.t 109) (.seq (.reg [⟨some 4, .mv (.c (.int .i64 15)) true, none⟩])
  (.ret))
  (.skip))))
  (.reg [⟨some 100, .mv (.t 7) false, none⟩, ⟨some 101, .bin .add (.t 100) (.c (.int .i64 1)), none⟩, ⟨some 7, .mv (.t 101) true, none⟩]))
def L55_2 : C := .loop [2, 5, 7] 2 B55_2
theorem go55_2 (s : Env × Bx) (nb) : evL tab ext nb L55_2 s = (loopIn nb [2, 5, 7] 2 s).bind fun s0 => (evL tab ext nb B55_2 s0).bind (seqG tab ext nb L55_2) := eL_loop _ _ _
/-- swingbridge/swingbridgeref7.task -/
def C55 : CFun := ⟨110, 2, .seq (.reg [⟨some 2, .box (.t 0), none⟩, ⟨some 4, .mv (.c (.int .i64 0)) true, none⟩])
  (.seq (.reg [⟨some 8, .fa 3 (.t 2), none⟩, ⟨some 9, .load 1 false (.t 8) false, none⟩, ⟨some 10, .mv (.t 1) false, none⟩, ⟨some 11, .ia 6 (.t 9) (.t 10), none⟩, ⟨some 12, .load 6 true (.t 11) false, none⟩, ⟨some 5, .alloc [(.string ⟨#[]⟩), (.int .i64 0), (.int .i64 0), (.int .i64 0), (.int .i64 0), (.slice none 0 0)], none⟩, ⟨none, .store 6 (.t 5) (.t 12), none⟩])
  (.seq (.seq (.reg [⟨some 13, .fa 0 (.t 5), none⟩, ⟨some 14, .load 1 false (.t 13) false, none⟩, ⟨some 15, .call 72 [(.t 14)] false, none⟩, ⟨some 16, .un .not (.t 15), none⟩, ⟨some 17, .mv (.t 16) false, none⟩, ⟨some 18, .fa 1 (.t 5), some (17, false)⟩, ⟨some 19, .load 1 false (.t 18) false, some (17, false)⟩, ⟨some 20, .bin .lss (.t 19) (.c (.int .i64 1)), some (17, false)⟩, ⟨some 21, .pick (.t 17) (.c (.bool true)) (.t 20), none⟩, ⟨some 22, .mv (.t 21) false, none⟩, ⟨some 23, .fa 1 (.t 5), some (22, false)⟩, ⟨some 24, .load 1 false (.t 23) false, some (22, false)⟩, ⟨some 25, .bin .gtr (.t 24) (.c (.int .i64 3000)), some (22, false)⟩, ⟨some 26, .pick (.t 22) (.c (.bool true)) (.t 25), none⟩, ⟨some 27, .mv (.t 26) false, none⟩, ⟨some 28, .fa 2 (.t 5), some (27, false)⟩, ⟨some 29, .load 1 false (.t 28) false, some (27, false)⟩, ⟨some 30, .bin .lss (.t 29) (.c (.int .i64 1)), some (27, false)⟩, ⟨some 31, .pick (.t 27) (.c (.bool true)) (.t 30), none⟩, ⟨some 32, .mv (.t 31) false, none⟩, ⟨some 33, .fa 2 (.t 5), some (32, false)⟩, ⟨some 34, .load 1 false (.t 33) false, some (32, false)⟩, ⟨some 35, .fa 1 (.t 5), some (32, false)⟩, ⟨some 36, .load 1 false (.t 35) false, some (32, false)⟩, ⟨some 37, .bin .gtr (.t 34) (.t 36), some (32, false)⟩, ⟨some 38, .pick (.t 32) (.c (.bool true)) (.t 37), none⟩, ⟨some 39, .mv (.t 38) false, none⟩, ⟨some 40, .fa 3 (.t 5), some (39, false)⟩, ⟨some 41, .load 1 false (.t 40) false, some (39, false)⟩, ⟨some 42, .bin .lss (.t 41) (.c (.int .i64 1)), some (39, false)⟩, ⟨some 43, .pick (.t 39) (.c (.bool true)) (.t 42), none⟩, ⟨some 44, .mv (.t 43) false, none⟩, ⟨some 45, .fa 3 (.t 5), some (44, false)⟩, ⟨some 46, .load 1 false (.t 45) false, some (44, false)⟩, ⟨some 47, .bin .gtr (.t 46) (.c (.int .i64 1000)), some (44, false)⟩, ⟨some 48, .pick (.t 44) (.c (.bool true)) (.t 47), none⟩])
  (.cond (.t 48) (.seq (.reg [⟨some 4, .mv (.c (.int .i64 10)) true, none⟩])
  (.ret))
  (.skip)))
  (.seq (.seq (.reg [⟨some 49, .fa 4 (.t 5), none⟩, ⟨some 50, .load 1 false (.t 49) false, none⟩, ⟨some 51, .bin .lss (.t 50) (.c (.int .i64 0)), none⟩, ⟨some 52, .mv (.t 51) false, none⟩, ⟨some 53, .fa 4 (.t 5), some (52, false)⟩, ⟨some 54, .load 1 false (.t 53) false, some (52, false)⟩, ⟨some 55, .fa 1 (.t 2), some (52, false)⟩, ⟨some 56, .load 1 false (.t 55) false, some (52, false)⟩, ⟨some 57, .len (.t 56), some (52, false)⟩, ⟨some 58, .bin .geq (.t 54) (.t 57), some (52, false)⟩, ⟨some 59, .pick (.t 52) (.c (.bool true)) (.t 58), none⟩])
  (.cond (.t 59) (.seq (.reg [⟨some 4, .mv (.c (.int .i64 16)) true, none⟩])
  (.ret))
  (.skip)))
  (.seq (.seq (.reg [⟨some 6, .mv (.c (.int .i64 0)) true, none⟩])
  (.block 0 (L55_0)))
  (.seq (.seq (.reg [⟨some 85, .fa 5 (.t 5), none⟩, ⟨some 86, .load 1 false (.t 85) false, none⟩, ⟨some 87, .len (.t 86), none⟩, ⟨some 88, .bin .lss (.t 87) (.c (.int .i64 1)), none⟩, ⟨some 89, .mv (.t 88) false, none⟩, ⟨some 90, .fa 5 (.t 5), some (89, false)⟩, ⟨some 91, .load 1 false (.t 90) false, some (89, false)⟩, ⟨some 92, .len (.t 91), some (89, false)⟩, ⟨some 93, .bin .gtr (.t 92) (.c (.int .i64 6)), some (89, false)⟩, ⟨some 94, .pick (.t 89) (.c (.bool true)) (.t 93), none⟩])
  (.cond (.t 94) (.seq (.reg [⟨some 4, .mv (.c (.int .i64 15)) true, none⟩])
  (.ret))
  (.skip)))
  (.seq (.seq (.reg [⟨some 7, .mv (.c (.int .i64 0)) true, none⟩])
  (.block 2 (L55_2)))
  (.seq (.reg [⟨some 4, .mv (.c (.int .i64 0)) true, none⟩])
  (.ret)))))))), [.t 4]⟩
theorem row55 : RowOk Try.prog 55 C55 := ⟨Try.f55, ⟨[], [], [], []⟩, lvOf [(0, [1, 2, 5, 6], 2), (2, [2, 5, 7], 2)], Try.func55, by kernel_rfl, by kernel_rfl⟩
/-- swingbridge/fair.Part -/
def C56 : CFun := ⟨30, 3, .seq (.reg [⟨some 3, .box (.t 0), none⟩, ⟨some 6, .mv (.c (.int .i64 0)) true, none⟩, ⟨some 7, .mv (.c (.bool false)) true, none⟩])
  (.seq (.reg [⟨some 12, .load 4 true (.t 3) false, none⟩, ⟨some 13, .mv (.t 1) false, none⟩, ⟨some 14, .mv (.t 2) false, none⟩, ⟨some 15, .call 74 [(.t 12), (.t 13), (.t 14)] false, none⟩, ⟨some 11, .mv (.t 15) false, none⟩, ⟨some 16, .ext (.t 11) 0, none⟩, ⟨some 17, .ext (.t 11) 1, none⟩, ⟨some 8, .alloc [(.int .i64 0), (.int .i64 0), (.int .i64 0)], none⟩, ⟨none, .store 3 (.t 8) (.t 16), none⟩, ⟨some 9, .mv (.t 17) true, none⟩])
  (.seq (.seq (.reg [⟨some 18, .mv (.t 9) false, none⟩, ⟨some 19, .un .not (.t 18), none⟩])
  (.cond (.t 19) (.seq (.reg [⟨some 6, .mv (.c (.int .i64 0)) true, none⟩, ⟨some 7, .mv (.c (.bool false)) true, none⟩])
  (.ret))
  (.skip)))
  (.seq (.reg [⟨some 20, .load 4 true (.t 3) false, none⟩, ⟨some 21, .mv (.t 1) false, none⟩, ⟨some 22, .call 75 [(.t 20), (.t 21)] false, none⟩, ⟨some 10, .mv (.t 22) true, none⟩])
  (.seq (.reg [⟨some 23, .fa 1 (.t 8), none⟩, ⟨some 24, .load 1 false (.t 23) false, none⟩, ⟨some 25, .mv (.t 10) false, none⟩, ⟨some 26, .mv (.t 10) false, none⟩, ⟨some 27, .len (.t 26), none⟩, ⟨some 28, .call 76 [(.t 25), (.t 27)] false, none⟩, ⟨some 29, .bin .add (.t 24) (.t 28), none⟩, ⟨some 6, .mv (.t 29) true, none⟩, ⟨some 7, .mv (.c (.bool true)) true, none⟩])
  (.ret))))), [.t 6, .t 7]⟩
theorem row56 : RowOk Try.prog 56 C56 := ⟨Try.f56, ⟨[], [], [], []⟩, lvOf [], Try.func56, by kernel_rfl, by kernel_rfl⟩
def B57_0 : C := .seq (.seq (.reg [⟨some 68, .mv (.t 13) false, none⟩, ⟨some 69, .bin .leq (.t 68) (.c (.int .i64 3000)), none⟩])
  (.cond (.t 69) (.skip)
  (.exit 0)))
  (.block 1 (.seq (.reg [⟨some 70, .mv (.t 12) false, none⟩, ⟨some 71, .load 4 true (.t 4) false, none⟩, ⟨some 72, .mv (.t 1) false, none⟩, ⟨some 73, .mv (.t 2) false, none⟩, ⟨some 74, .mv (.t 11) false, none⟩, ⟨some 75, .mv (.t 13) false, none⟩, ⟨some 76, .call 79 [(.t 71), (.t 72), (.t 73), (.t 74), (.t 75)] false, none⟩, ⟨some 77, .bin .add (.t 70) (.t 76), none⟩, ⟨some 14, .mv (.t 77) true, none⟩])
  (.seq (.seq (.reg [⟨some 78, .mv (.t 14) false, none⟩, ⟨some 79, .mv (.t 13) false, none⟩, ⟨some 80, .bin .eql (.t 78) (.t 79), none⟩])
  (.cond (.t 80) (.seq (.reg [⟨some 81, .mv (.t 13) false, none⟩, ⟨some 8, .mv (.t 81) true, none⟩, ⟨some 9, .mv (.c (.bool true)) true, none⟩])
  (.ret))
  (.skip)))
  (.seq (.seq (.reg [⟨some 82, .mv (.t 14) false, none⟩, ⟨some 83, .mv (.t 13) false, none⟩, ⟨some 84, .bin .lss (.t 82) (.t 83), none⟩])
  (.cond (.t 84) (.exit 0)
  (.skip)))
  (.reg [⟨some 85, .mv (.t 14) false, none⟩, ⟨some 13, .mv (.t 85) true, none⟩])))))
def L57_0 : C := .loop [1, 2, 4, 11, 12, 13] 2 B57_0
theorem go57_0 (s : Env × Bx) (nb) : evL tab ext nb L57_0 s = (loopIn nb [1, 2, 4, 11, 12, 13] 2 s).bind fun s0 => (evL tab ext nb B57_0 s0).bind (seqG tab ext nb L57_0) := eL_loop _ _ _
/-- swingbridge/agent.Part -/
def C57 : CFun := ⟨86, 4, .seq (.reg [⟨some 4, .box (.t 0), none⟩, ⟨some 8, .mv (.c (.int .i64 0)) true, none⟩, ⟨some 9, .mv (.c (.bool false)) true, none⟩])
  (.scope (.seq (.seq (.reg [⟨some 15, .load 4 true (.t 4) false, none⟩, ⟨some 16, .mv (.t 2) false, none⟩, ⟨some 17, .call 77 [(.t 15), (.t 16)] false, none⟩, ⟨some 18, .un .not (.t 17), none⟩, ⟨some 19, .mv (.t 18) false, none⟩, ⟨some 20, .mv (.t 1) false, some (19, false)⟩, ⟨some 21, .len (.t 20), some (19, false)⟩, ⟨some 22, .fa 3 (.t 4), some (19, false)⟩, ⟨some 23, .load 1 false (.t 22) false, some (19, false)⟩, ⟨some 24, .len (.t 23), some (19, false)⟩, ⟨some 25, .bin .neq (.t 21) (.t 24), some (19, false)⟩, ⟨some 26, .pick (.t 19) (.c (.bool true)) (.t 25), none⟩, ⟨some 27, .mv (.t 26) false, none⟩, ⟨some 28, .mv (.t 3) false, some (27, false)⟩, ⟨some 29, .bin .lss (.t 28) (.c (.int .i64 0)), some (27, false)⟩, ⟨some 30, .pick (.t 27) (.c (.bool true)) (.t 29), none⟩, ⟨some 31, .mv (.t 30) false, none⟩, ⟨some 32, .mv (.t 3) false, some (31, false)⟩, ⟨some 33, .fa 3 (.t 4), some (31, false)⟩, ⟨some 34, .load 1 false (.t 33) false, some (31, false)⟩, ⟨some 35, .mv (.t 2) false, some (31, false)⟩, ⟨some 36, .ia 6 (.t 34) (.t 35), some (31, false)⟩, ⟨some 37, .fa 5 (.t 36), some (31, false)⟩, ⟨some 38, .load 1 false (.t 37) false, some (31, false)⟩, ⟨some 39, .len (.t 38), some (31, false)⟩, ⟨some 40, .bin .geq (.t 32) (.t 39), some (31, false)⟩, ⟨some 41, .pick (.t 31) (.c (.bool true)) (.t 40), none⟩])
  (.cond (.t 41) (.seq (.reg [⟨some 8, .mv (.c (.int .i64 0)) true, none⟩, ⟨some 9, .mv (.c (.bool false)) true, none⟩])
  (.ret))
  (.skip)))
  (.seq (.reg [⟨some 42, .fa 3 (.t 4), none⟩, ⟨some 43, .load 1 false (.t 42) false, none⟩, ⟨some 44, .mv (.t 2) false, none⟩, ⟨some 45, .ia 6 (.t 43) (.t 44), none⟩, ⟨some 46, .fa 5 (.t 45), none⟩, ⟨some 47, .load 1 false (.t 46) false, none⟩, ⟨some 48, .mv (.t 3) false, none⟩, ⟨some 49, .ia 3 (.t 47) (.t 48), none⟩, ⟨some 50, .load 3 true (.t 49) false, none⟩, ⟨some 10, .alloc [(.int .i64 0), (.int .i64 0), (.int .i64 0)], none⟩, ⟨none, .store 3 (.t 10) (.t 50), none⟩])
  (.seq (.seq (.reg [⟨some 51, .fa 0 (.t 10), none⟩, ⟨some 52, .load 1 false (.t 51) false, none⟩, ⟨some 53, .bin .neq (.t 52) (.c (.int .i64 3)), none⟩])
  (.cond (.t 53) (.seq (.reg [⟨some 8, .mv (.c (.int .i64 0)) true, none⟩, ⟨some 9, .mv (.c (.bool false)) true, none⟩])
  (.ret))
  (.skip)))
  (.seq (.reg [⟨some 54, .fa 2 (.t 4), none⟩, ⟨some 55, .load 1 false (.t 54) false, none⟩, ⟨some 56, .fa 2 (.t 10), none⟩, ⟨some 57, .load 1 false (.t 56) false, none⟩, ⟨some 58, .ia 1 (.t 55) (.t 57), none⟩, ⟨some 59, .load 1 false (.t 58) false, none⟩, ⟨some 11, .mv (.t 59) true, none⟩])
  (.seq (.reg [⟨some 60, .fa 1 (.t 10), none⟩, ⟨some 61, .load 1 false (.t 60) false, none⟩, ⟨some 62, .load 4 true (.t 4) false, none⟩, ⟨some 63, .mv (.t 2) false, none⟩, ⟨some 64, .mv (.t 11) false, none⟩, ⟨some 65, .call 78 [(.t 62), (.t 63), (.t 64)] false, none⟩, ⟨some 66, .bin .add (.t 61) (.t 65), none⟩, ⟨some 12, .mv (.t 66) true, none⟩])
  (.seq (.reg [⟨some 67, .mv (.t 12) false, none⟩, ⟨some 13, .mv (.t 67) true, none⟩])
  (.seq (.skip)
  (.seq (.block 0 (L57_0))
  (.seq (.reg [⟨some 8, .mv (.c (.int .i64 0)) true, none⟩, ⟨some 9, .mv (.c (.bool false)) true, none⟩])
  (.ret))))))))))), [.t 8, .t 9]⟩
theorem row57 : RowOk Try.prog 57 C57 := ⟨Try.f57, ⟨[], [], [], []⟩, lvOf [(0, [1, 2, 4, 11, 12, 13], 2)], Try.func57, by kernel_rfl, by kernel_rfl⟩
/-- swingbridge/token.Part -/
def C58 : CFun := ⟨24, 3, .seq (.reg [⟨some 3, .box (.t 0), none⟩, ⟨some 6, .mv (.c (.int .i64 0)) true, none⟩, ⟨some 7, .mv (.c (.bool false)) true, none⟩])
  (.seq (.reg [⟨some 11, .load 4 true (.t 3) false, none⟩, ⟨some 12, .mv (.t 1) false, none⟩, ⟨some 13, .mv (.t 2) false, none⟩, ⟨some 14, .call 80 [(.t 11), (.t 12), (.t 13)] false, none⟩, ⟨some 10, .mv (.t 14) false, none⟩, ⟨some 15, .ext (.t 10) 0, none⟩, ⟨some 16, .ext (.t 10) 1, none⟩, ⟨some 8, .mv (.t 15) true, none⟩, ⟨some 9, .mv (.t 16) true, none⟩])
  (.seq (.seq (.reg [⟨some 17, .mv (.t 9) false, none⟩, ⟨some 18, .un .not (.t 17), none⟩])
  (.cond (.t 18) (.seq (.reg [⟨some 6, .mv (.c (.int .i64 0)) true, none⟩, ⟨some 7, .mv (.c (.bool false)) true, none⟩])
  (.ret))
  (.skip)))
  (.seq (.reg [⟨some 19, .mv (.t 8) false, none⟩, ⟨some 20, .load 4 true (.t 3) false, none⟩, ⟨some 21, .mv (.t 1) false, none⟩, ⟨some 22, .call 81 [(.t 20), (.t 21)] false, none⟩, ⟨some 23, .bin .add (.t 19) (.t 22), none⟩, ⟨some 6, .mv (.t 23) true, none⟩, ⟨some 7, .mv (.c (.bool true)) true, none⟩])
  (.ret)))), [.t 6, .t 7]⟩
theorem row58 : RowOk Try.prog 58 C58 := ⟨Try.f58, ⟨[], [], [], []⟩, lvOf [], Try.func58, by kernel_rfl, by kernel_rfl⟩
/-- swingbridge/task.placed$1 -/
def C59 : CFun := ⟨6, 1, .seq (.reg [⟨some 2, .mv (.c (.bool false)) true, none⟩])
  (.seq (.reg [⟨some 3, .mv (.t 0) false, none⟩, ⟨some 4, .call 43 [(.t 3), (.c (.int .i64 1)), (.c (.int .i64 3))] false, none⟩, ⟨some 5, .un .not (.t 4), none⟩, ⟨some 2, .mv (.t 5) true, none⟩])
  (.ret)), [.t 2]⟩
theorem row59 : RowOk Try.prog 59 C59 := ⟨Try.f59, ⟨[], [], [], []⟩, lvOf [], Try.func59, by kernel_rfl, by kernel_rfl⟩
/-- swingbridge/task.placed$2 -/
def C60 : CFun := ⟨11, 2, .seq (.reg [⟨some 3, .mv (.c (.bool false)) true, none⟩])
  (.seq (.reg [⟨some 4, .mv (.t 0) false, none⟩, ⟨some 5, .fa 1 (.t 1), none⟩, ⟨some 6, .load 1 false (.t 5) false, none⟩, ⟨some 7, .len (.t 6), none⟩, ⟨some 8, .bin .sub (.t 7) (.c (.int .i64 1)), none⟩, ⟨some 9, .call 43 [(.t 4), (.c (.int .i64 0)), (.t 8)] false, none⟩, ⟨some 10, .un .not (.t 9), none⟩, ⟨some 3, .mv (.t 10) true, none⟩])
  (.ret)), [.t 3]⟩
theorem row60 : RowOk Try.prog 60 C60 := ⟨Try.f60, ⟨[], [], [], []⟩, lvOf [], Try.func60, by kernel_rfl, by kernel_rfl⟩
/-- swingbridge/task.one$1 -/
def C61 : CFun := ⟨16, 2, .seq (.reg [⟨some 2, .box (.t 0), none⟩, ⟨some 3, .mv (.c (.bool false)) true, none⟩])
  (.seq (.reg [⟨some 4, .fa 0 (.t 2), none⟩, ⟨some 5, .load 1 false (.t 4) false, none⟩, ⟨some 6, .fa 0 (.t 1), none⟩, ⟨some 7, .load 1 false (.t 6) false, none⟩, ⟨some 8, .bin .eql (.t 5) (.t 7), none⟩, ⟨some 9, .mv (.t 8) false, none⟩, ⟨some 10, .fa 3 (.t 2), some (9, false)⟩, ⟨some 11, .load 1 false (.t 10) false, some (9, false)⟩, ⟨some 12, .fa 3 (.t 1), some (9, false)⟩, ⟨some 13, .load 1 false (.t 12) false, some (9, false)⟩, ⟨some 14, .bin .eql (.t 11) (.t 13), some (9, false)⟩, ⟨some 15, .pick (.t 9) (.c (.bool true)) (.t 14), none⟩, ⟨some 3, .mv (.t 15) true, none⟩])
  (.ret)), [.t 3]⟩
theorem row61 : RowOk Try.prog 61 C61 := ⟨Try.f61, ⟨[], [], [], []⟩, lvOf [], Try.func61, by kernel_rfl, by kernel_rfl⟩
def B62_0 : C := .seq (.reg [⟨some 9, .bin .lss (.t 8) (.t 7), none⟩])
  (.seq (.cond (.t 9) (.skip)
  (.exit 0))
  (.seq (.block 1 (.seq (.reg [⟨some 10, .mv (.t 8) false, none⟩, ⟨some 3, .mv (.t 10) true, none⟩])
  (.seq (.reg [⟨some 11, .mv (.t 0) false, none⟩, ⟨some 12, .mv (.t 3) false, none⟩, ⟨some 13, .ix (.t 11) (.t 12), none⟩, ⟨some 4, .mv (.t 13) true, none⟩])
  (.seq (.reg [⟨some 14, .mv (.t 4) false, none⟩, ⟨some 15, .bin .geq (.t 14) (.c (.int .u8 48)), none⟩, ⟨some 16, .mv (.t 15) false, none⟩, ⟨some 17, .mv (.t 4) false, some (16, true)⟩, ⟨some 18, .bin .leq (.t 17) (.c (.int .u8 57)), some (16, true)⟩, ⟨some 19, .pick (.t 16) (.t 18) (.c (.bool false)), none⟩, ⟨some 5, .mv (.t 19) true, none⟩])
  (.seq (.reg [⟨some 20, .mv (.t 4) false, none⟩, ⟨some 21, .bin .lss (.t 20) (.c (.int .u8 97)), none⟩, ⟨some 22, .mv (.t 21) false, none⟩, ⟨some 23, .mv (.t 4) false, some (22, false)⟩, ⟨some 24, .bin .gtr (.t 23) (.c (.int .u8 122)), some (22, false)⟩, ⟨some 25, .pick (.t 22) (.c (.bool true)) (.t 24), none⟩, ⟨some 26, .mv (.t 25) false, none⟩, ⟨some 27, .mv (.t 3) false, some (26, true)⟩, ⟨some 28, .bin .eql (.t 27) (.c (.int .i64 0)), some (26, true)⟩, ⟨some 29, .mv (.t 28) false, some (26, true)⟩, ⟨some 30, .mv (.t 5) false, some (29, false)⟩, ⟨some 31, .un .not (.t 30), some (29, false)⟩, ⟨some 32, .pick (.t 29) (.c (.bool true)) (.t 31), some (26, true)⟩, ⟨some 33, .pick (.t 26) (.t 32) (.c (.bool false)), none⟩])
  (.cond (.t 33) (.seq (.reg [⟨some 2, .mv (.c (.bool false)) true, none⟩])
  (.ret))
  (.skip)))))))
  (.reg [⟨some 34, .bin .add (.t 8) (.c (.int .i64 1)), none⟩, ⟨some 8, .mv (.t 34) false, none⟩])))
def L62_0 : C := .loop [0, 7, 8] 0 B62_0
theorem go62_0 (s : Env × Bx) (nb) : evL tab ext nb L62_0 s = (loopIn nb [0, 7, 8] 0 s).bind fun s0 => (evL tab ext nb B62_0 s0).bind (seqG tab ext nb L62_0) := eL_loop _ _ _
/-- swingbridge/words.Name -/
def C62 : CFun := ⟨42, 1, .seq (.reg [⟨some 2, .mv (.c (.bool false)) true, none⟩])
  (.seq (.seq (.reg [⟨some 6, .mv (.t 0) false, none⟩, ⟨some 7, .slen (.t 6), none⟩, ⟨some 8, .mv (.c (.int .i64 0)) false, none⟩])
  (.block 0 (L62_0)))
  (.seq (.reg [⟨some 35, .mv (.t 0) false, none⟩, ⟨some 36, .bin .neq (.t 35) (.c (.string ⟨#[]⟩)), none⟩, ⟨some 37, .mv (.t 36) false, none⟩, ⟨some 38, .mv (.t 0) false, some (37, true)⟩, ⟨some 39, .slen (.t 38), some (37, true)⟩, ⟨some 40, .bin .leq (.t 39) (.c (.int .i64 8)), some (37, true)⟩, ⟨some 41, .pick (.t 37) (.t 40) (.c (.bool false)), none⟩, ⟨some 2, .mv (.t 41) true, none⟩])
  (.ret))), [.t 2]⟩
theorem row62 : RowOk Try.prog 62 C62 := ⟨Try.f62, ⟨[], [], [], []⟩, lvOf [(0, [0, 7, 8], 0)], Try.func62, by kernel_rfl, by kernel_rfl⟩
/-- slices.ContainsFunc[[]swingbridge/api.Task,swingbridge/api.Task] -/
def C63 : CFun := ⟨9, 2, .seq (.reg [⟨some 4, .mv (.c (.bool false)) true, none⟩])
  (.seq (.reg [⟨some 5, .mv (.t 0) false, none⟩, ⟨some 6, .mv (.t 1) false, none⟩, ⟨some 7, .calli 82 [(.t 5), (.t 6)], none⟩, ⟨some 8, .bin .geq (.t 7) (.c (.int .i64 0)), none⟩, ⟨some 4, .mv (.t 8) true, none⟩])
  (.ret)), [.t 4]⟩
theorem row63 : RowOk Try.prog 63 C63 := ⟨Try.f63, ⟨[], [], [], []⟩, lvOf [], Try.func63, by kernel_rfl, by kernel_rfl⟩
def B64_0 : C := .seq (.reg [⟨some 10, .bin .lss (.t 9) (.t 8), none⟩])
  (.seq (.cond (.t 10) (.skip)
  (.exit 0))
  (.seq (.block 1 (.seq (.reg [⟨some 11, .ia 3 (.t 7) (.t 9), none⟩, ⟨some 12, .load 3 true (.t 11) false, none⟩, ⟨some 6, .alloc [(.int .i64 0), (.int .i64 0), (.int .i64 0)], none⟩, ⟨none, .store 3 (.t 6) (.t 12), none⟩])
  (.seq (.block 2 (.seq (.reg [⟨some 14, .fa 0 (.t 6), none⟩, ⟨some 15, .load 1 false (.t 14) false, none⟩, ⟨some 16, .call 43 [(.t 15), (.c (.int .i64 1)), (.c (.int .i64 3))] false, none⟩, ⟨some 17, .un .not (.t 16), none⟩, ⟨some 18, .mv (.t 17) false, none⟩, ⟨some 19, .fa 1 (.t 6), some (18, false)⟩, ⟨some 20, .load 1 false (.t 19) false, some (18, false)⟩, ⟨some 21, .call 43 [(.t 20), (.c (.int .i64 1)), (.c (.int .i64 60))] false, some (18, false)⟩, ⟨some 22, .un .not (.t 21), some (18, false)⟩, ⟨some 23, .pick (.t 18) (.c (.bool true)) (.t 22), none⟩, ⟨some 13, .mv (.t 23) true, none⟩])
  (.cond (.t 13) (.seq (.reg [⟨some 4, .mv (.c (.bool false)) true, none⟩])
  (.ret))
  (.seq (.reg [⟨some 25, .fa 0 (.t 6), none⟩, ⟨some 26, .load 1 false (.t 25) false, none⟩, ⟨some 27, .bin .eql (.t 26) (.c (.int .i64 3)), none⟩, ⟨some 28, .mv (.t 27) false, none⟩, ⟨some 29, .fa 2 (.t 6), some (28, true)⟩, ⟨some 30, .load 1 false (.t 29) false, some (28, true)⟩, ⟨some 31, .fa 2 (.t 2), some (28, true)⟩, ⟨some 32, .load 1 false (.t 31) false, some (28, true)⟩, ⟨some 33, .len (.t 32), some (28, true)⟩, ⟨some 34, .bin .sub (.t 33) (.c (.int .i64 1)), some (28, true)⟩, ⟨some 35, .call 43 [(.t 30), (.c (.int .i64 0)), (.t 34)] false, some (28, true)⟩, ⟨some 36, .pick (.t 28) (.t 35) (.c (.bool false)), none⟩, ⟨some 24, .mv (.t 36) true, none⟩])
  (.cond (.t 24) (.exit 1)
  (.seq (.reg [⟨some 38, .fa 0 (.t 6), none⟩, ⟨some 39, .load 1 false (.t 38) false, none⟩, ⟨some 40, .bin .neq (.t 39) (.c (.int .i64 3)), none⟩, ⟨some 41, .mv (.t 40) false, none⟩, ⟨some 42, .fa 2 (.t 6), some (41, true)⟩, ⟨some 43, .load 1 false (.t 42) false, some (41, true)⟩, ⟨some 44, .bin .eql (.t 43) (.c (.int .i64 0)), some (41, true)⟩, ⟨some 45, .pick (.t 41) (.t 44) (.c (.bool false)), none⟩, ⟨some 37, .mv (.t 45) true, none⟩])
  (.cond (.t 37) (.exit 1)
  (.skip))))))))
  (.seq (.reg [⟨some 4, .mv (.c (.bool false)) true, none⟩])
  (.ret)))))
  (.reg [⟨some 46, .bin .add (.t 9) (.c (.int .i64 1)), none⟩, ⟨some 9, .mv (.t 46) false, none⟩])))
def L64_0 : C := .loop [1, 2, 7, 8, 9] 1 B64_0
theorem go64_0 (s : Env × Bx) (nb) : evL tab ext nb L64_0 s = (loopIn nb [1, 2, 7, 8, 9] 1 s).bind fun s0 => (evL tab ext nb B64_0 s0).bind (seqG tab ext nb L64_0) := eL_loop _ _ _
/-- swingbridge/task.parted -/
def C64 : CFun := ⟨50, 2, .seq (.reg [⟨some 2, .box (.t 0), none⟩, ⟨some 4, .mv (.c (.bool false)) true, none⟩])
  (.scope (.seq (.skip)
  (.seq (.seq (.reg [⟨some 7, .mv (.t 1) false, none⟩, ⟨some 8, .len (.t 7), none⟩, ⟨some 9, .mv (.c (.int .i64 0)) false, none⟩])
  (.block 0 (L64_0)))
  (.seq (.reg [⟨some 47, .mv (.t 1) false, none⟩, ⟨some 48, .len (.t 47), none⟩, ⟨some 49, .call 43 [(.t 48), (.c (.int .i64 1)), (.c (.int .i64 6))] false, none⟩, ⟨some 4, .mv (.t 49) true, none⟩])
  (.ret))))), [.t 4]⟩
theorem row64 : RowOk Try.prog 64 C64 := ⟨Try.f64, ⟨[], [], [], []⟩, lvOf [(0, [1, 2, 7, 8, 9], 1)], Try.func64, by kernel_rfl, by kernel_rfl⟩
/-- math/bits.Mul64 -/
def C65 : CFun := ⟨51, 2, .seq (.reg [⟨some 4, .mv (.c (.int .u64 0)) true, none⟩, ⟨some 5, .mv (.c (.int .u64 0)) true, none⟩])
  (.seq (.reg [⟨some 14, .mv (.t 0) false, none⟩, ⟨some 15, .bin .and (.t 14) (.c (.int .u64 4294967295)), none⟩, ⟨some 6, .mv (.t 15) true, none⟩])
  (.seq (.reg [⟨some 16, .mv (.t 0) false, none⟩, ⟨some 17, .bin .shr (.t 16) (.c (.int .u64 32)), none⟩, ⟨some 7, .mv (.t 17) true, none⟩])
  (.seq (.reg [⟨some 18, .mv (.t 1) false, none⟩, ⟨some 19, .bin .and (.t 18) (.c (.int .u64 4294967295)), none⟩, ⟨some 8, .mv (.t 19) true, none⟩])
  (.seq (.reg [⟨some 20, .mv (.t 1) false, none⟩, ⟨some 21, .bin .shr (.t 20) (.c (.int .u64 32)), none⟩, ⟨some 9, .mv (.t 21) true, none⟩])
  (.seq (.reg [⟨some 22, .mv (.t 6) false, none⟩, ⟨some 23, .mv (.t 8) false, none⟩, ⟨some 24, .bin .mul (.t 22) (.t 23), none⟩, ⟨some 10, .mv (.t 24) true, none⟩])
  (.seq (.reg [⟨some 25, .mv (.t 7) false, none⟩, ⟨some 26, .mv (.t 8) false, none⟩, ⟨some 27, .bin .mul (.t 25) (.t 26), none⟩, ⟨some 28, .mv (.t 10) false, none⟩, ⟨some 29, .bin .shr (.t 28) (.c (.int .u64 32)), none⟩, ⟨some 30, .bin .add (.t 27) (.t 29), none⟩, ⟨some 11, .mv (.t 30) true, none⟩])
  (.seq (.reg [⟨some 31, .mv (.t 11) false, none⟩, ⟨some 32, .bin .and (.t 31) (.c (.int .u64 4294967295)), none⟩, ⟨some 12, .mv (.t 32) true, none⟩])
  (.seq (.reg [⟨some 33, .mv (.t 11) false, none⟩, ⟨some 34, .bin .shr (.t 33) (.c (.int .u64 32)), none⟩, ⟨some 13, .mv (.t 34) true, none⟩])
  (.seq (.reg [⟨some 35, .mv (.t 12) false, none⟩, ⟨some 36, .mv (.t 6) false, none⟩, ⟨some 37, .mv (.t 9) false, none⟩, ⟨some 38, .bin .mul (.t 36) (.t 37), none⟩, ⟨some 39, .bin .add (.t 35) (.t 38), none⟩, ⟨some 12, .mv (.t 39) true, none⟩])
  (.seq (.reg [⟨some 40, .mv (.t 7) false, none⟩, ⟨some 41, .mv (.t 9) false, none⟩, ⟨some 42, .bin .mul (.t 40) (.t 41), none⟩, ⟨some 43, .mv (.t 13) false, none⟩, ⟨some 44, .bin .add (.t 42) (.t 43), none⟩, ⟨some 45, .mv (.t 12) false, none⟩, ⟨some 46, .bin .shr (.t 45) (.c (.int .u64 32)), none⟩, ⟨some 47, .bin .add (.t 44) (.t 46), none⟩, ⟨some 4, .mv (.t 47) true, none⟩])
  (.seq (.reg [⟨some 48, .mv (.t 0) false, none⟩, ⟨some 49, .mv (.t 1) false, none⟩, ⟨some 50, .bin .mul (.t 48) (.t 49), none⟩, ⟨some 5, .mv (.t 50) true, none⟩])
  (.ret)))))))))))), [.t 4, .t 5]⟩
theorem row65 : RowOk Try.prog 65 C65 := ⟨Try.f65, ⟨[], [], [], []⟩, lvOf [], Try.func65, by kernel_rfl, by kernel_rfl⟩
/-- swingbridge/calc.size -/
def C66 : CFun := ⟨10, 1, .seq (.reg [⟨some 2, .mv (.c (.int .u64 0)) true, none⟩])
  (.seq (.seq (.reg [⟨some 3, .mv (.t 0) false, none⟩, ⟨some 4, .bin .lss (.t 3) (.c (.int .i64 0)), none⟩])
  (.cond (.t 4) (.seq (.reg [⟨some 5, .mv (.t 0) false, none⟩, ⟨some 6, .conv .u64 (.t 5), none⟩, ⟨some 7, .un .neg (.t 6), none⟩, ⟨some 2, .mv (.t 7) true, none⟩])
  (.ret))
  (.skip)))
  (.seq (.reg [⟨some 8, .mv (.t 0) false, none⟩, ⟨some 9, .conv .u64 (.t 8), none⟩, ⟨some 2, .mv (.t 9) true, none⟩])
  (.ret))), [.t 2]⟩
theorem row66 : RowOk Try.prog 66 C66 := ⟨Try.f66, ⟨[], [], [], []⟩, lvOf [], Try.func66, by kernel_rfl, by kernel_rfl⟩
/-- swingbridge/calc.signed -/
def C67 : CFun := ⟨27, 2, .seq (.reg [⟨some 4, .mv (.c (.int .i64 0)) true, none⟩, ⟨some 5, .mv (.c (.bool false)) true, none⟩])
  (.seq (.block 0 (.seq (.reg [⟨some 7, .mv (.t 0) false, none⟩, ⟨some 8, .bin .eql (.t 7) (.c (.int .u64 0)), none⟩, ⟨some 6, .mv (.t 8) true, none⟩])
  (.cond (.t 6) (.seq (.reg [⟨some 4, .mv (.c (.int .i64 0)) true, none⟩, ⟨some 5, .mv (.c (.bool true)) true, none⟩])
  (.ret))
  (.seq (.reg [⟨some 10, .mv (.t 1) false, none⟩, ⟨some 11, .mv (.t 10) false, none⟩, ⟨some 12, .mv (.t 0) false, some (11, true)⟩, ⟨some 13, .bin .leq (.t 12) (.c (.int .u64 9223372036854775808)), some (11, true)⟩, ⟨some 14, .pick (.t 11) (.t 13) (.c (.bool false)), none⟩, ⟨some 9, .mv (.t 14) true, none⟩])
  (.cond (.t 9) (.seq (.reg [⟨some 15, .mv (.t 0) false, none⟩, ⟨some 16, .un .neg (.t 15), none⟩, ⟨some 17, .conv .i64 (.t 16), none⟩, ⟨some 4, .mv (.t 17) true, none⟩, ⟨some 5, .mv (.c (.bool true)) true, none⟩])
  (.ret))
  (.seq (.reg [⟨some 19, .mv (.t 1) false, none⟩, ⟨some 20, .un .not (.t 19), none⟩, ⟨some 21, .mv (.t 20) false, none⟩, ⟨some 22, .mv (.t 0) false, some (21, true)⟩, ⟨some 23, .bin .leq (.t 22) (.c (.int .u64 9223372036854775807)), some (21, true)⟩, ⟨some 24, .pick (.t 21) (.t 23) (.c (.bool false)), none⟩, ⟨some 18, .mv (.t 24) true, none⟩])
  (.cond (.t 18) (.seq (.reg [⟨some 25, .mv (.t 0) false, none⟩, ⟨some 26, .conv .i64 (.t 25), none⟩, ⟨some 4, .mv (.t 26) true, none⟩, ⟨some 5, .mv (.c (.bool true)) true, none⟩])
  (.ret))
  (.skip))))))))
  (.seq (.reg [⟨some 4, .mv (.c (.int .i64 0)) true, none⟩, ⟨some 5, .mv (.c (.bool false)) true, none⟩])
  (.ret))), [.t 4, .t 5]⟩
theorem row67 : RowOk Try.prog 67 C67 := ⟨Try.f67, ⟨[], [], [], []⟩, lvOf [], Try.func67, by kernel_rfl, by kernel_rfl⟩
end Go.Proofs.YtclebnamhpgdmaaEv
