/- The seat's functions in compact code; each row is checked against the program. -/
import Derived.Test.YtiocdaeinahcoaaEvR
import Derived.Test.YtiocdaeinahcoaaProg
import Derived.KernelRfl
namespace Go.Proofs.YtiocdaeinahcoaaEv
open Go
set_option maxRecDepth 100000
variable {tab : Nat → Option CFun} {ext : CallF}
/-- swingbridge/swingbridgelaw14.AgentTells -/
def C3 : CFun := ⟨77, 6, .seq (.reg [⟨some 6, .box (.t 0), none⟩, ⟨some 12, .mv (.c (.bool false)) true, none⟩])
  (.seq (.seq (.reg [⟨some 17, .call 15 [] false, none⟩, ⟨some 18, .un .not (.t 17), none⟩])
  (.cond (.t 18) (.seq (.reg [⟨some 12, .mv (.c (.bool false)) true, none⟩])
  (.ret))
  (.skip)))
  (.seq (.seq (.reg [⟨some 19, .load 4 true (.t 6) false, none⟩, ⟨some 20, .call 16 [(.t 19)] false, none⟩, ⟨some 21, .un .not (.t 20), none⟩, ⟨some 22, .mv (.t 21) false, none⟩, ⟨some 23, .mv (.t 1) false, some (22, false)⟩, ⟨some 24, .len (.t 23), some (22, false)⟩, ⟨some 25, .bin .gtr (.t 24) (.c (.int .i64 10)), some (22, false)⟩, ⟨some 26, .pick (.t 22) (.c (.bool true)) (.t 25), none⟩])
  (.cond (.t 26) (.seq (.reg [⟨some 12, .mv (.c (.bool true)) true, none⟩])
  (.ret))
  (.skip)))
  (.seq (.reg [⟨some 28, .load 4 true (.t 6) false, none⟩, ⟨some 29, .mv (.t 1) false, none⟩, ⟨some 30, .mv (.t 2) false, none⟩, ⟨some 31, .mv (.t 3) false, none⟩, ⟨some 32, .call 17 [(.t 28), (.t 29), (.t 30), (.t 31)] false, none⟩, ⟨some 27, .mv (.t 32) false, none⟩, ⟨some 33, .ext (.t 27) 0, none⟩, ⟨some 34, .ext (.t 27) 1, none⟩, ⟨some 13, .mv (.t 33) true, none⟩, ⟨some 14, .mv (.t 34) true, none⟩])
  (.seq (.reg [⟨some 36, .load 4 true (.t 6) false, none⟩, ⟨some 37, .mv (.t 1) false, none⟩, ⟨some 38, .mv (.t 2) false, none⟩, ⟨some 39, .mv (.t 3) false, none⟩, ⟨some 40, .call 18 [(.t 36), (.t 37), (.t 38), (.t 39)] false, none⟩, ⟨some 35, .mv (.t 40) false, none⟩, ⟨some 41, .ext (.t 35) 0, none⟩, ⟨some 42, .ext (.t 35) 1, none⟩, ⟨some 15, .mv (.t 41) true, none⟩, ⟨some 16, .mv (.t 42) true, none⟩])
  (.seq (.reg [⟨some 43, .mv (.t 13) false, none⟩, ⟨some 44, .mv (.t 15) false, none⟩, ⟨some 45, .bin .eql (.t 43) (.t 44), none⟩, ⟨some 46, .mv (.t 45) false, none⟩, ⟨some 47, .mv (.t 14) false, some (46, true)⟩, ⟨some 48, .mv (.t 16) false, some (46, true)⟩, ⟨some 49, .eqb false (.t 47) (.t 48), some (46, true)⟩, ⟨some 50, .pick (.t 46) (.t 49) (.c (.bool false)), none⟩, ⟨some 51, .mv (.t 50) false, none⟩, ⟨some 52, .load 4 true (.t 6) false, some (51, true)⟩, ⟨some 53, .mv (.t 2) false, some (51, true)⟩, ⟨some 54, .mv (.t 4) false, some (51, true)⟩, ⟨some 55, .call 19 [(.t 52), (.t 53), (.t 54)] false, some (51, true)⟩, ⟨some 56, .load 4 true (.t 6) false, some (51, true)⟩, ⟨some 57, .mv (.t 2) false, some (51, true)⟩, ⟨some 58, .mv (.t 4) false, some (51, true)⟩, ⟨some 59, .call 20 [(.t 56), (.t 57), (.t 58)] false, some (51, true)⟩, ⟨some 60, .bin .eql (.t 55) (.t 59), some (51, true)⟩, ⟨some 61, .pick (.t 51) (.t 60) (.c (.bool false)), none⟩, ⟨some 62, .mv (.t 61) false, none⟩, ⟨some 63, .load 4 true (.t 6) false, some (62, true)⟩, ⟨some 64, .mv (.t 1) false, some (62, true)⟩, ⟨some 65, .mv (.t 2) false, some (62, true)⟩, ⟨some 66, .mv (.t 4) false, some (62, true)⟩, ⟨some 67, .mv (.t 5) false, some (62, true)⟩, ⟨some 68, .call 21 [(.t 63), (.t 64), (.t 65), (.t 66), (.t 67)] false, some (62, true)⟩, ⟨some 69, .load 4 true (.t 6) false, some (62, true)⟩, ⟨some 70, .mv (.t 1) false, some (62, true)⟩, ⟨some 71, .mv (.t 2) false, some (62, true)⟩, ⟨some 72, .mv (.t 4) false, some (62, true)⟩, ⟨some 73, .mv (.t 5) false, some (62, true)⟩, ⟨some 74, .call 22 [(.t 69), (.t 70), (.t 71), (.t 72), (.t 73)] false, some (62, true)⟩, ⟨some 75, .bin .eql (.t 68) (.t 74), some (62, true)⟩, ⟨some 76, .pick (.t 62) (.t 75) (.c (.bool false)), none⟩, ⟨some 12, .mv (.t 76) true, none⟩])
  (.ret)))))), [.t 12]⟩
theorem row3 : RowOk Try.prog 3 C3 := ⟨Try.f3, ⟨[], [], [], []⟩, lvOf [], Try.func3, by kernel_rfl, by kernel_rfl⟩
def B4_0 : C := .seq (.seq (.reg [⟨some 95, .mv (.t 14) false, none⟩, ⟨some 96, .bin .leq (.t 95) (.c (.int .i64 3000)), none⟩])
  (.cond (.t 96) (.skip)
  (.exit 0)))
  (.seq (.block 1 (.seq (.reg [⟨some 99, .mv (.t 13) false, none⟩, ⟨some 100, .load 4 true (.t 4) false, none⟩, ⟨some 101, .mv (.t 1) false, none⟩, ⟨some 102, .mv (.t 2) false, none⟩, ⟨some 103, .conv .i64 (.t 102), none⟩, ⟨some 104, .mv (.t 12) false, none⟩, ⟨some 105, .mv (.t 14) false, none⟩, ⟨some 106, .call 21 [(.t 100), (.t 101), (.t 103), (.t 104), (.t 105)] false, none⟩, ⟨some 107, .bin .add (.t 99) (.t 106), none⟩, ⟨some 108, .mv (.t 14) false, none⟩, ⟨some 109, .bin .eql (.t 107) (.t 108), none⟩])
  (.cond (.t 109) (.seq (.reg [⟨some 110, .mv (.t 11) false, none⟩, ⟨some 111, .mv (.t 110) false, none⟩, ⟨some 112, .mv (.t 10) false, some (111, true)⟩, ⟨some 113, .mv (.t 14) false, some (111, true)⟩, ⟨some 114, .bin .eql (.t 112) (.t 113), some (111, true)⟩, ⟨some 115, .pick (.t 111) (.t 114) (.c (.bool false)), none⟩, ⟨some 8, .mv (.t 115) true, none⟩])
  (.ret))
  (.skip))))
  (.reg [⟨some 97, .mv (.t 14) false, none⟩, ⟨some 98, .bin .add (.t 97) (.c (.int .i64 1)), none⟩, ⟨some 14, .mv (.t 98) true, none⟩]))
def L4_0 : C := .loop [1, 2, 4, 10, 11, 12, 13, 14] 2 B4_0
theorem go4_0 (s : Env × Bx) (nb) : evL tab ext nb L4_0 s = (loopIn nb [1, 2, 4, 10, 11, 12, 13, 14] 2 s).bind fun s0 => (evL tab ext nb B4_0 s0).bind (seqG tab ext nb L4_0) := eL_loop _ _ _
/-- swingbridge/swingbridgelaw14.AgentLeast -/
def C4 : CFun := ⟨122, 4, .seq (.reg [⟨some 4, .box (.t 0), none⟩, ⟨some 8, .mv (.c (.bool false)) true, none⟩])
  (.seq (.seq (.reg [⟨some 15, .call 15 [] false, none⟩, ⟨some 16, .un .not (.t 15), none⟩])
  (.cond (.t 16) (.seq (.reg [⟨some 8, .mv (.c (.bool false)) true, none⟩])
  (.ret))
  (.skip)))
  (.seq (.seq (.reg [⟨some 17, .load 4 true (.t 4) false, none⟩, ⟨some 18, .call 16 [(.t 17)] false, none⟩, ⟨some 19, .un .not (.t 18), none⟩, ⟨some 20, .mv (.t 19) false, none⟩, ⟨some 21, .mv (.t 1) false, some (20, false)⟩, ⟨some 22, .len (.t 21), some (20, false)⟩, ⟨some 23, .bin .gtr (.t 22) (.c (.int .i64 10)), some (20, false)⟩, ⟨some 24, .pick (.t 20) (.c (.bool true)) (.t 23), none⟩, ⟨some 25, .mv (.t 24) false, none⟩, ⟨some 26, .load 4 true (.t 4) false, some (25, false)⟩, ⟨some 27, .mv (.t 2) false, some (25, false)⟩, ⟨some 28, .conv .i64 (.t 27), some (25, false)⟩, ⟨some 29, .call 23 [(.t 26), (.t 28)] false, some (25, false)⟩, ⟨some 30, .un .not (.t 29), some (25, false)⟩, ⟨some 31, .pick (.t 25) (.c (.bool true)) (.t 30), none⟩, ⟨some 32, .mv (.t 31) false, none⟩, ⟨some 33, .mv (.t 3) false, some (32, false)⟩, ⟨some 34, .conv .i64 (.t 33), some (32, false)⟩, ⟨some 35, .fa 3 (.t 4), some (32, false)⟩, ⟨some 36, .load 1 false (.t 35) false, some (32, false)⟩, ⟨some 37, .mv (.t 2) false, some (32, false)⟩, ⟨some 38, .ia 6 (.t 36) (.t 37), some (32, false)⟩, ⟨some 39, .fa 5 (.t 38), some (32, false)⟩, ⟨some 40, .load 1 false (.t 39) false, some (32, false)⟩, ⟨some 41, .len (.t 40), some (32, false)⟩, ⟨some 42, .bin .geq (.t 34) (.t 41), some (32, false)⟩, ⟨some 43, .pick (.t 32) (.c (.bool true)) (.t 42), none⟩, ⟨some 44, .mv (.t 43) false, none⟩, ⟨some 45, .mv (.t 1) false, some (44, false)⟩, ⟨some 46, .len (.t 45), some (44, false)⟩, ⟨some 47, .fa 3 (.t 4), some (44, false)⟩, ⟨some 48, .load 1 false (.t 47) false, some (44, false)⟩, ⟨some 49, .len (.t 48), some (44, false)⟩, ⟨some 50, .bin .neq (.t 46) (.t 49), some (44, false)⟩, ⟨some 51, .pick (.t 44) (.c (.bool true)) (.t 50), none⟩])
  (.cond (.t 51) (.seq (.reg [⟨some 8, .mv (.c (.bool true)) true, none⟩])
  (.ret))
  (.skip)))
  (.seq (.reg [⟨some 52, .fa 3 (.t 4), none⟩, ⟨some 53, .load 1 false (.t 52) false, none⟩, ⟨some 54, .mv (.t 2) false, none⟩, ⟨some 55, .ia 6 (.t 53) (.t 54), none⟩, ⟨some 56, .fa 5 (.t 55), none⟩, ⟨some 57, .load 1 false (.t 56) false, none⟩, ⟨some 58, .mv (.t 3) false, none⟩, ⟨some 59, .ia 3 (.t 57) (.t 58), none⟩, ⟨some 60, .load 3 true (.t 59) false, none⟩, ⟨some 9, .alloc [(.int .i64 0), (.int .i64 0), (.int .i64 0)], none⟩, ⟨none, .store 3 (.t 9) (.t 60), none⟩])
  (.seq (.reg [⟨some 62, .load 4 true (.t 4) false, none⟩, ⟨some 63, .mv (.t 1) false, none⟩, ⟨some 64, .mv (.t 2) false, none⟩, ⟨some 65, .conv .i64 (.t 64), none⟩, ⟨some 66, .mv (.t 3) false, none⟩, ⟨some 67, .conv .i64 (.t 66), none⟩, ⟨some 68, .call 17 [(.t 62), (.t 63), (.t 65), (.t 67)] false, none⟩, ⟨some 61, .mv (.t 68) false, none⟩, ⟨some 69, .ext (.t 61) 0, none⟩, ⟨some 70, .ext (.t 61) 1, none⟩, ⟨some 10, .mv (.t 69) true, none⟩, ⟨some 11, .mv (.t 70) true, none⟩])
  (.seq (.seq (.reg [⟨some 71, .fa 0 (.t 9), none⟩, ⟨some 72, .load 1 false (.t 71) false, none⟩, ⟨some 73, .bin .neq (.t 72) (.c (.int .i64 3)), none⟩])
  (.cond (.t 73) (.seq (.reg [⟨some 74, .mv (.t 11) false, none⟩, ⟨some 75, .un .not (.t 74), none⟩, ⟨some 76, .mv (.t 75) false, none⟩, ⟨some 77, .mv (.t 10) false, some (76, true)⟩, ⟨some 78, .bin .eql (.t 77) (.c (.int .i64 0)), some (76, true)⟩, ⟨some 79, .pick (.t 76) (.t 78) (.c (.bool false)), none⟩, ⟨some 8, .mv (.t 79) true, none⟩])
  (.ret))
  (.skip)))
  (.seq (.reg [⟨some 80, .fa 2 (.t 4), none⟩, ⟨some 81, .load 1 false (.t 80) false, none⟩, ⟨some 82, .fa 2 (.t 9), none⟩, ⟨some 83, .load 1 false (.t 82) false, none⟩, ⟨some 84, .ia 1 (.t 81) (.t 83), none⟩, ⟨some 85, .load 1 false (.t 84) false, none⟩, ⟨some 12, .mv (.t 85) true, none⟩])
  (.seq (.reg [⟨some 86, .fa 1 (.t 9), none⟩, ⟨some 87, .load 1 false (.t 86) false, none⟩, ⟨some 88, .load 4 true (.t 4) false, none⟩, ⟨some 89, .mv (.t 2) false, none⟩, ⟨some 90, .conv .i64 (.t 89), none⟩, ⟨some 91, .mv (.t 12) false, none⟩, ⟨some 92, .call 19 [(.t 88), (.t 90), (.t 91)] false, none⟩, ⟨some 93, .bin .add (.t 87) (.t 92), none⟩, ⟨some 13, .mv (.t 93) true, none⟩])
  (.seq (.seq (.reg [⟨some 94, .mv (.t 13) false, none⟩, ⟨some 14, .mv (.t 94) true, none⟩])
  (.block 0 (L4_0)))
  (.seq (.reg [⟨some 116, .mv (.t 11) false, none⟩, ⟨some 117, .un .not (.t 116), none⟩, ⟨some 118, .mv (.t 117) false, none⟩, ⟨some 119, .mv (.t 10) false, some (118, true)⟩, ⟨some 120, .bin .eql (.t 119) (.c (.int .i64 0)), some (118, true)⟩, ⟨some 121, .pick (.t 118) (.t 120) (.c (.bool false)), none⟩, ⟨some 8, .mv (.t 121) true, none⟩])
  (.ret)))))))))), [.t 8]⟩
theorem row4 : RowOk Try.prog 4 C4 := ⟨Try.f4, ⟨[], [], [], []⟩, lvOf [(0, [1, 2, 4, 10, 11, 12, 13, 14], 2)], Try.func4, by kernel_rfl, by kernel_rfl⟩
def B5_2 : C := .seq (.seq (.reg [⟨some 73, .mv (.t 12) false, none⟩, ⟨some 74, .fa 3 (.t 4), none⟩, ⟨some 75, .load 1 false (.t 74) false, none⟩, ⟨some 76, .mv (.t 11) false, none⟩, ⟨some 77, .ia 6 (.t 75) (.t 76), none⟩, ⟨some 78, .fa 5 (.t 77), none⟩, ⟨some 79, .load 1 false (.t 78) false, none⟩, ⟨some 80, .len (.t 79), none⟩, ⟨some 81, .bin .lss (.t 73) (.t 80), none⟩])
  (.cond (.t 81) (.skip)
  (.exit 2)))
  (.seq (.block 3 (.seq (.reg [⟨some 85, .load 4 true (.t 4) false, none⟩, ⟨some 86, .mv (.t 1) false, none⟩, ⟨some 87, .mv (.t 11) false, none⟩, ⟨some 88, .mv (.t 12) false, none⟩, ⟨some 89, .call 17 [(.t 85), (.t 86), (.t 87), (.t 88)] false, none⟩, ⟨some 84, .mv (.t 89) false, none⟩, ⟨some 90, .ext (.t 84) 0, none⟩, ⟨some 91, .ext (.t 84) 1, none⟩, ⟨some 13, .mv (.t 90) true, none⟩, ⟨some 14, .mv (.t 91) true, none⟩])
  (.seq (.reg [⟨some 93, .load 4 true (.t 4) false, none⟩, ⟨some 94, .mv (.t 9) false, none⟩, ⟨some 95, .mv (.t 11) false, none⟩, ⟨some 96, .mv (.t 12) false, none⟩, ⟨some 97, .call 17 [(.t 93), (.t 94), (.t 95), (.t 96)] false, none⟩, ⟨some 92, .mv (.t 97) false, none⟩, ⟨some 98, .ext (.t 92) 0, none⟩, ⟨some 99, .ext (.t 92) 1, none⟩, ⟨some 15, .mv (.t 98) true, none⟩, ⟨some 16, .mv (.t 99) true, none⟩])
  (.seq (.reg [⟨some 100, .mv (.t 16) false, none⟩, ⟨some 101, .mv (.t 100) false, none⟩, ⟨some 102, .mv (.t 14) false, some (101, true)⟩, ⟨some 103, .un .not (.t 102), some (101, true)⟩, ⟨some 104, .mv (.t 103) false, some (101, true)⟩, ⟨some 105, .mv (.t 13) false, some (104, false)⟩, ⟨some 106, .mv (.t 15) false, some (104, false)⟩, ⟨some 107, .bin .gtr (.t 105) (.t 106), some (104, false)⟩, ⟨some 108, .pick (.t 104) (.c (.bool true)) (.t 107), some (101, true)⟩, ⟨some 109, .pick (.t 101) (.t 108) (.c (.bool false)), none⟩])
  (.cond (.t 109) (.seq (.reg [⟨some 8, .mv (.c (.bool false)) true, none⟩])
  (.ret))
  (.skip))))))
  (.reg [⟨some 82, .mv (.t 12) false, none⟩, ⟨some 83, .bin .add (.t 82) (.c (.int .i64 1)), none⟩, ⟨some 12, .mv (.t 83) true, none⟩]))
def L5_2 : C := .loop [1, 4, 9, 11, 12] 2 B5_2
theorem go5_2 (s : Env × Bx) (nb) : evL tab ext nb L5_2 s = (loopIn nb [1, 4, 9, 11, 12] 2 s).bind fun s0 => (evL tab ext nb B5_2 s0).bind (seqG tab ext nb L5_2) := eL_loop _ _ _
def B5_0 : C := .seq (.seq (.reg [⟨some 66, .mv (.t 11) false, none⟩, ⟨some 67, .fa 3 (.t 4), none⟩, ⟨some 68, .load 1 false (.t 67) false, none⟩, ⟨some 69, .len (.t 68), none⟩, ⟨some 70, .bin .lss (.t 66) (.t 69), none⟩])
  (.cond (.t 70) (.skip)
  (.exit 0)))
  (.seq (.block 1 (.seq (.reg [⟨some 12, .mv (.c (.int .i64 0)) true, none⟩])
  (.block 2 (L5_2))))
  (.reg [⟨some 71, .mv (.t 11) false, none⟩, ⟨some 72, .bin .add (.t 71) (.c (.int .i64 1)), none⟩, ⟨some 11, .mv (.t 72) true, none⟩]))
def L5_0 : C := .loop [1, 4, 9, 11] 2 B5_0
theorem go5_0 (s : Env × Bx) (nb) : evL tab ext nb L5_0 s = (loopIn nb [1, 4, 9, 11] 2 s).bind fun s0 => (evL tab ext nb B5_0 s0).bind (seqG tab ext nb L5_0) := eL_loop _ _ _
/-- swingbridge/swingbridgelaw14.AgentRises -/
def C5 : CFun := ⟨110, 4, .seq (.reg [⟨some 4, .box (.t 0), none⟩, ⟨some 8, .mv (.c (.bool false)) true, none⟩])
  (.seq (.seq (.reg [⟨some 17, .call 15 [] false, none⟩, ⟨some 18, .un .not (.t 17), none⟩])
  (.cond (.t 18) (.seq (.reg [⟨some 8, .mv (.c (.bool false)) true, none⟩])
  (.ret))
  (.skip)))
  (.seq (.seq (.reg [⟨some 19, .load 4 true (.t 4) false, none⟩, ⟨some 20, .call 16 [(.t 19)] false, none⟩, ⟨some 21, .un .not (.t 20), none⟩, ⟨some 22, .mv (.t 21) false, none⟩, ⟨some 23, .mv (.t 1) false, some (22, false)⟩, ⟨some 24, .len (.t 23), some (22, false)⟩, ⟨some 25, .bin .gtr (.t 24) (.c (.int .i64 10)), some (22, false)⟩, ⟨some 26, .pick (.t 22) (.c (.bool true)) (.t 25), none⟩, ⟨some 27, .mv (.t 26) false, none⟩, ⟨some 28, .mv (.t 1) false, some (27, false)⟩, ⟨some 29, .len (.t 28), some (27, false)⟩, ⟨some 30, .bin .eql (.t 29) (.c (.int .i64 0)), some (27, false)⟩, ⟨some 31, .pick (.t 27) (.c (.bool true)) (.t 30), none⟩, ⟨some 32, .mv (.t 31) false, none⟩, ⟨some 33, .load 4 true (.t 4) false, some (32, false)⟩, ⟨some 34, .call 23 [(.t 33), (.c (.int .i64 0))] false, some (32, false)⟩, ⟨some 35, .un .not (.t 34), some (32, false)⟩, ⟨some 36, .pick (.t 32) (.c (.bool true)) (.t 35), none⟩])
  (.cond (.t 36) (.seq (.reg [⟨some 8, .mv (.c (.bool true)) true, none⟩])
  (.ret))
  (.skip)))
  (.seq (.reg [⟨some 37, .mv (.t 1) false, none⟩, ⟨some 38, .app 1 8 (.c (.slice none 0 0)) (.t 37) true, none⟩, ⟨some 9, .mv (.t 38) true, none⟩])
  (.seq (.reg [⟨some 39, .mv (.t 3) false, none⟩, ⟨some 40, .conv .i64 (.t 39), none⟩, ⟨some 41, .mv (.t 9) false, none⟩, ⟨some 42, .len (.t 41), none⟩, ⟨some 43, .bin .rem (.t 40) (.t 42), none⟩, ⟨some 10, .mv (.t 43) true, none⟩])
  (.seq (.seq (.reg [⟨some 44, .mv (.t 9) false, none⟩, ⟨some 45, .mv (.t 10) false, none⟩, ⟨some 46, .ia 1 (.t 44) (.t 45), none⟩, ⟨some 47, .load 1 false (.t 46) false, none⟩, ⟨some 48, .bin .lss (.t 47) (.c (.int .i64 0)), none⟩, ⟨some 49, .mv (.t 48) false, none⟩, ⟨some 50, .mv (.t 9) false, some (49, false)⟩, ⟨some 51, .mv (.t 10) false, some (49, false)⟩, ⟨some 52, .ia 1 (.t 50) (.t 51), some (49, false)⟩, ⟨some 53, .load 1 false (.t 52) false, some (49, false)⟩, ⟨some 54, .bin .gtr (.t 53) (.c (.int .i64 1073741824)), some (49, false)⟩, ⟨some 55, .pick (.t 49) (.c (.bool true)) (.t 54), none⟩])
  (.cond (.t 55) (.seq (.reg [⟨some 8, .mv (.c (.bool true)) true, none⟩])
  (.ret))
  (.skip)))
  (.seq (.reg [⟨some 56, .mv (.t 9) false, none⟩, ⟨some 57, .mv (.t 10) false, none⟩, ⟨some 58, .mv (.t 9) false, none⟩, ⟨some 59, .mv (.t 10) false, none⟩, ⟨some 60, .ia 1 (.t 58) (.t 59), none⟩, ⟨some 61, .load 1 false (.t 60) false, none⟩, ⟨some 62, .mv (.t 2) false, none⟩, ⟨some 63, .conv .i64 (.t 62), none⟩, ⟨some 64, .bin .add (.t 61) (.t 63), none⟩, ⟨some 65, .ia 1 (.t 56) (.t 57), none⟩, ⟨none, .store 1 (.t 65) (.t 64), none⟩])
  (.seq (.seq (.reg [⟨some 11, .mv (.c (.int .i64 0)) true, none⟩])
  (.block 0 (L5_0)))
  (.seq (.reg [⟨some 8, .mv (.c (.bool true)) true, none⟩])
  (.ret))))))))), [.t 8]⟩
theorem row5 : RowOk Try.prog 5 C5 := ⟨Try.f5, ⟨[], [38], [], []⟩, lvOf [(0, [1, 4, 9, 11], 2), (2, [1, 4, 9, 11, 12], 2)], Try.func5, by kernel_rfl, by kernel_rfl⟩
/-- swingbridge/swingbridgelaw14.AgentHomes -/
def C6 : CFun := ⟨127, 4, .seq (.reg [⟨some 8, .mv (.c (.bool false)) true, none⟩])
  (.seq (.seq (.reg [⟨some 21, .call 15 [] false, none⟩, ⟨some 22, .un .not (.t 21), none⟩])
  (.cond (.t 22) (.seq (.reg [⟨some 8, .mv (.c (.bool false)) true, none⟩])
  (.ret))
  (.skip)))
  (.seq (.reg [⟨some 23, .mv (.t 0) false, none⟩, ⟨some 24, .bin .rem (.t 23) (.c (.int .u8 50)), none⟩, ⟨some 25, .conv .i64 (.t 24), none⟩, ⟨some 26, .bin .add (.t 25) (.c (.int .i64 1)), none⟩, ⟨some 27, .mv (.t 1) false, none⟩, ⟨some 28, .bin .rem (.t 27) (.c (.int .u8 50)), none⟩, ⟨some 29, .conv .i64 (.t 28), none⟩, ⟨some 30, .bin .add (.t 29) (.c (.int .i64 1)), none⟩, ⟨some 31, .mv (.t 2) false, none⟩, ⟨some 32, .bin .rem (.t 31) (.c (.int .u8 50)), none⟩, ⟨some 33, .conv .i64 (.t 32), none⟩, ⟨some 34, .bin .add (.t 33) (.c (.int .i64 1)), none⟩, ⟨some 35, .mv (.t 3) false, none⟩, ⟨some 36, .bin .rem (.t 35) (.c (.int .u8 50)), none⟩, ⟨some 37, .conv .i64 (.t 36), none⟩, ⟨some 38, .bin .add (.t 37) (.c (.int .i64 1)), none⟩, ⟨some 9, .mv (.t 26) true, none⟩, ⟨some 10, .mv (.t 30) true, none⟩, ⟨some 11, .mv (.t 34) true, none⟩, ⟨some 12, .mv (.t 38) true, none⟩])
  (.seq (.reg [⟨some 39, .bsl 1 2 [(.int .i64 0), (.int .i64 0)] [(0, 1, (.c (.int .i64 1))), (1, 1, (.c (.int .i64 1)))] false, none⟩, ⟨some 40, .bsl 1 2 [(.int .i64 0), (.int .i64 0)] [(0, 1, (.c (.int .i64 0))), (1, 1, (.c (.int .i64 1)))] false, none⟩, ⟨some 41, .mv (.t 9) false, none⟩, ⟨some 42, .build [(.int .i64 0), (.int .i64 0), (.int .i64 0)] [(0, 1, (.c (.int .i64 3))), (1, 1, (.t 41))], none⟩, ⟨some 43, .bsl 3 1 [(.int .i64 0), (.int .i64 0), (.int .i64 0)] [(0, 3, (.t 42))] false, none⟩, ⟨some 44, .build [(.string ⟨#[]⟩), (.int .i64 0), (.int .i64 0), (.int .i64 0), (.int .i64 0), (.slice none 0 0)] [(0, 1, (.c (.string ⟨#[97]⟩))), (1, 1, (.c (.int .i64 1000))), (2, 1, (.c (.int .i64 1000))), (3, 1, (.c (.int .i64 1))), (5, 1, (.t 43))], none⟩, ⟨some 45, .mv (.t 10) false, none⟩, ⟨some 46, .build [(.int .i64 0), (.int .i64 0), (.int .i64 0)] [(0, 1, (.c (.int .i64 3))), (1, 1, (.t 45))], none⟩, ⟨some 47, .mv (.t 11) false, none⟩, ⟨some 48, .build [(.int .i64 0), (.int .i64 0), (.int .i64 0)] [(0, 1, (.c (.int .i64 3))), (1, 1, (.t 47))], none⟩, ⟨some 49, .bsl 3 2 [(.int .i64 0), (.int .i64 0), (.int .i64 0), (.int .i64 0), (.int .i64 0), (.int .i64 0)] [(0, 3, (.t 46)), (3, 3, (.t 48))] false, none⟩, ⟨some 50, .build [(.string ⟨#[]⟩), (.int .i64 0), (.int .i64 0), (.int .i64 0), (.int .i64 0), (.slice none 0 0)] [(0, 1, (.c (.string ⟨#[98]⟩))), (1, 1, (.c (.int .i64 1000))), (2, 1, (.c (.int .i64 1000))), (3, 1, (.c (.int .i64 2))), (5, 1, (.t 49))], none⟩, ⟨some 51, .mv (.t 12) false, none⟩, ⟨some 52, .build [(.int .i64 0), (.int .i64 0), (.int .i64 0)] [(0, 1, (.c (.int .i64 3))), (1, 1, (.t 51)), (2, 1, (.c (.int .i64 1)))], none⟩, ⟨some 53, .bsl 3 1 [(.int .i64 0), (.int .i64 0), (.int .i64 0)] [(0, 3, (.t 52))] false, none⟩, ⟨some 54, .build [(.string ⟨#[]⟩), (.int .i64 0), (.int .i64 0), (.int .i64 0), (.int .i64 0), (.slice none 0 0)] [(0, 1, (.c (.string ⟨#[99]⟩))), (1, 1, (.c (.int .i64 1000))), (2, 1, (.c (.int .i64 1000))), (3, 1, (.c (.int .i64 3))), (5, 1, (.t 53))], none⟩, ⟨some 55, .bsl 6 3 [(.string ⟨#[]⟩), (.int .i64 0), (.int .i64 0), (.int .i64 0), (.int .i64 0), (.slice none 0 0), (.string ⟨#[]⟩), (.int .i64 0), (.int .i64 0), (.int .i64 0), (.int .i64 0), (.slice none 0 0), (.string ⟨#[]⟩), (.int .i64 0), (.int .i64 0), (.int .i64 0), (.int .i64 0), (.slice none 0 0)] [(0, 6, (.t 44)), (6, 6, (.t 50)), (12, 6, (.t 54))] false, none⟩, ⟨some 56, .build [(.int .i64 0), (.slice none 0 0), (.slice none 0 0), (.slice none 0 0)] [(0, 1, (.c (.int .i64 2))), (1, 1, (.t 39)), (2, 1, (.t 40)), (3, 1, (.t 55))], none⟩, ⟨some 13, .alloc [(.int .i64 0), (.slice none 0 0), (.slice none 0 0), (.slice none 0 0)], none⟩, ⟨none, .store 4 (.t 13) (.t 56), none⟩])
  (.seq (.reg [⟨some 57, .bsl 1 3 [(.int .i64 0), (.int .i64 0), (.int .i64 0)] [(0, 1, (.c (.int .i64 100))), (1, 1, (.c (.int .i64 200))), (2, 1, (.c (.int .i64 100)))] false, none⟩, ⟨some 14, .mv (.t 57) true, none⟩])
  (.seq (.reg [⟨some 59, .load 4 true (.t 13) false, none⟩, ⟨some 60, .mv (.t 14) false, none⟩, ⟨some 61, .call 17 [(.t 59), (.t 60), (.c (.int .i64 0)), (.c (.int .i64 0))] false, none⟩, ⟨some 58, .mv (.t 61) false, none⟩, ⟨some 62, .ext (.t 58) 0, none⟩, ⟨some 63, .ext (.t 58) 1, none⟩, ⟨some 15, .mv (.t 62) true, none⟩, ⟨some 16, .mv (.t 63) true, none⟩])
  (.seq (.reg [⟨some 65, .load 4 true (.t 13) false, none⟩, ⟨some 66, .mv (.t 14) false, none⟩, ⟨some 67, .call 17 [(.t 65), (.t 66), (.c (.int .i64 1)), (.c (.int .i64 0))] false, none⟩, ⟨some 64, .mv (.t 67) false, none⟩, ⟨some 68, .ext (.t 64) 0, none⟩, ⟨some 69, .ext (.t 64) 1, none⟩, ⟨some 17, .mv (.t 68) true, none⟩, ⟨some 18, .mv (.t 69) true, none⟩])
  (.seq (.reg [⟨some 71, .load 4 true (.t 13) false, none⟩, ⟨some 72, .mv (.t 14) false, none⟩, ⟨some 73, .call 17 [(.t 71), (.t 72), (.c (.int .i64 2)), (.c (.int .i64 0))] false, none⟩, ⟨some 70, .mv (.t 73) false, none⟩, ⟨some 74, .ext (.t 70) 0, none⟩, ⟨some 75, .ext (.t 70) 1, none⟩, ⟨some 19, .mv (.t 74) true, none⟩, ⟨some 20, .mv (.t 75) true, none⟩])
  (.seq (.reg [⟨some 76, .mv (.t 16) false, none⟩, ⟨some 77, .mv (.t 76) false, none⟩, ⟨some 78, .mv (.t 15) false, some (77, true)⟩, ⟨some 79, .mv (.t 9) false, some (77, true)⟩, ⟨some 80, .mv (.t 10) false, some (77, true)⟩, ⟨some 81, .mv (.t 11) false, some (77, true)⟩, ⟨some 82, .mxn true [(.t 80), (.t 81)], some (77, true)⟩, ⟨some 83, .bin .add (.t 79) (.t 82), some (77, true)⟩, ⟨some 84, .bin .eql (.t 78) (.t 83), some (77, true)⟩, ⟨some 85, .pick (.t 77) (.t 84) (.c (.bool false)), none⟩, ⟨some 86, .mv (.t 85) false, none⟩, ⟨some 87, .mv (.t 18) false, some (86, true)⟩, ⟨some 88, .pick (.t 86) (.t 87) (.c (.bool false)), none⟩, ⟨some 89, .mv (.t 88) false, none⟩, ⟨some 90, .mv (.t 17) false, some (89, true)⟩, ⟨some 91, .mv (.t 10) false, some (89, true)⟩, ⟨some 92, .mv (.t 9) false, some (89, true)⟩, ⟨some 93, .bin .add (.t 91) (.t 92), some (89, true)⟩, ⟨some 94, .bin .eql (.t 90) (.t 93), some (89, true)⟩, ⟨some 95, .pick (.t 89) (.t 94) (.c (.bool false)), none⟩, ⟨some 96, .mv (.t 95) false, none⟩, ⟨some 97, .mv (.t 20) false, some (96, true)⟩, ⟨some 98, .pick (.t 96) (.t 97) (.c (.bool false)), none⟩, ⟨some 99, .mv (.t 98) false, none⟩, ⟨some 100, .mv (.t 19) false, some (99, true)⟩, ⟨some 101, .mv (.t 12) false, some (99, true)⟩, ⟨some 102, .bin .eql (.t 100) (.t 101), some (99, true)⟩, ⟨some 103, .pick (.t 99) (.t 102) (.c (.bool false)), none⟩, ⟨some 104, .mv (.t 103) false, none⟩, ⟨some 105, .load 4 true (.t 13) false, some (104, true)⟩, ⟨some 106, .call 19 [(.t 105), (.c (.int .i64 0)), (.c (.int .i64 1))] false, some (104, true)⟩, ⟨some 107, .mv (.t 12) false, some (104, true)⟩, ⟨some 108, .bin .eql (.t 106) (.t 107), some (104, true)⟩, ⟨some 109, .pick (.t 104) (.t 108) (.c (.bool false)), none⟩, ⟨some 110, .mv (.t 109) false, none⟩, ⟨some 111, .load 4 true (.t 13) false, some (110, true)⟩, ⟨some 112, .mv (.t 14) false, some (110, true)⟩, ⟨some 113, .call 21 [(.t 111), (.t 112), (.c (.int .i64 2)), (.c (.int .i64 0)), (.c (.int .i64 10))] false, some (110, true)⟩, ⟨some 114, .mv (.t 9) false, some (110, true)⟩, ⟨some 115, .mv (.t 10) false, some (110, true)⟩, ⟨some 116, .bin .add (.t 114) (.t 115), some (110, true)⟩, ⟨some 117, .mv (.t 11) false, some (110, true)⟩, ⟨some 118, .bin .add (.t 116) (.t 117), some (110, true)⟩, ⟨some 119, .bin .eql (.t 113) (.t 118), some (110, true)⟩, ⟨some 120, .pick (.t 110) (.t 119) (.c (.bool false)), none⟩, ⟨some 121, .mv (.t 120) false, none⟩, ⟨some 122, .load 4 true (.t 13) false, some (121, true)⟩, ⟨some 123, .mv (.t 14) false, some (121, true)⟩, ⟨some 124, .call 21 [(.t 122), (.t 123), (.c (.int .i64 0)), (.c (.int .i64 0)), (.c (.int .i64 10))] false, some (121, true)⟩, ⟨some 125, .bin .eql (.t 124) (.c (.int .i64 0)), some (121, true)⟩, ⟨some 126, .pick (.t 121) (.t 125) (.c (.bool false)), none⟩, ⟨some 8, .mv (.t 126) true, none⟩])
  (.ret))))))))), [.t 8]⟩
theorem row6 : RowOk Try.prog 6 C6 := ⟨Try.f6, ⟨[], [], [], []⟩, lvOf [], Try.func6, by kernel_rfl, by kernel_rfl⟩
/-- swingbridge/swingbridgelaw13.FairTells -/
def C7 : CFun := ⟨47, 3, .seq (.reg [⟨some 3, .box (.t 0), none⟩, ⟨some 6, .mv (.c (.bool false)) true, none⟩])
  (.seq (.seq (.reg [⟨some 11, .call 24 [] false, none⟩, ⟨some 12, .un .not (.t 11), none⟩])
  (.cond (.t 12) (.seq (.reg [⟨some 6, .mv (.c (.bool false)) true, none⟩])
  (.ret))
  (.skip)))
  (.seq (.seq (.reg [⟨some 13, .load 4 true (.t 3) false, none⟩, ⟨some 14, .call 25 [(.t 13)] false, none⟩, ⟨some 15, .un .not (.t 14), none⟩])
  (.cond (.t 15) (.seq (.reg [⟨some 6, .mv (.c (.bool true)) true, none⟩])
  (.ret))
  (.skip)))
  (.seq (.reg [⟨some 17, .load 4 true (.t 3) false, none⟩, ⟨some 18, .mv (.t 1) false, none⟩, ⟨some 19, .mv (.t 2) false, none⟩, ⟨some 20, .call 26 [(.t 17), (.t 18), (.t 19)] false, none⟩, ⟨some 16, .mv (.t 20) false, none⟩, ⟨some 21, .ext (.t 16) 0, none⟩, ⟨some 22, .ext (.t 16) 1, none⟩, ⟨some 7, .mv (.t 21) true, none⟩, ⟨some 8, .mv (.t 22) true, none⟩])
  (.seq (.reg [⟨some 24, .load 4 true (.t 3) false, none⟩, ⟨some 25, .mv (.t 1) false, none⟩, ⟨some 26, .mv (.t 2) false, none⟩, ⟨some 27, .call 27 [(.t 24), (.t 25), (.t 26)] false, none⟩, ⟨some 23, .mv (.t 27) false, none⟩, ⟨some 28, .ext (.t 23) 0, none⟩, ⟨some 29, .ext (.t 23) 1, none⟩, ⟨some 9, .mv (.t 28) true, none⟩, ⟨some 10, .mv (.t 29) true, none⟩])
  (.seq (.reg [⟨some 30, .mv (.t 7) false, none⟩, ⟨some 31, .mv (.t 9) false, none⟩, ⟨some 32, .bin .eql (.t 30) (.t 31), none⟩, ⟨some 33, .mv (.t 32) false, none⟩, ⟨some 34, .mv (.t 8) false, some (33, true)⟩, ⟨some 35, .mv (.t 10) false, some (33, true)⟩, ⟨some 36, .eqb false (.t 34) (.t 35), some (33, true)⟩, ⟨some 37, .pick (.t 33) (.t 36) (.c (.bool false)), none⟩, ⟨some 38, .mv (.t 37) false, none⟩, ⟨some 39, .load 4 true (.t 3) false, some (38, true)⟩, ⟨some 40, .mv (.t 1) false, some (38, true)⟩, ⟨some 41, .call 28 [(.t 39), (.t 40)] false, some (38, true)⟩, ⟨some 42, .load 4 true (.t 3) false, some (38, true)⟩, ⟨some 43, .mv (.t 1) false, some (38, true)⟩, ⟨some 44, .call 29 [(.t 42), (.t 43)] false, some (38, true)⟩, ⟨some 45, .bin .eql (.t 41) (.t 44), some (38, true)⟩, ⟨some 46, .pick (.t 38) (.t 45) (.c (.bool false)), none⟩, ⟨some 6, .mv (.t 46) true, none⟩])
  (.ret)))))), [.t 6]⟩
theorem row7 : RowOk Try.prog 7 C7 := ⟨Try.f7, ⟨[], [], [], []⟩, lvOf [], Try.func7, by kernel_rfl, by kernel_rfl⟩
def B8_6 : C := .seq (.seq (.reg [⟨some 60, .mv (.t 10) false, none⟩, ⟨some 61, .fa 3 (.t 1), none⟩, ⟨some 62, .load 1 false (.t 61) false, none⟩, ⟨some 63, .mv (.t 8) false, none⟩, ⟨some 64, .ia 6 (.t 62) (.t 63), none⟩, ⟨some 65, .fa 5 (.t 64), none⟩, ⟨some 66, .load 1 false (.t 65) false, none⟩, ⟨some 67, .len (.t 66), none⟩, ⟨some 68, .bin .lss (.t 60) (.t 67), none⟩, ⟨some 69, .mv (.t 68) false, none⟩, ⟨some 70, .mv (.t 8) false, some (69, true)⟩, ⟨some 71, .mv (.t 3) false, some (69, true)⟩, ⟨some 72, .bin .neq (.t 70) (.t 71), some (69, true)⟩, ⟨some 73, .pick (.t 69) (.t 72) (.c (.bool false)), none⟩])
  (.cond (.t 73) (.skip)
  (.exit 6)))
  (.seq (.block 7 (.seq (.reg [⟨some 76, .fa 3 (.t 1), none⟩, ⟨some 77, .load 1 false (.t 76) false, none⟩, ⟨some 78, .mv (.t 8) false, none⟩, ⟨some 79, .ia 6 (.t 77) (.t 78), none⟩, ⟨some 80, .fa 5 (.t 79), none⟩, ⟨some 81, .load 1 false (.t 80) false, none⟩, ⟨some 82, .mv (.t 10) false, none⟩, ⟨some 83, .ia 3 (.t 81) (.t 82), none⟩, ⟨some 84, .load 3 true (.t 83) false, none⟩, ⟨some 11, .alloc [(.int .i64 0), (.int .i64 0), (.int .i64 0)], none⟩, ⟨none, .store 3 (.t 11) (.t 84), none⟩])
  (.seq (.reg [⟨some 85, .fa 0 (.t 11), none⟩, ⟨some 86, .load 1 false (.t 85) false, none⟩, ⟨some 87, .bin .eql (.t 86) (.c (.int .i64 3)), none⟩])
  (.cond (.t 87) (.reg [⟨some 88, .mv (.t 9) false, none⟩, ⟨some 89, .fa 1 (.t 11), none⟩, ⟨some 90, .load 1 false (.t 89) false, none⟩, ⟨some 91, .mxn true [(.t 88), (.t 90)], none⟩, ⟨some 9, .mv (.t 91) true, none⟩])
  (.skip)))))
  (.reg [⟨some 74, .mv (.t 10) false, none⟩, ⟨some 75, .bin .add (.t 74) (.c (.int .i64 1)), none⟩, ⟨some 10, .mv (.t 75) true, none⟩]))
def L8_6 : C := .loop [1, 3, 4, 5, 6, 7, 8, 9, 10] 2 B8_6
theorem go8_6 (s : Env × Bx) (nb) : evL tab ext nb L8_6 s = (loopIn nb [1, 3, 4, 5, 6, 7, 8, 9, 10] 2 s).bind fun s0 => (evL tab ext nb B8_6 s0).bind (seqG tab ext nb L8_6) := eL_loop _ _ _
def B8_4 : C := .seq (.seq (.reg [⟨some 53, .mv (.t 8) false, none⟩, ⟨some 54, .fa 3 (.t 1), none⟩, ⟨some 55, .load 1 false (.t 54) false, none⟩, ⟨some 56, .len (.t 55), none⟩, ⟨some 57, .bin .lss (.t 53) (.t 56), none⟩])
  (.cond (.t 57) (.skip)
  (.exit 4)))
  (.seq (.block 5 (.seq (.reg [⟨some 9, .mv (.c (.int .i64 0)) true, none⟩])
  (.seq (.seq (.reg [⟨some 10, .mv (.c (.int .i64 0)) true, none⟩])
  (.block 6 (L8_6)))
  (.seq (.reg [⟨some 92, .mv (.t 6) false, none⟩, ⟨some 93, .mv (.t 9) false, none⟩, ⟨some 94, .bin .add (.t 92) (.t 93), none⟩, ⟨some 6, .mv (.t 94) true, none⟩])
  (.seq (.reg [⟨some 95, .mv (.t 9) false, none⟩, ⟨some 96, .bin .gtr (.t 95) (.c (.int .i64 0)), none⟩])
  (.cond (.t 96) (.reg [⟨some 97, .mv (.t 7) false, none⟩, ⟨some 98, .bin .add (.t 97) (.c (.int .i64 1)), none⟩, ⟨some 7, .mv (.t 98) true, none⟩])
  (.skip)))))))
  (.reg [⟨some 58, .mv (.t 8) false, none⟩, ⟨some 59, .bin .add (.t 58) (.c (.int .i64 1)), none⟩, ⟨some 8, .mv (.t 59) true, none⟩]))
def L8_4 : C := .loop [1, 3, 4, 5, 6, 7, 8] 2 B8_4
theorem go8_4 (s : Env × Bx) (nb) : evL tab ext nb L8_4 s = (loopIn nb [1, 3, 4, 5, 6, 7, 8] 2 s).bind fun s0 => (evL tab ext nb B8_4 s0).bind (seqG tab ext nb L8_4) := eL_loop _ _ _
def B8_2 : C := .seq (.seq (.reg [⟨some 31, .mv (.t 4) false, none⟩, ⟨some 32, .fa 3 (.t 1), none⟩, ⟨some 33, .load 1 false (.t 32) false, none⟩, ⟨some 34, .mv (.t 3) false, none⟩, ⟨some 35, .ia 6 (.t 33) (.t 34), none⟩, ⟨some 36, .fa 5 (.t 35), none⟩, ⟨some 37, .load 1 false (.t 36) false, none⟩, ⟨some 38, .len (.t 37), none⟩, ⟨some 39, .bin .lss (.t 31) (.t 38), none⟩])
  (.cond (.t 39) (.skip)
  (.exit 2)))
  (.seq (.block 3 (.seq (.reg [⟨some 42, .fa 3 (.t 1), none⟩, ⟨some 43, .load 1 false (.t 42) false, none⟩, ⟨some 44, .mv (.t 3) false, none⟩, ⟨some 45, .ia 6 (.t 43) (.t 44), none⟩, ⟨some 46, .fa 5 (.t 45), none⟩, ⟨some 47, .load 1 false (.t 46) false, none⟩, ⟨some 48, .mv (.t 4) false, none⟩, ⟨some 49, .ia 3 (.t 47) (.t 48), none⟩, ⟨some 50, .load 3 true (.t 49) false, none⟩, ⟨some 5, .alloc [(.int .i64 0), (.int .i64 0), (.int .i64 0)], none⟩, ⟨none, .store 3 (.t 5) (.t 50), none⟩])
  (.seq (.reg [⟨some 51, .fa 1 (.t 5), none⟩, ⟨some 52, .load 1 false (.t 51) false, none⟩, ⟨some 6, .mv (.t 52) true, none⟩, ⟨some 7, .mv (.c (.int .i64 0)) true, none⟩])
  (.seq (.seq (.reg [⟨some 8, .mv (.c (.int .i64 0)) true, none⟩])
  (.block 4 (L8_4)))
  (.seq (.reg [⟨some 100, .load 4 true (.t 1) false, none⟩, ⟨some 101, .mv (.t 3) false, none⟩, ⟨some 102, .mv (.t 4) false, none⟩, ⟨some 103, .call 26 [(.t 100), (.t 101), (.t 102)] false, none⟩, ⟨some 99, .mv (.t 103) false, none⟩, ⟨some 104, .ext (.t 99) 0, none⟩, ⟨some 105, .ext (.t 99) 1, none⟩, ⟨some 12, .mv (.t 104) true, none⟩, ⟨some 13, .mv (.t 105) true, none⟩])
  (.seq (.reg [⟨some 106, .mv (.t 13) false, none⟩, ⟨some 107, .fa 0 (.t 5), none⟩, ⟨some 108, .load 1 false (.t 107) false, none⟩, ⟨some 109, .bin .eql (.t 108) (.c (.int .i64 3)), none⟩, ⟨some 110, .eqb true (.t 106) (.t 109), none⟩, ⟨some 111, .mv (.t 110) false, none⟩, ⟨some 112, .mv (.t 13) false, some (111, false)⟩, ⟨some 113, .mv (.t 112) false, some (111, false)⟩, ⟨some 114, .mv (.t 12) false, some (113, true)⟩, ⟨some 115, .mv (.t 6) false, some (113, true)⟩, ⟨some 116, .bin .neq (.t 114) (.t 115), some (113, true)⟩, ⟨some 117, .pick (.t 113) (.t 116) (.c (.bool false)), some (111, false)⟩, ⟨some 118, .pick (.t 111) (.c (.bool true)) (.t 117), none⟩, ⟨some 119, .mv (.t 118) false, none⟩, ⟨some 120, .mv (.t 13) false, some (119, false)⟩, ⟨some 121, .un .not (.t 120), some (119, false)⟩, ⟨some 122, .mv (.t 121) false, some (119, false)⟩, ⟨some 123, .mv (.t 12) false, some (122, true)⟩, ⟨some 124, .bin .neq (.t 123) (.c (.int .i64 0)), some (122, true)⟩, ⟨some 125, .pick (.t 122) (.t 124) (.c (.bool false)), some (119, false)⟩, ⟨some 126, .pick (.t 119) (.c (.bool true)) (.t 125), none⟩, ⟨some 127, .mv (.t 126) false, none⟩, ⟨some 128, .load 4 true (.t 1) false, some (127, false)⟩, ⟨some 129, .mv (.t 3) false, some (127, false)⟩, ⟨some 130, .call 28 [(.t 128), (.t 129)] false, some (127, false)⟩, ⟨some 131, .mv (.t 7) false, some (127, false)⟩, ⟨some 132, .bin .neq (.t 130) (.t 131), some (127, false)⟩, ⟨some 133, .pick (.t 127) (.c (.bool true)) (.t 132), none⟩, ⟨some 134, .mv (.t 133) false, none⟩, ⟨some 135, .mv (.t 7) false, some (134, false)⟩, ⟨some 136, .fa 3 (.t 1), some (134, false)⟩, ⟨some 137, .load 1 false (.t 136) false, some (134, false)⟩, ⟨some 138, .len (.t 137), some (134, false)⟩, ⟨some 139, .bin .sub (.t 138) (.c (.int .i64 1)), some (134, false)⟩, ⟨some 140, .bin .gtr (.t 135) (.t 139), some (134, false)⟩, ⟨some 141, .pick (.t 134) (.c (.bool true)) (.t 140), none⟩])
  (.cond (.t 141) (.seq (.reg [⟨some 2, .mv (.c (.bool false)) true, none⟩])
  (.ret))
  (.skip))))))))
  (.reg [⟨some 40, .mv (.t 4) false, none⟩, ⟨some 41, .bin .add (.t 40) (.c (.int .i64 1)), none⟩, ⟨some 4, .mv (.t 41) true, none⟩]))
def L8_2 : C := .loop [1, 3, 4] 1 B8_2
theorem go8_2 (s : Env × Bx) (nb) : evL tab ext nb L8_2 s = (loopIn nb [1, 3, 4] 1 s).bind fun s0 => (evL tab ext nb B8_2 s0).bind (seqG tab ext nb L8_2) := eL_loop _ _ _
def B8_0 : C := .seq (.seq (.reg [⟨some 24, .mv (.t 3) false, none⟩, ⟨some 25, .fa 3 (.t 1), none⟩, ⟨some 26, .load 1 false (.t 25) false, none⟩, ⟨some 27, .len (.t 26), none⟩, ⟨some 28, .bin .lss (.t 24) (.t 27), none⟩])
  (.cond (.t 28) (.skip)
  (.exit 0)))
  (.seq (.block 1 (.seq (.reg [⟨some 4, .mv (.c (.int .i64 0)) true, none⟩])
  (.block 2 (L8_2))))
  (.reg [⟨some 29, .mv (.t 3) false, none⟩, ⟨some 30, .bin .add (.t 29) (.c (.int .i64 1)), none⟩, ⟨some 3, .mv (.t 30) true, none⟩]))
def L8_0 : C := .loop [1, 3] 1 B8_0
theorem go8_0 (s : Env × Bx) (nb) : evL tab ext nb L8_0 s = (loopIn nb [1, 3] 1 s).bind fun s0 => (evL tab ext nb B8_0 s0).bind (seqG tab ext nb L8_0) := eL_loop _ _ _
/-- swingbridge/swingbridgelaw13.FairSums -/
def C8 : CFun := ⟨142, 1, .seq (.reg [⟨some 1, .box (.t 0), none⟩, ⟨some 2, .mv (.c (.bool false)) true, none⟩])
  (.seq (.seq (.reg [⟨some 14, .call 24 [] false, none⟩, ⟨some 15, .un .not (.t 14), none⟩])
  (.cond (.t 15) (.seq (.reg [⟨some 2, .mv (.c (.bool false)) true, none⟩])
  (.ret))
  (.skip)))
  (.seq (.seq (.reg [⟨some 16, .load 4 true (.t 1) false, none⟩, ⟨some 17, .call 25 [(.t 16)] false, none⟩, ⟨some 18, .un .not (.t 17), none⟩, ⟨some 19, .mv (.t 18) false, none⟩, ⟨some 20, .load 4 true (.t 1) false, some (19, false)⟩, ⟨some 21, .call 23 [(.t 20), (.c (.int .i64 0))] false, some (19, false)⟩, ⟨some 22, .un .not (.t 21), some (19, false)⟩, ⟨some 23, .pick (.t 19) (.c (.bool true)) (.t 22), none⟩])
  (.cond (.t 23) (.seq (.reg [⟨some 2, .mv (.c (.bool true)) true, none⟩])
  (.ret))
  (.skip)))
  (.seq (.seq (.reg [⟨some 3, .mv (.c (.int .i64 0)) true, none⟩])
  (.block 0 (L8_0)))
  (.seq (.reg [⟨some 2, .mv (.c (.bool true)) true, none⟩])
  (.ret))))), [.t 2]⟩
theorem row8 : RowOk Try.prog 8 C8 := ⟨Try.f8, ⟨[], [], [], []⟩, lvOf [(0, [1, 3], 1), (2, [1, 3, 4], 1), (4, [1, 3, 4, 5, 6, 7, 8], 2), (6, [1, 3, 4, 5, 6, 7, 8, 9, 10], 2)], Try.func8, by kernel_rfl, by kernel_rfl⟩
def B9_0 : C := .seq (.seq (.reg [⟨some 31, .mv (.t 8) false, none⟩, ⟨some 32, .fa 1 (.t 7), none⟩, ⟨some 33, .load 1 false (.t 32) false, none⟩, ⟨some 34, .len (.t 33), none⟩, ⟨some 35, .bin .lss (.t 31) (.t 34), none⟩])
  (.cond (.t 35) (.skip)
  (.exit 0)))
  (.seq (.block 1 (.reg [⟨some 38, .fa 1 (.t 7), none⟩, ⟨some 39, .load 1 false (.t 38) false, none⟩, ⟨some 40, .mv (.t 8) false, none⟩, ⟨some 41, .mv (.t 1) false, none⟩, ⟨some 42, .conv .i64 (.t 41), none⟩, ⟨some 43, .bin .rem (.t 42) (.c (.int .i64 3)), none⟩, ⟨some 44, .bin .add (.t 43) (.c (.int .i64 1)), none⟩, ⟨some 45, .ia 1 (.t 39) (.t 40), none⟩, ⟨none, .store 1 (.t 45) (.t 44), none⟩]))
  (.reg [⟨some 36, .mv (.t 8) false, none⟩, ⟨some 37, .bin .add (.t 36) (.c (.int .i64 1)), none⟩, ⟨some 8, .mv (.t 37) true, none⟩]))
def L9_0 : C := .loop [1, 2, 3, 7, 8] 3 B9_0
theorem go9_0 (s : Env × Bx) (nb) : evL tab ext nb L9_0 s = (loopIn nb [1, 2, 3, 7, 8] 3 s).bind fun s0 => (evL tab ext nb B9_0 s0).bind (seqG tab ext nb L9_0) := eL_loop _ _ _
def B9_2 : C := .seq (.seq (.reg [⟨some 50, .mv (.t 9) false, none⟩, ⟨some 51, .fa 3 (.t 7), none⟩, ⟨some 52, .load 1 false (.t 51) false, none⟩, ⟨some 53, .len (.t 52), none⟩, ⟨some 54, .bin .lss (.t 50) (.t 53), none⟩])
  (.cond (.t 54) (.skip)
  (.exit 2)))
  (.seq (.block 3 (.seq (.reg [⟨some 57, .fa 3 (.t 7), none⟩, ⟨some 58, .load 1 false (.t 57) false, none⟩, ⟨some 59, .mv (.t 9) false, none⟩, ⟨some 60, .mv (.t 9) false, none⟩, ⟨some 61, .mv (.t 2) false, none⟩, ⟨some 62, .conv .i64 (.t 61), none⟩, ⟨some 63, .bin .add (.t 60) (.t 62), none⟩, ⟨some 64, .fa 3 (.t 7), none⟩, ⟨some 65, .load 1 false (.t 64) false, none⟩, ⟨some 66, .len (.t 65), none⟩, ⟨some 67, .bin .rem (.t 63) (.t 66), none⟩, ⟨some 68, .bin .add (.c (.int .i64 1)) (.t 67), none⟩, ⟨some 69, .ia 6 (.t 58) (.t 59), none⟩, ⟨some 70, .fa 3 (.t 69), none⟩, ⟨none, .store 1 (.t 70) (.t 68), none⟩])
  (.reg [⟨some 71, .fa 3 (.t 7), none⟩, ⟨some 72, .load 1 false (.t 71) false, none⟩, ⟨some 73, .mv (.t 9) false, none⟩, ⟨some 74, .ia 6 (.t 72) (.t 73), none⟩, ⟨some 75, .fa 4 (.t 74), none⟩, ⟨none, .store 1 (.t 75) (.c (.int .i64 0)), none⟩])))
  (.reg [⟨some 55, .mv (.t 9) false, none⟩, ⟨some 56, .bin .add (.t 55) (.c (.int .i64 1)), none⟩, ⟨some 9, .mv (.t 56) true, none⟩]))
def L9_2 : C := .loop [2, 3, 7, 9] 4 B9_2
theorem go9_2 (s : Env × Bx) (nb) : evL tab ext nb L9_2 s = (loopIn nb [2, 3, 7, 9] 4 s).bind fun s0 => (evL tab ext nb B9_2 s0).bind (seqG tab ext nb L9_2) := eL_loop _ _ _
def B9_6 : C := .seq (.seq (.reg [⟨some 83, .mv (.t 11) false, none⟩, ⟨some 84, .fa 3 (.t 3), none⟩, ⟨some 85, .load 1 false (.t 84) false, none⟩, ⟨some 86, .mv (.t 10) false, none⟩, ⟨some 87, .ia 6 (.t 85) (.t 86), none⟩, ⟨some 88, .fa 5 (.t 87), none⟩, ⟨some 89, .load 1 false (.t 88) false, none⟩, ⟨some 90, .len (.t 89), none⟩, ⟨some 91, .bin .lss (.t 83) (.t 90), none⟩])
  (.cond (.t 91) (.skip)
  (.exit 6)))
  (.seq (.block 7 (.seq (.reg [⟨some 95, .load 4 true (.t 3) false, none⟩, ⟨some 96, .mv (.t 10) false, none⟩, ⟨some 97, .mv (.t 11) false, none⟩, ⟨some 98, .call 26 [(.t 95), (.t 96), (.t 97)] false, none⟩, ⟨some 94, .mv (.t 98) false, none⟩, ⟨some 99, .ext (.t 94) 0, none⟩, ⟨some 100, .ext (.t 94) 1, none⟩, ⟨some 12, .mv (.t 99) true, none⟩, ⟨some 13, .mv (.t 100) true, none⟩])
  (.seq (.reg [⟨some 102, .load 4 true (.t 7) false, none⟩, ⟨some 103, .mv (.t 10) false, none⟩, ⟨some 104, .mv (.t 11) false, none⟩, ⟨some 105, .call 26 [(.t 102), (.t 103), (.t 104)] false, none⟩, ⟨some 101, .mv (.t 105) false, none⟩, ⟨some 106, .ext (.t 101) 0, none⟩, ⟨some 107, .ext (.t 101) 1, none⟩, ⟨some 14, .mv (.t 106) true, none⟩, ⟨some 15, .mv (.t 107) true, none⟩])
  (.seq (.reg [⟨some 108, .mv (.t 12) false, none⟩, ⟨some 109, .mv (.t 14) false, none⟩, ⟨some 110, .bin .neq (.t 108) (.t 109), none⟩, ⟨some 111, .mv (.t 110) false, none⟩, ⟨some 112, .mv (.t 13) false, some (111, false)⟩, ⟨some 113, .mv (.t 15) false, some (111, false)⟩, ⟨some 114, .eqb true (.t 112) (.t 113), some (111, false)⟩, ⟨some 115, .pick (.t 111) (.c (.bool true)) (.t 114), none⟩])
  (.cond (.t 115) (.seq (.reg [⟨some 6, .mv (.c (.bool false)) true, none⟩])
  (.ret))
  (.skip))))))
  (.reg [⟨some 92, .mv (.t 11) false, none⟩, ⟨some 93, .bin .add (.t 92) (.c (.int .i64 1)), none⟩, ⟨some 11, .mv (.t 93) true, none⟩]))
def L9_6 : C := .loop [3, 7, 10, 11] 4 B9_6
theorem go9_6 (s : Env × Bx) (nb) : evL tab ext nb L9_6 s = (loopIn nb [3, 7, 10, 11] 4 s).bind fun s0 => (evL tab ext nb B9_6 s0).bind (seqG tab ext nb L9_6) := eL_loop _ _ _
def B9_4 : C := .seq (.seq (.reg [⟨some 76, .mv (.t 10) false, none⟩, ⟨some 77, .fa 3 (.t 3), none⟩, ⟨some 78, .load 1 false (.t 77) false, none⟩, ⟨some 79, .len (.t 78), none⟩, ⟨some 80, .bin .lss (.t 76) (.t 79), none⟩])
  (.cond (.t 80) (.skip)
  (.exit 4)))
  (.seq (.block 5 (.seq (.reg [⟨some 11, .mv (.c (.int .i64 0)) true, none⟩])
  (.block 6 (L9_6))))
  (.reg [⟨some 81, .mv (.t 10) false, none⟩, ⟨some 82, .bin .add (.t 81) (.c (.int .i64 1)), none⟩, ⟨some 10, .mv (.t 82) true, none⟩]))
def L9_4 : C := .loop [3, 7, 10] 4 B9_4
theorem go9_4 (s : Env × Bx) (nb) : evL tab ext nb L9_4 s = (loopIn nb [3, 7, 10] 4 s).bind fun s0 => (evL tab ext nb B9_4 s0).bind (seqG tab ext nb L9_4) := eL_loop _ _ _
/-- swingbridge/swingbridgelaw13.FairSame -/
def C9 : CFun := ⟨116, 3, .seq (.reg [⟨some 3, .box (.t 0), none⟩, ⟨some 6, .mv (.c (.bool false)) true, none⟩])
  (.seq (.seq (.reg [⟨some 16, .call 24 [] false, none⟩, ⟨some 17, .un .not (.t 16), none⟩])
  (.cond (.t 17) (.seq (.reg [⟨some 6, .mv (.c (.bool false)) true, none⟩])
  (.ret))
  (.skip)))
  (.seq (.seq (.reg [⟨some 18, .load 4 true (.t 3) false, none⟩, ⟨some 19, .call 25 [(.t 18)] false, none⟩, ⟨some 20, .un .not (.t 19), none⟩, ⟨some 21, .mv (.t 20) false, none⟩, ⟨some 22, .load 4 true (.t 3) false, some (21, false)⟩, ⟨some 23, .call 28 [(.t 22), (.c (.int .i64 0))] false, some (21, false)⟩, ⟨some 24, .bin .eql (.t 23) (.c (.int .i64 0)), some (21, false)⟩, ⟨some 25, .pick (.t 21) (.c (.bool true)) (.t 24), none⟩])
  (.cond (.t 25) (.seq (.reg [⟨some 6, .mv (.c (.bool true)) true, none⟩])
  (.ret))
  (.skip)))
  (.seq (.reg [⟨some 26, .load 4 true (.t 3) false, none⟩, ⟨some 7, .alloc [(.int .i64 0), (.slice none 0 0), (.slice none 0 0), (.slice none 0 0)], none⟩, ⟨none, .store 4 (.t 7) (.t 26), none⟩])
  (.seq (.reg [⟨some 27, .fa 1 (.t 3), none⟩, ⟨some 28, .load 1 false (.t 27) false, none⟩, ⟨some 29, .app 1 8 (.c (.slice none 0 0)) (.t 28) true, none⟩, ⟨some 30, .fa 1 (.t 7), none⟩, ⟨none, .store 1 (.t 30) (.t 29), none⟩])
  (.seq (.seq (.reg [⟨some 8, .mv (.c (.int .i64 0)) true, none⟩])
  (.block 0 (L9_0)))
  (.seq (.reg [⟨some 46, .fa 3 (.t 3), none⟩, ⟨some 47, .load 1 false (.t 46) false, none⟩, ⟨some 48, .app 6 72 (.c (.slice none 0 0)) (.t 47) true, none⟩, ⟨some 49, .fa 3 (.t 7), none⟩, ⟨none, .store 1 (.t 49) (.t 48), none⟩])
  (.seq (.seq (.reg [⟨some 9, .mv (.c (.int .i64 0)) true, none⟩])
  (.block 2 (L9_2)))
  (.seq (.seq (.reg [⟨some 10, .mv (.c (.int .i64 0)) true, none⟩])
  (.block 4 (L9_4)))
  (.seq (.reg [⟨some 6, .mv (.c (.bool true)) true, none⟩])
  (.ret)))))))))), [.t 6]⟩
theorem row9 : RowOk Try.prog 9 C9 := ⟨Try.f9, ⟨[], [29, 48], [], []⟩, lvOf [(0, [1, 2, 3, 7, 8], 3), (2, [2, 3, 7, 9], 4), (4, [3, 7, 10], 4), (6, [3, 7, 10, 11], 4)], Try.func9, by kernel_rfl, by kernel_rfl⟩
def B10_0 : C := .seq (.seq (.reg [⟨some 29, .mv (.t 7) false, none⟩, ⟨some 30, .mv (.t 0) false, none⟩, ⟨some 31, .len (.t 30), none⟩, ⟨some 32, .bin .lss (.t 29) (.t 31), none⟩])
  (.cond (.t 32) (.skip)
  (.exit 0)))
  (.seq (.block 1 (.seq (.reg [⟨some 35, .mv (.t 0) false, none⟩, ⟨some 36, .mv (.t 7) false, none⟩, ⟨some 37, .ia 1 (.t 35) (.t 36), none⟩, ⟨some 38, .load 1 false (.t 37) false, none⟩, ⟨some 39, .bin .rem (.t 38) (.c (.int .u8 60)), none⟩, ⟨some 40, .conv .i64 (.t 39), none⟩, ⟨some 41, .bin .add (.t 40) (.c (.int .i64 1)), none⟩, ⟨some 8, .mv (.t 41) true, none⟩])
  (.seq (.reg [⟨some 42, .mv (.t 6) false, none⟩, ⟨some 43, .mv (.t 8) false, none⟩, ⟨some 44, .bin .add (.t 42) (.t 43), none⟩, ⟨some 6, .mv (.t 44) true, none⟩])
  (.reg [⟨some 45, .fa 3 (.t 5), none⟩, ⟨some 46, .load 1 false (.t 45) true, none⟩, ⟨some 47, .mv (.t 7) false, none⟩, ⟨some 48, .bin .add (.c (.int .i64 97)) (.t 47), none⟩, ⟨some 49, .conv .u8 (.t 48), none⟩, ⟨some 50, .bsl 1 1 [(.int .u8 0)] [(0, 1, (.t 49))] false, none⟩, ⟨some 51, .bstr (.t 50), none⟩, ⟨some 52, .mv (.t 7) false, none⟩, ⟨some 53, .bin .add (.t 52) (.c (.int .i64 1)), none⟩, ⟨some 54, .build [(.int .i64 0), (.int .i64 0), (.int .i64 0)] [(0, 1, (.c (.int .i64 1))), (1, 1, (.c (.int .i64 1)))], none⟩, ⟨some 55, .mv (.t 8) false, none⟩, ⟨some 56, .mv (.t 7) false, none⟩, ⟨some 57, .bin .rem (.t 56) (.c (.int .i64 2)), none⟩, ⟨some 58, .build [(.int .i64 0), (.int .i64 0), (.int .i64 0)] [(0, 1, (.c (.int .i64 3))), (1, 1, (.t 55)), (2, 1, (.t 57))], none⟩, ⟨some 59, .bsl 3 2 [(.int .i64 0), (.int .i64 0), (.int .i64 0), (.int .i64 0), (.int .i64 0), (.int .i64 0)] [(0, 3, (.t 54)), (3, 3, (.t 58))] false, none⟩, ⟨some 60, .build [(.string ⟨#[]⟩), (.int .i64 0), (.int .i64 0), (.int .i64 0), (.int .i64 0), (.slice none 0 0)] [(0, 1, (.t 51)), (1, 1, (.c (.int .i64 900))), (2, 1, (.c (.int .i64 900))), (3, 1, (.t 53)), (5, 1, (.t 59))], none⟩, ⟨some 61, .bsl 6 1 [(.string ⟨#[]⟩), (.int .i64 0), (.int .i64 0), (.int .i64 0), (.int .i64 0), (.slice none 0 0)] [(0, 6, (.t 60))] false, none⟩, ⟨some 62, .app 6 72 (.t 46) (.t 61) false, none⟩, ⟨some 63, .fa 3 (.t 5), none⟩, ⟨none, .store 1 (.t 63) (.t 62), none⟩]))))
  (.reg [⟨some 33, .mv (.t 7) false, none⟩, ⟨some 34, .bin .add (.t 33) (.c (.int .i64 1)), none⟩, ⟨some 7, .mv (.t 34) true, none⟩]))
def L10_0 : C := .loop [0, 1, 5, 6, 7] 1 B10_0
theorem go10_0 (s : Env × Bx) (nb) : evL tab ext nb L10_0 s = (loopIn nb [0, 1, 5, 6, 7] 1 s).bind fun s0 => (evL tab ext nb B10_0 s0).bind (seqG tab ext nb L10_0) := eL_loop _ _ _
/-- swingbridge/swingbridgelaw13.FairCrowd -/
def C10 : CFun := ⟨111, 2, .seq (.reg [⟨some 4, .mv (.c (.bool false)) true, none⟩])
  (.seq (.seq (.reg [⟨some 16, .call 24 [] false, none⟩, ⟨some 17, .un .not (.t 16), none⟩])
  (.cond (.t 17) (.seq (.reg [⟨some 4, .mv (.c (.bool false)) true, none⟩])
  (.ret))
  (.skip)))
  (.seq (.seq (.reg [⟨some 18, .mv (.t 0) false, none⟩, ⟨some 19, .len (.t 18), none⟩, ⟨some 20, .bin .lss (.t 19) (.c (.int .i64 1)), none⟩, ⟨some 21, .mv (.t 20) false, none⟩, ⟨some 22, .mv (.t 0) false, some (21, false)⟩, ⟨some 23, .len (.t 22), some (21, false)⟩, ⟨some 24, .bin .gtr (.t 23) (.c (.int .i64 6)), some (21, false)⟩, ⟨some 25, .pick (.t 21) (.c (.bool true)) (.t 24), none⟩])
  (.cond (.t 25) (.seq (.reg [⟨some 4, .mv (.c (.bool true)) true, none⟩])
  (.ret))
  (.skip)))
  (.seq (.reg [⟨some 26, .bsl 1 1 [(.int .i64 0)] [(0, 1, (.c (.int .i64 2)))] false, none⟩, ⟨some 27, .bsl 1 2 [(.int .i64 0), (.int .i64 0)] [(0, 1, (.c (.int .i64 0))), (1, 1, (.c (.int .i64 0)))] false, none⟩, ⟨some 28, .build [(.int .i64 0), (.slice none 0 0), (.slice none 0 0), (.slice none 0 0)] [(0, 1, (.c (.int .i64 1))), (1, 1, (.t 26)), (2, 1, (.t 27))], none⟩, ⟨some 5, .alloc [(.int .i64 0), (.slice none 0 0), (.slice none 0 0), (.slice none 0 0)], none⟩, ⟨none, .store 4 (.t 5) (.t 28), none⟩])
  (.seq (.reg [⟨some 6, .mv (.c (.int .i64 0)) true, none⟩])
  (.seq (.seq (.reg [⟨some 7, .mv (.c (.int .i64 0)) true, none⟩])
  (.block 0 (L10_0)))
  (.seq (.reg [⟨some 64, .mv (.t 1) false, none⟩, ⟨some 65, .conv .i64 (.t 64), none⟩, ⟨some 66, .mv (.t 0) false, none⟩, ⟨some 67, .len (.t 66), none⟩, ⟨some 68, .bin .rem (.t 65) (.t 67), none⟩, ⟨some 9, .mv (.t 68) true, none⟩])
  (.seq (.reg [⟨some 70, .load 4 true (.t 5) false, none⟩, ⟨some 71, .mv (.t 9) false, none⟩, ⟨some 72, .call 26 [(.t 70), (.t 71), (.c (.int .i64 1))] false, none⟩, ⟨some 69, .mv (.t 72) false, none⟩, ⟨some 73, .ext (.t 69) 0, none⟩, ⟨some 74, .ext (.t 69) 1, none⟩, ⟨some 10, .mv (.t 73) true, none⟩, ⟨some 11, .mv (.t 74) true, none⟩])
  (.seq (.reg [⟨some 76, .load 4 true (.t 5) false, none⟩, ⟨some 77, .mv (.t 9) false, none⟩, ⟨some 78, .call 26 [(.t 76), (.t 77), (.c (.int .i64 0))] false, none⟩, ⟨some 75, .mv (.t 78) false, none⟩, ⟨some 79, .ext (.t 75) 0, none⟩, ⟨some 80, .ext (.t 75) 1, none⟩, ⟨some 12, .mv (.t 79) true, none⟩, ⟨some 13, .mv (.t 80) true, none⟩])
  (.seq (.reg [⟨some 82, .load 4 true (.t 5) false, none⟩, ⟨some 83, .mv (.t 0) false, none⟩, ⟨some 84, .len (.t 83), none⟩, ⟨some 85, .call 26 [(.t 82), (.t 84), (.c (.int .i64 1))] false, none⟩, ⟨some 81, .mv (.t 85) false, none⟩, ⟨some 86, .ext (.t 81) 0, none⟩, ⟨some 87, .ext (.t 81) 1, none⟩, ⟨some 14, .mv (.t 86) true, none⟩, ⟨some 15, .mv (.t 87) true, none⟩])
  (.seq (.reg [⟨some 88, .mv (.t 11) false, none⟩, ⟨some 89, .mv (.t 88) false, none⟩, ⟨some 90, .mv (.t 10) false, some (89, true)⟩, ⟨some 91, .mv (.t 6) false, some (89, true)⟩, ⟨some 92, .bin .eql (.t 90) (.t 91), some (89, true)⟩, ⟨some 93, .pick (.t 89) (.t 92) (.c (.bool false)), none⟩, ⟨some 94, .mv (.t 93) false, none⟩, ⟨some 95, .mv (.t 13) false, some (94, true)⟩, ⟨some 96, .un .not (.t 95), some (94, true)⟩, ⟨some 97, .pick (.t 94) (.t 96) (.c (.bool false)), none⟩, ⟨some 98, .mv (.t 97) false, none⟩, ⟨some 99, .mv (.t 15) false, some (98, true)⟩, ⟨some 100, .un .not (.t 99), some (98, true)⟩, ⟨some 101, .pick (.t 98) (.t 100) (.c (.bool false)), none⟩, ⟨some 102, .mv (.t 101) false, none⟩, ⟨some 103, .load 4 true (.t 5) false, some (102, true)⟩, ⟨some 104, .mv (.t 9) false, some (102, true)⟩, ⟨some 105, .call 28 [(.t 103), (.t 104)] false, some (102, true)⟩, ⟨some 106, .mv (.t 0) false, some (102, true)⟩, ⟨some 107, .len (.t 106), some (102, true)⟩, ⟨some 108, .bin .sub (.t 107) (.c (.int .i64 1)), some (102, true)⟩, ⟨some 109, .bin .eql (.t 105) (.t 108), some (102, true)⟩, ⟨some 110, .pick (.t 102) (.t 109) (.c (.bool false)), none⟩, ⟨some 4, .mv (.t 110) true, none⟩])
  (.ret))))))))))), [.t 4]⟩
theorem row10 : RowOk Try.prog 10 C10 := ⟨Try.f10, ⟨[], [], [], []⟩, lvOf [(0, [0, 1, 5, 6, 7], 1)], Try.func10, by kernel_rfl, by kernel_rfl⟩
/-- swingbridge/swingbridgelaw15.TokenTells -/
def C11 : CFun := ⟨75, 3, .seq (.reg [⟨some 3, .box (.t 0), none⟩, ⟨some 6, .mv (.c (.bool false)) true, none⟩])
  (.seq (.seq (.reg [⟨some 15, .call 30 [] false, none⟩, ⟨some 16, .un .not (.t 15), none⟩])
  (.cond (.t 16) (.seq (.reg [⟨some 6, .mv (.c (.bool false)) true, none⟩])
  (.ret))
  (.skip)))
  (.seq (.seq (.reg [⟨some 17, .load 4 true (.t 3) false, none⟩, ⟨some 18, .call 31 [(.t 17)] false, none⟩, ⟨some 19, .un .not (.t 18), none⟩])
  (.cond (.t 19) (.seq (.reg [⟨some 6, .mv (.c (.bool true)) true, none⟩])
  (.ret))
  (.skip)))
  (.seq (.reg [⟨some 21, .load 4 true (.t 3) false, none⟩, ⟨some 22, .mv (.t 1) false, none⟩, ⟨some 23, .mv (.t 2) false, none⟩, ⟨some 24, .call 32 [(.t 21), (.t 22), (.t 23)] false, none⟩, ⟨some 20, .mv (.t 24) false, none⟩, ⟨some 25, .ext (.t 20) 0, none⟩, ⟨some 26, .ext (.t 20) 1, none⟩, ⟨some 7, .mv (.t 25) true, none⟩, ⟨some 8, .mv (.t 26) true, none⟩])
  (.seq (.reg [⟨some 28, .load 4 true (.t 3) false, none⟩, ⟨some 29, .mv (.t 1) false, none⟩, ⟨some 30, .mv (.t 2) false, none⟩, ⟨some 31, .call 33 [(.t 28), (.t 29), (.t 30)] false, none⟩, ⟨some 27, .mv (.t 31) false, none⟩, ⟨some 32, .ext (.t 27) 0, none⟩, ⟨some 33, .ext (.t 27) 1, none⟩, ⟨some 9, .mv (.t 32) true, none⟩, ⟨some 10, .mv (.t 33) true, none⟩])
  (.seq (.reg [⟨some 35, .load 4 true (.t 3) false, none⟩, ⟨some 36, .mv (.t 1) false, none⟩, ⟨some 37, .mv (.t 2) false, none⟩, ⟨some 38, .call 34 [(.t 35), (.t 36), (.t 37)] false, none⟩, ⟨some 34, .mv (.t 38) false, none⟩, ⟨some 39, .ext (.t 34) 0, none⟩, ⟨some 40, .ext (.t 34) 1, none⟩, ⟨some 11, .mv (.t 39) true, none⟩, ⟨some 12, .mv (.t 40) true, none⟩])
  (.seq (.reg [⟨some 42, .load 4 true (.t 3) false, none⟩, ⟨some 43, .mv (.t 1) false, none⟩, ⟨some 44, .mv (.t 2) false, none⟩, ⟨some 45, .call 35 [(.t 42), (.t 43), (.t 44)] false, none⟩, ⟨some 41, .mv (.t 45) false, none⟩, ⟨some 46, .ext (.t 41) 0, none⟩, ⟨some 47, .ext (.t 41) 1, none⟩, ⟨some 13, .mv (.t 46) true, none⟩, ⟨some 14, .mv (.t 47) true, none⟩])
  (.seq (.reg [⟨some 48, .mv (.t 7) false, none⟩, ⟨some 49, .mv (.t 9) false, none⟩, ⟨some 50, .bin .eql (.t 48) (.t 49), none⟩, ⟨some 51, .mv (.t 50) false, none⟩, ⟨some 52, .mv (.t 8) false, some (51, true)⟩, ⟨some 53, .mv (.t 10) false, some (51, true)⟩, ⟨some 54, .eqb false (.t 52) (.t 53), some (51, true)⟩, ⟨some 55, .pick (.t 51) (.t 54) (.c (.bool false)), none⟩, ⟨some 56, .mv (.t 55) false, none⟩, ⟨some 57, .mv (.t 11) false, some (56, true)⟩, ⟨some 58, .mv (.t 13) false, some (56, true)⟩, ⟨some 59, .bin .eql (.t 57) (.t 58), some (56, true)⟩, ⟨some 60, .pick (.t 56) (.t 59) (.c (.bool false)), none⟩, ⟨some 61, .mv (.t 60) false, none⟩, ⟨some 62, .mv (.t 12) false, some (61, true)⟩, ⟨some 63, .mv (.t 14) false, some (61, true)⟩, ⟨some 64, .eqb false (.t 62) (.t 63), some (61, true)⟩, ⟨some 65, .pick (.t 61) (.t 64) (.c (.bool false)), none⟩, ⟨some 66, .mv (.t 65) false, none⟩, ⟨some 67, .load 4 true (.t 3) false, some (66, true)⟩, ⟨some 68, .mv (.t 1) false, some (66, true)⟩, ⟨some 69, .call 36 [(.t 67), (.t 68)] false, some (66, true)⟩, ⟨some 70, .load 4 true (.t 3) false, some (66, true)⟩, ⟨some 71, .mv (.t 1) false, some (66, true)⟩, ⟨some 72, .call 37 [(.t 70), (.t 71)] false, some (66, true)⟩, ⟨some 73, .bin .eql (.t 69) (.t 72), some (66, true)⟩, ⟨some 74, .pick (.t 66) (.t 73) (.c (.bool false)), none⟩, ⟨some 6, .mv (.t 74) true, none⟩])
  (.ret)))))))), [.t 6]⟩
theorem row11 : RowOk Try.prog 11 C11 := ⟨Try.f11, ⟨[], [], [], []⟩, lvOf [], Try.func11, by kernel_rfl, by kernel_rfl⟩
def B12_2 : C := .seq (.seq (.reg [⟨some 79, .mv (.t 9) false, none⟩, ⟨some 80, .fa 3 (.t 2), none⟩, ⟨some 81, .load 1 false (.t 80) false, none⟩, ⟨some 82, .mv (.t 7) false, none⟩, ⟨some 83, .ia 6 (.t 81) (.t 82), none⟩, ⟨some 84, .fa 5 (.t 83), none⟩, ⟨some 85, .load 1 false (.t 84) false, none⟩, ⟨some 86, .len (.t 85), none⟩, ⟨some 87, .bin .lss (.t 79) (.t 86), none⟩])
  (.cond (.t 87) (.skip)
  (.exit 2)))
  (.seq (.block 3 (.seq (.reg [⟨some 91, .load 4 true (.t 2) false, none⟩, ⟨some 92, .mv (.t 7) false, none⟩, ⟨some 93, .mv (.t 9) false, none⟩, ⟨some 94, .call 32 [(.t 91), (.t 92), (.t 93)] false, none⟩, ⟨some 90, .mv (.t 94) false, none⟩, ⟨some 95, .ext (.t 90) 0, none⟩, ⟨some 96, .ext (.t 90) 1, none⟩, ⟨some 10, .mv (.t 95) true, none⟩, ⟨some 11, .mv (.t 96) true, none⟩])
  (.seq (.reg [⟨some 98, .load 4 true (.t 6) false, none⟩, ⟨some 99, .mv (.t 7) false, none⟩, ⟨some 100, .mv (.t 9) false, none⟩, ⟨some 101, .call 32 [(.t 98), (.t 99), (.t 100)] false, none⟩, ⟨some 97, .mv (.t 101) false, none⟩, ⟨some 102, .ext (.t 97) 0, none⟩, ⟨some 103, .ext (.t 97) 1, none⟩, ⟨some 12, .mv (.t 102) true, none⟩, ⟨some 13, .mv (.t 103) true, none⟩])
  (.seq (.reg [⟨some 104, .mv (.t 11) false, none⟩, ⟨some 105, .mv (.t 13) false, none⟩, ⟨some 106, .eqb true (.t 104) (.t 105), none⟩, ⟨some 107, .mv (.t 106) false, none⟩, ⟨some 108, .mv (.t 12) false, some (107, false)⟩, ⟨some 109, .mv (.t 10) false, some (107, false)⟩, ⟨some 110, .bin .lss (.t 108) (.t 109), some (107, false)⟩, ⟨some 111, .pick (.t 107) (.c (.bool true)) (.t 110), none⟩, ⟨some 112, .mv (.t 111) false, none⟩, ⟨some 113, .mv (.t 11) false, some (112, false)⟩, ⟨some 114, .mv (.t 113) false, some (112, false)⟩, ⟨some 115, .mv (.t 10) false, some (114, true)⟩, ⟨some 116, .fa 3 (.t 2), some (114, true)⟩, ⟨some 117, .load 1 false (.t 116) false, some (114, true)⟩, ⟨some 118, .mv (.t 7) false, some (114, true)⟩, ⟨some 119, .ia 6 (.t 117) (.t 118), some (114, true)⟩, ⟨some 120, .fa 5 (.t 119), some (114, true)⟩, ⟨some 121, .load 1 false (.t 120) false, some (114, true)⟩, ⟨some 122, .mv (.t 9) false, some (114, true)⟩, ⟨some 123, .ia 3 (.t 121) (.t 122), some (114, true)⟩, ⟨some 124, .fa 1 (.t 123), some (114, true)⟩, ⟨some 125, .load 1 false (.t 124) false, some (114, true)⟩, ⟨some 126, .bin .lss (.t 115) (.t 125), some (114, true)⟩, ⟨some 127, .pick (.t 114) (.t 126) (.c (.bool false)), some (112, false)⟩, ⟨some 128, .pick (.t 112) (.c (.bool true)) (.t 127), none⟩])
  (.cond (.t 128) (.seq (.reg [⟨some 4, .mv (.c (.bool false)) true, none⟩])
  (.ret))
  (.skip))))))
  (.reg [⟨some 88, .mv (.t 9) false, none⟩, ⟨some 89, .bin .add (.t 88) (.c (.int .i64 1)), none⟩, ⟨some 9, .mv (.t 89) true, none⟩]))
def L12_2 : C := .loop [2, 6, 7, 9] 3 B12_2
theorem go12_2 (s : Env × Bx) (nb) : evL tab ext nb L12_2 s = (loopIn nb [2, 6, 7, 9] 3 s).bind fun s0 => (evL tab ext nb B12_2 s0).bind (seqG tab ext nb L12_2) := eL_loop _ _ _
def B12_0 : C := .seq (.seq (.reg [⟨some 51, .mv (.t 7) false, none⟩, ⟨some 52, .fa 3 (.t 2), none⟩, ⟨some 53, .load 1 false (.t 52) false, none⟩, ⟨some 54, .len (.t 53), none⟩, ⟨some 55, .bin .lss (.t 51) (.t 54), none⟩])
  (.cond (.t 55) (.skip)
  (.exit 0)))
  (.seq (.block 1 (.seq (.reg [⟨some 58, .fa 3 (.t 2), none⟩, ⟨some 59, .load 1 false (.t 58) false, none⟩, ⟨some 60, .mv (.t 7) false, none⟩, ⟨some 61, .ia 6 (.t 59) (.t 60), none⟩, ⟨some 62, .fa 4 (.t 61), none⟩, ⟨some 63, .load 1 false (.t 62) false, none⟩, ⟨some 8, .mv (.t 63) true, none⟩])
  (.seq (.seq (.reg [⟨some 64, .load 4 true (.t 2) false, none⟩, ⟨some 65, .mv (.t 8) false, none⟩, ⟨some 66, .call 38 [(.t 64), (.t 65)] false, none⟩, ⟨some 67, .fa 1 (.t 2), none⟩, ⟨some 68, .load 1 false (.t 67) false, none⟩, ⟨some 69, .mv (.t 8) false, none⟩, ⟨some 70, .ia 1 (.t 68) (.t 69), none⟩, ⟨some 71, .load 1 false (.t 70) false, none⟩, ⟨some 72, .bin .leq (.t 66) (.t 71), none⟩, ⟨some 73, .mv (.t 72) false, none⟩, ⟨some 74, .load 4 true (.t 2) false, some (73, true)⟩, ⟨some 75, .mv (.t 7) false, some (73, true)⟩, ⟨some 76, .call 36 [(.t 74), (.t 75)] false, some (73, true)⟩, ⟨some 77, .bin .neq (.t 76) (.c (.int .i64 0)), some (73, true)⟩, ⟨some 78, .pick (.t 73) (.t 77) (.c (.bool false)), none⟩])
  (.cond (.t 78) (.seq (.reg [⟨some 4, .mv (.c (.bool false)) true, none⟩])
  (.ret))
  (.skip)))
  (.seq (.reg [⟨some 9, .mv (.c (.int .i64 0)) true, none⟩])
  (.block 2 (L12_2))))))
  (.reg [⟨some 56, .mv (.t 7) false, none⟩, ⟨some 57, .bin .add (.t 56) (.c (.int .i64 1)), none⟩, ⟨some 7, .mv (.t 57) true, none⟩]))
def L12_0 : C := .loop [2, 6, 7] 3 B12_0
theorem go12_0 (s : Env × Bx) (nb) : evL tab ext nb L12_0 s = (loopIn nb [2, 6, 7] 3 s).bind fun s0 => (evL tab ext nb B12_0 s0).bind (seqG tab ext nb L12_0) := eL_loop _ _ _
/-- swingbridge/swingbridgelaw15.TokenCores -/
def C12 : CFun := ⟨129, 2, .seq (.reg [⟨some 2, .box (.t 0), none⟩, ⟨some 4, .mv (.c (.bool false)) true, none⟩])
  (.seq (.seq (.reg [⟨some 14, .call 30 [] false, none⟩, ⟨some 15, .un .not (.t 14), none⟩])
  (.cond (.t 15) (.seq (.reg [⟨some 4, .mv (.c (.bool false)) true, none⟩])
  (.ret))
  (.skip)))
  (.seq (.seq (.reg [⟨some 16, .load 4 true (.t 2) false, none⟩, ⟨some 17, .call 31 [(.t 16)] false, none⟩, ⟨some 18, .un .not (.t 17), none⟩, ⟨some 19, .mv (.t 18) false, none⟩, ⟨some 20, .load 4 true (.t 2) false, some (19, false)⟩, ⟨some 21, .call 23 [(.t 20), (.c (.int .i64 0))] false, some (19, false)⟩, ⟨some 22, .un .not (.t 21), some (19, false)⟩, ⟨some 23, .pick (.t 19) (.c (.bool true)) (.t 22), none⟩])
  (.cond (.t 23) (.seq (.reg [⟨some 4, .mv (.c (.bool true)) true, none⟩])
  (.ret))
  (.skip)))
  (.seq (.reg [⟨some 24, .mv (.t 1) false, none⟩, ⟨some 25, .conv .i64 (.t 24), none⟩, ⟨some 26, .fa 1 (.t 2), none⟩, ⟨some 27, .load 1 false (.t 26) false, none⟩, ⟨some 28, .len (.t 27), none⟩, ⟨some 29, .bin .rem (.t 25) (.t 28), none⟩, ⟨some 5, .mv (.t 29) true, none⟩])
  (.seq (.reg [⟨some 30, .load 4 true (.t 2) false, none⟩, ⟨some 6, .alloc [(.int .i64 0), (.slice none 0 0), (.slice none 0 0), (.slice none 0 0)], none⟩, ⟨none, .store 4 (.t 6) (.t 30), none⟩])
  (.seq (.reg [⟨some 31, .fa 1 (.t 2), none⟩, ⟨some 32, .load 1 false (.t 31) false, none⟩, ⟨some 33, .app 1 8 (.c (.slice none 0 0)) (.t 32) true, none⟩, ⟨some 34, .fa 1 (.t 6), none⟩, ⟨none, .store 1 (.t 34) (.t 33), none⟩])
  (.seq (.seq (.reg [⟨some 35, .fa 1 (.t 6), none⟩, ⟨some 36, .load 1 false (.t 35) false, none⟩, ⟨some 37, .mv (.t 5) false, none⟩, ⟨some 38, .ia 1 (.t 36) (.t 37), none⟩, ⟨some 39, .load 1 false (.t 38) false, none⟩, ⟨some 40, .bin .lss (.t 39) (.c (.int .i64 3)), none⟩])
  (.cond (.t 40) (.reg [⟨some 41, .fa 1 (.t 6), none⟩, ⟨some 42, .load 1 false (.t 41) false, none⟩, ⟨some 43, .mv (.t 5) false, none⟩, ⟨some 44, .fa 1 (.t 6), none⟩, ⟨some 45, .load 1 false (.t 44) false, none⟩, ⟨some 46, .mv (.t 5) false, none⟩, ⟨some 47, .ia 1 (.t 45) (.t 46), none⟩, ⟨some 48, .load 1 false (.t 47) false, none⟩, ⟨some 49, .bin .add (.t 48) (.c (.int .i64 1)), none⟩, ⟨some 50, .ia 1 (.t 42) (.t 43), none⟩, ⟨none, .store 1 (.t 50) (.t 49), none⟩])
  (.skip)))
  (.seq (.seq (.reg [⟨some 7, .mv (.c (.int .i64 0)) true, none⟩])
  (.block 0 (L12_0)))
  (.seq (.reg [⟨some 4, .mv (.c (.bool true)) true, none⟩])
  (.ret))))))))), [.t 4]⟩
theorem row12 : RowOk Try.prog 12 C12 := ⟨Try.f12, ⟨[], [33], [], []⟩, lvOf [(0, [2, 6, 7], 3), (2, [2, 6, 7, 9], 3)], Try.func12, by kernel_rfl, by kernel_rfl⟩
def B13_0 : C := .seq (.seq (.reg [⟨some 37, .mv (.t 11) false, none⟩, ⟨some 38, .mv (.t 7) false, none⟩, ⟨some 39, .bin .lss (.t 37) (.t 38), none⟩])
  (.cond (.t 39) (.skip)
  (.exit 0)))
  (.seq (.block 1 (.reg [⟨some 42, .fa 3 (.t 10), none⟩, ⟨some 43, .load 1 false (.t 42) true, none⟩, ⟨some 44, .mv (.t 11) false, none⟩, ⟨some 45, .bin .add (.c (.int .i64 97)) (.t 44), none⟩, ⟨some 46, .conv .u8 (.t 45), none⟩, ⟨some 47, .bsl 1 1 [(.int .u8 0)] [(0, 1, (.t 46))] false, none⟩, ⟨some 48, .bstr (.t 47), none⟩, ⟨some 49, .mv (.t 11) false, none⟩, ⟨some 50, .bin .add (.t 49) (.c (.int .i64 1)), none⟩, ⟨some 51, .mv (.t 9) false, none⟩, ⟨some 52, .build [(.int .i64 0), (.int .i64 0), (.int .i64 0)] [(0, 1, (.c (.int .i64 3))), (1, 1, (.t 51))], none⟩, ⟨some 53, .bsl 3 1 [(.int .i64 0), (.int .i64 0), (.int .i64 0)] [(0, 3, (.t 52))] false, none⟩, ⟨some 54, .build [(.string ⟨#[]⟩), (.int .i64 0), (.int .i64 0), (.int .i64 0), (.int .i64 0), (.slice none 0 0)] [(0, 1, (.t 48)), (1, 1, (.c (.int .i64 2000))), (2, 1, (.c (.int .i64 2000))), (3, 1, (.t 50)), (5, 1, (.t 53))], none⟩, ⟨some 55, .bsl 6 1 [(.string ⟨#[]⟩), (.int .i64 0), (.int .i64 0), (.int .i64 0), (.int .i64 0), (.slice none 0 0)] [(0, 6, (.t 54))] false, none⟩, ⟨some 56, .app 6 72 (.t 43) (.t 55) false, none⟩, ⟨some 57, .fa 3 (.t 10), none⟩, ⟨none, .store 1 (.t 57) (.t 56), none⟩]))
  (.reg [⟨some 40, .mv (.t 11) false, none⟩, ⟨some 41, .bin .add (.t 40) (.c (.int .i64 1)), none⟩, ⟨some 11, .mv (.t 41) true, none⟩]))
def L13_0 : C := .loop [7, 8, 9, 10, 11] 1 B13_0
theorem go13_0 (s : Env × Bx) (nb) : evL tab ext nb L13_0 s = (loopIn nb [7, 8, 9, 10, 11] 1 s).bind fun s0 => (evL tab ext nb B13_0 s0).bind (seqG tab ext nb L13_0) := eL_loop _ _ _
def B13_2 : C := .seq (.seq (.reg [⟨some 66, .mv (.t 14) false, none⟩, ⟨some 67, .bin .gtr (.t 66) (.c (.int .i64 0)), none⟩])
  (.cond (.t 67) (.skip)
  (.exit 2)))
  (.seq (.block 3 (.reg [⟨some 71, .mv (.t 13) false, none⟩, ⟨some 72, .bin .add (.t 71) (.c (.int .i64 1)), none⟩, ⟨some 13, .mv (.t 72) true, none⟩]))
  (.reg [⟨some 68, .mv (.t 14) false, none⟩, ⟨some 69, .mv (.t 8) false, none⟩, ⟨some 70, .bin .sub (.t 68) (.t 69), none⟩, ⟨some 14, .mv (.t 70) true, none⟩]))
def L13_2 : C := .loop [7, 8, 10, 12, 13, 14] 1 B13_2
theorem go13_2 (s : Env × Bx) (nb) : evL tab ext nb L13_2 s = (loopIn nb [7, 8, 10, 12, 13, 14] 1 s).bind fun s0 => (evL tab ext nb B13_2 s0).bind (seqG tab ext nb L13_2) := eL_loop _ _ _
/-- swingbridge/swingbridgelaw15.TokenRounds -/
def C13 : CFun := ⟨111, 3, .seq (.reg [⟨some 6, .mv (.c (.bool false)) true, none⟩])
  (.seq (.seq (.reg [⟨some 19, .call 30 [] false, none⟩, ⟨some 20, .un .not (.t 19), none⟩])
  (.cond (.t 20) (.seq (.reg [⟨some 6, .mv (.c (.bool false)) true, none⟩])
  (.ret))
  (.skip)))
  (.seq (.reg [⟨some 21, .mv (.t 0) false, none⟩, ⟨some 22, .bin .rem (.t 21) (.c (.int .u8 6)), none⟩, ⟨some 23, .conv .i64 (.t 22), none⟩, ⟨some 24, .bin .add (.t 23) (.c (.int .i64 1)), none⟩, ⟨some 25, .mv (.t 1) false, none⟩, ⟨some 26, .bin .rem (.t 25) (.c (.int .u8 3)), none⟩, ⟨some 27, .conv .i64 (.t 26), none⟩, ⟨some 28, .bin .add (.t 27) (.c (.int .i64 1)), none⟩, ⟨some 29, .mv (.t 2) false, none⟩, ⟨some 30, .bin .rem (.t 29) (.c (.int .u8 50)), none⟩, ⟨some 31, .conv .i64 (.t 30), none⟩, ⟨some 32, .bin .add (.t 31) (.c (.int .i64 1)), none⟩, ⟨some 7, .mv (.t 24) true, none⟩, ⟨some 8, .mv (.t 28) true, none⟩, ⟨some 9, .mv (.t 32) true, none⟩])
  (.seq (.reg [⟨some 33, .mv (.t 8) false, none⟩, ⟨some 34, .bsl 1 1 [(.int .i64 0)] [(0, 1, (.t 33))] false, none⟩, ⟨some 35, .bsl 1 1 [(.int .i64 0)] [(0, 1, (.c (.int .i64 0)))] false, none⟩, ⟨some 36, .build [(.int .i64 0), (.slice none 0 0), (.slice none 0 0), (.slice none 0 0)] [(0, 1, (.c (.int .i64 3))), (1, 1, (.t 34)), (2, 1, (.t 35))], none⟩, ⟨some 10, .alloc [(.int .i64 0), (.slice none 0 0), (.slice none 0 0), (.slice none 0 0)], none⟩, ⟨none, .store 4 (.t 10) (.t 36), none⟩])
  (.seq (.seq (.reg [⟨some 11, .mv (.c (.int .i64 0)) true, none⟩])
  (.block 0 (L13_0)))
  (.seq (.reg [⟨some 58, .mv (.t 9) false, none⟩, ⟨some 59, .mv (.t 7) false, none⟩, ⟨some 60, .mv (.t 8) false, none⟩, ⟨some 61, .mxn false [(.t 59), (.t 60)], none⟩, ⟨some 62, .bin .mul (.t 58) (.t 61), none⟩, ⟨some 12, .mv (.t 62) true, none⟩])
  (.seq (.reg [⟨some 13, .mv (.c (.int .i64 0)) true, none⟩])
  (.seq (.seq (.reg [⟨some 63, .mv (.t 7) false, none⟩, ⟨some 64, .mv (.t 8) false, none⟩, ⟨some 65, .bin .sub (.t 63) (.t 64), none⟩, ⟨some 14, .mv (.t 65) true, none⟩])
  (.block 2 (L13_2)))
  (.seq (.reg [⟨some 74, .load 4 true (.t 10) false, none⟩, ⟨some 75, .call 32 [(.t 74), (.c (.int .i64 0)), (.c (.int .i64 0))] false, none⟩, ⟨some 73, .mv (.t 75) false, none⟩, ⟨some 76, .ext (.t 73) 0, none⟩, ⟨some 77, .ext (.t 73) 1, none⟩, ⟨some 15, .mv (.t 76) true, none⟩, ⟨some 16, .mv (.t 77) true, none⟩])
  (.seq (.reg [⟨some 79, .load 4 true (.t 10) false, none⟩, ⟨some 80, .mv (.t 7) false, none⟩, ⟨some 81, .bin .sub (.t 80) (.c (.int .i64 1)), none⟩, ⟨some 82, .call 34 [(.t 79), (.t 81), (.c (.int .i64 0))] false, none⟩, ⟨some 78, .mv (.t 82) false, none⟩, ⟨some 83, .ext (.t 78) 0, none⟩, ⟨some 84, .ext (.t 78) 1, none⟩, ⟨some 17, .mv (.t 83) true, none⟩, ⟨some 18, .mv (.t 84) true, none⟩])
  (.seq (.reg [⟨some 85, .mv (.t 16) false, none⟩, ⟨some 86, .mv (.t 85) false, none⟩, ⟨some 87, .mv (.t 15) false, some (86, true)⟩, ⟨some 88, .mv (.t 12) false, some (86, true)⟩, ⟨some 89, .bin .eql (.t 87) (.t 88), some (86, true)⟩, ⟨some 90, .pick (.t 86) (.t 89) (.c (.bool false)), none⟩, ⟨some 91, .mv (.t 90) false, none⟩, ⟨some 92, .load 4 true (.t 10) false, some (91, true)⟩, ⟨some 93, .call 36 [(.t 92), (.c (.int .i64 0))] false, some (91, true)⟩, ⟨some 94, .mv (.t 13) false, some (91, true)⟩, ⟨some 95, .mv (.t 12) false, some (91, true)⟩, ⟨some 96, .bin .mul (.t 94) (.t 95), some (91, true)⟩, ⟨some 97, .bin .eql (.t 93) (.t 96), some (91, true)⟩, ⟨some 98, .pick (.t 91) (.t 97) (.c (.bool false)), none⟩, ⟨some 99, .mv (.t 98) false, none⟩, ⟨some 100, .mv (.t 18) false, some (99, true)⟩, ⟨some 101, .pick (.t 99) (.t 100) (.c (.bool false)), none⟩, ⟨some 102, .mv (.t 101) false, none⟩, ⟨some 103, .mv (.t 17) false, some (102, true)⟩, ⟨some 104, .mv (.t 12) false, some (102, true)⟩, ⟨some 105, .mv (.t 13) false, some (102, true)⟩, ⟨some 106, .mv (.t 12) false, some (102, true)⟩, ⟨some 107, .bin .mul (.t 105) (.t 106), some (102, true)⟩, ⟨some 108, .bin .add (.t 104) (.t 107), some (102, true)⟩, ⟨some 109, .bin .eql (.t 103) (.t 108), some (102, true)⟩, ⟨some 110, .pick (.t 102) (.t 109) (.c (.bool false)), none⟩, ⟨some 6, .mv (.t 110) true, none⟩])
  (.ret))))))))))), [.t 6]⟩
theorem row13 : RowOk Try.prog 13 C13 := ⟨Try.f13, ⟨[], [], [], []⟩, lvOf [(0, [7, 8, 9, 10, 11], 1), (2, [7, 8, 10, 12, 13, 14], 1)], Try.func13, by kernel_rfl, by kernel_rfl⟩
/-- swingbridge/swingbridgelaw15.TokenElsewhere -/
def C14 : CFun := ⟨88, 4, .seq (.reg [⟨some 8, .mv (.c (.bool false)) true, none⟩])
  (.seq (.seq (.reg [⟨some 17, .call 30 [] false, none⟩, ⟨some 18, .un .not (.t 17), none⟩])
  (.cond (.t 18) (.seq (.reg [⟨some 8, .mv (.c (.bool false)) true, none⟩])
  (.ret))
  (.skip)))
  (.seq (.reg [⟨some 19, .mv (.t 0) false, none⟩, ⟨some 20, .bin .rem (.t 19) (.c (.int .u8 50)), none⟩, ⟨some 21, .conv .i64 (.t 20), none⟩, ⟨some 22, .bin .add (.t 21) (.c (.int .i64 1)), none⟩, ⟨some 23, .mv (.t 1) false, none⟩, ⟨some 24, .bin .rem (.t 23) (.c (.int .u8 50)), none⟩, ⟨some 25, .conv .i64 (.t 24), none⟩, ⟨some 26, .bin .add (.t 25) (.c (.int .i64 1)), none⟩, ⟨some 27, .mv (.t 2) false, none⟩, ⟨some 28, .bin .rem (.t 27) (.c (.int .u8 50)), none⟩, ⟨some 29, .conv .i64 (.t 28), none⟩, ⟨some 30, .bin .add (.t 29) (.c (.int .i64 1)), none⟩, ⟨some 31, .mv (.t 3) false, none⟩, ⟨some 32, .bin .rem (.t 31) (.c (.int .u8 3)), none⟩, ⟨some 33, .conv .i64 (.t 32), none⟩, ⟨some 34, .bin .add (.t 33) (.c (.int .i64 1)), none⟩, ⟨some 9, .mv (.t 22) true, none⟩, ⟨some 10, .mv (.t 26) true, none⟩, ⟨some 11, .mv (.t 30) true, none⟩, ⟨some 12, .mv (.t 34) true, none⟩])
  (.seq (.reg [⟨some 35, .mv (.t 12) false, none⟩, ⟨some 36, .bsl 1 2 [(.int .i64 0), (.int .i64 0)] [(0, 1, (.c (.int .i64 1))), (1, 1, (.t 35))] false, none⟩, ⟨some 37, .bsl 1 1 [(.int .i64 0)] [(0, 1, (.c (.int .i64 0)))] false, none⟩, ⟨some 38, .mv (.t 9) false, none⟩, ⟨some 39, .build [(.int .i64 0), (.int .i64 0), (.int .i64 0)] [(0, 1, (.c (.int .i64 3))), (1, 1, (.t 38))], none⟩, ⟨some 40, .bsl 3 1 [(.int .i64 0), (.int .i64 0), (.int .i64 0)] [(0, 3, (.t 39))] false, none⟩, ⟨some 41, .build [(.string ⟨#[]⟩), (.int .i64 0), (.int .i64 0), (.int .i64 0), (.int .i64 0), (.slice none 0 0)] [(0, 1, (.c (.string ⟨#[97]⟩))), (1, 1, (.c (.int .i64 900))), (2, 1, (.c (.int .i64 900))), (3, 1, (.c (.int .i64 1))), (5, 1, (.t 40))], none⟩, ⟨some 42, .mv (.t 10) false, none⟩, ⟨some 43, .build [(.int .i64 0), (.int .i64 0), (.int .i64 0)] [(0, 1, (.c (.int .i64 3))), (1, 1, (.t 42))], none⟩, ⟨some 44, .bsl 3 1 [(.int .i64 0), (.int .i64 0), (.int .i64 0)] [(0, 3, (.t 43))] false, none⟩, ⟨some 45, .build [(.string ⟨#[]⟩), (.int .i64 0), (.int .i64 0), (.int .i64 0), (.int .i64 0), (.slice none 0 0)] [(0, 1, (.c (.string ⟨#[98]⟩))), (1, 1, (.c (.int .i64 900))), (2, 1, (.c (.int .i64 900))), (3, 1, (.c (.int .i64 2))), (4, 1, (.c (.int .i64 1))), (5, 1, (.t 44))], none⟩, ⟨some 46, .mv (.t 11) false, none⟩, ⟨some 47, .build [(.int .i64 0), (.int .i64 0), (.int .i64 0)] [(0, 1, (.c (.int .i64 3))), (1, 1, (.t 46))], none⟩, ⟨some 48, .bsl 3 1 [(.int .i64 0), (.int .i64 0), (.int .i64 0)] [(0, 3, (.t 47))] false, none⟩, ⟨some 49, .build [(.string ⟨#[]⟩), (.int .i64 0), (.int .i64 0), (.int .i64 0), (.int .i64 0), (.slice none 0 0)] [(0, 1, (.c (.string ⟨#[99]⟩))), (1, 1, (.c (.int .i64 900))), (2, 1, (.c (.int .i64 900))), (3, 1, (.c (.int .i64 3))), (4, 1, (.c (.int .i64 1))), (5, 1, (.t 48))], none⟩, ⟨some 50, .bsl 6 3 [(.string ⟨#[]⟩), (.int .i64 0), (.int .i64 0), (.int .i64 0), (.int .i64 0), (.slice none 0 0), (.string ⟨#[]⟩), (.int .i64 0), (.int .i64 0), (.int .i64 0), (.int .i64 0), (.slice none 0 0), (.string ⟨#[]⟩), (.int .i64 0), (.int .i64 0), (.int .i64 0), (.int .i64 0), (.slice none 0 0)] [(0, 6, (.t 41)), (6, 6, (.t 45)), (12, 6, (.t 49))] false, none⟩, ⟨some 51, .build [(.int .i64 0), (.slice none 0 0), (.slice none 0 0), (.slice none 0 0)] [(0, 1, (.c (.int .i64 3))), (1, 1, (.t 36)), (2, 1, (.t 37)), (3, 1, (.t 50))], none⟩, ⟨some 13, .alloc [(.int .i64 0), (.slice none 0 0), (.slice none 0 0), (.slice none 0 0)], none⟩, ⟨none, .store 4 (.t 13) (.t 51), none⟩])
  (.seq (.reg [⟨some 52, .mv (.t 9) false, none⟩, ⟨some 53, .mv (.t 10) false, none⟩, ⟨some 54, .mv (.t 11) false, none⟩, ⟨some 55, .mxn true [(.t 53), (.t 54)], none⟩, ⟨some 56, .bin .add (.t 52) (.t 55), none⟩, ⟨some 14, .mv (.t 56) true, none⟩])
  (.seq (.seq (.reg [⟨some 57, .mv (.t 12) false, none⟩, ⟨some 58, .bin .gtr (.t 57) (.c (.int .i64 1)), none⟩])
  (.cond (.t 58) (.reg [⟨some 59, .mv (.t 9) false, none⟩, ⟨some 60, .mv (.t 10) false, none⟩, ⟨some 61, .bin .add (.t 59) (.t 60), none⟩, ⟨some 62, .mv (.t 11) false, none⟩, ⟨some 63, .bin .add (.t 61) (.t 62), none⟩, ⟨some 14, .mv (.t 63) true, none⟩])
  (.skip)))
  (.seq (.reg [⟨some 65, .load 4 true (.t 13) false, none⟩, ⟨some 66, .call 34 [(.t 65), (.c (.int .i64 0)), (.c (.int .i64 0))] false, none⟩, ⟨some 64, .mv (.t 66) false, none⟩, ⟨some 67, .ext (.t 64) 0, none⟩, ⟨some 68, .ext (.t 64) 1, none⟩, ⟨some 15, .mv (.t 67) true, none⟩, ⟨some 16, .mv (.t 68) true, none⟩])
  (.seq (.reg [⟨some 69, .mv (.t 16) false, none⟩, ⟨some 70, .mv (.t 69) false, none⟩, ⟨some 71, .mv (.t 15) false, some (70, true)⟩, ⟨some 72, .mv (.t 14) false, some (70, true)⟩, ⟨some 73, .bin .eql (.t 71) (.t 72), some (70, true)⟩, ⟨some 74, .pick (.t 70) (.t 73) (.c (.bool false)), none⟩, ⟨some 75, .mv (.t 74) false, none⟩, ⟨some 76, .load 4 true (.t 13) false, some (75, true)⟩, ⟨some 77, .call 36 [(.t 76), (.c (.int .i64 0))] false, some (75, true)⟩, ⟨some 78, .bin .eql (.t 77) (.c (.int .i64 0)), some (75, true)⟩, ⟨some 79, .pick (.t 75) (.t 78) (.c (.bool false)), none⟩, ⟨some 80, .mv (.t 79) false, none⟩, ⟨some 81, .load 4 true (.t 13) false, some (80, true)⟩, ⟨some 82, .call 36 [(.t 81), (.c (.int .i64 1))] false, some (80, true)⟩, ⟨some 83, .bin .gtr (.t 82) (.c (.int .i64 0)), some (80, true)⟩, ⟨some 84, .mv (.t 12) false, some (80, true)⟩, ⟨some 85, .bin .eql (.t 84) (.c (.int .i64 1)), some (80, true)⟩, ⟨some 86, .eqb false (.t 83) (.t 85), some (80, true)⟩, ⟨some 87, .pick (.t 80) (.t 86) (.c (.bool false)), none⟩, ⟨some 8, .mv (.t 87) true, none⟩])
  (.ret)))))))), [.t 8]⟩
theorem row14 : RowOk Try.prog 14 C14 := ⟨Try.f14, ⟨[], [], [], []⟩, lvOf [], Try.func14, by kernel_rfl, by kernel_rfl⟩
/-- swingbridge/swingbridgelaw14.known -/
def C15 : CFun := ⟨53, 0, .seq (.reg [⟨some 0, .mv (.c (.bool false)) true, none⟩])
  (.seq (.reg [⟨some 8, .call 39 [(.c (.int .i64 2)), (.c (.int .i64 1)), (.c (.int .i64 3)), (.c (.int .i64 1)), (.c (.int .i64 4))] false, none⟩, ⟨some 1, .alloc [(.int .i64 0), (.slice none 0 0), (.slice none 0 0), (.slice none 0 0)], none⟩, ⟨none, .store 4 (.t 1) (.t 8), none⟩])
  (.seq (.reg [⟨some 10, .load 4 true (.t 1) false, none⟩, ⟨some 11, .bsl 1 2 [(.int .i64 0), (.int .i64 0)] [(0, 1, (.c (.int .i64 20))), (1, 1, (.c (.int .i64 40)))] false, none⟩, ⟨some 12, .call 17 [(.t 10), (.t 11), (.c (.int .i64 0)), (.c (.int .i64 1))] false, none⟩, ⟨some 9, .mv (.t 12) false, none⟩, ⟨some 13, .ext (.t 9) 0, none⟩, ⟨some 14, .ext (.t 9) 1, none⟩, ⟨some 2, .mv (.t 13) true, none⟩, ⟨some 3, .mv (.t 14) true, none⟩])
  (.seq (.reg [⟨some 16, .load 4 true (.t 1) false, none⟩, ⟨some 17, .bsl 1 2 [(.int .i64 0), (.int .i64 0)] [(0, 1, (.c (.int .i64 20))), (1, 1, (.c (.int .i64 40)))] false, none⟩, ⟨some 18, .call 17 [(.t 16), (.t 17), (.c (.int .i64 1)), (.c (.int .i64 1))] false, none⟩, ⟨some 15, .mv (.t 18) false, none⟩, ⟨some 19, .ext (.t 15) 0, none⟩, ⟨some 20, .ext (.t 15) 1, none⟩, ⟨some 4, .mv (.t 19) true, none⟩, ⟨some 5, .mv (.t 20) true, none⟩])
  (.seq (.reg [⟨some 22, .load 4 true (.t 1) false, none⟩, ⟨some 23, .call 17 [(.t 22), (.c (.slice none 0 0)), (.c (.int .i64 0)), (.c (.int .i64 1))] false, none⟩, ⟨some 21, .mv (.t 23) false, none⟩, ⟨some 24, .ext (.t 21) 0, none⟩, ⟨some 25, .ext (.t 21) 1, none⟩, ⟨some 6, .mv (.t 24) true, none⟩, ⟨some 7, .mv (.t 25) true, none⟩])
  (.seq (.reg [⟨some 26, .mv (.t 3) false, none⟩, ⟨some 27, .mv (.t 26) false, none⟩, ⟨some 28, .mv (.t 2) false, some (27, true)⟩, ⟨some 29, .bin .eql (.t 28) (.c (.int .i64 7)), some (27, true)⟩, ⟨some 30, .pick (.t 27) (.t 29) (.c (.bool false)), none⟩, ⟨some 31, .mv (.t 30) false, none⟩, ⟨some 32, .mv (.t 5) false, some (31, true)⟩, ⟨some 33, .pick (.t 31) (.t 32) (.c (.bool false)), none⟩, ⟨some 34, .mv (.t 33) false, none⟩, ⟨some 35, .mv (.t 4) false, some (34, true)⟩, ⟨some 36, .bin .eql (.t 35) (.c (.int .i64 7)), some (34, true)⟩, ⟨some 37, .pick (.t 34) (.t 36) (.c (.bool false)), none⟩, ⟨some 38, .mv (.t 37) false, none⟩, ⟨some 39, .mv (.t 7) false, some (38, true)⟩, ⟨some 40, .un .not (.t 39), some (38, true)⟩, ⟨some 41, .pick (.t 38) (.t 40) (.c (.bool false)), none⟩, ⟨some 42, .mv (.t 41) false, none⟩, ⟨some 43, .load 4 true (.t 1) false, some (42, true)⟩, ⟨some 44, .call 19 [(.t 43), (.c (.int .i64 0)), (.c (.int .i64 0))] false, some (42, true)⟩, ⟨some 45, .bin .eql (.t 44) (.c (.int .i64 4)), some (42, true)⟩, ⟨some 46, .pick (.t 42) (.t 45) (.c (.bool false)), none⟩, ⟨some 47, .mv (.t 46) false, none⟩, ⟨some 48, .load 4 true (.t 1) false, some (47, true)⟩, ⟨some 49, .bsl 1 2 [(.int .i64 0), (.int .i64 0)] [(0, 1, (.c (.int .i64 20))), (1, 1, (.c (.int .i64 40)))] false, some (47, true)⟩, ⟨some 50, .call 21 [(.t 48), (.t 49), (.c (.int .i64 1)), (.c (.int .i64 0)), (.c (.int .i64 5))] false, some (47, true)⟩, ⟨some 51, .bin .eql (.t 50) (.c (.int .i64 3)), some (47, true)⟩, ⟨some 52, .pick (.t 47) (.t 51) (.c (.bool false)), none⟩, ⟨some 0, .mv (.t 52) true, none⟩])
  (.ret)))))), [.t 0]⟩
theorem row15 : RowOk Try.prog 15 C15 := ⟨Try.f15, ⟨[], [], [], []⟩, lvOf [], Try.func15, by kernel_rfl, by kernel_rfl⟩
def B16_0 : C := .seq (.seq (.reg [⟨some 20, .mv (.t 3) false, none⟩, ⟨some 21, .fa 3 (.t 1), none⟩, ⟨some 22, .load 1 false (.t 21) false, none⟩, ⟨some 23, .len (.t 22), none⟩, ⟨some 24, .bin .lss (.t 20) (.t 23), none⟩])
  (.cond (.t 24) (.skip)
  (.exit 0)))
  (.seq (.block 1 (.seq (.reg [⟨some 27, .fa 3 (.t 1), none⟩, ⟨some 28, .load 1 false (.t 27) false, none⟩, ⟨some 29, .mv (.t 3) false, none⟩, ⟨some 30, .ia 6 (.t 28) (.t 29), none⟩, ⟨some 31, .fa 0 (.t 30), none⟩, ⟨some 32, .load 1 false (.t 31) false, none⟩, ⟨some 33, .slen (.t 32), none⟩, ⟨some 34, .bin .gtr (.t 33) (.c (.int .i64 20)), none⟩, ⟨some 35, .mv (.t 34) false, none⟩, ⟨some 36, .fa 3 (.t 1), some (35, false)⟩, ⟨some 37, .load 1 false (.t 36) false, some (35, false)⟩, ⟨some 38, .mv (.t 3) false, some (35, false)⟩, ⟨some 39, .ia 6 (.t 37) (.t 38), some (35, false)⟩, ⟨some 40, .fa 5 (.t 39), some (35, false)⟩, ⟨some 41, .load 1 false (.t 40) false, some (35, false)⟩, ⟨some 42, .len (.t 41), some (35, false)⟩, ⟨some 43, .bin .gtr (.t 42) (.c (.int .i64 10)), some (35, false)⟩, ⟨some 44, .pick (.t 35) (.c (.bool true)) (.t 43), none⟩])
  (.cond (.t 44) (.seq (.reg [⟨some 2, .mv (.c (.bool false)) true, none⟩])
  (.ret))
  (.skip))))
  (.reg [⟨some 25, .mv (.t 3) false, none⟩, ⟨some 26, .bin .add (.t 25) (.c (.int .i64 1)), none⟩, ⟨some 3, .mv (.t 26) true, none⟩]))
def L16_0 : C := .loop [1, 3] 1 B16_0
theorem go16_0 (s : Env × Bx) (nb) : evL tab ext nb L16_0 s = (loopIn nb [1, 3] 1 s).bind fun s0 => (evL tab ext nb B16_0 s0).bind (seqG tab ext nb L16_0) := eL_loop _ _ _
/-- swingbridge/swingbridgelaw14.few -/
def C16 : CFun := ⟨45, 1, .seq (.reg [⟨some 1, .box (.t 0), none⟩, ⟨some 2, .mv (.c (.bool false)) true, none⟩])
  (.seq (.seq (.reg [⟨some 4, .fa 1 (.t 1), none⟩, ⟨some 5, .load 1 false (.t 4) false, none⟩, ⟨some 6, .len (.t 5), none⟩, ⟨some 7, .bin .gtr (.t 6) (.c (.int .i64 8)), none⟩, ⟨some 8, .mv (.t 7) false, none⟩, ⟨some 9, .fa 2 (.t 1), some (8, false)⟩, ⟨some 10, .load 1 false (.t 9) false, some (8, false)⟩, ⟨some 11, .len (.t 10), some (8, false)⟩, ⟨some 12, .bin .gtr (.t 11) (.c (.int .i64 10)), some (8, false)⟩, ⟨some 13, .pick (.t 8) (.c (.bool true)) (.t 12), none⟩, ⟨some 14, .mv (.t 13) false, none⟩, ⟨some 15, .fa 3 (.t 1), some (14, false)⟩, ⟨some 16, .load 1 false (.t 15) false, some (14, false)⟩, ⟨some 17, .len (.t 16), some (14, false)⟩, ⟨some 18, .bin .gtr (.t 17) (.c (.int .i64 9)), some (14, false)⟩, ⟨some 19, .pick (.t 14) (.c (.bool true)) (.t 18), none⟩])
  (.cond (.t 19) (.seq (.reg [⟨some 2, .mv (.c (.bool false)) true, none⟩])
  (.ret))
  (.skip)))
  (.seq (.seq (.reg [⟨some 3, .mv (.c (.int .i64 0)) true, none⟩])
  (.block 0 (L16_0)))
  (.seq (.reg [⟨some 2, .mv (.c (.bool true)) true, none⟩])
  (.ret)))), [.t 2]⟩
theorem row16 : RowOk Try.prog 16 C16 := ⟨Try.f16, ⟨[], [], [], []⟩, lvOf [(0, [1, 3], 1)], Try.func16, by kernel_rfl, by kernel_rfl⟩
def B17_0 : C := .seq (.seq (.reg [⟨some 68, .mv (.t 13) false, none⟩, ⟨some 69, .bin .leq (.t 68) (.c (.int .i64 3000)), none⟩])
  (.cond (.t 69) (.skip)
  (.exit 0)))
  (.block 1 (.seq (.reg [⟨some 70, .mv (.t 12) false, none⟩, ⟨some 71, .load 4 true (.t 4) false, none⟩, ⟨some 72, .mv (.t 1) false, none⟩, ⟨some 73, .mv (.t 2) false, none⟩, ⟨some 74, .mv (.t 11) false, none⟩, ⟨some 75, .mv (.t 13) false, none⟩, ⟨some 76, .call 21 [(.t 71), (.t 72), (.t 73), (.t 74), (.t 75)] false, none⟩, ⟨some 77, .bin .add (.t 70) (.t 76), none⟩, ⟨some 14, .mv (.t 77) true, none⟩])
  (.seq (.seq (.reg [⟨some 78, .mv (.t 14) false, none⟩, ⟨some 79, .mv (.t 13) false, none⟩, ⟨some 80, .bin .eql (.t 78) (.t 79), none⟩])
  (.cond (.t 80) (.seq (.reg [⟨some 81, .mv (.t 13) false, none⟩, ⟨some 8, .mv (.t 81) true, none⟩, ⟨some 9, .mv (.c (.bool true)) true, none⟩])
  (.ret))
  (.skip)))
  (.seq (.seq (.reg [⟨some 82, .mv (.t 14) false, none⟩, ⟨some 83, .mv (.t 13) false, none⟩, ⟨some 84, .bin .lss (.t 82) (.t 83), none⟩])
  (.cond (.t 84) (.exit 0)
  (.skip)))
  (.reg [⟨some 85, .mv (.t 14) false, none⟩, ⟨some 13, .mv (.t 85) true, none⟩])))))
def L17_0 : C := .loop [1, 2, 4, 11, 12, 13] 2 B17_0
theorem go17_0 (s : Env × Bx) (nb) : evL tab ext nb L17_0 s = (loopIn nb [1, 2, 4, 11, 12, 13] 2 s).bind fun s0 => (evL tab ext nb B17_0 s0).bind (seqG tab ext nb L17_0) := eL_loop _ _ _
/-- swingbridge/agent.Part -/
def C17 : CFun := ⟨86, 4, .seq (.reg [⟨some 4, .box (.t 0), none⟩, ⟨some 8, .mv (.c (.int .i64 0)) true, none⟩, ⟨some 9, .mv (.c (.bool false)) true, none⟩])
  (.scope (.seq (.seq (.reg [⟨some 15, .load 4 true (.t 4) false, none⟩, ⟨some 16, .mv (.t 2) false, none⟩, ⟨some 17, .call 40 [(.t 15), (.t 16)] false, none⟩, ⟨some 18, .un .not (.t 17), none⟩, ⟨some 19, .mv (.t 18) false, none⟩, ⟨some 20, .mv (.t 1) false, some (19, false)⟩, ⟨some 21, .len (.t 20), some (19, false)⟩, ⟨some 22, .fa 3 (.t 4), some (19, false)⟩, ⟨some 23, .load 1 false (.t 22) false, some (19, false)⟩, ⟨some 24, .len (.t 23), some (19, false)⟩, ⟨some 25, .bin .neq (.t 21) (.t 24), some (19, false)⟩, ⟨some 26, .pick (.t 19) (.c (.bool true)) (.t 25), none⟩, ⟨some 27, .mv (.t 26) false, none⟩, ⟨some 28, .mv (.t 3) false, some (27, false)⟩, ⟨some 29, .bin .lss (.t 28) (.c (.int .i64 0)), some (27, false)⟩, ⟨some 30, .pick (.t 27) (.c (.bool true)) (.t 29), none⟩, ⟨some 31, .mv (.t 30) false, none⟩, ⟨some 32, .mv (.t 3) false, some (31, false)⟩, ⟨some 33, .fa 3 (.t 4), some (31, false)⟩, ⟨some 34, .load 1 false (.t 33) false, some (31, false)⟩, ⟨some 35, .mv (.t 2) false, some (31, false)⟩, ⟨some 36, .ia 6 (.t 34) (.t 35), some (31, false)⟩, ⟨some 37, .fa 5 (.t 36), some (31, false)⟩, ⟨some 38, .load 1 false (.t 37) false, some (31, false)⟩, ⟨some 39, .len (.t 38), some (31, false)⟩, ⟨some 40, .bin .geq (.t 32) (.t 39), some (31, false)⟩, ⟨some 41, .pick (.t 31) (.c (.bool true)) (.t 40), none⟩])
  (.cond (.t 41) (.seq (.reg [⟨some 8, .mv (.c (.int .i64 0)) true, none⟩, ⟨some 9, .mv (.c (.bool false)) true, none⟩])
  (.ret))
  (.skip)))
  (.seq (.reg [⟨some 42, .fa 3 (.t 4), none⟩, ⟨some 43, .load 1 false (.t 42) false, none⟩, ⟨some 44, .mv (.t 2) false, none⟩, ⟨some 45, .ia 6 (.t 43) (.t 44), none⟩, ⟨some 46, .fa 5 (.t 45), none⟩, ⟨some 47, .load 1 false (.t 46) false, none⟩, ⟨some 48, .mv (.t 3) false, none⟩, ⟨some 49, .ia 3 (.t 47) (.t 48), none⟩, ⟨some 50, .load 3 true (.t 49) false, none⟩, ⟨some 10, .alloc [(.int .i64 0), (.int .i64 0), (.int .i64 0)], none⟩, ⟨none, .store 3 (.t 10) (.t 50), none⟩])
  (.seq (.seq (.reg [⟨some 51, .fa 0 (.t 10), none⟩, ⟨some 52, .load 1 false (.t 51) false, none⟩, ⟨some 53, .bin .neq (.t 52) (.c (.int .i64 3)), none⟩])
  (.cond (.t 53) (.seq (.reg [⟨some 8, .mv (.c (.int .i64 0)) true, none⟩, ⟨some 9, .mv (.c (.bool false)) true, none⟩])
  (.ret))
  (.skip)))
  (.seq (.reg [⟨some 54, .fa 2 (.t 4), none⟩, ⟨some 55, .load 1 false (.t 54) false, none⟩, ⟨some 56, .fa 2 (.t 10), none⟩, ⟨some 57, .load 1 false (.t 56) false, none⟩, ⟨some 58, .ia 1 (.t 55) (.t 57), none⟩, ⟨some 59, .load 1 false (.t 58) false, none⟩, ⟨some 11, .mv (.t 59) true, none⟩])
  (.seq (.reg [⟨some 60, .fa 1 (.t 10), none⟩, ⟨some 61, .load 1 false (.t 60) false, none⟩, ⟨some 62, .load 4 true (.t 4) false, none⟩, ⟨some 63, .mv (.t 2) false, none⟩, ⟨some 64, .mv (.t 11) false, none⟩, ⟨some 65, .call 19 [(.t 62), (.t 63), (.t 64)] false, none⟩, ⟨some 66, .bin .add (.t 61) (.t 65), none⟩, ⟨some 12, .mv (.t 66) true, none⟩])
  (.seq (.reg [⟨some 67, .mv (.t 12) false, none⟩, ⟨some 13, .mv (.t 67) true, none⟩])
  (.seq (.skip)
  (.seq (.block 0 (L17_0))
  (.seq (.reg [⟨some 8, .mv (.c (.int .i64 0)) true, none⟩, ⟨some 9, .mv (.c (.bool false)) true, none⟩])
  (.ret))))))))))), [.t 8, .t 9]⟩
theorem row17 : RowOk Try.prog 17 C17 := ⟨Try.f17, ⟨[], [], [], []⟩, lvOf [(0, [1, 2, 4, 11, 12, 13], 2)], Try.func17, by kernel_rfl, by kernel_rfl⟩
def B18_0 : C := .seq (.seq (.reg [⟨some 47, .mv (.t 14) false, none⟩, ⟨some 48, .bin .leq (.t 47) (.c (.int .i64 3000)), none⟩])
  (.cond (.t 48) (.skip)
  (.exit 0)))
  (.block 1 (.seq (.reg [⟨some 49, .mv (.t 13) false, none⟩, ⟨some 50, .load 4 true (.t 4) false, none⟩, ⟨some 51, .mv (.t 1) false, none⟩, ⟨some 52, .mv (.t 2) false, none⟩, ⟨some 53, .mv (.t 12) false, none⟩, ⟨some 54, .mv (.t 14) false, none⟩, ⟨some 55, .call 22 [(.t 50), (.t 51), (.t 52), (.t 53), (.t 54)] false, none⟩, ⟨some 56, .bin .add (.t 49) (.t 55), none⟩, ⟨some 15, .mv (.t 56) true, none⟩])
  (.seq (.seq (.reg [⟨some 57, .mv (.t 15) false, none⟩, ⟨some 58, .mv (.t 14) false, none⟩, ⟨some 59, .bin .eql (.t 57) (.t 58), none⟩])
  (.cond (.t 59) (.seq (.reg [⟨some 60, .mv (.t 14) false, none⟩, ⟨some 8, .mv (.t 60) true, none⟩, ⟨some 9, .mv (.c (.bool true)) true, none⟩])
  (.ret))
  (.skip)))
  (.reg [⟨some 61, .mv (.t 15) false, none⟩, ⟨some 14, .mv (.t 61) true, none⟩]))))
def L18_0 : C := .loop [1, 2, 4, 12, 13, 14] 2 B18_0
theorem go18_0 (s : Env × Bx) (nb) : evL tab ext nb L18_0 s = (loopIn nb [1, 2, 4, 12, 13, 14] 2 s).bind fun s0 => (evL tab ext nb B18_0 s0).bind (seqG tab ext nb L18_0) := eL_loop _ _ _
/-- swingbridge/swingbridgeref11.Agent -/
def C18 : CFun := ⟨62, 4, .seq (.reg [⟨some 4, .box (.t 0), none⟩, ⟨some 8, .mv (.c (.int .i64 0)) true, none⟩, ⟨some 9, .mv (.c (.bool false)) true, none⟩])
  (.seq (.reg [⟨some 17, .load 4 true (.t 4) false, none⟩, ⟨some 18, .mv (.t 2) false, none⟩, ⟨some 19, .mv (.t 3) false, none⟩, ⟨some 20, .call 41 [(.t 17), (.t 18), (.t 19)] false, none⟩, ⟨some 16, .mv (.t 20) false, none⟩, ⟨some 21, .ext (.t 16) 0, none⟩, ⟨some 22, .ext (.t 16) 1, none⟩, ⟨some 10, .alloc [(.int .i64 0), (.int .i64 0), (.int .i64 0)], none⟩, ⟨none, .store 3 (.t 10) (.t 21), none⟩, ⟨some 11, .mv (.t 22) true, none⟩])
  (.seq (.seq (.reg [⟨some 23, .mv (.t 11) false, none⟩, ⟨some 24, .un .not (.t 23), none⟩, ⟨some 25, .mv (.t 24) false, none⟩, ⟨some 26, .mv (.t 1) false, some (25, false)⟩, ⟨some 27, .len (.t 26), some (25, false)⟩, ⟨some 28, .fa 3 (.t 4), some (25, false)⟩, ⟨some 29, .load 1 false (.t 28) false, some (25, false)⟩, ⟨some 30, .len (.t 29), some (25, false)⟩, ⟨some 31, .bin .neq (.t 27) (.t 30), some (25, false)⟩, ⟨some 32, .pick (.t 25) (.c (.bool true)) (.t 31), none⟩])
  (.cond (.t 32) (.seq (.reg [⟨some 8, .mv (.c (.int .i64 0)) true, none⟩, ⟨some 9, .mv (.c (.bool false)) true, none⟩])
  (.ret))
  (.skip)))
  (.seq (.reg [⟨some 33, .fa 2 (.t 4), none⟩, ⟨some 34, .load 1 false (.t 33) false, none⟩, ⟨some 35, .fa 2 (.t 10), none⟩, ⟨some 36, .load 1 false (.t 35) false, none⟩, ⟨some 37, .ia 1 (.t 34) (.t 36), none⟩, ⟨some 38, .load 1 false (.t 37) false, none⟩, ⟨some 12, .mv (.t 38) true, none⟩])
  (.seq (.reg [⟨some 39, .fa 1 (.t 10), none⟩, ⟨some 40, .load 1 false (.t 39) false, none⟩, ⟨some 41, .load 4 true (.t 4) false, none⟩, ⟨some 42, .mv (.t 2) false, none⟩, ⟨some 43, .mv (.t 12) false, none⟩, ⟨some 44, .call 20 [(.t 41), (.t 42), (.t 43)] false, none⟩, ⟨some 45, .bin .add (.t 40) (.t 44), none⟩, ⟨some 13, .mv (.t 45) true, none⟩])
  (.seq (.seq (.reg [⟨some 46, .mv (.t 13) false, none⟩, ⟨some 14, .mv (.t 46) true, none⟩])
  (.block 0 (L18_0)))
  (.seq (.reg [⟨some 8, .mv (.c (.int .i64 0)) true, none⟩, ⟨some 9, .mv (.c (.bool false)) true, none⟩])
  (.ret))))))), [.t 8, .t 9]⟩
theorem row18 : RowOk Try.prog 18 C18 := ⟨Try.f18, ⟨[], [], [], []⟩, lvOf [(0, [1, 2, 4, 12, 13, 14], 2)], Try.func18, by kernel_rfl, by kernel_rfl⟩
def B19_0 : C := .seq (.reg [⟨some 18, .bin .lss (.t 17) (.t 16), none⟩])
  (.seq (.cond (.t 18) (.skip)
  (.exit 0))
  (.seq (.block 1 (.seq (.reg [⟨some 19, .mv (.t 17) false, none⟩, ⟨some 20, .ia 6 (.t 15) (.t 17), none⟩, ⟨some 21, .load 6 true (.t 20) false, none⟩, ⟨some 9, .alloc [(.string ⟨#[]⟩), (.int .i64 0), (.int .i64 0), (.int .i64 0), (.int .i64 0), (.slice none 0 0)], none⟩, ⟨some 8, .mv (.t 19) true, none⟩, ⟨none, .store 6 (.t 9) (.t 21), none⟩])
  (.seq (.seq (.reg [⟨some 22, .fa 3 (.t 9), none⟩, ⟨some 23, .load 1 false (.t 22) false, none⟩, ⟨some 24, .fa 3 (.t 3), none⟩, ⟨some 25, .load 1 false (.t 24) false, none⟩, ⟨some 26, .mv (.t 1) false, none⟩, ⟨some 27, .ia 6 (.t 25) (.t 26), none⟩, ⟨some 28, .fa 3 (.t 27), none⟩, ⟨some 29, .load 1 false (.t 28) false, none⟩, ⟨some 30, .bin .leq (.t 23) (.t 29), none⟩])
  (.cond (.t 30) (.exit 1)
  (.skip)))
  (.reg [⟨some 31, .mv (.t 7) false, none⟩, ⟨some 32, .load 4 true (.t 3) false, none⟩, ⟨some 33, .mv (.t 8) false, none⟩, ⟨some 34, .mv (.t 2) false, none⟩, ⟨some 35, .call 42 [(.t 32), (.t 33), (.t 34)] false, none⟩, ⟨some 36, .mxn true [(.t 31), (.t 35)], none⟩, ⟨some 7, .mv (.t 36) true, none⟩]))))
  (.reg [⟨some 37, .bin .add (.t 17) (.c (.int .i64 1)), none⟩, ⟨some 17, .mv (.t 37) false, none⟩])))
def L19_0 : C := .loop [1, 2, 3, 7, 15, 16, 17] 1 B19_0
theorem go19_0 (s : Env × Bx) (nb) : evL tab ext nb L19_0 s = (loopIn nb [1, 2, 3, 7, 15, 16, 17] 1 s).bind fun s0 => (evL tab ext nb B19_0 s0).bind (seqG tab ext nb L19_0) := eL_loop _ _ _
/-- swingbridge/agent.Lower -/
def C19 : CFun := ⟨39, 3, .seq (.reg [⟨some 3, .box (.t 0), none⟩, ⟨some 6, .mv (.c (.int .i64 0)) true, none⟩])
  (.scope (.seq (.reg [⟨some 7, .mv (.c (.int .i64 0)) true, none⟩])
  (.seq (.seq (.reg [⟨some 10, .load 4 true (.t 3) false, none⟩, ⟨some 11, .mv (.t 1) false, none⟩, ⟨some 12, .call 40 [(.t 10), (.t 11)] false, none⟩, ⟨some 13, .un .not (.t 12), none⟩])
  (.cond (.t 13) (.seq (.reg [⟨some 6, .mv (.c (.int .i64 0)) true, none⟩])
  (.ret))
  (.skip)))
  (.seq (.skip)
  (.seq (.seq (.reg [⟨some 14, .fa 3 (.t 3), none⟩, ⟨some 15, .load 1 false (.t 14) false, none⟩, ⟨some 16, .len (.t 15), none⟩, ⟨some 17, .mv (.c (.int .i64 0)) false, none⟩])
  (.block 0 (L19_0)))
  (.seq (.reg [⟨some 38, .mv (.t 7) false, none⟩, ⟨some 6, .mv (.t 38) true, none⟩])
  (.ret))))))), [.t 6]⟩
theorem row19 : RowOk Try.prog 19 C19 := ⟨Try.f19, ⟨[], [], [], []⟩, lvOf [(0, [1, 2, 3, 7, 15, 16, 17], 1)], Try.func19, by kernel_rfl, by kernel_rfl⟩
def B20_0 : C := .seq (.seq (.reg [⟨some 11, .mv (.t 8) false, none⟩, ⟨some 12, .fa 3 (.t 3), none⟩, ⟨some 13, .load 1 false (.t 12) false, none⟩, ⟨some 14, .len (.t 13), none⟩, ⟨some 15, .bin .lss (.t 11) (.t 14), none⟩, ⟨some 16, .mv (.t 15) false, none⟩, ⟨some 17, .load 4 true (.t 3) false, some (16, true)⟩, ⟨some 18, .mv (.t 1) false, some (16, true)⟩, ⟨some 19, .call 23 [(.t 17), (.t 18)] false, some (16, true)⟩, ⟨some 20, .pick (.t 16) (.t 19) (.c (.bool false)), none⟩])
  (.cond (.t 20) (.skip)
  (.exit 0)))
  (.seq (.block 1 (.seq (.reg [⟨some 23, .fa 3 (.t 3), none⟩, ⟨some 24, .load 1 false (.t 23) false, none⟩, ⟨some 25, .mv (.t 8) false, none⟩, ⟨some 26, .ia 6 (.t 24) (.t 25), none⟩, ⟨some 27, .fa 3 (.t 26), none⟩, ⟨some 28, .load 1 false (.t 27) false, none⟩, ⟨some 29, .fa 3 (.t 3), none⟩, ⟨some 30, .load 1 false (.t 29) false, none⟩, ⟨some 31, .mv (.t 1) false, none⟩, ⟨some 32, .ia 6 (.t 30) (.t 31), none⟩, ⟨some 33, .fa 3 (.t 32), none⟩, ⟨some 34, .load 1 false (.t 33) false, none⟩, ⟨some 35, .bin .gtr (.t 28) (.t 34), none⟩])
  (.cond (.t 35) (.seq (.reg [⟨some 37, .load 4 true (.t 3) false, none⟩, ⟨some 38, .mv (.t 8) false, none⟩, ⟨some 39, .mv (.t 2) false, none⟩, ⟨some 40, .call 43 [(.t 37), (.t 38), (.t 39)] false, none⟩, ⟨some 36, .mv (.t 40) false, none⟩, ⟨some 41, .ext (.t 36) 0, none⟩, ⟨some 42, .ext (.t 36) 1, none⟩, ⟨some 9, .mv (.t 41) true, none⟩, ⟨some 10, .mv (.t 42) true, none⟩])
  (.reg [⟨some 43, .mv (.t 7) false, none⟩, ⟨some 44, .mv (.t 10) false, none⟩, ⟨some 45, .mxn true [(.t 43), (.t 44)], none⟩, ⟨some 7, .mv (.t 45) true, none⟩]))
  (.skip))))
  (.reg [⟨some 21, .mv (.t 8) false, none⟩, ⟨some 22, .bin .add (.t 21) (.c (.int .i64 1)), none⟩, ⟨some 8, .mv (.t 22) true, none⟩]))
def L20_0 : C := .loop [1, 2, 3, 7, 8] 1 B20_0
theorem go20_0 (s : Env × Bx) (nb) : evL tab ext nb L20_0 s = (loopIn nb [1, 2, 3, 7, 8] 1 s).bind fun s0 => (evL tab ext nb B20_0 s0).bind (seqG tab ext nb L20_0) := eL_loop _ _ _
/-- swingbridge/swingbridgeref11.Lower -/
def C20 : CFun := ⟨47, 3, .seq (.reg [⟨some 3, .box (.t 0), none⟩, ⟨some 6, .mv (.c (.int .i64 0)) true, none⟩])
  (.seq (.reg [⟨some 7, .mv (.c (.int .i64 0)) true, none⟩])
  (.seq (.seq (.reg [⟨some 8, .mv (.c (.int .i64 0)) true, none⟩])
  (.block 0 (L20_0)))
  (.seq (.reg [⟨some 46, .mv (.t 7) false, none⟩, ⟨some 6, .mv (.t 46) true, none⟩])
  (.ret)))), [.t 6]⟩
theorem row20 : RowOk Try.prog 20 C20 := ⟨Try.f20, ⟨[], [], [], []⟩, lvOf [(0, [1, 2, 3, 7, 8], 1)], Try.func20, by kernel_rfl, by kernel_rfl⟩
def B21_0 : C := .seq (.reg [⟨some 30, .bin .lss (.t 29) (.t 28), none⟩])
  (.seq (.cond (.t 30) (.skip)
  (.exit 0))
  (.seq (.block 1 (.seq (.reg [⟨some 31, .mv (.t 29) false, none⟩, ⟨some 32, .ia 6 (.t 27) (.t 29), none⟩, ⟨some 33, .load 6 true (.t 32) false, none⟩, ⟨some 13, .alloc [(.string ⟨#[]⟩), (.int .i64 0), (.int .i64 0), (.int .i64 0), (.int .i64 0), (.slice none 0 0)], none⟩, ⟨some 12, .mv (.t 31) true, none⟩, ⟨none, .store 6 (.t 13) (.t 33), none⟩])
  (.seq (.reg [⟨some 34, .fa 3 (.t 13), none⟩, ⟨some 35, .load 1 false (.t 34) false, none⟩, ⟨some 36, .fa 3 (.t 5), none⟩, ⟨some 37, .load 1 false (.t 36) false, none⟩, ⟨some 38, .mv (.t 2) false, none⟩, ⟨some 39, .ia 6 (.t 37) (.t 38), none⟩, ⟨some 40, .fa 3 (.t 39), none⟩, ⟨some 41, .load 1 false (.t 40) false, none⟩, ⟨some 42, .bin .lss (.t 35) (.t 41), none⟩])
  (.cond (.t 42) (.reg [⟨some 43, .mv (.t 11) false, none⟩, ⟨some 44, .mv (.t 4) false, none⟩, ⟨some 45, .mv (.t 1) false, none⟩, ⟨some 46, .mv (.t 12) false, none⟩, ⟨some 47, .ia 1 (.t 45) (.t 46), none⟩, ⟨some 48, .load 1 false (.t 47) false, none⟩, ⟨some 49, .fa 1 (.t 13), none⟩, ⟨some 50, .load 1 false (.t 49) false, none⟩, ⟨some 51, .load 4 true (.t 5) false, none⟩, ⟨some 52, .mv (.t 12) false, none⟩, ⟨some 53, .mv (.t 3) false, none⟩, ⟨some 54, .call 45 [(.t 51), (.t 52), (.t 53)] false, none⟩, ⟨some 55, .call 44 [(.t 44), (.t 48), (.t 50), (.t 54)] false, none⟩, ⟨some 56, .bin .add (.t 43) (.t 55), none⟩, ⟨some 11, .mv (.t 56) true, none⟩])
  (.skip)))))
  (.reg [⟨some 57, .bin .add (.t 29) (.c (.int .i64 1)), none⟩, ⟨some 29, .mv (.t 57) false, none⟩])))
def L21_0 : C := .loop [1, 2, 3, 4, 5, 11, 27, 28, 29] 1 B21_0
theorem go21_0 (s : Env × Bx) (nb) : evL tab ext nb L21_0 s = (loopIn nb [1, 2, 3, 4, 5, 11, 27, 28, 29] 1 s).bind fun s0 => (evL tab ext nb B21_0 s0).bind (seqG tab ext nb L21_0) := eL_loop _ _ _
/-- swingbridge/agent.Higher -/
def C21 : CFun := ⟨60, 5, .seq (.reg [⟨some 5, .box (.t 0), none⟩, ⟨some 10, .mv (.c (.int .i64 0)) true, none⟩])
  (.seq (.reg [⟨some 11, .mv (.c (.int .i64 0)) true, none⟩])
  (.seq (.seq (.reg [⟨some 14, .load 4 true (.t 5) false, none⟩, ⟨some 15, .mv (.t 2) false, none⟩, ⟨some 16, .call 40 [(.t 14), (.t 15)] false, none⟩, ⟨some 17, .un .not (.t 16), none⟩, ⟨some 18, .mv (.t 17) false, none⟩, ⟨some 19, .mv (.t 1) false, some (18, false)⟩, ⟨some 20, .len (.t 19), some (18, false)⟩, ⟨some 21, .fa 3 (.t 5), some (18, false)⟩, ⟨some 22, .load 1 false (.t 21) false, some (18, false)⟩, ⟨some 23, .len (.t 22), some (18, false)⟩, ⟨some 24, .bin .neq (.t 20) (.t 23), some (18, false)⟩, ⟨some 25, .pick (.t 18) (.c (.bool true)) (.t 24), none⟩])
  (.cond (.t 25) (.seq (.reg [⟨some 10, .mv (.c (.int .i64 0)) true, none⟩])
  (.ret))
  (.skip)))
  (.seq (.seq (.reg [⟨some 26, .fa 3 (.t 5), none⟩, ⟨some 27, .load 1 false (.t 26) false, none⟩, ⟨some 28, .len (.t 27), none⟩, ⟨some 29, .mv (.c (.int .i64 0)) false, none⟩])
  (.block 0 (L21_0)))
  (.seq (.reg [⟨some 58, .mv (.t 11) false, none⟩, ⟨some 59, .mxn false [(.t 58), (.c (.int .i64 1000000))], none⟩, ⟨some 10, .mv (.t 59) true, none⟩])
  (.ret))))), [.t 10]⟩
theorem row21 : RowOk Try.prog 21 C21 := ⟨Try.f21, ⟨[], [], [], []⟩, lvOf [(0, [1, 2, 3, 4, 5, 11, 27, 28, 29], 1)], Try.func21, by kernel_rfl, by kernel_rfl⟩
def B22_0 : C := .seq (.seq (.reg [⟨some 27, .mv (.t 12) false, none⟩, ⟨some 28, .fa 3 (.t 5), none⟩, ⟨some 29, .load 1 false (.t 28) false, none⟩, ⟨some 30, .len (.t 29), none⟩, ⟨some 31, .bin .lss (.t 27) (.t 30), none⟩])
  (.cond (.t 31) (.skip)
  (.exit 0)))
  (.seq (.block 1 (.seq (.reg [⟨some 34, .fa 3 (.t 5), none⟩, ⟨some 35, .load 1 false (.t 34) false, none⟩, ⟨some 36, .mv (.t 12) false, none⟩, ⟨some 37, .ia 6 (.t 35) (.t 36), none⟩, ⟨some 38, .fa 3 (.t 37), none⟩, ⟨some 39, .load 1 false (.t 38) false, none⟩, ⟨some 40, .fa 3 (.t 5), none⟩, ⟨some 41, .load 1 false (.t 40) false, none⟩, ⟨some 42, .mv (.t 2) false, none⟩, ⟨some 43, .ia 6 (.t 41) (.t 42), none⟩, ⟨some 44, .fa 3 (.t 43), none⟩, ⟨some 45, .load 1 false (.t 44) false, none⟩, ⟨some 46, .bin .lss (.t 39) (.t 45), none⟩])
  (.cond (.t 46) (.seq (.reg [⟨some 48, .load 4 true (.t 5) false, none⟩, ⟨some 49, .mv (.t 12) false, none⟩, ⟨some 50, .mv (.t 3) false, none⟩, ⟨some 51, .call 43 [(.t 48), (.t 49), (.t 50)] false, none⟩, ⟨some 47, .mv (.t 51) false, none⟩, ⟨some 52, .ext (.t 47) 0, none⟩, ⟨some 53, .ext (.t 47) 1, none⟩, ⟨some 13, .mv (.t 52) true, none⟩, ⟨some 14, .mv (.t 53) true, none⟩])
  (.reg [⟨some 54, .mv (.t 11) false, none⟩, ⟨some 55, .mv (.t 4) false, none⟩, ⟨some 56, .mv (.t 1) false, none⟩, ⟨some 57, .mv (.t 12) false, none⟩, ⟨some 58, .ia 1 (.t 56) (.t 57), none⟩, ⟨some 59, .load 1 false (.t 58) false, none⟩, ⟨some 60, .fa 3 (.t 5), none⟩, ⟨some 61, .load 1 false (.t 60) false, none⟩, ⟨some 62, .mv (.t 12) false, none⟩, ⟨some 63, .ia 6 (.t 61) (.t 62), none⟩, ⟨some 64, .fa 1 (.t 63), none⟩, ⟨some 65, .load 1 false (.t 64) false, none⟩, ⟨some 66, .mv (.t 13) false, none⟩, ⟨some 67, .call 46 [(.t 55), (.t 59), (.t 65), (.t 66)] false, none⟩, ⟨some 68, .bin .add (.t 54) (.t 67), none⟩, ⟨some 69, .mxn false [(.t 68), (.c (.int .i64 1000000))], none⟩, ⟨some 11, .mv (.t 69) true, none⟩]))
  (.skip))))
  (.reg [⟨some 32, .mv (.t 12) false, none⟩, ⟨some 33, .bin .add (.t 32) (.c (.int .i64 1)), none⟩, ⟨some 12, .mv (.t 33) true, none⟩]))
def L22_0 : C := .loop [1, 2, 3, 4, 5, 11, 12] 1 B22_0
theorem go22_0 (s : Env × Bx) (nb) : evL tab ext nb L22_0 s = (loopIn nb [1, 2, 3, 4, 5, 11, 12] 1 s).bind fun s0 => (evL tab ext nb B22_0 s0).bind (seqG tab ext nb L22_0) := eL_loop _ _ _
/-- swingbridge/swingbridgeref11.Higher -/
def C22 : CFun := ⟨71, 5, .seq (.reg [⟨some 5, .box (.t 0), none⟩, ⟨some 10, .mv (.c (.int .i64 0)) true, none⟩])
  (.seq (.reg [⟨some 11, .mv (.c (.int .i64 0)) true, none⟩])
  (.seq (.seq (.reg [⟨some 15, .load 4 true (.t 5) false, none⟩, ⟨some 16, .mv (.t 2) false, none⟩, ⟨some 17, .call 23 [(.t 15), (.t 16)] false, none⟩, ⟨some 18, .un .not (.t 17), none⟩, ⟨some 19, .mv (.t 18) false, none⟩, ⟨some 20, .mv (.t 1) false, some (19, false)⟩, ⟨some 21, .len (.t 20), some (19, false)⟩, ⟨some 22, .fa 3 (.t 5), some (19, false)⟩, ⟨some 23, .load 1 false (.t 22) false, some (19, false)⟩, ⟨some 24, .len (.t 23), some (19, false)⟩, ⟨some 25, .bin .neq (.t 21) (.t 24), some (19, false)⟩, ⟨some 26, .pick (.t 19) (.c (.bool true)) (.t 25), none⟩])
  (.cond (.t 26) (.seq (.reg [⟨some 10, .mv (.c (.int .i64 0)) true, none⟩])
  (.ret))
  (.skip)))
  (.seq (.seq (.reg [⟨some 12, .mv (.c (.int .i64 0)) true, none⟩])
  (.block 0 (L22_0)))
  (.seq (.reg [⟨some 70, .mv (.t 11) false, none⟩, ⟨some 10, .mv (.t 70) true, none⟩])
  (.ret))))), [.t 10]⟩
theorem row22 : RowOk Try.prog 22 C22 := ⟨Try.f22, ⟨[], [], [], []⟩, lvOf [(0, [1, 2, 3, 4, 5, 11, 12], 1)], Try.func22, by kernel_rfl, by kernel_rfl⟩
/-- swingbridge/swingbridgeref11.There -/
def C23 : CFun := ⟨18, 2, .seq (.reg [⟨some 2, .box (.t 0), none⟩, ⟨some 4, .mv (.c (.bool false)) true, none⟩])
  (.seq (.reg [⟨some 5, .load 4 true (.t 2) false, none⟩, ⟨some 6, .call 47 [(.t 5)] false, none⟩, ⟨some 7, .mv (.t 6) false, none⟩, ⟨some 8, .mv (.t 1) false, some (7, true)⟩, ⟨some 9, .bin .geq (.t 8) (.c (.int .i64 0)), some (7, true)⟩, ⟨some 10, .pick (.t 7) (.t 9) (.c (.bool false)), none⟩, ⟨some 11, .mv (.t 10) false, none⟩, ⟨some 12, .mv (.t 1) false, some (11, true)⟩, ⟨some 13, .fa 3 (.t 2), some (11, true)⟩, ⟨some 14, .load 1 false (.t 13) false, some (11, true)⟩, ⟨some 15, .len (.t 14), some (11, true)⟩, ⟨some 16, .bin .lss (.t 12) (.t 15), some (11, true)⟩, ⟨some 17, .pick (.t 11) (.t 16) (.c (.bool false)), none⟩, ⟨some 4, .mv (.t 17) true, none⟩])
  (.ret)), [.t 4]⟩
theorem row23 : RowOk Try.prog 23 C23 := ⟨Try.f23, ⟨[], [], [], []⟩, lvOf [], Try.func23, by kernel_rfl, by kernel_rfl⟩
/-- swingbridge/swingbridgelaw13.known -/
def C24 : CFun := ⟨36, 0, .seq (.reg [⟨some 0, .mv (.c (.bool false)) true, none⟩])
  (.seq (.reg [⟨some 6, .call 48 [(.c (.int .i64 1)), (.c (.int .i64 1)), (.c (.int .i64 3)), (.c (.int .i64 1)), (.c (.int .i64 4))] false, none⟩, ⟨some 1, .alloc [(.int .i64 0), (.slice none 0 0), (.slice none 0 0), (.slice none 0 0)], none⟩, ⟨none, .store 4 (.t 1) (.t 6), none⟩])
  (.seq (.reg [⟨some 8, .load 4 true (.t 1) false, none⟩, ⟨some 9, .call 26 [(.t 8), (.c (.int .i64 0)), (.c (.int .i64 1))] false, none⟩, ⟨some 7, .mv (.t 9) false, none⟩, ⟨some 10, .ext (.t 7) 0, none⟩, ⟨some 11, .ext (.t 7) 1, none⟩, ⟨some 2, .mv (.t 10) true, none⟩, ⟨some 3, .mv (.t 11) true, none⟩])
  (.seq (.reg [⟨some 13, .load 4 true (.t 1) false, none⟩, ⟨some 14, .call 26 [(.t 13), (.c (.int .i64 0)), (.c (.int .i64 0))] false, none⟩, ⟨some 12, .mv (.t 14) false, none⟩, ⟨some 15, .ext (.t 12) 0, none⟩, ⟨some 16, .ext (.t 12) 1, none⟩, ⟨some 4, .mv (.t 15) true, none⟩, ⟨some 5, .mv (.t 16) true, none⟩])
  (.seq (.reg [⟨some 17, .mv (.t 3) false, none⟩, ⟨some 18, .mv (.t 17) false, none⟩, ⟨some 19, .mv (.t 2) false, some (18, true)⟩, ⟨some 20, .bin .eql (.t 19) (.c (.int .i64 7)), some (18, true)⟩, ⟨some 21, .pick (.t 18) (.t 20) (.c (.bool false)), none⟩, ⟨some 22, .mv (.t 21) false, none⟩, ⟨some 23, .mv (.t 5) false, some (22, true)⟩, ⟨some 24, .un .not (.t 23), some (22, true)⟩, ⟨some 25, .pick (.t 22) (.t 24) (.c (.bool false)), none⟩, ⟨some 26, .mv (.t 25) false, none⟩, ⟨some 27, .load 4 true (.t 1) false, some (26, true)⟩, ⟨some 28, .call 28 [(.t 27), (.c (.int .i64 0))] false, some (26, true)⟩, ⟨some 29, .bin .eql (.t 28) (.c (.int .i64 1)), some (26, true)⟩, ⟨some 30, .pick (.t 26) (.t 29) (.c (.bool false)), none⟩, ⟨some 31, .mv (.t 30) false, none⟩, ⟨some 32, .build [(.int .i64 0), (.slice none 0 0), (.slice none 0 0), (.slice none 0 0)] [], some (31, true)⟩, ⟨some 33, .call 28 [(.t 32), (.c (.int .i64 0))] false, some (31, true)⟩, ⟨some 34, .bin .eql (.t 33) (.c (.int .i64 0)), some (31, true)⟩, ⟨some 35, .pick (.t 31) (.t 34) (.c (.bool false)), none⟩, ⟨some 0, .mv (.t 35) true, none⟩])
  (.ret))))), [.t 0]⟩
theorem row24 : RowOk Try.prog 24 C24 := ⟨Try.f24, ⟨[], [], [], []⟩, lvOf [], Try.func24, by kernel_rfl, by kernel_rfl⟩
def B25_0 : C := .seq (.seq (.reg [⟨some 20, .mv (.t 3) false, none⟩, ⟨some 21, .fa 3 (.t 1), none⟩, ⟨some 22, .load 1 false (.t 21) false, none⟩, ⟨some 23, .len (.t 22), none⟩, ⟨some 24, .bin .lss (.t 20) (.t 23), none⟩])
  (.cond (.t 24) (.skip)
  (.exit 0)))
  (.seq (.block 1 (.seq (.reg [⟨some 27, .fa 3 (.t 1), none⟩, ⟨some 28, .load 1 false (.t 27) false, none⟩, ⟨some 29, .mv (.t 3) false, none⟩, ⟨some 30, .ia 6 (.t 28) (.t 29), none⟩, ⟨some 31, .fa 0 (.t 30), none⟩, ⟨some 32, .load 1 false (.t 31) false, none⟩, ⟨some 33, .slen (.t 32), none⟩, ⟨some 34, .bin .gtr (.t 33) (.c (.int .i64 20)), none⟩, ⟨some 35, .mv (.t 34) false, none⟩, ⟨some 36, .fa 3 (.t 1), some (35, false)⟩, ⟨some 37, .load 1 false (.t 36) false, some (35, false)⟩, ⟨some 38, .mv (.t 3) false, some (35, false)⟩, ⟨some 39, .ia 6 (.t 37) (.t 38), some (35, false)⟩, ⟨some 40, .fa 5 (.t 39), some (35, false)⟩, ⟨some 41, .load 1 false (.t 40) false, some (35, false)⟩, ⟨some 42, .len (.t 41), some (35, false)⟩, ⟨some 43, .bin .gtr (.t 42) (.c (.int .i64 10)), some (35, false)⟩, ⟨some 44, .pick (.t 35) (.c (.bool true)) (.t 43), none⟩])
  (.cond (.t 44) (.seq (.reg [⟨some 2, .mv (.c (.bool false)) true, none⟩])
  (.ret))
  (.skip))))
  (.reg [⟨some 25, .mv (.t 3) false, none⟩, ⟨some 26, .bin .add (.t 25) (.c (.int .i64 1)), none⟩, ⟨some 3, .mv (.t 26) true, none⟩]))
def L25_0 : C := .loop [1, 3] 1 B25_0
theorem go25_0 (s : Env × Bx) (nb) : evL tab ext nb L25_0 s = (loopIn nb [1, 3] 1 s).bind fun s0 => (evL tab ext nb B25_0 s0).bind (seqG tab ext nb L25_0) := eL_loop _ _ _
/-- swingbridge/swingbridgelaw13.few -/
def C25 : CFun := ⟨45, 1, .seq (.reg [⟨some 1, .box (.t 0), none⟩, ⟨some 2, .mv (.c (.bool false)) true, none⟩])
  (.seq (.seq (.reg [⟨some 4, .fa 1 (.t 1), none⟩, ⟨some 5, .load 1 false (.t 4) false, none⟩, ⟨some 6, .len (.t 5), none⟩, ⟨some 7, .bin .gtr (.t 6) (.c (.int .i64 8)), none⟩, ⟨some 8, .mv (.t 7) false, none⟩, ⟨some 9, .fa 2 (.t 1), some (8, false)⟩, ⟨some 10, .load 1 false (.t 9) false, some (8, false)⟩, ⟨some 11, .len (.t 10), some (8, false)⟩, ⟨some 12, .bin .gtr (.t 11) (.c (.int .i64 10)), some (8, false)⟩, ⟨some 13, .pick (.t 8) (.c (.bool true)) (.t 12), none⟩, ⟨some 14, .mv (.t 13) false, none⟩, ⟨some 15, .fa 3 (.t 1), some (14, false)⟩, ⟨some 16, .load 1 false (.t 15) false, some (14, false)⟩, ⟨some 17, .len (.t 16), some (14, false)⟩, ⟨some 18, .bin .gtr (.t 17) (.c (.int .i64 9)), some (14, false)⟩, ⟨some 19, .pick (.t 14) (.c (.bool true)) (.t 18), none⟩])
  (.cond (.t 19) (.seq (.reg [⟨some 2, .mv (.c (.bool false)) true, none⟩])
  (.ret))
  (.skip)))
  (.seq (.seq (.reg [⟨some 3, .mv (.c (.int .i64 0)) true, none⟩])
  (.block 0 (L25_0)))
  (.seq (.reg [⟨some 2, .mv (.c (.bool true)) true, none⟩])
  (.ret)))), [.t 2]⟩
theorem row25 : RowOk Try.prog 25 C25 := ⟨Try.f25, ⟨[], [], [], []⟩, lvOf [(0, [1, 3], 1)], Try.func25, by kernel_rfl, by kernel_rfl⟩
/-- swingbridge/fair.Part -/
def C26 : CFun := ⟨30, 3, .seq (.reg [⟨some 3, .box (.t 0), none⟩, ⟨some 6, .mv (.c (.int .i64 0)) true, none⟩, ⟨some 7, .mv (.c (.bool false)) true, none⟩])
  (.seq (.reg [⟨some 12, .load 4 true (.t 3) false, none⟩, ⟨some 13, .mv (.t 1) false, none⟩, ⟨some 14, .mv (.t 2) false, none⟩, ⟨some 15, .call 49 [(.t 12), (.t 13), (.t 14)] false, none⟩, ⟨some 11, .mv (.t 15) false, none⟩, ⟨some 16, .ext (.t 11) 0, none⟩, ⟨some 17, .ext (.t 11) 1, none⟩, ⟨some 8, .alloc [(.int .i64 0), (.int .i64 0), (.int .i64 0)], none⟩, ⟨none, .store 3 (.t 8) (.t 16), none⟩, ⟨some 9, .mv (.t 17) true, none⟩])
  (.seq (.seq (.reg [⟨some 18, .mv (.t 9) false, none⟩, ⟨some 19, .un .not (.t 18), none⟩])
  (.cond (.t 19) (.seq (.reg [⟨some 6, .mv (.c (.int .i64 0)) true, none⟩, ⟨some 7, .mv (.c (.bool false)) true, none⟩])
  (.ret))
  (.skip)))
  (.seq (.reg [⟨some 20, .load 4 true (.t 3) false, none⟩, ⟨some 21, .mv (.t 1) false, none⟩, ⟨some 22, .call 50 [(.t 20), (.t 21)] false, none⟩, ⟨some 10, .mv (.t 22) true, none⟩])
  (.seq (.reg [⟨some 23, .fa 1 (.t 8), none⟩, ⟨some 24, .load 1 false (.t 23) false, none⟩, ⟨some 25, .mv (.t 10) false, none⟩, ⟨some 26, .mv (.t 10) false, none⟩, ⟨some 27, .len (.t 26), none⟩, ⟨some 28, .call 51 [(.t 25), (.t 27)] false, none⟩, ⟨some 29, .bin .add (.t 24) (.t 28), none⟩, ⟨some 6, .mv (.t 29) true, none⟩, ⟨some 7, .mv (.c (.bool true)) true, none⟩])
  (.ret))))), [.t 6, .t 7]⟩
theorem row26 : RowOk Try.prog 26 C26 := ⟨Try.f26, ⟨[], [], [], []⟩, lvOf [], Try.func26, by kernel_rfl, by kernel_rfl⟩
/-- swingbridge/swingbridgeref11.Fair -/
def C27 : CFun := ⟨26, 3, .seq (.reg [⟨some 3, .box (.t 0), none⟩, ⟨some 6, .mv (.c (.int .i64 0)) true, none⟩, ⟨some 7, .mv (.c (.bool false)) true, none⟩])
  (.seq (.reg [⟨some 11, .load 4 true (.t 3) false, none⟩, ⟨some 12, .mv (.t 1) false, none⟩, ⟨some 13, .mv (.t 2) false, none⟩, ⟨some 14, .call 41 [(.t 11), (.t 12), (.t 13)] false, none⟩, ⟨some 10, .mv (.t 14) false, none⟩, ⟨some 15, .ext (.t 10) 0, none⟩, ⟨some 16, .ext (.t 10) 1, none⟩, ⟨some 8, .alloc [(.int .i64 0), (.int .i64 0), (.int .i64 0)], none⟩, ⟨none, .store 3 (.t 8) (.t 15), none⟩, ⟨some 9, .mv (.t 16) true, none⟩])
  (.seq (.seq (.reg [⟨some 17, .mv (.t 9) false, none⟩, ⟨some 18, .un .not (.t 17), none⟩])
  (.cond (.t 18) (.seq (.reg [⟨some 6, .mv (.c (.int .i64 0)) true, none⟩, ⟨some 7, .mv (.c (.bool false)) true, none⟩])
  (.ret))
  (.skip)))
  (.seq (.reg [⟨some 19, .fa 1 (.t 8), none⟩, ⟨some 20, .load 1 false (.t 19) false, none⟩, ⟨some 21, .load 4 true (.t 3) false, none⟩, ⟨some 22, .mv (.t 1) false, none⟩, ⟨some 23, .call 53 [(.t 21), (.t 22)] false, none⟩, ⟨some 24, .call 52 [(.t 23), (.c (.int .i64 6))] false, none⟩, ⟨some 25, .bin .add (.t 20) (.t 24), none⟩, ⟨some 6, .mv (.t 25) true, none⟩, ⟨some 7, .mv (.c (.bool true)) true, none⟩])
  (.ret)))), [.t 6, .t 7]⟩
theorem row27 : RowOk Try.prog 27 C27 := ⟨Try.f27, ⟨[], [], [], []⟩, lvOf [], Try.func27, by kernel_rfl, by kernel_rfl⟩
/-- swingbridge/fair.Ahead -/
def C28 : CFun := ⟨9, 2, .seq (.reg [⟨some 2, .box (.t 0), none⟩, ⟨some 4, .mv (.c (.int .i64 0)) true, none⟩])
  (.seq (.reg [⟨some 5, .load 4 true (.t 2) false, none⟩, ⟨some 6, .mv (.t 1) false, none⟩, ⟨some 7, .call 50 [(.t 5), (.t 6)] false, none⟩, ⟨some 8, .len (.t 7), none⟩, ⟨some 4, .mv (.t 8) true, none⟩])
  (.ret)), [.t 4]⟩
theorem row28 : RowOk Try.prog 28 C28 := ⟨Try.f28, ⟨[], [], [], []⟩, lvOf [], Try.func28, by kernel_rfl, by kernel_rfl⟩
def B29_0 : C := .seq (.seq (.reg [⟨some 15, .mv (.t 7) false, none⟩, ⟨some 16, .mv (.t 6) false, none⟩, ⟨some 17, .len (.t 16), none⟩, ⟨some 18, .bin .lss (.t 15) (.t 17), none⟩])
  (.cond (.t 18) (.skip)
  (.exit 0)))
  (.seq (.block 1 (.seq (.reg [⟨some 21, .mv (.t 6) false, none⟩, ⟨some 22, .mv (.t 7) false, none⟩, ⟨some 23, .ia 1 (.t 21) (.t 22), none⟩, ⟨some 24, .load 1 false (.t 23) false, none⟩, ⟨some 25, .bin .gtr (.t 24) (.c (.int .i64 0)), none⟩])
  (.cond (.t 25) (.reg [⟨some 26, .mv (.t 5) false, none⟩, ⟨some 27, .bin .add (.t 26) (.c (.int .i64 1)), none⟩, ⟨some 5, .mv (.t 27) true, none⟩])
  (.skip))))
  (.reg [⟨some 19, .mv (.t 7) false, none⟩, ⟨some 20, .bin .add (.t 19) (.c (.int .i64 1)), none⟩, ⟨some 7, .mv (.t 20) true, none⟩]))
def L29_0 : C := .loop [5, 6, 7] 1 B29_0
theorem go29_0 (s : Env × Bx) (nb) : evL tab ext nb L29_0 s = (loopIn nb [5, 6, 7] 1 s).bind fun s0 => (evL tab ext nb B29_0 s0).bind (seqG tab ext nb L29_0) := eL_loop _ _ _
/-- swingbridge/swingbridgeref11.Ahead -/
def C29 : CFun := ⟨29, 2, .seq (.reg [⟨some 2, .box (.t 0), none⟩, ⟨some 4, .mv (.c (.int .i64 0)) true, none⟩])
  (.seq (.reg [⟨some 5, .mv (.c (.int .i64 0)) true, none⟩])
  (.seq (.seq (.reg [⟨some 8, .load 4 true (.t 2) false, none⟩, ⟨some 9, .mv (.t 1) false, none⟩, ⟨some 10, .call 23 [(.t 8), (.t 9)] false, none⟩, ⟨some 11, .un .not (.t 10), none⟩])
  (.cond (.t 11) (.seq (.reg [⟨some 4, .mv (.c (.int .i64 0)) true, none⟩])
  (.ret))
  (.skip)))
  (.seq (.reg [⟨some 12, .load 4 true (.t 2) false, none⟩, ⟨some 13, .mv (.t 1) false, none⟩, ⟨some 14, .call 53 [(.t 12), (.t 13)] false, none⟩, ⟨some 6, .mv (.t 14) true, none⟩])
  (.seq (.seq (.reg [⟨some 7, .mv (.c (.int .i64 0)) true, none⟩])
  (.block 0 (L29_0)))
  (.seq (.reg [⟨some 28, .mv (.t 5) false, none⟩, ⟨some 4, .mv (.t 28) true, none⟩])
  (.ret)))))), [.t 4]⟩
theorem row29 : RowOk Try.prog 29 C29 := ⟨Try.f29, ⟨[], [], [], []⟩, lvOf [(0, [5, 6, 7], 1)], Try.func29, by kernel_rfl, by kernel_rfl⟩
/-- swingbridge/swingbridgelaw15.known -/
def C30 : CFun := ⟨50, 0, .seq (.reg [⟨some 0, .mv (.c (.bool false)) true, none⟩])
  (.seq (.reg [⟨some 8, .call 54 [(.c (.int .i64 3)), (.c (.int .i64 1)), (.c (.int .i64 3)), (.c (.int .i64 1)), (.c (.int .i64 4))] false, none⟩, ⟨some 1, .alloc [(.int .i64 0), (.slice none 0 0), (.slice none 0 0), (.slice none 0 0)], none⟩, ⟨none, .store 4 (.t 1) (.t 8), none⟩])
  (.seq (.reg [⟨some 10, .load 4 true (.t 1) false, none⟩, ⟨some 11, .call 32 [(.t 10), (.c (.int .i64 0)), (.c (.int .i64 1))] false, none⟩, ⟨some 9, .mv (.t 11) false, none⟩, ⟨some 12, .ext (.t 9) 0, none⟩, ⟨some 13, .ext (.t 9) 1, none⟩, ⟨some 2, .mv (.t 12) true, none⟩, ⟨some 3, .mv (.t 13) true, none⟩])
  (.seq (.reg [⟨some 15, .load 4 true (.t 1) false, none⟩, ⟨some 16, .call 34 [(.t 15), (.c (.int .i64 0)), (.c (.int .i64 1))] false, none⟩, ⟨some 14, .mv (.t 16) false, none⟩, ⟨some 17, .ext (.t 14) 0, none⟩, ⟨some 18, .ext (.t 14) 1, none⟩, ⟨some 4, .mv (.t 17) true, none⟩, ⟨some 5, .mv (.t 18) true, none⟩])
  (.seq (.reg [⟨some 20, .load 4 true (.t 1) false, none⟩, ⟨some 21, .call 34 [(.t 20), (.c (.int .i64 0)), (.c (.int .i64 0))] false, none⟩, ⟨some 19, .mv (.t 21) false, none⟩, ⟨some 22, .ext (.t 19) 0, none⟩, ⟨some 23, .ext (.t 19) 1, none⟩, ⟨some 6, .mv (.t 22) true, none⟩, ⟨some 7, .mv (.t 23) true, none⟩])
  (.seq (.reg [⟨some 24, .mv (.t 3) false, none⟩, ⟨some 25, .mv (.t 24) false, none⟩, ⟨some 26, .mv (.t 2) false, some (25, true)⟩, ⟨some 27, .bin .eql (.t 26) (.c (.int .i64 3)), some (25, true)⟩, ⟨some 28, .pick (.t 25) (.t 27) (.c (.bool false)), none⟩, ⟨some 29, .mv (.t 28) false, none⟩, ⟨some 30, .mv (.t 5) false, some (29, true)⟩, ⟨some 31, .pick (.t 29) (.t 30) (.c (.bool false)), none⟩, ⟨some 32, .mv (.t 31) false, none⟩, ⟨some 33, .mv (.t 4) false, some (32, true)⟩, ⟨some 34, .bin .eql (.t 33) (.c (.int .i64 7)), some (32, true)⟩, ⟨some 35, .pick (.t 32) (.t 34) (.c (.bool false)), none⟩, ⟨some 36, .mv (.t 35) false, none⟩, ⟨some 37, .mv (.t 7) false, some (36, true)⟩, ⟨some 38, .un .not (.t 37), some (36, true)⟩, ⟨some 39, .pick (.t 36) (.t 38) (.c (.bool false)), none⟩, ⟨some 40, .mv (.t 39) false, none⟩, ⟨some 41, .load 4 true (.t 1) false, some (40, true)⟩, ⟨some 42, .call 36 [(.t 41), (.c (.int .i64 0))] false, some (40, true)⟩, ⟨some 43, .bin .eql (.t 42) (.c (.int .i64 4)), some (40, true)⟩, ⟨some 44, .pick (.t 40) (.t 43) (.c (.bool false)), none⟩, ⟨some 45, .mv (.t 44) false, none⟩, ⟨some 46, .build [(.int .i64 0), (.slice none 0 0), (.slice none 0 0), (.slice none 0 0)] [], some (45, true)⟩, ⟨some 47, .call 36 [(.t 46), (.c (.int .i64 0))] false, some (45, true)⟩, ⟨some 48, .bin .eql (.t 47) (.c (.int .i64 0)), some (45, true)⟩, ⟨some 49, .pick (.t 45) (.t 48) (.c (.bool false)), none⟩, ⟨some 0, .mv (.t 49) true, none⟩])
  (.ret)))))), [.t 0]⟩
theorem row30 : RowOk Try.prog 30 C30 := ⟨Try.f30, ⟨[], [], [], []⟩, lvOf [], Try.func30, by kernel_rfl, by kernel_rfl⟩
def B31_0 : C := .seq (.seq (.reg [⟨some 20, .mv (.t 3) false, none⟩, ⟨some 21, .fa 3 (.t 1), none⟩, ⟨some 22, .load 1 false (.t 21) false, none⟩, ⟨some 23, .len (.t 22), none⟩, ⟨some 24, .bin .lss (.t 20) (.t 23), none⟩])
  (.cond (.t 24) (.skip)
  (.exit 0)))
  (.seq (.block 1 (.seq (.reg [⟨some 27, .fa 3 (.t 1), none⟩, ⟨some 28, .load 1 false (.t 27) false, none⟩, ⟨some 29, .mv (.t 3) false, none⟩, ⟨some 30, .ia 6 (.t 28) (.t 29), none⟩, ⟨some 31, .fa 0 (.t 30), none⟩, ⟨some 32, .load 1 false (.t 31) false, none⟩, ⟨some 33, .slen (.t 32), none⟩, ⟨some 34, .bin .gtr (.t 33) (.c (.int .i64 20)), none⟩, ⟨some 35, .mv (.t 34) false, none⟩, ⟨some 36, .fa 3 (.t 1), some (35, false)⟩, ⟨some 37, .load 1 false (.t 36) false, some (35, false)⟩, ⟨some 38, .mv (.t 3) false, some (35, false)⟩, ⟨some 39, .ia 6 (.t 37) (.t 38), some (35, false)⟩, ⟨some 40, .fa 5 (.t 39), some (35, false)⟩, ⟨some 41, .load 1 false (.t 40) false, some (35, false)⟩, ⟨some 42, .len (.t 41), some (35, false)⟩, ⟨some 43, .bin .gtr (.t 42) (.c (.int .i64 10)), some (35, false)⟩, ⟨some 44, .pick (.t 35) (.c (.bool true)) (.t 43), none⟩])
  (.cond (.t 44) (.seq (.reg [⟨some 2, .mv (.c (.bool false)) true, none⟩])
  (.ret))
  (.skip))))
  (.reg [⟨some 25, .mv (.t 3) false, none⟩, ⟨some 26, .bin .add (.t 25) (.c (.int .i64 1)), none⟩, ⟨some 3, .mv (.t 26) true, none⟩]))
def L31_0 : C := .loop [1, 3] 1 B31_0
theorem go31_0 (s : Env × Bx) (nb) : evL tab ext nb L31_0 s = (loopIn nb [1, 3] 1 s).bind fun s0 => (evL tab ext nb B31_0 s0).bind (seqG tab ext nb L31_0) := eL_loop _ _ _
/-- swingbridge/swingbridgelaw15.few -/
def C31 : CFun := ⟨45, 1, .seq (.reg [⟨some 1, .box (.t 0), none⟩, ⟨some 2, .mv (.c (.bool false)) true, none⟩])
  (.seq (.seq (.reg [⟨some 4, .fa 1 (.t 1), none⟩, ⟨some 5, .load 1 false (.t 4) false, none⟩, ⟨some 6, .len (.t 5), none⟩, ⟨some 7, .bin .gtr (.t 6) (.c (.int .i64 8)), none⟩, ⟨some 8, .mv (.t 7) false, none⟩, ⟨some 9, .fa 2 (.t 1), some (8, false)⟩, ⟨some 10, .load 1 false (.t 9) false, some (8, false)⟩, ⟨some 11, .len (.t 10), some (8, false)⟩, ⟨some 12, .bin .gtr (.t 11) (.c (.int .i64 10)), some (8, false)⟩, ⟨some 13, .pick (.t 8) (.c (.bool true)) (.t 12), none⟩, ⟨some 14, .mv (.t 13) false, none⟩, ⟨some 15, .fa 3 (.t 1), some (14, false)⟩, ⟨some 16, .load 1 false (.t 15) false, some (14, false)⟩, ⟨some 17, .len (.t 16), some (14, false)⟩, ⟨some 18, .bin .gtr (.t 17) (.c (.int .i64 9)), some (14, false)⟩, ⟨some 19, .pick (.t 14) (.c (.bool true)) (.t 18), none⟩])
  (.cond (.t 19) (.seq (.reg [⟨some 2, .mv (.c (.bool false)) true, none⟩])
  (.ret))
  (.skip)))
  (.seq (.seq (.reg [⟨some 3, .mv (.c (.int .i64 0)) true, none⟩])
  (.block 0 (L31_0)))
  (.seq (.reg [⟨some 2, .mv (.c (.bool true)) true, none⟩])
  (.ret)))), [.t 2]⟩
theorem row31 : RowOk Try.prog 31 C31 := ⟨Try.f31, ⟨[], [], [], []⟩, lvOf [(0, [1, 3], 1)], Try.func31, by kernel_rfl, by kernel_rfl⟩
/-- swingbridge/token.Inside -/
def C32 : CFun := ⟨46, 3, .seq (.reg [⟨some 3, .box (.t 0), none⟩, ⟨some 6, .mv (.c (.int .i64 0)) true, none⟩, ⟨some 7, .mv (.c (.bool false)) true, none⟩])
  (.seq (.seq (.reg [⟨some 9, .load 4 true (.t 3) false, none⟩, ⟨some 10, .mv (.t 1) false, none⟩, ⟨some 11, .call 55 [(.t 9), (.t 10)] false, none⟩, ⟨some 12, .un .not (.t 11), none⟩, ⟨some 13, .mv (.t 12) false, none⟩, ⟨some 14, .mv (.t 2) false, some (13, false)⟩, ⟨some 15, .bin .lss (.t 14) (.c (.int .i64 0)), some (13, false)⟩, ⟨some 16, .pick (.t 13) (.c (.bool true)) (.t 15), none⟩, ⟨some 17, .mv (.t 16) false, none⟩, ⟨some 18, .mv (.t 2) false, some (17, false)⟩, ⟨some 19, .fa 3 (.t 3), some (17, false)⟩, ⟨some 20, .load 1 false (.t 19) false, some (17, false)⟩, ⟨some 21, .mv (.t 1) false, some (17, false)⟩, ⟨some 22, .ia 6 (.t 20) (.t 21), some (17, false)⟩, ⟨some 23, .fa 5 (.t 22), some (17, false)⟩, ⟨some 24, .load 1 false (.t 23) false, some (17, false)⟩, ⟨some 25, .len (.t 24), some (17, false)⟩, ⟨some 26, .bin .geq (.t 18) (.t 25), some (17, false)⟩, ⟨some 27, .pick (.t 17) (.c (.bool true)) (.t 26), none⟩])
  (.cond (.t 27) (.seq (.reg [⟨some 6, .mv (.c (.int .i64 0)) true, none⟩, ⟨some 7, .mv (.c (.bool false)) true, none⟩])
  (.ret))
  (.skip)))
  (.seq (.reg [⟨some 28, .fa 3 (.t 3), none⟩, ⟨some 29, .load 1 false (.t 28) false, none⟩, ⟨some 30, .mv (.t 1) false, none⟩, ⟨some 31, .ia 6 (.t 29) (.t 30), none⟩, ⟨some 32, .fa 5 (.t 31), none⟩, ⟨some 33, .load 1 false (.t 32) false, none⟩, ⟨some 34, .mv (.t 2) false, none⟩, ⟨some 35, .ia 3 (.t 33) (.t 34), none⟩, ⟨some 36, .load 3 true (.t 35) false, none⟩, ⟨some 8, .alloc [(.int .i64 0), (.int .i64 0), (.int .i64 0)], none⟩, ⟨none, .store 3 (.t 8) (.t 36), none⟩])
  (.seq (.seq (.reg [⟨some 37, .fa 0 (.t 8), none⟩, ⟨some 38, .load 1 false (.t 37) false, none⟩, ⟨some 39, .bin .neq (.t 38) (.c (.int .i64 3)), none⟩])
  (.cond (.t 39) (.seq (.reg [⟨some 6, .mv (.c (.int .i64 0)) true, none⟩, ⟨some 7, .mv (.c (.bool false)) true, none⟩])
  (.ret))
  (.skip)))
  (.seq (.reg [⟨some 40, .fa 1 (.t 8), none⟩, ⟨some 41, .load 1 false (.t 40) false, none⟩, ⟨some 42, .load 4 true (.t 3) false, none⟩, ⟨some 43, .mv (.t 1) false, none⟩, ⟨some 44, .call 56 [(.t 42), (.t 43)] false, none⟩, ⟨some 45, .bin .add (.t 41) (.t 44), none⟩, ⟨some 6, .mv (.t 45) true, none⟩, ⟨some 7, .mv (.c (.bool true)) true, none⟩])
  (.ret))))), [.t 6, .t 7]⟩
theorem row32 : RowOk Try.prog 32 C32 := ⟨Try.f32, ⟨[], [], [], []⟩, lvOf [], Try.func32, by kernel_rfl, by kernel_rfl⟩
/-- swingbridge/swingbridgeref11.Inside -/
def C33 : CFun := ⟨25, 3, .seq (.reg [⟨some 3, .box (.t 0), none⟩, ⟨some 6, .mv (.c (.int .i64 0)) true, none⟩, ⟨some 7, .mv (.c (.bool false)) true, none⟩])
  (.seq (.reg [⟨some 11, .load 4 true (.t 3) false, none⟩, ⟨some 12, .mv (.t 1) false, none⟩, ⟨some 13, .mv (.t 2) false, none⟩, ⟨some 14, .call 41 [(.t 11), (.t 12), (.t 13)] false, none⟩, ⟨some 10, .mv (.t 14) false, none⟩, ⟨some 15, .ext (.t 10) 0, none⟩, ⟨some 16, .ext (.t 10) 1, none⟩, ⟨some 8, .alloc [(.int .i64 0), (.int .i64 0), (.int .i64 0)], none⟩, ⟨none, .store 3 (.t 8) (.t 15), none⟩, ⟨some 9, .mv (.t 16) true, none⟩])
  (.seq (.seq (.reg [⟨some 17, .mv (.t 9) false, none⟩, ⟨some 18, .un .not (.t 17), none⟩])
  (.cond (.t 18) (.seq (.reg [⟨some 6, .mv (.c (.int .i64 0)) true, none⟩, ⟨some 7, .mv (.c (.bool false)) true, none⟩])
  (.ret))
  (.skip)))
  (.seq (.reg [⟨some 19, .fa 1 (.t 8), none⟩, ⟨some 20, .load 1 false (.t 19) false, none⟩, ⟨some 21, .load 4 true (.t 3) false, none⟩, ⟨some 22, .mv (.t 1) false, none⟩, ⟨some 23, .call 57 [(.t 21), (.t 22)] false, none⟩, ⟨some 24, .bin .add (.t 20) (.t 23), none⟩, ⟨some 6, .mv (.t 24) true, none⟩, ⟨some 7, .mv (.c (.bool true)) true, none⟩])
  (.ret)))), [.t 6, .t 7]⟩
theorem row33 : RowOk Try.prog 33 C33 := ⟨Try.f33, ⟨[], [], [], []⟩, lvOf [], Try.func33, by kernel_rfl, by kernel_rfl⟩
/-- swingbridge/token.Part -/
def C34 : CFun := ⟨24, 3, .seq (.reg [⟨some 3, .box (.t 0), none⟩, ⟨some 6, .mv (.c (.int .i64 0)) true, none⟩, ⟨some 7, .mv (.c (.bool false)) true, none⟩])
  (.seq (.reg [⟨some 11, .load 4 true (.t 3) false, none⟩, ⟨some 12, .mv (.t 1) false, none⟩, ⟨some 13, .mv (.t 2) false, none⟩, ⟨some 14, .call 32 [(.t 11), (.t 12), (.t 13)] false, none⟩, ⟨some 10, .mv (.t 14) false, none⟩, ⟨some 15, .ext (.t 10) 0, none⟩, ⟨some 16, .ext (.t 10) 1, none⟩, ⟨some 8, .mv (.t 15) true, none⟩, ⟨some 9, .mv (.t 16) true, none⟩])
  (.seq (.seq (.reg [⟨some 17, .mv (.t 9) false, none⟩, ⟨some 18, .un .not (.t 17), none⟩])
  (.cond (.t 18) (.seq (.reg [⟨some 6, .mv (.c (.int .i64 0)) true, none⟩, ⟨some 7, .mv (.c (.bool false)) true, none⟩])
  (.ret))
  (.skip)))
  (.seq (.reg [⟨some 19, .mv (.t 8) false, none⟩, ⟨some 20, .load 4 true (.t 3) false, none⟩, ⟨some 21, .mv (.t 1) false, none⟩, ⟨some 22, .call 36 [(.t 20), (.t 21)] false, none⟩, ⟨some 23, .bin .add (.t 19) (.t 22), none⟩, ⟨some 6, .mv (.t 23) true, none⟩, ⟨some 7, .mv (.c (.bool true)) true, none⟩])
  (.ret)))), [.t 6, .t 7]⟩
theorem row34 : RowOk Try.prog 34 C34 := ⟨Try.f34, ⟨[], [], [], []⟩, lvOf [], Try.func34, by kernel_rfl, by kernel_rfl⟩
/-- swingbridge/swingbridgeref11.Token -/
def C35 : CFun := ⟨24, 3, .seq (.reg [⟨some 3, .box (.t 0), none⟩, ⟨some 6, .mv (.c (.int .i64 0)) true, none⟩, ⟨some 7, .mv (.c (.bool false)) true, none⟩])
  (.seq (.reg [⟨some 11, .load 4 true (.t 3) false, none⟩, ⟨some 12, .mv (.t 1) false, none⟩, ⟨some 13, .mv (.t 2) false, none⟩, ⟨some 14, .call 33 [(.t 11), (.t 12), (.t 13)] false, none⟩, ⟨some 10, .mv (.t 14) false, none⟩, ⟨some 15, .ext (.t 10) 0, none⟩, ⟨some 16, .ext (.t 10) 1, none⟩, ⟨some 8, .mv (.t 15) true, none⟩, ⟨some 9, .mv (.t 16) true, none⟩])
  (.seq (.seq (.reg [⟨some 17, .mv (.t 9) false, none⟩, ⟨some 18, .un .not (.t 17), none⟩])
  (.cond (.t 18) (.seq (.reg [⟨some 6, .mv (.c (.int .i64 0)) true, none⟩, ⟨some 7, .mv (.c (.bool false)) true, none⟩])
  (.ret))
  (.skip)))
  (.seq (.reg [⟨some 19, .mv (.t 8) false, none⟩, ⟨some 20, .load 4 true (.t 3) false, none⟩, ⟨some 21, .mv (.t 1) false, none⟩, ⟨some 22, .call 37 [(.t 20), (.t 21)] false, none⟩, ⟨some 23, .bin .add (.t 19) (.t 22), none⟩, ⟨some 6, .mv (.t 23) true, none⟩, ⟨some 7, .mv (.c (.bool true)) true, none⟩])
  (.ret)))), [.t 6, .t 7]⟩
theorem row35 : RowOk Try.prog 35 C35 := ⟨Try.f35, ⟨[], [], [], []⟩, lvOf [], Try.func35, by kernel_rfl, by kernel_rfl⟩
def B36_0 : C := .seq (.reg [⟨some 40, .bin .lss (.t 39) (.t 38), none⟩])
  (.seq (.cond (.t 40) (.skip)
  (.exit 0))
  (.seq (.block 1 (.seq (.reg [⟨some 41, .mv (.t 39) false, none⟩, ⟨some 42, .ia 6 (.t 37) (.t 39), none⟩, ⟨some 43, .load 6 true (.t 42) false, none⟩, ⟨some 9, .alloc [(.string ⟨#[]⟩), (.int .i64 0), (.int .i64 0), (.int .i64 0), (.int .i64 0), (.slice none 0 0)], none⟩, ⟨some 8, .mv (.t 41) true, none⟩, ⟨none, .store 6 (.t 9) (.t 43), none⟩])
  (.seq (.reg [⟨some 44, .fa 4 (.t 9), none⟩, ⟨some 45, .load 1 false (.t 44) false, none⟩, ⟨some 46, .mv (.t 5) false, none⟩, ⟨some 47, .bin .eql (.t 45) (.t 46), none⟩, ⟨some 48, .mv (.t 47) false, none⟩, ⟨some 49, .load 6 true (.t 9) false, some (48, true)⟩, ⟨some 50, .call 58 [(.t 49)] false, some (48, true)⟩, ⟨some 51, .bin .gtr (.t 50) (.c (.int .i64 0)), some (48, true)⟩, ⟨some 52, .pick (.t 48) (.t 51) (.c (.bool false)), none⟩])
  (.cond (.t 52) (.reg [⟨some 53, .mv (.t 7) false, none⟩, ⟨some 54, .load 6 true (.t 9) false, none⟩, ⟨some 55, .call 58 [(.t 54)] false, none⟩, ⟨some 56, .load 4 true (.t 2) false, none⟩, ⟨some 57, .mv (.t 8) false, none⟩, ⟨some 58, .call 56 [(.t 56), (.t 57)] false, none⟩, ⟨some 59, .bin .add (.t 55) (.t 58), none⟩, ⟨some 60, .mxn true [(.t 53), (.t 59)], none⟩, ⟨some 7, .mv (.t 60) true, none⟩])
  (.skip)))))
  (.reg [⟨some 61, .bin .add (.t 39) (.c (.int .i64 1)), none⟩, ⟨some 39, .mv (.t 61) false, none⟩])))
def L36_0 : C := .loop [2, 5, 6, 7, 37, 38, 39] 1 B36_0
theorem go36_0 (s : Env × Bx) (nb) : evL tab ext nb L36_0 s = (loopIn nb [2, 5, 6, 7, 37, 38, 39] 1 s).bind fun s0 => (evL tab ext nb B36_0 s0).bind (seqG tab ext nb L36_0) := eL_loop _ _ _
/-- swingbridge/token.Outside -/
def C36 : CFun := ⟨76, 2, .seq (.reg [⟨some 2, .box (.t 0), none⟩, ⟨some 4, .mv (.c (.int .i64 0)) true, none⟩])
  (.seq (.seq (.reg [⟨some 12, .load 4 true (.t 2) false, none⟩, ⟨some 13, .mv (.t 1) false, none⟩, ⟨some 14, .call 55 [(.t 12), (.t 13)] false, none⟩, ⟨some 15, .un .not (.t 14), none⟩, ⟨some 16, .mv (.t 15) false, none⟩, ⟨some 17, .fa 3 (.t 2), some (16, false)⟩, ⟨some 18, .load 1 false (.t 17) false, some (16, false)⟩, ⟨some 19, .mv (.t 1) false, some (16, false)⟩, ⟨some 20, .ia 6 (.t 18) (.t 19), some (16, false)⟩, ⟨some 21, .load 6 true (.t 20) false, some (16, false)⟩, ⟨some 22, .call 58 [(.t 21)] false, some (16, false)⟩, ⟨some 23, .bin .eql (.t 22) (.c (.int .i64 0)), some (16, false)⟩, ⟨some 24, .pick (.t 16) (.c (.bool true)) (.t 23), none⟩])
  (.cond (.t 24) (.seq (.reg [⟨some 4, .mv (.c (.int .i64 0)) true, none⟩])
  (.ret))
  (.skip)))
  (.seq (.reg [⟨some 25, .fa 3 (.t 2), none⟩, ⟨some 26, .load 1 false (.t 25) false, none⟩, ⟨some 27, .mv (.t 1) false, none⟩, ⟨some 28, .ia 6 (.t 26) (.t 27), none⟩, ⟨some 29, .fa 4 (.t 28), none⟩, ⟨some 30, .load 1 false (.t 29) false, none⟩, ⟨some 5, .mv (.t 30) true, none⟩])
  (.seq (.reg [⟨some 31, .fa 1 (.t 2), none⟩, ⟨some 32, .load 1 false (.t 31) false, none⟩, ⟨some 33, .mv (.t 5) false, none⟩, ⟨some 34, .ia 1 (.t 32) (.t 33), none⟩, ⟨some 35, .load 1 false (.t 34) false, none⟩, ⟨some 6, .mv (.t 35) true, none⟩])
  (.seq (.reg [⟨some 7, .mv (.c (.int .i64 0)) true, none⟩])
  (.seq (.seq (.reg [⟨some 36, .fa 3 (.t 2), none⟩, ⟨some 37, .load 1 false (.t 36) false, none⟩, ⟨some 38, .len (.t 37), none⟩, ⟨some 39, .mv (.c (.int .i64 0)) false, none⟩])
  (.block 0 (L36_0)))
  (.seq (.reg [⟨some 63, .load 4 true (.t 2) false, none⟩, ⟨some 64, .mv (.t 5) false, none⟩, ⟨some 65, .call 60 [(.t 63), (.t 64)] false, none⟩, ⟨some 66, .mv (.t 6) false, none⟩, ⟨some 67, .bin .sub (.t 65) (.t 66), none⟩, ⟨some 68, .mxn true [(.t 67), (.c (.int .i64 0))], none⟩, ⟨some 69, .mv (.t 6) false, none⟩, ⟨some 70, .call 59 [(.t 68), (.t 69)] false, none⟩, ⟨some 62, .mv (.t 70) false, none⟩, ⟨some 71, .ext (.t 62) 0, none⟩, ⟨some 72, .ext (.t 62) 1, none⟩, ⟨some 10, .mv (.t 71) true, none⟩, ⟨some 11, .mv (.t 72) true, none⟩])
  (.seq (.reg [⟨some 73, .mv (.t 10) false, none⟩, ⟨some 74, .mv (.t 7) false, none⟩, ⟨some 75, .bin .mul (.t 73) (.t 74), none⟩, ⟨some 4, .mv (.t 75) true, none⟩])
  (.ret)))))))), [.t 4]⟩
theorem row36 : RowOk Try.prog 36 C36 := ⟨Try.f36, ⟨[], [], [], []⟩, lvOf [(0, [2, 5, 6, 7, 37, 38, 39], 1)], Try.func36, by kernel_rfl, by kernel_rfl⟩
def B37_0 : C := .seq (.seq (.reg [⟨some 28, .mv (.t 7) false, none⟩, ⟨some 29, .fa 3 (.t 2), none⟩, ⟨some 30, .load 1 false (.t 29) false, none⟩, ⟨some 31, .len (.t 30), none⟩, ⟨some 32, .bin .lss (.t 28) (.t 31), none⟩])
  (.cond (.t 32) (.skip)
  (.exit 0)))
  (.seq (.block 1 (.seq (.reg [⟨some 35, .fa 3 (.t 2), none⟩, ⟨some 36, .load 1 false (.t 35) false, none⟩, ⟨some 37, .mv (.t 7) false, none⟩, ⟨some 38, .ia 6 (.t 36) (.t 37), none⟩, ⟨some 39, .load 6 true (.t 38) false, none⟩, ⟨some 40, .call 61 [(.t 39)] false, none⟩, ⟨some 8, .mv (.t 40) true, none⟩])
  (.seq (.reg [⟨some 41, .fa 3 (.t 2), none⟩, ⟨some 42, .load 1 false (.t 41) false, none⟩, ⟨some 43, .mv (.t 7) false, none⟩, ⟨some 44, .ia 6 (.t 42) (.t 43), none⟩, ⟨some 45, .fa 4 (.t 44), none⟩, ⟨some 46, .load 1 false (.t 45) false, none⟩, ⟨some 47, .mv (.t 5) false, none⟩, ⟨some 48, .bin .eql (.t 46) (.t 47), none⟩, ⟨some 49, .mv (.t 48) false, none⟩, ⟨some 50, .mv (.t 8) false, some (49, true)⟩, ⟨some 51, .bin .gtr (.t 50) (.c (.int .i64 0)), some (49, true)⟩, ⟨some 52, .pick (.t 49) (.t 51) (.c (.bool false)), none⟩])
  (.cond (.t 52) (.reg [⟨some 53, .mv (.t 6) false, none⟩, ⟨some 54, .mv (.t 8) false, none⟩, ⟨some 55, .load 4 true (.t 2) false, none⟩, ⟨some 56, .mv (.t 7) false, none⟩, ⟨some 57, .call 57 [(.t 55), (.t 56)] false, none⟩, ⟨some 58, .bin .add (.t 54) (.t 57), none⟩, ⟨some 59, .mxn true [(.t 53), (.t 58)], none⟩, ⟨some 6, .mv (.t 59) true, none⟩])
  (.skip)))))
  (.reg [⟨some 33, .mv (.t 7) false, none⟩, ⟨some 34, .bin .add (.t 33) (.c (.int .i64 1)), none⟩, ⟨some 7, .mv (.t 34) true, none⟩]))
def L37_0 : C := .loop [2, 5, 6, 7] 1 B37_0
theorem go37_0 (s : Env × Bx) (nb) : evL tab ext nb L37_0 s = (loopIn nb [2, 5, 6, 7] 1 s).bind fun s0 => (evL tab ext nb B37_0 s0).bind (seqG tab ext nb L37_0) := eL_loop _ _ _
/-- swingbridge/swingbridgeref11.Outside -/
def C37 : CFun := ⟨78, 2, .seq (.reg [⟨some 2, .box (.t 0), none⟩, ⟨some 4, .mv (.c (.int .i64 0)) true, none⟩])
  (.seq (.seq (.reg [⟨some 9, .load 4 true (.t 2) false, none⟩, ⟨some 10, .mv (.t 1) false, none⟩, ⟨some 11, .call 23 [(.t 9), (.t 10)] false, none⟩, ⟨some 12, .un .not (.t 11), none⟩, ⟨some 13, .mv (.t 12) false, none⟩, ⟨some 14, .fa 3 (.t 2), some (13, false)⟩, ⟨some 15, .load 1 false (.t 14) false, some (13, false)⟩, ⟨some 16, .mv (.t 1) false, some (13, false)⟩, ⟨some 17, .ia 6 (.t 15) (.t 16), some (13, false)⟩, ⟨some 18, .load 6 true (.t 17) false, some (13, false)⟩, ⟨some 19, .call 61 [(.t 18)] false, some (13, false)⟩, ⟨some 20, .bin .eql (.t 19) (.c (.int .i64 0)), some (13, false)⟩, ⟨some 21, .pick (.t 13) (.c (.bool true)) (.t 20), none⟩])
  (.cond (.t 21) (.seq (.reg [⟨some 4, .mv (.c (.int .i64 0)) true, none⟩])
  (.ret))
  (.skip)))
  (.seq (.reg [⟨some 22, .fa 3 (.t 2), none⟩, ⟨some 23, .load 1 false (.t 22) false, none⟩, ⟨some 24, .mv (.t 1) false, none⟩, ⟨some 25, .ia 6 (.t 23) (.t 24), none⟩, ⟨some 26, .fa 4 (.t 25), none⟩, ⟨some 27, .load 1 false (.t 26) false, none⟩, ⟨some 5, .mv (.t 27) true, none⟩])
  (.seq (.reg [⟨some 6, .mv (.c (.int .i64 0)) true, none⟩])
  (.seq (.seq (.reg [⟨some 7, .mv (.c (.int .i64 0)) true, none⟩])
  (.block 0 (L37_0)))
  (.seq (.reg [⟨some 60, .load 4 true (.t 2) false, none⟩, ⟨some 61, .mv (.t 5) false, none⟩, ⟨some 62, .call 38 [(.t 60), (.t 61)] false, none⟩, ⟨some 63, .fa 1 (.t 2), none⟩, ⟨some 64, .load 1 false (.t 63) false, none⟩, ⟨some 65, .mv (.t 5) false, none⟩, ⟨some 66, .ia 1 (.t 64) (.t 65), none⟩, ⟨some 67, .load 1 false (.t 66) false, none⟩, ⟨some 68, .bin .sub (.t 62) (.t 67), none⟩, ⟨some 69, .mxn true [(.c (.int .i64 0)), (.t 68)], none⟩, ⟨some 70, .fa 1 (.t 2), none⟩, ⟨some 71, .load 1 false (.t 70) false, none⟩, ⟨some 72, .mv (.t 5) false, none⟩, ⟨some 73, .ia 1 (.t 71) (.t 72), none⟩, ⟨some 74, .load 1 false (.t 73) false, none⟩, ⟨some 75, .call 62 [(.t 69), (.t 74)] false, none⟩, ⟨some 76, .mv (.t 6) false, none⟩, ⟨some 77, .bin .mul (.t 75) (.t 76), none⟩, ⟨some 4, .mv (.t 77) true, none⟩])
  (.ret)))))), [.t 4]⟩
theorem row37 : RowOk Try.prog 37 C37 := ⟨Try.f37, ⟨[], [], [], []⟩, lvOf [(0, [2, 5, 6, 7], 1)], Try.func37, by kernel_rfl, by kernel_rfl⟩
def B38_0 : C := .seq (.seq (.reg [⟨some 7, .mv (.t 6) false, none⟩, ⟨some 8, .fa 3 (.t 2), none⟩, ⟨some 9, .load 1 false (.t 8) false, none⟩, ⟨some 10, .len (.t 9), none⟩, ⟨some 11, .bin .lss (.t 7) (.t 10), none⟩, ⟨some 12, .mv (.t 11) false, none⟩, ⟨some 13, .load 4 true (.t 2) false, some (12, true)⟩, ⟨some 14, .call 47 [(.t 13)] false, some (12, true)⟩, ⟨some 15, .pick (.t 12) (.t 14) (.c (.bool false)), none⟩])
  (.cond (.t 15) (.skip)
  (.exit 0)))
  (.seq (.block 1 (.seq (.reg [⟨some 18, .fa 3 (.t 2), none⟩, ⟨some 19, .load 1 false (.t 18) false, none⟩, ⟨some 20, .mv (.t 6) false, none⟩, ⟨some 21, .ia 6 (.t 19) (.t 20), none⟩, ⟨some 22, .fa 4 (.t 21), none⟩, ⟨some 23, .load 1 false (.t 22) false, none⟩, ⟨some 24, .mv (.t 1) false, none⟩, ⟨some 25, .bin .eql (.t 23) (.t 24), none⟩, ⟨some 26, .mv (.t 25) false, none⟩, ⟨some 27, .fa 3 (.t 2), some (26, true)⟩, ⟨some 28, .load 1 false (.t 27) false, some (26, true)⟩, ⟨some 29, .mv (.t 6) false, some (26, true)⟩, ⟨some 30, .ia 6 (.t 28) (.t 29), some (26, true)⟩, ⟨some 31, .load 6 true (.t 30) false, some (26, true)⟩, ⟨some 32, .call 61 [(.t 31)] false, some (26, true)⟩, ⟨some 33, .bin .gtr (.t 32) (.c (.int .i64 0)), some (26, true)⟩, ⟨some 34, .pick (.t 26) (.t 33) (.c (.bool false)), none⟩])
  (.cond (.t 34) (.reg [⟨some 35, .mv (.t 5) false, none⟩, ⟨some 36, .bin .add (.t 35) (.c (.int .i64 1)), none⟩, ⟨some 5, .mv (.t 36) true, none⟩])
  (.skip))))
  (.reg [⟨some 16, .mv (.t 6) false, none⟩, ⟨some 17, .bin .add (.t 16) (.c (.int .i64 1)), none⟩, ⟨some 6, .mv (.t 17) true, none⟩]))
def L38_0 : C := .loop [1, 2, 5, 6] 1 B38_0
theorem go38_0 (s : Env × Bx) (nb) : evL tab ext nb L38_0 s = (loopIn nb [1, 2, 5, 6] 1 s).bind fun s0 => (evL tab ext nb B38_0 s0).bind (seqG tab ext nb L38_0) := eL_loop _ _ _
/-- swingbridge/swingbridgeref11.Askers -/
def C38 : CFun := ⟨38, 2, .seq (.reg [⟨some 2, .box (.t 0), none⟩, ⟨some 4, .mv (.c (.int .i64 0)) true, none⟩])
  (.seq (.reg [⟨some 5, .mv (.c (.int .i64 0)) true, none⟩])
  (.seq (.seq (.reg [⟨some 6, .mv (.c (.int .i64 0)) true, none⟩])
  (.block 0 (L38_0)))
  (.seq (.reg [⟨some 37, .mv (.t 5) false, none⟩, ⟨some 4, .mv (.t 37) true, none⟩])
  (.ret)))), [.t 4]⟩
theorem row38 : RowOk Try.prog 38 C38 := ⟨Try.f38, ⟨[], [], [], []⟩, lvOf [(0, [1, 2, 5, 6], 1)], Try.func38, by kernel_rfl, by kernel_rfl⟩
/-- swingbridge/swingbridgelaw14.two -/
def C39 : CFun := ⟨31, 5, .seq (.reg [⟨some 10, .alloc [(.int .i64 0), (.slice none 0 0), (.slice none 0 0), (.slice none 0 0)], none⟩])
  (.seq (.reg [⟨some 12, .mv (.t 0) false, none⟩, ⟨some 13, .mv (.t 1) false, none⟩, ⟨some 14, .build [(.int .i64 0), (.int .i64 0), (.int .i64 0)] [(0, 1, (.c (.int .i64 1))), (1, 1, (.t 13))], none⟩, ⟨some 15, .mv (.t 2) false, none⟩, ⟨some 16, .build [(.int .i64 0), (.int .i64 0), (.int .i64 0)] [(0, 1, (.c (.int .i64 3))), (1, 1, (.t 15))], none⟩, ⟨some 17, .bsl 3 2 [(.int .i64 0), (.int .i64 0), (.int .i64 0), (.int .i64 0), (.int .i64 0), (.int .i64 0)] [(0, 3, (.t 14)), (3, 3, (.t 16))] false, none⟩, ⟨some 18, .call 63 [(.t 12), (.t 17)] true, none⟩, ⟨some 11, .alloc [(.int .i64 0), (.slice none 0 0), (.slice none 0 0), (.slice none 0 0)], none⟩, ⟨none, .store 4 (.t 11) (.t 18), none⟩])
  (.seq (.reg [⟨some 19, .fa 3 (.t 11), none⟩, ⟨some 20, .load 1 false (.t 19) true, none⟩, ⟨some 21, .mv (.t 3) false, none⟩, ⟨some 22, .build [(.int .i64 0), (.int .i64 0), (.int .i64 0)] [(0, 1, (.c (.int .i64 1))), (1, 1, (.t 21))], none⟩, ⟨some 23, .mv (.t 4) false, none⟩, ⟨some 24, .build [(.int .i64 0), (.int .i64 0), (.int .i64 0)] [(0, 1, (.c (.int .i64 3))), (1, 1, (.t 23))], none⟩, ⟨some 25, .bsl 3 2 [(.int .i64 0), (.int .i64 0), (.int .i64 0), (.int .i64 0), (.int .i64 0), (.int .i64 0)] [(0, 3, (.t 22)), (3, 3, (.t 24))] false, none⟩, ⟨some 26, .build [(.string ⟨#[]⟩), (.int .i64 0), (.int .i64 0), (.int .i64 0), (.int .i64 0), (.slice none 0 0)] [(0, 1, (.c (.string ⟨#[98]⟩))), (1, 1, (.c (.int .i64 200))), (2, 1, (.c (.int .i64 200))), (3, 1, (.c (.int .i64 2))), (5, 1, (.t 25))], none⟩, ⟨some 27, .bsl 6 1 [(.string ⟨#[]⟩), (.int .i64 0), (.int .i64 0), (.int .i64 0), (.int .i64 0), (.slice none 0 0)] [(0, 6, (.t 26))] false, none⟩, ⟨some 28, .app 6 72 (.t 20) (.t 27) false, none⟩, ⟨some 29, .fa 3 (.t 11), none⟩, ⟨none, .store 1 (.t 29) (.t 28), none⟩])
  (.seq (.reg [⟨some 30, .load 4 true (.t 11) false, none⟩, ⟨none, .store 4 (.t 10) (.t 30), none⟩])
  (.ret)))), [.cell 10 4]⟩
theorem row39 : RowOk Try.prog 39 C39 := ⟨Try.f39, ⟨[], [], [63], []⟩, lvOf [], Try.func39, by kernel_rfl, by kernel_rfl⟩
/-- swingbridge/agent.there -/
def C40 : CFun := ⟨25, 2, .seq (.reg [⟨some 2, .box (.t 0), none⟩, ⟨some 4, .mv (.c (.bool false)) true, none⟩])
  (.seq (.reg [⟨some 8, .load 4 true (.t 2) false, none⟩, ⟨some 9, .call 64 [(.t 8)] false, none⟩, ⟨some 7, .mv (.t 9) false, none⟩, ⟨some 10, .ext (.t 7) 0, none⟩, ⟨some 11, .ext (.t 7) 1, none⟩, ⟨some 5, .mv (.t 10) true, none⟩, ⟨some 6, .mv (.t 11) true, none⟩])
  (.seq (.reg [⟨some 12, .mv (.t 6) false, none⟩, ⟨some 13, .bin .eql (.t 12) (.c (.int .i64 0)), none⟩, ⟨some 14, .mv (.t 13) false, none⟩, ⟨some 15, .mv (.t 1) false, some (14, true)⟩, ⟨some 16, .bin .geq (.t 15) (.c (.int .i64 0)), some (14, true)⟩, ⟨some 17, .pick (.t 14) (.t 16) (.c (.bool false)), none⟩, ⟨some 18, .mv (.t 17) false, none⟩, ⟨some 19, .mv (.t 1) false, some (18, true)⟩, ⟨some 20, .fa 3 (.t 2), some (18, true)⟩, ⟨some 21, .load 1 false (.t 20) false, some (18, true)⟩, ⟨some 22, .len (.t 21), some (18, true)⟩, ⟨some 23, .bin .lss (.t 19) (.t 22), some (18, true)⟩, ⟨some 24, .pick (.t 18) (.t 23) (.c (.bool false)), none⟩, ⟨some 4, .mv (.t 24) true, none⟩])
  (.ret))), [.t 4]⟩
theorem row40 : RowOk Try.prog 40 C40 := ⟨Try.f40, ⟨[], [], [], []⟩, lvOf [], Try.func40, by kernel_rfl, by kernel_rfl⟩
/-- swingbridge/swingbridgeref11.lock -/
def C41 : CFun := ⟨50, 3, .seq (.reg [⟨some 3, .box (.t 0), none⟩, ⟨some 6, .alloc [(.int .i64 0), (.int .i64 0), (.int .i64 0)], none⟩, ⟨some 7, .mv (.c (.bool false)) true, none⟩])
  (.seq (.seq (.reg [⟨some 8, .load 4 true (.t 3) false, none⟩, ⟨some 9, .mv (.t 1) false, none⟩, ⟨some 10, .call 23 [(.t 8), (.t 9)] false, none⟩, ⟨some 11, .un .not (.t 10), none⟩, ⟨some 12, .mv (.t 11) false, none⟩, ⟨some 13, .mv (.t 2) false, some (12, false)⟩, ⟨some 14, .bin .lss (.t 13) (.c (.int .i64 0)), some (12, false)⟩, ⟨some 15, .pick (.t 12) (.c (.bool true)) (.t 14), none⟩, ⟨some 16, .mv (.t 15) false, none⟩, ⟨some 17, .mv (.t 2) false, some (16, false)⟩, ⟨some 18, .fa 3 (.t 3), some (16, false)⟩, ⟨some 19, .load 1 false (.t 18) false, some (16, false)⟩, ⟨some 20, .mv (.t 1) false, some (16, false)⟩, ⟨some 21, .ia 6 (.t 19) (.t 20), some (16, false)⟩, ⟨some 22, .fa 5 (.t 21), some (16, false)⟩, ⟨some 23, .load 1 false (.t 22) false, some (16, false)⟩, ⟨some 24, .len (.t 23), some (16, false)⟩, ⟨some 25, .bin .geq (.t 17) (.t 24), some (16, false)⟩, ⟨some 26, .pick (.t 16) (.c (.bool true)) (.t 25), none⟩, ⟨some 27, .mv (.t 26) false, none⟩, ⟨some 28, .fa 3 (.t 3), some (27, false)⟩, ⟨some 29, .load 1 false (.t 28) false, some (27, false)⟩, ⟨some 30, .mv (.t 1) false, some (27, false)⟩, ⟨some 31, .ia 6 (.t 29) (.t 30), some (27, false)⟩, ⟨some 32, .fa 5 (.t 31), some (27, false)⟩, ⟨some 33, .load 1 false (.t 32) false, some (27, false)⟩, ⟨some 34, .mv (.t 2) false, some (27, false)⟩, ⟨some 35, .ia 3 (.t 33) (.t 34), some (27, false)⟩, ⟨some 36, .fa 0 (.t 35), some (27, false)⟩, ⟨some 37, .load 1 false (.t 36) false, some (27, false)⟩, ⟨some 38, .bin .neq (.t 37) (.c (.int .i64 3)), some (27, false)⟩, ⟨some 39, .pick (.t 27) (.c (.bool true)) (.t 38), none⟩])
  (.cond (.t 39) (.seq (.reg [⟨some 40, .build [(.int .i64 0), (.int .i64 0), (.int .i64 0)] [], none⟩, ⟨none, .store 3 (.t 6) (.t 40), none⟩, ⟨some 7, .mv (.c (.bool false)) true, none⟩])
  (.ret))
  (.skip)))
  (.seq (.reg [⟨some 41, .fa 3 (.t 3), none⟩, ⟨some 42, .load 1 false (.t 41) false, none⟩, ⟨some 43, .mv (.t 1) false, none⟩, ⟨some 44, .ia 6 (.t 42) (.t 43), none⟩, ⟨some 45, .fa 5 (.t 44), none⟩, ⟨some 46, .load 1 false (.t 45) false, none⟩, ⟨some 47, .mv (.t 2) false, none⟩, ⟨some 48, .ia 3 (.t 46) (.t 47), none⟩, ⟨some 49, .load 3 true (.t 48) false, none⟩, ⟨none, .store 3 (.t 6) (.t 49), none⟩, ⟨some 7, .mv (.c (.bool true)) true, none⟩])
  (.ret))), [.cell 6 3, .t 7]⟩
theorem row41 : RowOk Try.prog 41 C41 := ⟨Try.f41, ⟨[], [], [], []⟩, lvOf [], Try.func41, by kernel_rfl, by kernel_rfl⟩
def B42_0 : C := .seq (.reg [⟨some 16, .bin .lss (.t 15) (.t 14), none⟩])
  (.seq (.cond (.t 16) (.skip)
  (.exit 0))
  (.seq (.block 1 (.seq (.reg [⟨some 17, .ia 1 (.t 13) (.t 15), none⟩, ⟨some 18, .load 1 false (.t 17) false, none⟩, ⟨some 9, .mv (.t 18) true, none⟩])
  (.reg [⟨some 19, .mv (.t 7) false, none⟩, ⟨some 20, .mv (.t 9) false, none⟩, ⟨some 21, .mxn true [(.t 19), (.t 20)], none⟩, ⟨some 7, .mv (.t 21) true, none⟩])))
  (.reg [⟨some 22, .bin .add (.t 15) (.c (.int .i64 1)), none⟩, ⟨some 15, .mv (.t 22) false, none⟩])))
def L42_0 : C := .loop [7, 13, 14, 15] 1 B42_0
theorem go42_0 (s : Env × Bx) (nb) : evL tab ext nb L42_0 s = (loopIn nb [7, 13, 14, 15] 1 s).bind fun s0 => (evL tab ext nb B42_0 s0).bind (seqG tab ext nb L42_0) := eL_loop _ _ _
/-- swingbridge/demand.Most -/
def C42 : CFun := ⟨24, 3, .seq (.reg [⟨some 3, .box (.t 0), none⟩, ⟨some 6, .mv (.c (.int .i64 0)) true, none⟩])
  (.seq (.reg [⟨some 7, .mv (.c (.int .i64 0)) true, none⟩])
  (.seq (.seq (.reg [⟨some 10, .load 4 true (.t 3) false, none⟩, ⟨some 11, .mv (.t 1) false, none⟩, ⟨some 12, .mv (.t 2) false, none⟩, ⟨some 13, .call 65 [(.t 10), (.t 11), (.t 12)] false, none⟩, ⟨some 14, .len (.t 13), none⟩, ⟨some 15, .mv (.c (.int .i64 0)) false, none⟩])
  (.block 0 (L42_0)))
  (.seq (.reg [⟨some 23, .mv (.t 7) false, none⟩, ⟨some 6, .mv (.t 23) true, none⟩])
  (.ret)))), [.t 6]⟩
theorem row42 : RowOk Try.prog 42 C42 := ⟨Try.f42, ⟨[], [], [], []⟩, lvOf [(0, [7, 13, 14, 15], 1)], Try.func42, by kernel_rfl, by kernel_rfl⟩
def B43_0 : C := .seq (.seq (.reg [⟨some 21, .mv (.t 11) false, none⟩, ⟨some 22, .fa 5 (.t 10), none⟩, ⟨some 23, .load 1 false (.t 22) false, none⟩, ⟨some 24, .len (.t 23), none⟩, ⟨some 25, .bin .lss (.t 21) (.t 24), none⟩])
  (.cond (.t 25) (.skip)
  (.exit 0)))
  (.seq (.block 1 (.seq (.reg [⟨some 28, .fa 5 (.t 10), none⟩, ⟨some 29, .load 1 false (.t 28) false, none⟩, ⟨some 30, .mv (.t 11) false, none⟩, ⟨some 31, .ia 3 (.t 29) (.t 30), none⟩, ⟨some 32, .fa 0 (.t 31), none⟩, ⟨some 33, .load 1 false (.t 32) false, none⟩, ⟨some 34, .bin .eql (.t 33) (.c (.int .i64 3)), none⟩, ⟨some 35, .mv (.t 34) false, none⟩, ⟨some 36, .fa 2 (.t 3), some (35, true)⟩, ⟨some 37, .load 1 false (.t 36) false, some (35, true)⟩, ⟨some 38, .fa 5 (.t 10), some (35, true)⟩, ⟨some 39, .load 1 false (.t 38) false, some (35, true)⟩, ⟨some 40, .mv (.t 11) false, some (35, true)⟩, ⟨some 41, .ia 3 (.t 39) (.t 40), some (35, true)⟩, ⟨some 42, .fa 2 (.t 41), some (35, true)⟩, ⟨some 43, .load 1 false (.t 42) false, some (35, true)⟩, ⟨some 44, .ia 1 (.t 37) (.t 43), some (35, true)⟩, ⟨some 45, .load 1 false (.t 44) false, some (35, true)⟩, ⟨some 46, .mv (.t 2) false, some (35, true)⟩, ⟨some 47, .bin .eql (.t 45) (.t 46), some (35, true)⟩, ⟨some 48, .pick (.t 35) (.t 47) (.c (.bool false)), none⟩])
  (.cond (.t 48) (.reg [⟨some 49, .mv (.t 8) false, none⟩, ⟨some 50, .fa 5 (.t 10), none⟩, ⟨some 51, .load 1 false (.t 50) false, none⟩, ⟨some 52, .mv (.t 11) false, none⟩, ⟨some 53, .ia 3 (.t 51) (.t 52), none⟩, ⟨some 54, .fa 1 (.t 53), none⟩, ⟨some 55, .load 1 false (.t 54) false, none⟩, ⟨some 56, .bin .add (.t 49) (.t 55), none⟩, ⟨some 57, .mv (.t 9) false, none⟩, ⟨some 58, .fa 5 (.t 10), none⟩, ⟨some 59, .load 1 false (.t 58) false, none⟩, ⟨some 60, .mv (.t 11) false, none⟩, ⟨some 61, .ia 3 (.t 59) (.t 60), none⟩, ⟨some 62, .fa 1 (.t 61), none⟩, ⟨some 63, .load 1 false (.t 62) false, none⟩, ⟨some 64, .mxn true [(.t 57), (.t 63)], none⟩, ⟨some 8, .mv (.t 56) true, none⟩, ⟨some 9, .mv (.t 64) true, none⟩])
  (.skip))))
  (.reg [⟨some 26, .mv (.t 11) false, none⟩, ⟨some 27, .bin .add (.t 26) (.c (.int .i64 1)), none⟩, ⟨some 11, .mv (.t 27) true, none⟩]))
def L43_0 : C := .loop [2, 3, 8, 9, 10, 11] 2 B43_0
theorem go43_0 (s : Env × Bx) (nb) : evL tab ext nb L43_0 s = (loopIn nb [2, 3, 8, 9, 10, 11] 2 s).bind fun s0 => (evL tab ext nb B43_0 s0).bind (seqG tab ext nb L43_0) := eL_loop _ _ _
/-- swingbridge/swingbridgeref11.At -/
def C43 : CFun := ⟨67, 3, .seq (.reg [⟨some 3, .box (.t 0), none⟩, ⟨some 6, .mv (.c (.int .i64 0)) true, none⟩, ⟨some 7, .mv (.c (.int .i64 0)) true, none⟩])
  (.seq (.reg [⟨some 8, .mv (.c (.int .i64 0)) true, none⟩, ⟨some 9, .mv (.c (.int .i64 0)) true, none⟩])
  (.seq (.seq (.reg [⟨some 12, .load 4 true (.t 3) false, none⟩, ⟨some 13, .mv (.t 1) false, none⟩, ⟨some 14, .call 23 [(.t 12), (.t 13)] false, none⟩, ⟨some 15, .un .not (.t 14), none⟩])
  (.cond (.t 15) (.seq (.reg [⟨some 6, .mv (.c (.int .i64 0)) true, none⟩, ⟨some 7, .mv (.c (.int .i64 0)) true, none⟩])
  (.ret))
  (.skip)))
  (.seq (.reg [⟨some 16, .fa 3 (.t 3), none⟩, ⟨some 17, .load 1 false (.t 16) false, none⟩, ⟨some 18, .mv (.t 1) false, none⟩, ⟨some 19, .ia 6 (.t 17) (.t 18), none⟩, ⟨some 20, .load 6 true (.t 19) false, none⟩, ⟨some 10, .alloc [(.string ⟨#[]⟩), (.int .i64 0), (.int .i64 0), (.int .i64 0), (.int .i64 0), (.slice none 0 0)], none⟩, ⟨none, .store 6 (.t 10) (.t 20), none⟩])
  (.seq (.seq (.reg [⟨some 11, .mv (.c (.int .i64 0)) true, none⟩])
  (.block 0 (L43_0)))
  (.seq (.reg [⟨some 65, .mv (.t 8) false, none⟩, ⟨some 66, .mv (.t 9) false, none⟩, ⟨some 6, .mv (.t 65) true, none⟩, ⟨some 7, .mv (.t 66) true, none⟩])
  (.ret)))))), [.t 6, .t 7]⟩
theorem row43 : RowOk Try.prog 43 C43 := ⟨Try.f43, ⟨[], [], [], []⟩, lvOf [(0, [2, 3, 8, 9, 10, 11], 2)], Try.func43, by kernel_rfl, by kernel_rfl⟩
/-- swingbridge/count.Work -/
def C44 : CFun := ⟨19, 4, .seq (.reg [⟨some 8, .mv (.c (.int .i64 0)) true, none⟩])
  (.seq (.reg [⟨some 9, .mv (.t 0) false, none⟩, ⟨some 10, .mv (.t 1) false, none⟩, ⟨some 11, .mv (.t 2) false, none⟩, ⟨some 12, .call 68 [(.t 9), (.t 10), (.t 11)] false, none⟩, ⟨some 13, .mv (.t 3) false, none⟩, ⟨some 14, .mxn true [(.t 13), (.c (.int .i64 0))], none⟩, ⟨some 15, .call 67 [(.t 12), (.t 14)] false, none⟩, ⟨some 16, .ext (.t 15) 0, none⟩, ⟨some 17, .ext (.t 15) 1, none⟩, ⟨some 18, .call 66 [(.t 16), (.t 17)] false, none⟩, ⟨some 8, .mv (.t 18) true, none⟩])
  (.ret)), [.t 8]⟩
theorem row44 : RowOk Try.prog 44 C44 := ⟨Try.f44, ⟨[], [], [], []⟩, lvOf [], Try.func44, by kernel_rfl, by kernel_rfl⟩
def B45_0 : C := .seq (.reg [⟨some 16, .bin .lss (.t 15) (.t 14), none⟩])
  (.seq (.cond (.t 16) (.skip)
  (.exit 0))
  (.seq (.block 1 (.seq (.reg [⟨some 17, .ia 1 (.t 13) (.t 15), none⟩, ⟨some 18, .load 1 false (.t 17) false, none⟩, ⟨some 9, .mv (.t 18) true, none⟩])
  (.reg [⟨some 19, .mv (.t 7) false, none⟩, ⟨some 20, .mv (.t 9) false, none⟩, ⟨some 21, .bin .add (.t 19) (.t 20), none⟩, ⟨some 7, .mv (.t 21) true, none⟩])))
  (.reg [⟨some 22, .bin .add (.t 15) (.c (.int .i64 1)), none⟩, ⟨some 15, .mv (.t 22) false, none⟩])))
def L45_0 : C := .loop [7, 13, 14, 15] 1 B45_0
theorem go45_0 (s : Env × Bx) (nb) : evL tab ext nb L45_0 s = (loopIn nb [7, 13, 14, 15] 1 s).bind fun s0 => (evL tab ext nb B45_0 s0).bind (seqG tab ext nb L45_0) := eL_loop _ _ _
/-- swingbridge/demand.At -/
def C45 : CFun := ⟨24, 3, .seq (.reg [⟨some 3, .box (.t 0), none⟩, ⟨some 6, .mv (.c (.int .i64 0)) true, none⟩])
  (.seq (.reg [⟨some 7, .mv (.c (.int .i64 0)) true, none⟩])
  (.seq (.seq (.reg [⟨some 10, .load 4 true (.t 3) false, none⟩, ⟨some 11, .mv (.t 1) false, none⟩, ⟨some 12, .mv (.t 2) false, none⟩, ⟨some 13, .call 65 [(.t 10), (.t 11), (.t 12)] false, none⟩, ⟨some 14, .len (.t 13), none⟩, ⟨some 15, .mv (.c (.int .i64 0)) false, none⟩])
  (.block 0 (L45_0)))
  (.seq (.reg [⟨some 23, .mv (.t 7) false, none⟩, ⟨some 6, .mv (.t 23) true, none⟩])
  (.ret)))), [.t 6]⟩
theorem row45 : RowOk Try.prog 45 C45 := ⟨Try.f45, ⟨[], [], [], []⟩, lvOf [(0, [7, 13, 14, 15], 1)], Try.func45, by kernel_rfl, by kernel_rfl⟩
/-- swingbridge/swingbridgeref11.Work -/
def C46 : CFun := ⟨18, 4, .seq (.reg [⟨some 8, .mv (.c (.int .i64 0)) true, none⟩])
  (.seq (.reg [⟨some 9, .mv (.t 0) false, none⟩, ⟨some 10, .mv (.t 1) false, none⟩, ⟨some 11, .mv (.t 2) false, none⟩, ⟨some 12, .call 69 [(.t 9), (.t 10), (.t 11)] false, none⟩, ⟨some 13, .mv (.t 3) false, none⟩, ⟨some 14, .mxn false [(.t 13), (.c (.int .i64 1073741824))], none⟩, ⟨some 15, .mxn true [(.c (.int .i64 0)), (.t 14)], none⟩, ⟨some 16, .bin .mul (.t 12) (.t 15), none⟩, ⟨some 17, .mxn false [(.t 16), (.c (.int .i64 1000000))], none⟩, ⟨some 8, .mv (.t 17) true, none⟩])
  (.ret)), [.t 8]⟩
theorem row46 : RowOk Try.prog 46 C46 := ⟨Try.f46, ⟨[], [], [], []⟩, lvOf [], Try.func46, by kernel_rfl, by kernel_rfl⟩
/-- swingbridge/swingbridgeref7.OK -/
def C47 : CFun := ⟨12, 1, .seq (.reg [⟨some 1, .box (.t 0), none⟩, ⟨some 2, .mv (.c (.bool false)) true, none⟩])
  (.seq (.reg [⟨some 6, .load 4 true (.t 1) false, none⟩, ⟨some 7, .call 70 [(.t 6)] false, none⟩, ⟨some 5, .mv (.t 7) false, none⟩, ⟨some 8, .ext (.t 5) 0, none⟩, ⟨some 9, .ext (.t 5) 1, none⟩, ⟨some 3, .mv (.t 8) true, none⟩, ⟨some 4, .mv (.t 9) true, none⟩])
  (.seq (.reg [⟨some 10, .mv (.t 4) false, none⟩, ⟨some 11, .bin .eql (.t 10) (.c (.int .i64 0)), none⟩, ⟨some 2, .mv (.t 11) true, none⟩])
  (.ret))), [.t 2]⟩
theorem row47 : RowOk Try.prog 47 C47 := ⟨Try.f47, ⟨[], [], [], []⟩, lvOf [], Try.func47, by kernel_rfl, by kernel_rfl⟩
/-- swingbridge/swingbridgelaw13.two -/
def C48 : CFun := ⟨31, 5, .seq (.reg [⟨some 10, .alloc [(.int .i64 0), (.slice none 0 0), (.slice none 0 0), (.slice none 0 0)], none⟩])
  (.seq (.reg [⟨some 12, .mv (.t 0) false, none⟩, ⟨some 13, .mv (.t 1) false, none⟩, ⟨some 14, .build [(.int .i64 0), (.int .i64 0), (.int .i64 0)] [(0, 1, (.c (.int .i64 1))), (1, 1, (.t 13))], none⟩, ⟨some 15, .mv (.t 2) false, none⟩, ⟨some 16, .build [(.int .i64 0), (.int .i64 0), (.int .i64 0)] [(0, 1, (.c (.int .i64 3))), (1, 1, (.t 15))], none⟩, ⟨some 17, .bsl 3 2 [(.int .i64 0), (.int .i64 0), (.int .i64 0), (.int .i64 0), (.int .i64 0), (.int .i64 0)] [(0, 3, (.t 14)), (3, 3, (.t 16))] false, none⟩, ⟨some 18, .call 71 [(.t 12), (.t 17)] true, none⟩, ⟨some 11, .alloc [(.int .i64 0), (.slice none 0 0), (.slice none 0 0), (.slice none 0 0)], none⟩, ⟨none, .store 4 (.t 11) (.t 18), none⟩])
  (.seq (.reg [⟨some 19, .fa 3 (.t 11), none⟩, ⟨some 20, .load 1 false (.t 19) true, none⟩, ⟨some 21, .mv (.t 3) false, none⟩, ⟨some 22, .build [(.int .i64 0), (.int .i64 0), (.int .i64 0)] [(0, 1, (.c (.int .i64 1))), (1, 1, (.t 21))], none⟩, ⟨some 23, .mv (.t 4) false, none⟩, ⟨some 24, .build [(.int .i64 0), (.int .i64 0), (.int .i64 0)] [(0, 1, (.c (.int .i64 3))), (1, 1, (.t 23))], none⟩, ⟨some 25, .bsl 3 2 [(.int .i64 0), (.int .i64 0), (.int .i64 0), (.int .i64 0), (.int .i64 0), (.int .i64 0)] [(0, 3, (.t 22)), (3, 3, (.t 24))] false, none⟩, ⟨some 26, .build [(.string ⟨#[]⟩), (.int .i64 0), (.int .i64 0), (.int .i64 0), (.int .i64 0), (.slice none 0 0)] [(0, 1, (.c (.string ⟨#[98]⟩))), (1, 1, (.c (.int .i64 200))), (2, 1, (.c (.int .i64 200))), (3, 1, (.c (.int .i64 2))), (5, 1, (.t 25))], none⟩, ⟨some 27, .bsl 6 1 [(.string ⟨#[]⟩), (.int .i64 0), (.int .i64 0), (.int .i64 0), (.int .i64 0), (.slice none 0 0)] [(0, 6, (.t 26))] false, none⟩, ⟨some 28, .app 6 72 (.t 20) (.t 27) false, none⟩, ⟨some 29, .fa 3 (.t 11), none⟩, ⟨none, .store 1 (.t 29) (.t 28), none⟩])
  (.seq (.reg [⟨some 30, .load 4 true (.t 11) false, none⟩, ⟨none, .store 4 (.t 10) (.t 30), none⟩])
  (.ret)))), [.cell 10 4]⟩
theorem row48 : RowOk Try.prog 48 C48 := ⟨Try.f48, ⟨[], [], [71], []⟩, lvOf [], Try.func48, by kernel_rfl, by kernel_rfl⟩
/-- swingbridge/fair.locked -/
def C49 : CFun := ⟨58, 3, .seq (.reg [⟨some 3, .box (.t 0), none⟩, ⟨some 6, .alloc [(.int .i64 0), (.int .i64 0), (.int .i64 0)], none⟩, ⟨some 7, .mv (.c (.bool false)) true, none⟩])
  (.seq (.seq (.reg [⟨some 12, .load 4 true (.t 3) false, none⟩, ⟨some 13, .call 64 [(.t 12)] false, none⟩, ⟨some 11, .mv (.t 13) false, none⟩, ⟨some 14, .ext (.t 11) 0, none⟩, ⟨some 15, .ext (.t 11) 1, none⟩, ⟨some 8, .mv (.t 14) true, none⟩, ⟨some 9, .mv (.t 15) true, none⟩])
  (.seq (.reg [⟨some 16, .mv (.t 9) false, none⟩, ⟨some 17, .bin .neq (.t 16) (.c (.int .i64 0)), none⟩, ⟨some 18, .mv (.t 17) false, none⟩, ⟨some 19, .mv (.t 1) false, some (18, false)⟩, ⟨some 20, .bin .lss (.t 19) (.c (.int .i64 0)), some (18, false)⟩, ⟨some 21, .pick (.t 18) (.c (.bool true)) (.t 20), none⟩, ⟨some 22, .mv (.t 21) false, none⟩, ⟨some 23, .mv (.t 1) false, some (22, false)⟩, ⟨some 24, .fa 3 (.t 3), some (22, false)⟩, ⟨some 25, .load 1 false (.t 24) false, some (22, false)⟩, ⟨some 26, .len (.t 25), some (22, false)⟩, ⟨some 27, .bin .geq (.t 23) (.t 26), some (22, false)⟩, ⟨some 28, .pick (.t 22) (.c (.bool true)) (.t 27), none⟩, ⟨some 29, .mv (.t 28) false, none⟩, ⟨some 30, .mv (.t 2) false, some (29, false)⟩, ⟨some 31, .bin .lss (.t 30) (.c (.int .i64 0)), some (29, false)⟩, ⟨some 32, .pick (.t 29) (.c (.bool true)) (.t 31), none⟩, ⟨some 33, .mv (.t 32) false, none⟩, ⟨some 34, .mv (.t 2) false, some (33, false)⟩, ⟨some 35, .fa 3 (.t 3), some (33, false)⟩, ⟨some 36, .load 1 false (.t 35) false, some (33, false)⟩, ⟨some 37, .mv (.t 1) false, some (33, false)⟩, ⟨some 38, .ia 6 (.t 36) (.t 37), some (33, false)⟩, ⟨some 39, .fa 5 (.t 38), some (33, false)⟩, ⟨some 40, .load 1 false (.t 39) false, some (33, false)⟩, ⟨some 41, .len (.t 40), some (33, false)⟩, ⟨some 42, .bin .geq (.t 34) (.t 41), some (33, false)⟩, ⟨some 43, .pick (.t 33) (.c (.bool true)) (.t 42), none⟩])
  (.cond (.t 43) (.seq (.reg [⟨some 44, .build [(.int .i64 0), (.int .i64 0), (.int .i64 0)] [], none⟩, ⟨none, .store 3 (.t 6) (.t 44), none⟩, ⟨some 7, .mv (.c (.bool false)) true, none⟩])
  (.ret))
  (.skip))))
  (.seq (.reg [⟨some 45, .fa 3 (.t 3), none⟩, ⟨some 46, .load 1 false (.t 45) false, none⟩, ⟨some 47, .mv (.t 1) false, none⟩, ⟨some 48, .ia 6 (.t 46) (.t 47), none⟩, ⟨some 49, .fa 5 (.t 48), none⟩, ⟨some 50, .load 1 false (.t 49) false, none⟩, ⟨some 51, .mv (.t 2) false, none⟩, ⟨some 52, .ia 3 (.t 50) (.t 51), none⟩, ⟨some 53, .load 3 true (.t 52) false, none⟩, ⟨some 10, .alloc [(.int .i64 0), (.int .i64 0), (.int .i64 0)], none⟩, ⟨none, .store 3 (.t 10) (.t 53), none⟩])
  (.seq (.dreg [(55, 10)] [(6, 10)] [⟨some 54, .load 3 true (.t 10) false, none⟩, ⟨some 55, .fa 0 (.t 10), none⟩, ⟨some 56, .load 1 false (.t 55) false, none⟩, ⟨some 57, .bin .eql (.t 56) (.c (.int .i64 3)), none⟩, ⟨none, .store 3 (.t 6) (.t 54), none⟩, ⟨some 7, .mv (.t 57) true, none⟩])
  (.ret)))), [.cell 6 3, .t 7]⟩
theorem row49 : RowOk Try.prog 49 C49 := ⟨Try.f49, ⟨[], [], [], []⟩, lvOf [], Try.func49, by kernel_rfl, by kernel_rfl⟩
def B50_0 : C := .seq (.reg [⟨some 32, .bin .lss (.t 31) (.t 30), none⟩])
  (.seq (.cond (.t 32) (.skip)
  (.exit 0))
  (.seq (.block 1 (.seq (.reg [⟨some 33, .mv (.t 31) false, none⟩, ⟨some 34, .ia 6 (.t 29) (.t 31), none⟩, ⟨some 35, .load 6 true (.t 34) false, none⟩, ⟨some 9, .alloc [(.string ⟨#[]⟩), (.int .i64 0), (.int .i64 0), (.int .i64 0), (.int .i64 0), (.slice none 0 0)], none⟩, ⟨some 8, .mv (.t 33) true, none⟩, ⟨none, .store 6 (.t 9) (.t 35), none⟩])
  (.seq (.seq (.reg [⟨some 36, .mv (.t 8) false, none⟩, ⟨some 37, .mv (.t 1) false, none⟩, ⟨some 38, .bin .eql (.t 36) (.t 37), none⟩, ⟨some 39, .mv (.t 38) false, none⟩, ⟨some 40, .load 6 true (.t 9) false, some (39, false)⟩, ⟨some 41, .call 58 [(.t 40)] false, some (39, false)⟩, ⟨some 42, .bin .eql (.t 41) (.c (.int .i64 0)), some (39, false)⟩, ⟨some 43, .pick (.t 39) (.c (.bool true)) (.t 42), none⟩])
  (.cond (.t 43) (.exit 1)
  (.skip)))
  (.reg [⟨some 44, .mv (.t 5) true, none⟩, ⟨some 45, .load 6 true (.t 9) false, none⟩, ⟨some 46, .call 58 [(.t 45)] false, none⟩, ⟨some 47, .bsl 1 1 [(.int .i64 0)] [(0, 1, (.t 46))] false, none⟩, ⟨some 48, .app 1 8 (.t 44) (.t 47) false, none⟩, ⟨some 5, .mv (.t 48) true, none⟩]))))
  (.reg [⟨some 49, .bin .add (.t 31) (.c (.int .i64 1)), none⟩, ⟨some 31, .mv (.t 49) false, none⟩])))
def L50_0 : C := .loop [1, 5, 29, 30, 31] 1 B50_0
theorem go50_0 (s : Env × Bx) (nb) : evL tab ext nb L50_0 s = (loopIn nb [1, 5, 29, 30, 31] 1 s).bind fun s0 => (evL tab ext nb B50_0 s0).bind (seqG tab ext nb L50_0) := eL_loop _ _ _
/-- swingbridge/fair.others -/
def C50 : CFun := ⟨51, 2, .seq (.reg [⟨some 2, .box (.t 0), none⟩, ⟨some 4, .mv (.c (.slice none 0 0)) true, none⟩])
  (.scope (.seq (.reg [⟨some 5, .mv (.c (.slice none 0 0)) true, none⟩])
  (.seq (.seq (.reg [⟨some 11, .load 4 true (.t 2) false, none⟩, ⟨some 12, .call 64 [(.t 11)] false, none⟩, ⟨some 10, .mv (.t 12) false, none⟩, ⟨some 13, .ext (.t 10) 0, none⟩, ⟨some 14, .ext (.t 10) 1, none⟩, ⟨some 6, .mv (.t 13) true, none⟩, ⟨some 7, .mv (.t 14) true, none⟩])
  (.seq (.reg [⟨some 15, .mv (.t 7) false, none⟩, ⟨some 16, .bin .neq (.t 15) (.c (.int .i64 0)), none⟩, ⟨some 17, .mv (.t 16) false, none⟩, ⟨some 18, .mv (.t 1) false, some (17, false)⟩, ⟨some 19, .bin .lss (.t 18) (.c (.int .i64 0)), some (17, false)⟩, ⟨some 20, .pick (.t 17) (.c (.bool true)) (.t 19), none⟩, ⟨some 21, .mv (.t 20) false, none⟩, ⟨some 22, .mv (.t 1) false, some (21, false)⟩, ⟨some 23, .fa 3 (.t 2), some (21, false)⟩, ⟨some 24, .load 1 false (.t 23) false, some (21, false)⟩, ⟨some 25, .len (.t 24), some (21, false)⟩, ⟨some 26, .bin .geq (.t 22) (.t 25), some (21, false)⟩, ⟨some 27, .pick (.t 21) (.c (.bool true)) (.t 26), none⟩])
  (.cond (.t 27) (.seq (.reg [⟨some 4, .mv (.c (.slice none 0 0)) true, none⟩])
  (.ret))
  (.skip))))
  (.seq (.skip)
  (.seq (.seq (.reg [⟨some 28, .fa 3 (.t 2), none⟩, ⟨some 29, .load 1 false (.t 28) false, none⟩, ⟨some 30, .len (.t 29), none⟩, ⟨some 31, .mv (.c (.int .i64 0)) false, none⟩])
  (.block 0 (L50_0)))
  (.seq (.reg [⟨some 50, .mv (.t 5) false, none⟩, ⟨some 4, .mv (.t 50) true, none⟩])
  (.ret))))))), [.t 4]⟩
theorem row50 : RowOk Try.prog 50 C50 := ⟨Try.f50, ⟨[], [], [], []⟩, lvOf [(0, [1, 5, 29, 30, 31], 1)], Try.func50, by kernel_rfl, by kernel_rfl⟩
def B51_0 : C := .seq (.reg [⟨some 13, .bin .lss (.t 12) (.t 11), none⟩])
  (.seq (.cond (.t 13) (.skip)
  (.exit 0))
  (.seq (.block 1 (.seq (.reg [⟨some 14, .ia 1 (.t 10) (.t 12), none⟩, ⟨some 15, .load 1 false (.t 14) false, none⟩, ⟨some 7, .mv (.t 15) true, none⟩])
  (.reg [⟨some 16, .mv (.t 5) false, none⟩, ⟨some 17, .mv (.t 7) false, none⟩, ⟨some 18, .bin .add (.t 16) (.t 17), none⟩, ⟨some 5, .mv (.t 18) true, none⟩])))
  (.reg [⟨some 19, .bin .add (.t 12) (.c (.int .i64 1)), none⟩, ⟨some 12, .mv (.t 19) false, none⟩])))
def L51_0 : C := .loop [5, 10, 11, 12] 0 B51_0
theorem go51_0 (s : Env × Bx) (nb) : evL tab ext nb L51_0 s = (loopIn nb [5, 10, 11, 12] 0 s).bind fun s0 => (evL tab ext nb B51_0 s0).bind (seqG tab ext nb L51_0) := eL_loop _ _ _
/-- swingbridge/sorted.Sum -/
def C51 : CFun := ⟨21, 2, .seq (.reg [⟨some 4, .mv (.c (.int .i64 0)) true, none⟩])
  (.seq (.reg [⟨some 5, .mv (.c (.int .i64 0)) true, none⟩])
  (.seq (.seq (.reg [⟨some 8, .mv (.t 0) false, none⟩, ⟨some 9, .mv (.t 1) false, none⟩, ⟨some 10, .call 72 [(.t 8), (.t 9)] false, none⟩, ⟨some 11, .len (.t 10), none⟩, ⟨some 12, .mv (.c (.int .i64 0)) false, none⟩])
  (.block 0 (L51_0)))
  (.seq (.reg [⟨some 20, .mv (.t 5) false, none⟩, ⟨some 4, .mv (.t 20) true, none⟩])
  (.ret)))), [.t 4]⟩
theorem row51 : RowOk Try.prog 51 C51 := ⟨Try.f51, ⟨[], [], [], []⟩, lvOf [(0, [5, 10, 11, 12], 0)], Try.func51, by kernel_rfl, by kernel_rfl⟩
def B52_0 : C := .seq (.seq (.reg [⟨some 11, .mv (.t 7) false, none⟩, ⟨some 12, .mv (.t 5) false, none⟩, ⟨some 13, .len (.t 12), none⟩, ⟨some 14, .bin .lss (.t 11) (.t 13), none⟩])
  (.cond (.t 14) (.skip)
  (.exit 0)))
  (.seq (.block 1 (.reg [⟨some 17, .mv (.t 6) false, none⟩, ⟨some 18, .mv (.t 5) false, none⟩, ⟨some 19, .mv (.t 7) false, none⟩, ⟨some 20, .ia 1 (.t 18) (.t 19), none⟩, ⟨some 21, .load 1 false (.t 20) false, none⟩, ⟨some 22, .bin .add (.t 17) (.t 21), none⟩, ⟨some 6, .mv (.t 22) true, none⟩]))
  (.reg [⟨some 15, .mv (.t 7) false, none⟩, ⟨some 16, .bin .add (.t 15) (.c (.int .i64 1)), none⟩, ⟨some 7, .mv (.t 16) true, none⟩]))
def L52_0 : C := .loop [5, 6, 7] 0 B52_0
theorem go52_0 (s : Env × Bx) (nb) : evL tab ext nb L52_0 s = (loopIn nb [5, 6, 7] 0 s).bind fun s0 => (evL tab ext nb B52_0 s0).bind (seqG tab ext nb L52_0) := eL_loop _ _ _
/-- swingbridge/swingbridgeref2.Sum -/
def C52 : CFun := ⟨24, 2, .seq (.reg [⟨some 4, .mv (.c (.int .i64 0)) true, none⟩])
  (.seq (.reg [⟨some 8, .mv (.t 0) false, none⟩, ⟨some 9, .mv (.t 1) false, none⟩, ⟨some 10, .call 73 [(.t 8), (.t 9)] false, none⟩, ⟨some 5, .mv (.t 10) true, none⟩])
  (.seq (.reg [⟨some 6, .mv (.c (.int .i64 0)) true, none⟩])
  (.seq (.seq (.reg [⟨some 7, .mv (.c (.int .i64 0)) true, none⟩])
  (.block 0 (L52_0)))
  (.seq (.reg [⟨some 23, .mv (.t 6) false, none⟩, ⟨some 4, .mv (.t 23) true, none⟩])
  (.ret))))), [.t 4]⟩
theorem row52 : RowOk Try.prog 52 C52 := ⟨Try.f52, ⟨[], [], [], []⟩, lvOf [(0, [5, 6, 7], 0)], Try.func52, by kernel_rfl, by kernel_rfl⟩
def B53_0 : C := .seq (.seq (.reg [⟨some 7, .mv (.t 6) false, none⟩, ⟨some 8, .fa 3 (.t 2), none⟩, ⟨some 9, .load 1 false (.t 8) false, none⟩, ⟨some 10, .len (.t 9), none⟩, ⟨some 11, .bin .lss (.t 7) (.t 10), none⟩])
  (.cond (.t 11) (.skip)
  (.exit 0)))
  (.seq (.block 1 (.seq (.reg [⟨some 14, .mv (.t 6) false, none⟩, ⟨some 15, .mv (.t 1) false, none⟩, ⟨some 16, .bin .neq (.t 14) (.t 15), none⟩])
  (.cond (.t 16) (.reg [⟨some 17, .mv (.t 5) true, none⟩, ⟨some 18, .fa 3 (.t 2), none⟩, ⟨some 19, .load 1 false (.t 18) false, none⟩, ⟨some 20, .mv (.t 6) false, none⟩, ⟨some 21, .ia 6 (.t 19) (.t 20), none⟩, ⟨some 22, .load 6 true (.t 21) false, none⟩, ⟨some 23, .call 61 [(.t 22)] false, none⟩, ⟨some 24, .bsl 1 1 [(.int .i64 0)] [(0, 1, (.t 23))] false, none⟩, ⟨some 25, .app 1 8 (.t 17) (.t 24) false, none⟩, ⟨some 5, .mv (.t 25) true, none⟩])
  (.skip))))
  (.reg [⟨some 12, .mv (.t 6) false, none⟩, ⟨some 13, .bin .add (.t 12) (.c (.int .i64 1)), none⟩, ⟨some 6, .mv (.t 13) true, none⟩]))
def L53_0 : C := .loop [1, 2, 5, 6] 1 B53_0
theorem go53_0 (s : Env × Bx) (nb) : evL tab ext nb L53_0 s = (loopIn nb [1, 2, 5, 6] 1 s).bind fun s0 => (evL tab ext nb B53_0 s0).bind (seqG tab ext nb L53_0) := eL_loop _ _ _
/-- swingbridge/swingbridgeref11.others -/
def C53 : CFun := ⟨27, 2, .seq (.reg [⟨some 2, .box (.t 0), none⟩, ⟨some 4, .mv (.c (.slice none 0 0)) true, none⟩])
  (.seq (.reg [⟨some 5, .mv (.c (.slice none 0 0)) true, none⟩])
  (.seq (.seq (.reg [⟨some 6, .mv (.c (.int .i64 0)) true, none⟩])
  (.block 0 (L53_0)))
  (.seq (.reg [⟨some 26, .mv (.t 5) false, none⟩, ⟨some 4, .mv (.t 26) true, none⟩])
  (.ret)))), [.t 4]⟩
theorem row53 : RowOk Try.prog 53 C53 := ⟨Try.f53, ⟨[], [], [], []⟩, lvOf [(0, [1, 2, 5, 6], 1)], Try.func53, by kernel_rfl, by kernel_rfl⟩
/-- swingbridge/swingbridgelaw15.two -/
def C54 : CFun := ⟨31, 5, .seq (.reg [⟨some 10, .alloc [(.int .i64 0), (.slice none 0 0), (.slice none 0 0), (.slice none 0 0)], none⟩])
  (.seq (.reg [⟨some 12, .mv (.t 0) false, none⟩, ⟨some 13, .mv (.t 1) false, none⟩, ⟨some 14, .build [(.int .i64 0), (.int .i64 0), (.int .i64 0)] [(0, 1, (.c (.int .i64 1))), (1, 1, (.t 13))], none⟩, ⟨some 15, .mv (.t 2) false, none⟩, ⟨some 16, .build [(.int .i64 0), (.int .i64 0), (.int .i64 0)] [(0, 1, (.c (.int .i64 3))), (1, 1, (.t 15))], none⟩, ⟨some 17, .bsl 3 2 [(.int .i64 0), (.int .i64 0), (.int .i64 0), (.int .i64 0), (.int .i64 0), (.int .i64 0)] [(0, 3, (.t 14)), (3, 3, (.t 16))] false, none⟩, ⟨some 18, .call 74 [(.t 12), (.t 17)] true, none⟩, ⟨some 11, .alloc [(.int .i64 0), (.slice none 0 0), (.slice none 0 0), (.slice none 0 0)], none⟩, ⟨none, .store 4 (.t 11) (.t 18), none⟩])
  (.seq (.reg [⟨some 19, .fa 3 (.t 11), none⟩, ⟨some 20, .load 1 false (.t 19) true, none⟩, ⟨some 21, .mv (.t 3) false, none⟩, ⟨some 22, .build [(.int .i64 0), (.int .i64 0), (.int .i64 0)] [(0, 1, (.c (.int .i64 1))), (1, 1, (.t 21))], none⟩, ⟨some 23, .mv (.t 4) false, none⟩, ⟨some 24, .build [(.int .i64 0), (.int .i64 0), (.int .i64 0)] [(0, 1, (.c (.int .i64 3))), (1, 1, (.t 23))], none⟩, ⟨some 25, .bsl 3 2 [(.int .i64 0), (.int .i64 0), (.int .i64 0), (.int .i64 0), (.int .i64 0), (.int .i64 0)] [(0, 3, (.t 22)), (3, 3, (.t 24))] false, none⟩, ⟨some 26, .build [(.string ⟨#[]⟩), (.int .i64 0), (.int .i64 0), (.int .i64 0), (.int .i64 0), (.slice none 0 0)] [(0, 1, (.c (.string ⟨#[98]⟩))), (1, 1, (.c (.int .i64 200))), (2, 1, (.c (.int .i64 200))), (3, 1, (.c (.int .i64 2))), (5, 1, (.t 25))], none⟩, ⟨some 27, .bsl 6 1 [(.string ⟨#[]⟩), (.int .i64 0), (.int .i64 0), (.int .i64 0), (.int .i64 0), (.slice none 0 0)] [(0, 6, (.t 26))] false, none⟩, ⟨some 28, .app 6 72 (.t 20) (.t 27) false, none⟩, ⟨some 29, .fa 3 (.t 11), none⟩, ⟨none, .store 1 (.t 29) (.t 28), none⟩])
  (.seq (.reg [⟨some 30, .load 4 true (.t 11) false, none⟩, ⟨none, .store 4 (.t 10) (.t 30), none⟩])
  (.ret)))), [.cell 10 4]⟩
theorem row54 : RowOk Try.prog 54 C54 := ⟨Try.f54, ⟨[], [], [74], []⟩, lvOf [], Try.func54, by kernel_rfl, by kernel_rfl⟩
/-- swingbridge/token.there -/
def C55 : CFun := ⟨25, 2, .seq (.reg [⟨some 2, .box (.t 0), none⟩, ⟨some 4, .mv (.c (.bool false)) true, none⟩])
  (.seq (.reg [⟨some 8, .load 4 true (.t 2) false, none⟩, ⟨some 9, .call 64 [(.t 8)] false, none⟩, ⟨some 7, .mv (.t 9) false, none⟩, ⟨some 10, .ext (.t 7) 0, none⟩, ⟨some 11, .ext (.t 7) 1, none⟩, ⟨some 5, .mv (.t 10) true, none⟩, ⟨some 6, .mv (.t 11) true, none⟩])
  (.seq (.reg [⟨some 12, .mv (.t 6) false, none⟩, ⟨some 13, .bin .eql (.t 12) (.c (.int .i64 0)), none⟩, ⟨some 14, .mv (.t 13) false, none⟩, ⟨some 15, .mv (.t 1) false, some (14, true)⟩, ⟨some 16, .bin .geq (.t 15) (.c (.int .i64 0)), some (14, true)⟩, ⟨some 17, .pick (.t 14) (.t 16) (.c (.bool false)), none⟩, ⟨some 18, .mv (.t 17) false, none⟩, ⟨some 19, .mv (.t 1) false, some (18, true)⟩, ⟨some 20, .fa 3 (.t 2), some (18, true)⟩, ⟨some 21, .load 1 false (.t 20) false, some (18, true)⟩, ⟨some 22, .len (.t 21), some (18, true)⟩, ⟨some 23, .bin .lss (.t 19) (.t 22), some (18, true)⟩, ⟨some 24, .pick (.t 18) (.t 23) (.c (.bool false)), none⟩, ⟨some 4, .mv (.t 24) true, none⟩])
  (.ret))), [.t 4]⟩
theorem row55 : RowOk Try.prog 55 C55 := ⟨Try.f55, ⟨[], [], [], []⟩, lvOf [], Try.func55, by kernel_rfl, by kernel_rfl⟩
end Go.Proofs.YtiocdaeinahcoaaEv
