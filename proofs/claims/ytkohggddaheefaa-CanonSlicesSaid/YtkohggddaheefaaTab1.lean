/- The seat's functions in compact code; each row is checked against the program. -/
import Derived.Test.YtkohggddaheefaaEv4
import Derived.Test.YtkohggddaheefaaProg
import Derived.KernelRfl
namespace Go.Proofs.YtkohggddaheefaaEv
open Go
set_option maxRecDepth 100000
variable {tab : Nat → Option CFun} {ext : CallF}
/-- swingbridge/swingbridgelaw8.TaskTells -/
def C3 : CFun := ⟨52, 2, .seq (.reg [⟨some 2, .box (.t 0), none⟩, ⟨some 3, .box (.t 1), none⟩, ⟨some 4, .mv (.c (.bool false)) true, none⟩])
  (.seq (.seq (.reg [⟨some 9, .call 15 [] false, none⟩, ⟨some 10, .un .not (.t 9), none⟩])
  (.cond (.t 10) (.seq (.reg [⟨some 4, .mv (.c (.bool false)) true, none⟩])
  (.ret))
  (.skip)))
  (.seq (.seq (.reg [⟨some 11, .load 4 true (.t 2) false, none⟩, ⟨some 12, .call 16 [(.t 11)] false, none⟩, ⟨some 13, .un .not (.t 12), none⟩, ⟨some 14, .mv (.t 13) false, none⟩, ⟨some 15, .load 4 true (.t 3) false, some (14, false)⟩, ⟨some 16, .call 16 [(.t 15)] false, some (14, false)⟩, ⟨some 17, .un .not (.t 16), some (14, false)⟩, ⟨some 18, .pick (.t 14) (.c (.bool true)) (.t 17), none⟩])
  (.cond (.t 18) (.seq (.reg [⟨some 4, .mv (.c (.bool true)) true, none⟩])
  (.ret))
  (.skip)))
  (.seq (.reg [⟨some 20, .load 4 true (.t 2) false, none⟩, ⟨some 21, .call 17 [(.t 20)] false, none⟩, ⟨some 19, .mv (.t 21) false, none⟩, ⟨some 22, .ext (.t 19) 0, none⟩, ⟨some 23, .ext (.t 19) 1, none⟩, ⟨some 5, .mv (.t 22) true, none⟩, ⟨some 6, .mv (.t 23) true, none⟩])
  (.seq (.reg [⟨some 25, .load 4 true (.t 2) false, none⟩, ⟨some 26, .call 18 [(.t 25)] false, none⟩, ⟨some 24, .mv (.t 26) false, none⟩, ⟨some 27, .ext (.t 24) 0, none⟩, ⟨some 28, .ext (.t 24) 1, none⟩, ⟨some 7, .mv (.t 27) true, none⟩, ⟨some 8, .mv (.t 28) true, none⟩])
  (.seq (.reg [⟨some 29, .mv (.t 5) false, none⟩, ⟨some 30, .mv (.t 7) false, none⟩, ⟨some 31, .bin .eql (.t 29) (.t 30), none⟩, ⟨some 32, .mv (.t 31) false, none⟩, ⟨some 33, .mv (.t 6) false, some (32, true)⟩, ⟨some 34, .mv (.t 8) false, some (32, true)⟩, ⟨some 35, .bin .eql (.t 33) (.t 34), some (32, true)⟩, ⟨some 36, .pick (.t 32) (.t 35) (.c (.bool false)), none⟩, ⟨some 37, .mv (.t 36) false, none⟩, ⟨some 38, .load 4 true (.t 2) false, some (37, true)⟩, ⟨some 39, .load 4 true (.t 3) false, some (37, true)⟩, ⟨some 40, .call 19 [(.t 38), (.t 39)] false, some (37, true)⟩, ⟨some 41, .load 4 true (.t 2) false, some (37, true)⟩, ⟨some 42, .load 4 true (.t 3) false, some (37, true)⟩, ⟨some 43, .call 20 [(.t 41), (.t 42)] false, some (37, true)⟩, ⟨some 44, .eqb false (.t 40) (.t 43), some (37, true)⟩, ⟨some 45, .pick (.t 37) (.t 44) (.c (.bool false)), none⟩, ⟨some 46, .mv (.t 45) false, none⟩, ⟨some 47, .load 4 true (.t 2) false, some (46, true)⟩, ⟨some 48, .call 21 [(.t 47)] false, some (46, true)⟩, ⟨some 49, .load 4 true (.t 2) false, some (46, true)⟩, ⟨some 50, .call 20 [(.t 48), (.t 49)] false, some (46, true)⟩, ⟨some 51, .pick (.t 46) (.t 50) (.c (.bool false)), none⟩, ⟨some 4, .mv (.t 51) true, none⟩])
  (.ret)))))), [.t 4]⟩
theorem row3 : RowOk Try.prog 3 C3 := ⟨Try.f3, ⟨[], [], [], []⟩, lvOf [], Try.func3, by kernel_rfl, by kernel_rfl⟩
/-- swingbridge/swingbridgelaw8.TaskSpoils -/
def C4 : CFun := ⟨142, 3, .seq (.reg [⟨some 3, .box (.t 0), none⟩, ⟨some 6, .mv (.c (.bool false)) true, none⟩])
  (.seq (.seq (.reg [⟨some 14, .call 15 [] false, none⟩, ⟨some 15, .un .not (.t 14), none⟩])
  (.cond (.t 15) (.seq (.reg [⟨some 6, .mv (.c (.bool false)) true, none⟩])
  (.ret))
  (.skip)))
  (.seq (.seq (.reg [⟨some 16, .load 4 true (.t 3) false, none⟩, ⟨some 17, .call 16 [(.t 16)] false, none⟩, ⟨some 18, .un .not (.t 17), none⟩, ⟨some 19, .mv (.t 18) false, none⟩, ⟨some 20, .load 4 true (.t 3) false, some (19, false)⟩, ⟨some 21, .call 22 [(.t 20)] false, some (19, false)⟩, ⟨some 22, .un .not (.t 21), some (19, false)⟩, ⟨some 23, .pick (.t 19) (.c (.bool true)) (.t 22), none⟩])
  (.cond (.t 23) (.seq (.reg [⟨some 6, .mv (.c (.bool true)) true, none⟩])
  (.ret))
  (.skip)))
  (.seq (.reg [⟨some 24, .load 4 true (.t 3) false, none⟩, ⟨some 25, .call 23 [(.t 24)] false, none⟩, ⟨some 7, .alloc [(.int .i64 0), (.slice none 0 0), (.slice none 0 0), (.slice none 0 0)], none⟩, ⟨none, .store 4 (.t 7) (.t 25), none⟩])
  (.seq (.reg [⟨some 26, .load 4 true (.t 7) false, none⟩, ⟨some 27, .call 21 [(.t 26)] false, none⟩, ⟨some 8, .alloc [(.int .i64 0), (.slice none 0 0), (.slice none 0 0), (.slice none 0 0)], none⟩, ⟨none, .store 4 (.t 8) (.t 27), none⟩])
  (.seq (.seq (.reg [⟨some 28, .load 4 true (.t 8) false, none⟩, ⟨some 29, .load 4 true (.t 3) false, none⟩, ⟨some 30, .call 20 [(.t 28), (.t 29)] false, none⟩, ⟨some 31, .un .not (.t 30), none⟩])
  (.cond (.t 31) (.seq (.reg [⟨some 6, .mv (.c (.bool false)) true, none⟩])
  (.ret))
  (.skip)))
  (.seq (.reg [⟨some 32, .mv (.t 2) false, none⟩, ⟨some 33, .conv .i64 (.t 32), none⟩, ⟨some 34, .fa 3 (.t 8), none⟩, ⟨some 35, .load 1 false (.t 34) false, none⟩, ⟨some 36, .len (.t 35), none⟩, ⟨some 37, .bin .rem (.t 33) (.t 36), none⟩, ⟨some 9, .mv (.t 37) true, none⟩])
  (.seq (.reg [⟨some 38, .mv (.t 9) false, none⟩, ⟨some 10, .mv (.c (.int .i64 10)) true, none⟩, ⟨some 11, .mv (.t 38) true, none⟩])
  (.seq (.seq (.reg [⟨some 39, .mv (.t 1) false, none⟩, ⟨some 40, .bin .rem (.t 39) (.c (.int .u8 10)), none⟩])
  (.block 0 (.seq (.reg [⟨some 43, .bin .eql (.t 40) (.c (.int .u8 0)), none⟩, ⟨some 42, .mv (.t 43) true, none⟩])
  (.cond (.t 42) (.reg [⟨some 44, .fa 3 (.t 8), none⟩, ⟨some 45, .load 1 false (.t 44) false, none⟩, ⟨some 46, .mv (.t 9) false, none⟩, ⟨some 47, .ia 6 (.t 45) (.t 46), none⟩, ⟨some 48, .fa 0 (.t 47), none⟩, ⟨none, .store 1 (.t 48) (.c (.string ⟨#[66, 97, 100]⟩)), none⟩])
  (.seq (.reg [⟨some 50, .bin .eql (.t 40) (.c (.int .u8 1)), none⟩, ⟨some 49, .mv (.t 50) true, none⟩])
  (.cond (.t 49) (.reg [⟨some 51, .fa 3 (.t 8), none⟩, ⟨some 52, .load 1 false (.t 51) false, none⟩, ⟨some 53, .mv (.t 9) false, none⟩, ⟨some 54, .fa 3 (.t 8), none⟩, ⟨some 55, .load 1 false (.t 54) false, none⟩, ⟨some 56, .mv (.t 9) false, none⟩, ⟨some 57, .ia 6 (.t 55) (.t 56), none⟩, ⟨some 58, .fa 1 (.t 57), none⟩, ⟨some 59, .load 1 false (.t 58) false, none⟩, ⟨some 60, .bin .add (.t 59) (.c (.int .i64 1)), none⟩, ⟨some 61, .ia 6 (.t 52) (.t 53), none⟩, ⟨some 62, .fa 2 (.t 61), none⟩, ⟨none, .store 1 (.t 62) (.t 60), none⟩])
  (.seq (.reg [⟨some 64, .bin .eql (.t 40) (.c (.int .u8 2)), none⟩, ⟨some 63, .mv (.t 64) true, none⟩])
  (.cond (.t 63) (.reg [⟨some 65, .fa 3 (.t 8), none⟩, ⟨some 66, .load 1 false (.t 65) false, none⟩, ⟨some 67, .mv (.t 9) false, none⟩, ⟨some 68, .ia 6 (.t 66) (.t 67), none⟩, ⟨some 69, .fa 3 (.t 68), none⟩, ⟨none, .store 1 (.t 69) (.c (.int .i64 1001)), none⟩])
  (.seq (.reg [⟨some 71, .bin .eql (.t 40) (.c (.int .u8 3)), none⟩, ⟨some 70, .mv (.t 71) true, none⟩])
  (.cond (.t 70) (.reg [⟨some 72, .fa 3 (.t 8), none⟩, ⟨some 73, .load 1 false (.t 72) false, none⟩, ⟨some 74, .mv (.t 9) false, none⟩, ⟨some 75, .fa 1 (.t 8), none⟩, ⟨some 76, .load 1 false (.t 75) false, none⟩, ⟨some 77, .len (.t 76), none⟩, ⟨some 78, .ia 6 (.t 73) (.t 74), none⟩, ⟨some 79, .fa 4 (.t 78), none⟩, ⟨none, .store 1 (.t 79) (.t 77), none⟩, ⟨some 10, .mv (.c (.int .i64 16)) true, none⟩])
  (.seq (.reg [⟨some 81, .bin .eql (.t 40) (.c (.int .u8 4)), none⟩, ⟨some 80, .mv (.t 81) true, none⟩])
  (.cond (.t 80) (.reg [⟨some 82, .fa 3 (.t 8), none⟩, ⟨some 83, .load 1 false (.t 82) false, none⟩, ⟨some 84, .mv (.t 9) false, none⟩, ⟨some 85, .ia 6 (.t 83) (.t 84), none⟩, ⟨some 86, .fa 5 (.t 85), none⟩, ⟨none, .store 1 (.t 86) (.c (.slice none 0 0)), none⟩, ⟨some 10, .mv (.c (.int .i64 15)) true, none⟩])
  (.seq (.reg [⟨some 88, .bin .eql (.t 40) (.c (.int .u8 5)), none⟩, ⟨some 87, .mv (.t 88) true, none⟩])
  (.cond (.t 87) (.reg [⟨some 89, .fa 3 (.t 8), none⟩, ⟨some 90, .load 1 false (.t 89) false, none⟩, ⟨some 91, .mv (.t 9) false, none⟩, ⟨some 92, .ia 6 (.t 90) (.t 91), none⟩, ⟨some 93, .fa 5 (.t 92), none⟩, ⟨some 94, .load 1 false (.t 93) false, none⟩, ⟨some 95, .ia 3 (.t 94) (.c (.int .i64 0)), none⟩, ⟨some 96, .fa 1 (.t 95), none⟩, ⟨none, .store 1 (.t 96) (.c (.int .i64 61)), none⟩, ⟨some 10, .mv (.c (.int .i64 15)) true, none⟩])
  (.seq (.reg [⟨some 98, .bin .eql (.t 40) (.c (.int .u8 6)), none⟩, ⟨some 97, .mv (.t 98) true, none⟩])
  (.cond (.t 97) (.reg [⟨some 99, .fa 3 (.t 8), none⟩, ⟨some 100, .load 1 false (.t 99) false, none⟩, ⟨some 101, .mv (.t 9) false, none⟩, ⟨some 102, .ia 6 (.t 100) (.t 101), none⟩, ⟨some 103, .fa 5 (.t 102), none⟩, ⟨some 104, .load 1 false (.t 103) false, none⟩, ⟨some 105, .fa 2 (.t 8), none⟩, ⟨some 106, .load 1 false (.t 105) false, none⟩, ⟨some 107, .len (.t 106), none⟩, ⟨some 108, .build [(.int .i64 0), (.int .i64 0), (.int .i64 0)] [(0, 1, (.c (.int .i64 3))), (1, 1, (.c (.int .i64 1))), (2, 1, (.t 107))], none⟩, ⟨some 109, .ia 3 (.t 104) (.c (.int .i64 0)), none⟩, ⟨none, .store 3 (.t 109) (.t 108), none⟩, ⟨some 10, .mv (.c (.int .i64 15)) true, none⟩])
  (.seq (.reg [⟨some 111, .bin .eql (.t 40) (.c (.int .u8 7)), none⟩, ⟨some 110, .mv (.t 111) true, none⟩])
  (.cond (.t 110) (.reg [⟨some 112, .fa 0 (.t 8), none⟩, ⟨none, .store 1 (.t 112) (.c (.int .i64 4)), none⟩, ⟨some 11, .mv (.c (.int .i64 (-1))) true, none⟩])
  (.seq (.reg [⟨some 114, .bin .eql (.t 40) (.c (.int .u8 8)), none⟩, ⟨some 113, .mv (.t 114) true, none⟩])
  (.cond (.t 113) (.reg [⟨some 115, .fa 1 (.t 8), none⟩, ⟨some 116, .load 1 false (.t 115) false, none⟩, ⟨some 117, .ia 1 (.t 116) (.c (.int .i64 0)), none⟩, ⟨none, .store 1 (.t 117) (.c (.int .i64 0)), none⟩, ⟨some 10, .mv (.c (.int .i64 16)) true, none⟩, ⟨some 11, .mv (.c (.int .i64 (-1))) true, none⟩])
  (.reg [⟨some 41, .fa 3 (.t 8), none⟩, ⟨none, .store 1 (.t 41) (.c (.slice none 0 0)), none⟩, ⟨some 10, .mv (.c (.int .i64 14)) true, none⟩, ⟨some 11, .mv (.c (.int .i64 (-1))) true, none⟩])))))))))))))))))))))
  (.seq (.reg [⟨some 119, .load 4 true (.t 8) false, none⟩, ⟨some 120, .call 17 [(.t 119)] false, none⟩, ⟨some 118, .mv (.t 120) false, none⟩, ⟨some 121, .ext (.t 118) 0, none⟩, ⟨some 122, .ext (.t 118) 1, none⟩, ⟨some 12, .mv (.t 121) true, none⟩, ⟨some 13, .mv (.t 122) true, none⟩])
  (.seq (.reg [⟨some 123, .mv (.t 13) false, none⟩, ⟨some 124, .mv (.t 10) false, none⟩, ⟨some 125, .bin .eql (.t 123) (.t 124), none⟩, ⟨some 126, .mv (.t 125) false, none⟩, ⟨some 127, .mv (.t 12) false, some (126, true)⟩, ⟨some 128, .mv (.t 11) false, some (126, true)⟩, ⟨some 129, .bin .eql (.t 127) (.t 128), some (126, true)⟩, ⟨some 130, .pick (.t 126) (.t 129) (.c (.bool false)), none⟩, ⟨some 131, .mv (.t 130) false, none⟩, ⟨some 132, .load 4 true (.t 8) false, some (131, true)⟩, ⟨some 133, .load 4 true (.t 3) false, some (131, true)⟩, ⟨some 134, .call 19 [(.t 132), (.t 133)] false, some (131, true)⟩, ⟨some 135, .un .not (.t 134), some (131, true)⟩, ⟨some 136, .pick (.t 131) (.t 135) (.c (.bool false)), none⟩, ⟨some 137, .mv (.t 136) false, none⟩, ⟨some 138, .load 4 true (.t 7) false, some (137, true)⟩, ⟨some 139, .load 4 true (.t 3) false, some (137, true)⟩, ⟨some 140, .call 20 [(.t 138), (.t 139)] false, some (137, true)⟩, ⟨some 141, .pick (.t 137) (.t 140) (.c (.bool false)), none⟩, ⟨some 6, .mv (.t 141) true, none⟩])
  (.ret))))))))))), [.t 6]⟩
theorem row4 : RowOk Try.prog 4 C4 := ⟨Try.f4, ⟨[], [], [], []⟩, lvOf [], Try.func4, by kernel_rfl, by kernel_rfl⟩
/-- swingbridge/swingbridgelaw8.TaskTwice -/
def C5 : CFun := ⟨84, 4, .seq (.reg [⟨some 4, .box (.t 0), none⟩, ⟨some 8, .mv (.c (.bool false)) true, none⟩])
  (.seq (.seq (.reg [⟨some 14, .call 15 [] false, none⟩, ⟨some 15, .un .not (.t 14), none⟩])
  (.cond (.t 15) (.seq (.reg [⟨some 8, .mv (.c (.bool false)) true, none⟩])
  (.ret))
  (.skip)))
  (.seq (.seq (.reg [⟨some 16, .load 4 true (.t 4) false, none⟩, ⟨some 17, .call 16 [(.t 16)] false, none⟩, ⟨some 18, .un .not (.t 17), none⟩, ⟨some 19, .mv (.t 18) false, none⟩, ⟨some 20, .load 4 true (.t 4) false, some (19, false)⟩, ⟨some 21, .call 22 [(.t 20)] false, some (19, false)⟩, ⟨some 22, .un .not (.t 21), some (19, false)⟩, ⟨some 23, .pick (.t 19) (.c (.bool true)) (.t 22), none⟩, ⟨some 24, .mv (.t 23) false, none⟩, ⟨some 25, .fa 3 (.t 4), some (24, false)⟩, ⟨some 26, .load 1 false (.t 25) false, some (24, false)⟩, ⟨some 27, .len (.t 26), some (24, false)⟩, ⟨some 28, .bin .lss (.t 27) (.c (.int .i64 2)), some (24, false)⟩, ⟨some 29, .pick (.t 24) (.c (.bool true)) (.t 28), none⟩])
  (.cond (.t 29) (.seq (.reg [⟨some 8, .mv (.c (.bool true)) true, none⟩])
  (.ret))
  (.skip)))
  (.seq (.reg [⟨some 30, .load 4 true (.t 4) false, none⟩, ⟨some 31, .calli 23 [(.t 30)], none⟩, ⟨some 9, .alloc [(.int .i64 0), (.slice none 0 0), (.slice none 0 0), (.slice none 0 0)], none⟩, ⟨none, .store 4 (.t 9) (.t 31), none⟩])
  (.seq (.reg [⟨some 32, .mv (.t 1) false, none⟩, ⟨some 33, .conv .i64 (.t 32), none⟩, ⟨some 34, .fa 3 (.t 9), none⟩, ⟨some 35, .load 1 false (.t 34) false, none⟩, ⟨some 36, .len (.t 35), none⟩, ⟨some 37, .bin .rem (.t 33) (.t 36), none⟩, ⟨some 38, .mv (.t 2) false, none⟩, ⟨some 39, .conv .i64 (.t 38), none⟩, ⟨some 40, .fa 3 (.t 9), none⟩, ⟨some 41, .load 1 false (.t 40) false, none⟩, ⟨some 42, .len (.t 41), none⟩, ⟨some 43, .bin .rem (.t 39) (.t 42), none⟩, ⟨some 10, .mv (.t 37) true, none⟩, ⟨some 11, .mv (.t 43) true, none⟩])
  (.seq (.seq (.reg [⟨some 44, .mv (.t 10) false, none⟩, ⟨some 45, .mv (.t 11) false, none⟩, ⟨some 46, .bin .eql (.t 44) (.t 45), none⟩])
  (.cond (.t 46) (.seq (.reg [⟨some 8, .mv (.c (.bool true)) true, none⟩])
  (.ret))
  (.skip)))
  (.seq (.seq (.reg [⟨some 47, .mv (.t 3) false, none⟩])
  (.cond (.t 47) (.reg [⟨some 48, .fa 3 (.t 9), none⟩, ⟨some 49, .load 1 false (.t 48) false, none⟩, ⟨some 50, .mv (.t 10) false, none⟩, ⟨some 51, .fa 3 (.t 9), none⟩, ⟨some 52, .load 1 false (.t 51) false, none⟩, ⟨some 53, .mv (.t 11) false, none⟩, ⟨some 54, .ia 6 (.t 52) (.t 53), none⟩, ⟨some 55, .fa 3 (.t 54), none⟩, ⟨some 56, .load 1 false (.t 55) false, none⟩, ⟨some 57, .ia 6 (.t 49) (.t 50), none⟩, ⟨some 58, .fa 3 (.t 57), none⟩, ⟨none, .store 1 (.t 58) (.t 56), none⟩])
  (.reg [⟨some 59, .fa 3 (.t 9), none⟩, ⟨some 60, .load 1 false (.t 59) false, none⟩, ⟨some 61, .mv (.t 10) false, none⟩, ⟨some 62, .fa 3 (.t 9), none⟩, ⟨some 63, .load 1 false (.t 62) false, none⟩, ⟨some 64, .mv (.t 11) false, none⟩, ⟨some 65, .ia 6 (.t 63) (.t 64), none⟩, ⟨some 66, .fa 0 (.t 65), none⟩, ⟨some 67, .load 1 false (.t 66) false, none⟩, ⟨some 68, .ia 6 (.t 60) (.t 61), none⟩, ⟨some 69, .fa 0 (.t 68), none⟩, ⟨none, .store 1 (.t 69) (.t 67), none⟩])))
  (.seq (.reg [⟨some 71, .load 4 true (.t 9) false, none⟩, ⟨some 72, .call 17 [(.t 71)] false, none⟩, ⟨some 70, .mv (.t 72) false, none⟩, ⟨some 73, .ext (.t 70) 0, none⟩, ⟨some 74, .ext (.t 70) 1, none⟩, ⟨some 12, .mv (.t 73) true, none⟩, ⟨some 13, .mv (.t 74) true, none⟩])
  (.seq (.reg [⟨some 75, .mv (.t 13) false, none⟩, ⟨some 76, .bin .eql (.t 75) (.c (.int .i64 17)), none⟩, ⟨some 77, .mv (.t 76) false, none⟩, ⟨some 78, .mv (.t 12) false, some (77, true)⟩, ⟨some 79, .mv (.t 10) false, some (77, true)⟩, ⟨some 80, .mv (.t 11) false, some (77, true)⟩, ⟨some 81, .mxn true [(.t 79), (.t 80)], some (77, true)⟩, ⟨some 82, .bin .eql (.t 78) (.t 81), some (77, true)⟩, ⟨some 83, .pick (.t 77) (.t 82) (.c (.bool false)), none⟩, ⟨some 8, .mv (.t 83) true, none⟩])
  (.ret))))))))), [.t 8]⟩
theorem row5 : RowOk Try.prog 5 C5 := ⟨Try.f5, ⟨[], [], [], [23]⟩, lvOf [], Try.func5, by kernel_rfl, by kernel_rfl⟩
def B6_0 : C := .seq (.seq (.reg [⟨some 47, .mv (.t 17) false, none⟩, ⟨some 48, .mv (.t 13) false, none⟩, ⟨some 49, .bin .lss (.t 47) (.t 48), none⟩])
  (.cond (.t 49) (.skip)
  (.exit 0)))
  (.seq (.block 1 (.reg [⟨some 52, .fa 1 (.t 16), none⟩, ⟨some 53, .load 1 false (.t 52) true, none⟩, ⟨some 54, .mv (.t 14) false, none⟩, ⟨some 55, .bsl 1 1 [(.int .i64 0)] [(0, 1, (.t 54))] false, none⟩, ⟨some 56, .app 1 8 (.t 53) (.t 55) false, none⟩, ⟨some 57, .fa 1 (.t 16), none⟩, ⟨none, .store 1 (.t 57) (.t 56), none⟩]))
  (.reg [⟨some 50, .mv (.t 17) false, none⟩, ⟨some 51, .bin .add (.t 50) (.c (.int .i64 1)), none⟩, ⟨some 17, .mv (.t 51) true, none⟩]))
def L6_0 : C := .loop [11, 12, 13, 14, 15, 16, 17] 1 B6_0
theorem go6_0 (s : Env × Bx) (nb) : evL tab ext nb L6_0 s = (loopIn nb [11, 12, 13, 14, 15, 16, 17] 1 s).bind fun s0 => (evL tab ext nb B6_0 s0).bind (seqG tab ext nb L6_0) := eL_loop _ _ _
def B6_2 : C := .seq (.seq (.reg [⟨some 58, .mv (.t 18) false, none⟩, ⟨some 59, .mv (.t 15) false, none⟩, ⟨some 60, .bin .lss (.t 58) (.t 59), none⟩])
  (.cond (.t 60) (.skip)
  (.exit 2)))
  (.seq (.block 3 (.reg [⟨some 63, .fa 2 (.t 16), none⟩, ⟨some 64, .load 1 false (.t 63) true, none⟩, ⟨some 65, .mv (.t 18) false, none⟩, ⟨some 66, .mv (.t 13) false, none⟩, ⟨some 67, .bin .rem (.t 65) (.t 66), none⟩, ⟨some 68, .bsl 1 1 [(.int .i64 0)] [(0, 1, (.t 67))] false, none⟩, ⟨some 69, .app 1 8 (.t 64) (.t 68) false, none⟩, ⟨some 70, .fa 2 (.t 16), none⟩, ⟨none, .store 1 (.t 70) (.t 69), none⟩]))
  (.reg [⟨some 61, .mv (.t 18) false, none⟩, ⟨some 62, .bin .add (.t 61) (.c (.int .i64 1)), none⟩, ⟨some 18, .mv (.t 62) true, none⟩]))
def L6_2 : C := .loop [11, 12, 13, 14, 15, 16, 18] 1 B6_2
theorem go6_2 (s : Env × Bx) (nb) : evL tab ext nb L6_2 s = (loopIn nb [11, 12, 13, 14, 15, 16, 18] 1 s).bind fun s0 => (evL tab ext nb B6_2 s0).bind (seqG tab ext nb L6_2) := eL_loop _ _ _
def B6_4 : C := .seq (.seq (.reg [⟨some 71, .mv (.t 20) false, none⟩, ⟨some 72, .mv (.t 12) false, none⟩, ⟨some 73, .bin .lss (.t 71) (.t 72), none⟩])
  (.cond (.t 73) (.skip)
  (.exit 4)))
  (.seq (.block 5 (.reg [⟨some 76, .mv (.t 19) true, none⟩, ⟨some 77, .mv (.t 20) false, none⟩, ⟨some 78, .bin .rem (.t 77) (.c (.int .i64 2)), none⟩, ⟨some 79, .bin .add (.c (.int .i64 1)) (.t 78), none⟩, ⟨some 80, .build [(.int .i64 0), (.int .i64 0), (.int .i64 0)] [(0, 1, (.t 79)), (1, 1, (.c (.int .i64 60)))], none⟩, ⟨some 81, .bsl 3 1 [(.int .i64 0), (.int .i64 0), (.int .i64 0)] [(0, 3, (.t 80))] false, none⟩, ⟨some 82, .app 3 24 (.t 76) (.t 81) false, none⟩, ⟨some 19, .mv (.t 82) true, none⟩]))
  (.reg [⟨some 74, .mv (.t 20) false, none⟩, ⟨some 75, .bin .add (.t 74) (.c (.int .i64 1)), none⟩, ⟨some 20, .mv (.t 75) true, none⟩]))
def L6_4 : C := .loop [11, 12, 13, 14, 15, 16, 19, 20] 1 B6_4
theorem go6_4 (s : Env × Bx) (nb) : evL tab ext nb L6_4 s = (loopIn nb [11, 12, 13, 14, 15, 16, 19, 20] 1 s).bind fun s0 => (evL tab ext nb B6_4 s0).bind (seqG tab ext nb L6_4) := eL_loop _ _ _
def B6_6 : C := .seq (.seq (.reg [⟨some 83, .mv (.t 21) false, none⟩, ⟨some 84, .mv (.t 11) false, none⟩, ⟨some 85, .bin .lss (.t 83) (.t 84), none⟩])
  (.cond (.t 85) (.skip)
  (.exit 6)))
  (.seq (.block 7 (.reg [⟨some 88, .fa 3 (.t 16), none⟩, ⟨some 89, .load 1 false (.t 88) true, none⟩, ⟨some 90, .mv (.t 21) false, none⟩, ⟨some 91, .bin .add (.c (.int .i64 97)) (.t 90), none⟩, ⟨some 92, .conv .u8 (.t 91), none⟩, ⟨some 93, .bsl 1 1 [(.int .u8 0)] [(0, 1, (.t 92))] false, none⟩, ⟨some 94, .bstr (.t 93), none⟩, ⟨some 95, .mv (.t 21) false, none⟩, ⟨some 96, .bin .sub (.c (.int .i64 1000)) (.t 95), none⟩, ⟨some 97, .mv (.t 21) false, none⟩, ⟨some 98, .mv (.t 13) false, none⟩, ⟨some 99, .bin .rem (.t 97) (.t 98), none⟩, ⟨some 100, .mv (.t 19) false, none⟩, ⟨some 101, .build [(.string ⟨#[]⟩), (.int .i64 0), (.int .i64 0), (.int .i64 0), (.int .i64 0), (.slice none 0 0)] [(0, 1, (.t 94)), (1, 1, (.c (.int .i64 3000))), (2, 1, (.c (.int .i64 3000))), (3, 1, (.t 96)), (4, 1, (.t 99)), (5, 1, (.t 100))], none⟩, ⟨some 102, .bsl 6 1 [(.string ⟨#[]⟩), (.int .i64 0), (.int .i64 0), (.int .i64 0), (.int .i64 0), (.slice none 0 0)] [(0, 6, (.t 101))] false, none⟩, ⟨some 103, .app 6 72 (.t 89) (.t 102) false, none⟩, ⟨some 104, .fa 3 (.t 16), none⟩, ⟨none, .store 1 (.t 104) (.t 103), none⟩]))
  (.reg [⟨some 86, .mv (.t 21) false, none⟩, ⟨some 87, .bin .add (.t 86) (.c (.int .i64 1)), none⟩, ⟨some 21, .mv (.t 87) true, none⟩]))
def L6_6 : C := .loop [11, 12, 13, 14, 15, 16, 19, 21] 1 B6_6
theorem go6_6 (s : Env × Bx) (nb) : evL tab ext nb L6_6 s = (loopIn nb [11, 12, 13, 14, 15, 16, 19, 21] 1 s).bind fun s0 => (evL tab ext nb B6_6 s0).bind (seqG tab ext nb L6_6) := eL_loop _ _ _
/-- swingbridge/swingbridgelaw8.TaskLimits -/
def C6 : CFun := ⟨151, 5, .seq (.reg [⟨some 10, .mv (.c (.bool false)) true, none⟩])
  (.seq (.seq (.reg [⟨some 24, .call 15 [] false, none⟩, ⟨some 25, .un .not (.t 24), none⟩])
  (.cond (.t 25) (.seq (.reg [⟨some 10, .mv (.c (.bool false)) true, none⟩])
  (.ret))
  (.skip)))
  (.seq (.reg [⟨some 26, .mv (.t 0) false, none⟩, ⟨some 27, .bin .rem (.t 26) (.c (.int .u8 3)), none⟩, ⟨some 28, .conv .i64 (.t 27), none⟩, ⟨some 29, .bin .add (.c (.int .i64 5)) (.t 28), none⟩, ⟨some 30, .mv (.t 1) false, none⟩, ⟨some 31, .bin .rem (.t 30) (.c (.int .u8 3)), none⟩, ⟨some 32, .conv .i64 (.t 31), none⟩, ⟨some 33, .bin .add (.c (.int .i64 5)) (.t 32), none⟩, ⟨some 11, .mv (.t 29) true, none⟩, ⟨some 12, .mv (.t 33) true, none⟩])
  (.seq (.reg [⟨some 34, .mv (.t 2) false, none⟩, ⟨some 35, .bin .rem (.t 34) (.c (.int .u8 3)), none⟩, ⟨some 36, .conv .i64 (.t 35), none⟩, ⟨some 37, .bin .add (.c (.int .i64 2)) (.t 36), none⟩, ⟨some 38, .mv (.t 3) false, none⟩, ⟨some 39, .bin .rem (.t 38) (.c (.int .u8 3)), none⟩, ⟨some 40, .conv .i64 (.t 39), none⟩, ⟨some 41, .bin .add (.c (.int .i64 2)) (.t 40), none⟩, ⟨some 42, .mv (.t 4) false, none⟩, ⟨some 43, .bin .rem (.t 42) (.c (.int .u8 3)), none⟩, ⟨some 44, .conv .i64 (.t 43), none⟩, ⟨some 45, .bin .add (.c (.int .i64 3)) (.t 44), none⟩, ⟨some 13, .mv (.t 37) true, none⟩, ⟨some 14, .mv (.t 41) true, none⟩, ⟨some 15, .mv (.t 45) true, none⟩])
  (.seq (.reg [⟨some 46, .build [(.int .i64 0), (.slice none 0 0), (.slice none 0 0), (.slice none 0 0)] [(0, 1, (.c (.int .i64 3)))], none⟩, ⟨some 16, .alloc [(.int .i64 0), (.slice none 0 0), (.slice none 0 0), (.slice none 0 0)], none⟩, ⟨none, .store 4 (.t 16) (.t 46), none⟩])
  (.seq (.seq (.reg [⟨some 17, .mv (.c (.int .i64 0)) true, none⟩])
  (.block 0 (L6_0)))
  (.seq (.seq (.reg [⟨some 18, .mv (.c (.int .i64 0)) true, none⟩])
  (.block 2 (L6_2)))
  (.seq (.reg [⟨some 19, .mv (.c (.slice none 0 0)) true, none⟩])
  (.seq (.seq (.reg [⟨some 20, .mv (.c (.int .i64 0)) true, none⟩])
  (.block 4 (L6_4)))
  (.seq (.seq (.reg [⟨some 21, .mv (.c (.int .i64 0)) true, none⟩])
  (.block 6 (L6_6)))
  (.seq (.reg [⟨some 106, .load 4 true (.t 16) false, none⟩, ⟨some 107, .call 17 [(.t 106)] false, none⟩, ⟨some 105, .mv (.t 107) false, none⟩, ⟨some 108, .ext (.t 105) 0, none⟩, ⟨some 109, .ext (.t 105) 1, none⟩, ⟨some 22, .mv (.t 108) true, none⟩, ⟨some 23, .mv (.t 109) true, none⟩])
  (.seq (.block 8 (.seq (.reg [⟨some 111, .mv (.t 13) false, none⟩, ⟨some 112, .bin .gtr (.t 111) (.c (.int .i64 3)), none⟩, ⟨some 113, .mv (.t 112) false, none⟩, ⟨some 114, .mv (.t 14) false, some (113, false)⟩, ⟨some 115, .bin .gtr (.t 114) (.c (.int .i64 3)), some (113, false)⟩, ⟨some 116, .pick (.t 113) (.c (.bool true)) (.t 115), none⟩, ⟨some 117, .mv (.t 116) false, none⟩, ⟨some 118, .mv (.t 15) false, some (117, false)⟩, ⟨some 119, .bin .gtr (.t 118) (.c (.int .i64 4)), some (117, false)⟩, ⟨some 120, .pick (.t 117) (.c (.bool true)) (.t 119), none⟩, ⟨some 110, .mv (.t 120) true, none⟩])
  (.cond (.t 110) (.seq (.reg [⟨some 121, .mv (.t 23) false, none⟩, ⟨some 122, .bin .eql (.t 121) (.c (.int .i64 16)), none⟩, ⟨some 123, .mv (.t 122) false, none⟩, ⟨some 124, .mv (.t 22) false, some (123, true)⟩, ⟨some 125, .bin .eql (.t 124) (.c (.int .i64 (-1))), some (123, true)⟩, ⟨some 126, .pick (.t 123) (.t 125) (.c (.bool false)), none⟩, ⟨some 10, .mv (.t 126) true, none⟩])
  (.ret))
  (.seq (.reg [⟨some 128, .mv (.t 11) false, none⟩, ⟨some 129, .bin .gtr (.t 128) (.c (.int .i64 6)), none⟩, ⟨some 127, .mv (.t 129) true, none⟩])
  (.cond (.t 127) (.seq (.reg [⟨some 130, .mv (.t 23) false, none⟩, ⟨some 131, .bin .eql (.t 130) (.c (.int .i64 11)), none⟩, ⟨some 132, .mv (.t 131) false, none⟩, ⟨some 133, .mv (.t 22) false, some (132, true)⟩, ⟨some 134, .bin .eql (.t 133) (.c (.int .i64 (-1))), some (132, true)⟩, ⟨some 135, .pick (.t 132) (.t 134) (.c (.bool false)), none⟩, ⟨some 10, .mv (.t 135) true, none⟩])
  (.ret))
  (.seq (.reg [⟨some 137, .mv (.t 12) false, none⟩, ⟨some 138, .bin .gtr (.t 137) (.c (.int .i64 6)), none⟩, ⟨some 136, .mv (.t 138) true, none⟩])
  (.cond (.t 136) (.seq (.reg [⟨some 139, .mv (.t 23) false, none⟩, ⟨some 140, .bin .eql (.t 139) (.c (.int .i64 15)), none⟩, ⟨some 141, .mv (.t 140) false, none⟩, ⟨some 142, .mv (.t 22) false, some (141, true)⟩, ⟨some 143, .bin .eql (.t 142) (.c (.int .i64 0)), some (141, true)⟩, ⟨some 144, .pick (.t 141) (.t 143) (.c (.bool false)), none⟩, ⟨some 10, .mv (.t 144) true, none⟩])
  (.ret))
  (.skip))))))))
  (.seq (.reg [⟨some 145, .mv (.t 23) false, none⟩, ⟨some 146, .bin .eql (.t 145) (.c (.int .i64 0)), none⟩, ⟨some 147, .mv (.t 146) false, none⟩, ⟨some 148, .mv (.t 22) false, some (147, true)⟩, ⟨some 149, .bin .eql (.t 148) (.c (.int .i64 (-1))), some (147, true)⟩, ⟨some 150, .pick (.t 147) (.t 149) (.c (.bool false)), none⟩, ⟨some 10, .mv (.t 150) true, none⟩])
  (.ret))))))))))))), [.t 10]⟩
theorem row6 : RowOk Try.prog 6 C6 := ⟨Try.f6, ⟨[], [], [], []⟩, lvOf [(0, [11, 12, 13, 14, 15, 16, 17], 1), (2, [11, 12, 13, 14, 15, 16, 18], 1), (4, [11, 12, 13, 14, 15, 16, 19, 20], 1), (6, [11, 12, 13, 14, 15, 16, 19, 21], 1)], Try.func6, by kernel_rfl, by kernel_rfl⟩
def B7_0 : C := .seq (.seq (.reg [⟨some 22, .mv (.t 4) false, none⟩, ⟨some 23, .fa 1 (.t 1), none⟩, ⟨some 24, .load 1 false (.t 23) false, none⟩, ⟨some 25, .len (.t 24), none⟩, ⟨some 26, .bin .lss (.t 22) (.t 25), none⟩])
  (.cond (.t 26) (.skip)
  (.exit 0)))
  (.seq (.block 1 (.reg [⟨some 29, .mv (.t 3) false, none⟩, ⟨some 30, .load 4 true (.t 1) false, none⟩, ⟨some 31, .mv (.t 4) false, none⟩, ⟨some 32, .call 27 [(.t 30), (.t 31)] false, none⟩, ⟨some 33, .bin .add (.t 29) (.t 32), none⟩, ⟨some 3, .mv (.t 33) true, none⟩]))
  (.reg [⟨some 27, .mv (.t 4) false, none⟩, ⟨some 28, .bin .add (.t 27) (.c (.int .i64 1)), none⟩, ⟨some 4, .mv (.t 28) true, none⟩]))
def L7_0 : C := .loop [1, 3, 4] 1 B7_0
theorem go7_0 (s : Env × Bx) (nb) : evL tab ext nb L7_0 s = (loopIn nb [1, 3, 4] 1 s).bind fun s0 => (evL tab ext nb B7_0 s0).bind (seqG tab ext nb L7_0) := eL_loop _ _ _
def B7_4 : C := .seq (.seq (.reg [⟨some 46, .mv (.t 10) false, none⟩, ⟨some 47, .fa 5 (.t 6), none⟩, ⟨some 48, .load 1 false (.t 47) false, none⟩, ⟨some 49, .len (.t 48), none⟩, ⟨some 50, .bin .lss (.t 46) (.t 49), none⟩])
  (.cond (.t 50) (.skip)
  (.exit 4)))
  (.seq (.block 5 (.reg [⟨some 53, .mv (.t 7) false, none⟩, ⟨some 54, .fa 5 (.t 6), none⟩, ⟨some 55, .load 1 false (.t 54) false, none⟩, ⟨some 56, .mv (.t 10) false, none⟩, ⟨some 57, .ia 3 (.t 55) (.t 56), none⟩, ⟨some 58, .fa 1 (.t 57), none⟩, ⟨some 59, .load 1 false (.t 58) false, none⟩, ⟨some 60, .bin .add (.t 53) (.t 59), none⟩, ⟨some 7, .mv (.t 60) true, none⟩]))
  (.reg [⟨some 51, .mv (.t 10) false, none⟩, ⟨some 52, .bin .add (.t 51) (.c (.int .i64 1)), none⟩, ⟨some 10, .mv (.t 52) true, none⟩]))
def L7_4 : C := .loop [1, 3, 5, 6, 7, 8, 9, 10] 2 B7_4
theorem go7_4 (s : Env × Bx) (nb) : evL tab ext nb L7_4 s = (loopIn nb [1, 3, 5, 6, 7, 8, 9, 10] 2 s).bind fun s0 => (evL tab ext nb B7_4 s0).bind (seqG tab ext nb L7_4) := eL_loop _ _ _
def B7_6 : C := .seq (.seq (.reg [⟨some 61, .mv (.t 11) false, none⟩, ⟨some 62, .fa 1 (.t 1), none⟩, ⟨some 63, .load 1 false (.t 62) false, none⟩, ⟨some 64, .len (.t 63), none⟩, ⟨some 65, .bin .lss (.t 61) (.t 64), none⟩])
  (.cond (.t 65) (.skip)
  (.exit 6)))
  (.seq (.block 7 (.reg [⟨some 68, .mv (.t 8) false, none⟩, ⟨some 69, .load 4 true (.t 1) false, none⟩, ⟨some 70, .mv (.t 5) false, none⟩, ⟨some 71, .mv (.t 11) false, none⟩, ⟨some 72, .call 28 [(.t 69), (.t 70), (.t 71)] false, none⟩, ⟨some 73, .bin .add (.t 68) (.t 72), none⟩, ⟨some 74, .mv (.t 9) false, none⟩, ⟨some 75, .load 4 true (.t 1) false, none⟩, ⟨some 76, .mv (.t 5) false, none⟩, ⟨some 77, .mv (.t 11) false, none⟩, ⟨some 78, .call 29 [(.t 75), (.t 76), (.t 77)] false, none⟩, ⟨some 79, .mxn true [(.t 74), (.t 78)], none⟩, ⟨some 8, .mv (.t 73) true, none⟩, ⟨some 9, .mv (.t 79) true, none⟩]))
  (.reg [⟨some 66, .mv (.t 11) false, none⟩, ⟨some 67, .bin .add (.t 66) (.c (.int .i64 1)), none⟩, ⟨some 11, .mv (.t 67) true, none⟩]))
def L7_6 : C := .loop [1, 3, 5, 6, 7, 8, 9, 11] 2 B7_6
theorem go7_6 (s : Env × Bx) (nb) : evL tab ext nb L7_6 s = (loopIn nb [1, 3, 5, 6, 7, 8, 9, 11] 2 s).bind fun s0 => (evL tab ext nb B7_6 s0).bind (seqG tab ext nb L7_6) := eL_loop _ _ _
def B7_2 : C := .seq (.seq (.reg [⟨some 34, .mv (.t 5) false, none⟩, ⟨some 35, .fa 3 (.t 1), none⟩, ⟨some 36, .load 1 false (.t 35) false, none⟩, ⟨some 37, .len (.t 36), none⟩, ⟨some 38, .bin .lss (.t 34) (.t 37), none⟩])
  (.cond (.t 38) (.skip)
  (.exit 2)))
  (.seq (.block 3 (.seq (.reg [⟨some 41, .fa 3 (.t 1), none⟩, ⟨some 42, .load 1 false (.t 41) false, none⟩, ⟨some 43, .mv (.t 5) false, none⟩, ⟨some 44, .ia 6 (.t 42) (.t 43), none⟩, ⟨some 45, .load 6 true (.t 44) false, none⟩, ⟨some 6, .alloc [(.string ⟨#[]⟩), (.int .i64 0), (.int .i64 0), (.int .i64 0), (.int .i64 0), (.slice none 0 0)], none⟩, ⟨none, .store 6 (.t 6) (.t 45), none⟩])
  (.seq (.reg [⟨some 7, .mv (.c (.int .i64 0)) true, none⟩, ⟨some 8, .mv (.c (.int .i64 0)) true, none⟩, ⟨some 9, .mv (.c (.int .i64 0)) true, none⟩])
  (.seq (.seq (.reg [⟨some 10, .mv (.c (.int .i64 0)) true, none⟩])
  (.block 4 (L7_4)))
  (.seq (.seq (.reg [⟨some 11, .mv (.c (.int .i64 0)) true, none⟩])
  (.block 6 (L7_6)))
  (.seq (.seq (.reg [⟨some 80, .load 6 true (.t 6) false, none⟩, ⟨some 81, .call 30 [(.t 80)] false, none⟩, ⟨some 82, .bin .gtr (.t 81) (.c (.int .i64 0)), none⟩])
  (.cond (.t 82) (.reg [⟨some 83, .mv (.t 3) false, none⟩, ⟨some 84, .bin .sub (.t 83) (.c (.int .i64 1)), none⟩, ⟨some 3, .mv (.t 84) true, none⟩])
  (.skip)))
  (.seq (.reg [⟨some 85, .mv (.t 8) false, none⟩, ⟨some 86, .load 6 true (.t 6) false, none⟩, ⟨some 87, .call 31 [(.t 86)] false, none⟩, ⟨some 88, .bin .neq (.t 85) (.t 87), none⟩, ⟨some 89, .mv (.t 88) false, none⟩, ⟨some 90, .mv (.t 9) false, some (89, false)⟩, ⟨some 91, .load 6 true (.t 6) false, some (89, false)⟩, ⟨some 92, .call 30 [(.t 91)] false, some (89, false)⟩, ⟨some 93, .bin .neq (.t 90) (.t 92), some (89, false)⟩, ⟨some 94, .pick (.t 89) (.c (.bool true)) (.t 93), none⟩, ⟨some 95, .mv (.t 94) false, none⟩, ⟨some 96, .load 6 true (.t 6) false, some (95, false)⟩, ⟨some 97, .call 32 [(.t 96)] false, some (95, false)⟩, ⟨some 98, .load 6 true (.t 6) false, some (95, false)⟩, ⟨some 99, .call 33 [(.t 98)] false, some (95, false)⟩, ⟨some 100, .bin .add (.t 97) (.t 99), some (95, false)⟩, ⟨some 101, .mv (.t 8) false, some (95, false)⟩, ⟨some 102, .bin .add (.t 100) (.t 101), some (95, false)⟩, ⟨some 103, .mv (.t 7) false, some (95, false)⟩, ⟨some 104, .bin .neq (.t 102) (.t 103), some (95, false)⟩, ⟨some 105, .pick (.t 95) (.c (.bool true)) (.t 104), none⟩])
  (.cond (.t 105) (.seq (.reg [⟨some 2, .mv (.c (.bool false)) true, none⟩])
  (.ret))
  (.skip)))))))))
  (.reg [⟨some 39, .mv (.t 5) false, none⟩, ⟨some 40, .bin .add (.t 39) (.c (.int .i64 1)), none⟩, ⟨some 5, .mv (.t 40) true, none⟩]))
def L7_2 : C := .loop [1, 3, 5] 1 B7_2
theorem go7_2 (s : Env × Bx) (nb) : evL tab ext nb L7_2 s = (loopIn nb [1, 3, 5] 1 s).bind fun s0 => (evL tab ext nb B7_2 s0).bind (seqG tab ext nb L7_2) := eL_loop _ _ _
/-- swingbridge/swingbridgelaw11.DemandParts -/
def C7 : CFun := ⟨108, 1, .seq (.reg [⟨some 1, .box (.t 0), none⟩, ⟨some 2, .mv (.c (.bool false)) true, none⟩])
  (.seq (.seq (.reg [⟨some 12, .call 24 [] false, none⟩, ⟨some 13, .un .not (.t 12), none⟩])
  (.cond (.t 13) (.seq (.reg [⟨some 2, .mv (.c (.bool false)) true, none⟩])
  (.ret))
  (.skip)))
  (.seq (.seq (.reg [⟨some 14, .load 4 true (.t 1) false, none⟩, ⟨some 15, .call 25 [(.t 14)] false, none⟩, ⟨some 16, .un .not (.t 15), none⟩, ⟨some 17, .mv (.t 16) false, none⟩, ⟨some 18, .load 4 true (.t 1) false, some (17, false)⟩, ⟨some 19, .call 26 [(.t 18)] false, some (17, false)⟩, ⟨some 20, .bin .eql (.t 19) (.c (.int .i64 0)), some (17, false)⟩, ⟨some 21, .pick (.t 17) (.c (.bool true)) (.t 20), none⟩])
  (.cond (.t 21) (.seq (.reg [⟨some 2, .mv (.c (.bool true)) true, none⟩])
  (.ret))
  (.skip)))
  (.seq (.reg [⟨some 3, .mv (.c (.int .i64 0)) true, none⟩])
  (.seq (.seq (.reg [⟨some 4, .mv (.c (.int .i64 0)) true, none⟩])
  (.block 0 (L7_0)))
  (.seq (.seq (.reg [⟨some 5, .mv (.c (.int .i64 0)) true, none⟩])
  (.block 2 (L7_2)))
  (.seq (.reg [⟨some 106, .mv (.t 3) false, none⟩, ⟨some 107, .bin .eql (.t 106) (.c (.int .i64 0)), none⟩, ⟨some 2, .mv (.t 107) true, none⟩])
  (.ret))))))), [.t 2]⟩
theorem row7 : RowOk Try.prog 7 C7 := ⟨Try.f7, ⟨[], [], [], []⟩, lvOf [(0, [1, 3, 4], 1), (2, [1, 3, 5], 1), (4, [1, 3, 5, 6, 7, 8, 9, 10], 2), (6, [1, 3, 5, 6, 7, 8, 9, 11], 2)], Try.func7, by kernel_rfl, by kernel_rfl⟩
/-- swingbridge/swingbridgelaw11.DemandLocks -/
def C8 : CFun := ⟨123, 4, .seq (.reg [⟨some 8, .mv (.c (.bool false)) true, none⟩])
  (.seq (.seq (.reg [⟨some 15, .call 24 [] false, none⟩, ⟨some 16, .un .not (.t 15), none⟩])
  (.cond (.t 16) (.seq (.reg [⟨some 8, .mv (.c (.bool false)) true, none⟩])
  (.ret))
  (.skip)))
  (.seq (.reg [⟨some 17, .mv (.t 0) false, none⟩, ⟨some 18, .bin .rem (.t 17) (.c (.int .u8 60)), none⟩, ⟨some 19, .conv .i64 (.t 18), none⟩, ⟨some 20, .bin .add (.t 19) (.c (.int .i64 1)), none⟩, ⟨some 21, .mv (.t 1) false, none⟩, ⟨some 22, .bin .rem (.t 21) (.c (.int .u8 60)), none⟩, ⟨some 23, .conv .i64 (.t 22), none⟩, ⟨some 24, .bin .add (.t 23) (.c (.int .i64 1)), none⟩, ⟨some 25, .mv (.t 2) false, none⟩, ⟨some 26, .bin .rem (.t 25) (.c (.int .u8 60)), none⟩, ⟨some 27, .conv .i64 (.t 26), none⟩, ⟨some 28, .bin .add (.t 27) (.c (.int .i64 1)), none⟩, ⟨some 9, .mv (.t 20) true, none⟩, ⟨some 10, .mv (.t 24) true, none⟩, ⟨some 11, .mv (.t 28) true, none⟩])
  (.seq (.reg [⟨some 29, .mv (.t 3) false, none⟩, ⟨some 30, .bin .rem (.t 29) (.c (.int .u8 2)), none⟩, ⟨some 31, .conv .i64 (.t 30), none⟩, ⟨some 12, .mv (.t 31) true, none⟩])
  (.seq (.reg [⟨some 32, .bsl 1 2 [(.int .i64 0), (.int .i64 0)] [(0, 1, (.c (.int .i64 1))), (1, 1, (.c (.int .i64 2)))] false, none⟩, ⟨some 33, .bsl 1 2 [(.int .i64 0), (.int .i64 0)] [(0, 1, (.c (.int .i64 0))), (1, 1, (.c (.int .i64 1)))] false, none⟩, ⟨some 34, .mv (.t 12) false, none⟩, ⟨some 35, .mv (.t 9) false, none⟩, ⟨some 36, .build [(.int .i64 0), (.int .i64 0), (.int .i64 0)] [(0, 1, (.c (.int .i64 3))), (1, 1, (.t 35))], none⟩, ⟨some 37, .mv (.t 10) false, none⟩, ⟨some 38, .build [(.int .i64 0), (.int .i64 0), (.int .i64 0)] [(0, 1, (.c (.int .i64 3))), (1, 1, (.t 37)), (2, 1, (.c (.int .i64 1)))], none⟩, ⟨some 39, .build [(.int .i64 0), (.int .i64 0), (.int .i64 0)] [(0, 1, (.c (.int .i64 1))), (1, 1, (.c (.int .i64 5)))], none⟩, ⟨some 40, .mv (.t 11) false, none⟩, ⟨some 41, .build [(.int .i64 0), (.int .i64 0), (.int .i64 0)] [(0, 1, (.c (.int .i64 3))), (1, 1, (.t 40))], none⟩, ⟨some 42, .bsl 3 4 [(.int .i64 0), (.int .i64 0), (.int .i64 0), (.int .i64 0), (.int .i64 0), (.int .i64 0), (.int .i64 0), (.int .i64 0), (.int .i64 0), (.int .i64 0), (.int .i64 0), (.int .i64 0)] [(0, 3, (.t 36)), (3, 3, (.t 38)), (6, 3, (.t 39)), (9, 3, (.t 41))] false, none⟩, ⟨some 43, .build [(.string ⟨#[]⟩), (.int .i64 0), (.int .i64 0), (.int .i64 0), (.int .i64 0), (.slice none 0 0)] [(0, 1, (.c (.string ⟨#[97]⟩))), (1, 1, (.c (.int .i64 500))), (2, 1, (.c (.int .i64 500))), (3, 1, (.c (.int .i64 3))), (4, 1, (.t 34)), (5, 1, (.t 42))], none⟩, ⟨some 44, .bsl 6 1 [(.string ⟨#[]⟩), (.int .i64 0), (.int .i64 0), (.int .i64 0), (.int .i64 0), (.slice none 0 0)] [(0, 6, (.t 43))] false, none⟩, ⟨some 45, .build [(.int .i64 0), (.slice none 0 0), (.slice none 0 0), (.slice none 0 0)] [(0, 1, (.c (.int .i64 2))), (1, 1, (.t 32)), (2, 1, (.t 33)), (3, 1, (.t 44))], none⟩, ⟨some 13, .alloc [(.int .i64 0), (.slice none 0 0), (.slice none 0 0), (.slice none 0 0)], none⟩, ⟨none, .store 4 (.t 13) (.t 45), none⟩])
  (.seq (.reg [⟨some 46, .fa 3 (.t 13), none⟩, ⟨some 47, .load 1 false (.t 46) false, none⟩, ⟨some 48, .ia 6 (.t 47) (.c (.int .i64 0)), none⟩, ⟨some 49, .load 6 true (.t 48) false, none⟩, ⟨some 14, .alloc [(.string ⟨#[]⟩), (.int .i64 0), (.int .i64 0), (.int .i64 0), (.int .i64 0), (.slice none 0 0)], none⟩, ⟨none, .store 6 (.t 14) (.t 49), none⟩])
  (.seq (.reg [⟨some 50, .load 4 true (.t 13) false, none⟩, ⟨some 51, .call 28 [(.t 50), (.c (.int .i64 0)), (.c (.int .i64 0))] false, none⟩, ⟨some 52, .mv (.t 9) false, none⟩, ⟨some 53, .mv (.t 11) false, none⟩, ⟨some 54, .bin .add (.t 52) (.t 53), none⟩, ⟨some 55, .bin .eql (.t 51) (.t 54), none⟩, ⟨some 56, .mv (.t 55) false, none⟩, ⟨some 57, .load 4 true (.t 13) false, some (56, true)⟩, ⟨some 58, .call 28 [(.t 57), (.c (.int .i64 0)), (.c (.int .i64 1))] false, some (56, true)⟩, ⟨some 59, .mv (.t 10) false, some (56, true)⟩, ⟨some 60, .bin .eql (.t 58) (.t 59), some (56, true)⟩, ⟨some 61, .pick (.t 56) (.t 60) (.c (.bool false)), none⟩, ⟨some 62, .mv (.t 61) false, none⟩, ⟨some 63, .load 4 true (.t 13) false, some (62, true)⟩, ⟨some 64, .call 29 [(.t 63), (.c (.int .i64 0)), (.c (.int .i64 0))] false, some (62, true)⟩, ⟨some 65, .mv (.t 9) false, some (62, true)⟩, ⟨some 66, .mv (.t 11) false, some (62, true)⟩, ⟨some 67, .mxn true [(.t 65), (.t 66)], some (62, true)⟩, ⟨some 68, .bin .eql (.t 64) (.t 67), some (62, true)⟩, ⟨some 69, .pick (.t 62) (.t 68) (.c (.bool false)), none⟩, ⟨some 70, .mv (.t 69) false, none⟩, ⟨some 71, .load 4 true (.t 13) false, some (70, true)⟩, ⟨some 72, .call 29 [(.t 71), (.c (.int .i64 0)), (.c (.int .i64 1))] false, some (70, true)⟩, ⟨some 73, .mv (.t 10) false, some (70, true)⟩, ⟨some 74, .bin .eql (.t 72) (.t 73), some (70, true)⟩, ⟨some 75, .pick (.t 70) (.t 74) (.c (.bool false)), none⟩, ⟨some 76, .mv (.t 75) false, none⟩, ⟨some 77, .load 6 true (.t 14) false, some (76, true)⟩, ⟨some 78, .call 31 [(.t 77)] false, some (76, true)⟩, ⟨some 79, .mv (.t 9) false, some (76, true)⟩, ⟨some 80, .mv (.t 10) false, some (76, true)⟩, ⟨some 81, .bin .add (.t 79) (.t 80), some (76, true)⟩, ⟨some 82, .mv (.t 11) false, some (76, true)⟩, ⟨some 83, .bin .add (.t 81) (.t 82), some (76, true)⟩, ⟨some 84, .bin .eql (.t 78) (.t 83), some (76, true)⟩, ⟨some 85, .pick (.t 76) (.t 84) (.c (.bool false)), none⟩, ⟨some 86, .mv (.t 85) false, none⟩, ⟨some 87, .load 6 true (.t 14) false, some (86, true)⟩, ⟨some 88, .call 30 [(.t 87)] false, some (86, true)⟩, ⟨some 89, .mv (.t 9) false, some (86, true)⟩, ⟨some 90, .mv (.t 10) false, some (86, true)⟩, ⟨some 91, .mv (.t 11) false, some (86, true)⟩, ⟨some 92, .mxn true [(.t 89), (.t 90), (.t 91)], some (86, true)⟩, ⟨some 93, .bin .eql (.t 88) (.t 92), some (86, true)⟩, ⟨some 94, .pick (.t 86) (.t 93) (.c (.bool false)), none⟩, ⟨some 95, .mv (.t 94) false, none⟩, ⟨some 96, .load 4 true (.t 13) false, some (95, true)⟩, ⟨some 97, .mv (.t 12) false, some (95, true)⟩, ⟨some 98, .call 27 [(.t 96), (.t 97)] false, some (95, true)⟩, ⟨some 99, .bin .eql (.t 98) (.c (.int .i64 1)), some (95, true)⟩, ⟨some 100, .pick (.t 95) (.t 99) (.c (.bool false)), none⟩, ⟨some 101, .mv (.t 100) false, none⟩, ⟨some 102, .load 4 true (.t 13) false, some (101, true)⟩, ⟨some 103, .mv (.t 12) false, some (101, true)⟩, ⟨some 104, .bin .sub (.c (.int .i64 1)) (.t 103), some (101, true)⟩, ⟨some 105, .call 27 [(.t 102), (.t 104)] false, some (101, true)⟩, ⟨some 106, .bin .eql (.t 105) (.c (.int .i64 0)), some (101, true)⟩, ⟨some 107, .pick (.t 101) (.t 106) (.c (.bool false)), none⟩, ⟨some 108, .mv (.t 107) false, none⟩, ⟨some 109, .load 4 true (.t 13) false, some (108, true)⟩, ⟨some 110, .call 26 [(.t 109)] false, some (108, true)⟩, ⟨some 111, .bin .eql (.t 110) (.c (.int .i64 3)), some (108, true)⟩, ⟨some 112, .pick (.t 108) (.t 111) (.c (.bool false)), none⟩, ⟨some 113, .mv (.t 112) false, none⟩, ⟨some 114, .load 4 true (.t 13) false, some (113, true)⟩, ⟨some 115, .call 28 [(.t 114), (.c (.int .i64 0)), (.c (.int .i64 2))] false, some (113, true)⟩, ⟨some 116, .bin .eql (.t 115) (.c (.int .i64 0)), some (113, true)⟩, ⟨some 117, .pick (.t 113) (.t 116) (.c (.bool false)), none⟩, ⟨some 118, .mv (.t 117) false, none⟩, ⟨some 119, .load 4 true (.t 13) false, some (118, true)⟩, ⟨some 120, .call 28 [(.t 119), (.c (.int .i64 (-1))), (.c (.int .i64 0))] false, some (118, true)⟩, ⟨some 121, .bin .eql (.t 120) (.c (.int .i64 0)), some (118, true)⟩, ⟨some 122, .pick (.t 118) (.t 121) (.c (.bool false)), none⟩, ⟨some 8, .mv (.t 122) true, none⟩])
  (.ret))))))), [.t 8]⟩
theorem row8 : RowOk Try.prog 8 C8 := ⟨Try.f8, ⟨[], [], [], []⟩, lvOf [], Try.func8, by kernel_rfl, by kernel_rfl⟩
/-- swingbridge/swingbridgelaw22.TurnTells -/
def C9 : CFun := ⟨30, 4, .seq (.reg [⟨some 4, .box (.t 0), none⟩, ⟨some 5, .box (.t 1), none⟩, ⟨some 8, .mv (.c (.bool false)) true, none⟩])
  (.seq (.seq (.reg [⟨some 9, .call 34 [] false, none⟩, ⟨some 10, .un .not (.t 9), none⟩])
  (.cond (.t 10) (.seq (.reg [⟨some 8, .mv (.c (.bool false)) true, none⟩])
  (.ret))
  (.skip)))
  (.seq (.seq (.reg [⟨some 11, .mv (.t 2) false, none⟩, ⟨some 12, .len (.t 11), none⟩, ⟨some 13, .bin .gtr (.t 12) (.c (.int .i64 40)), none⟩])
  (.cond (.t 13) (.seq (.reg [⟨some 8, .mv (.c (.bool true)) true, none⟩])
  (.ret))
  (.skip)))
  (.seq (.reg [⟨some 14, .load 3 true (.t 4) false, none⟩, ⟨some 15, .load 3 true (.t 5) false, none⟩, ⟨some 16, .call 35 [(.t 14), (.t 15)] false, none⟩, ⟨some 17, .load 3 true (.t 4) false, none⟩, ⟨some 18, .load 3 true (.t 5) false, none⟩, ⟨some 19, .call 36 [(.t 17), (.t 18)] false, none⟩, ⟨some 20, .eqb false (.t 16) (.t 19), none⟩, ⟨some 21, .mv (.t 20) false, none⟩, ⟨some 22, .mv (.t 2) false, some (21, true)⟩, ⟨some 23, .mv (.t 3) false, some (21, true)⟩, ⟨some 24, .call 38 [(.t 22), (.t 23)] false, some (21, true)⟩, ⟨some 25, .mv (.t 2) false, some (21, true)⟩, ⟨some 26, .mv (.t 3) false, some (21, true)⟩, ⟨some 27, .call 39 [(.t 25), (.t 26)] false, some (21, true)⟩, ⟨some 28, .call 37 [(.t 24), (.t 27)] false, some (21, true)⟩, ⟨some 29, .pick (.t 21) (.t 28) (.c (.bool false)), none⟩, ⟨some 8, .mv (.t 29) true, none⟩])
  (.ret)))), [.t 8]⟩
theorem row9 : RowOk Try.prog 9 C9 := ⟨Try.f9, ⟨[], [], [], []⟩, lvOf [], Try.func9, by kernel_rfl, by kernel_rfl⟩
def B10_0 : C := .seq (.seq (.reg [⟨some 65, .mv (.t 14) false, none⟩, ⟨some 66, .mv (.t 13) false, none⟩, ⟨some 67, .len (.t 66), none⟩, ⟨some 68, .bin .lss (.t 65) (.t 67), none⟩])
  (.cond (.t 68) (.skip)
  (.exit 0)))
  (.seq (.block 1 (.reg [⟨some 71, .mv (.t 13) false, none⟩, ⟨some 72, .mv (.t 14) false, none⟩, ⟨some 73, .mv (.t 14) false, none⟩, ⟨some 74, .ia 3 (.t 71) (.t 72), none⟩, ⟨some 75, .fa 0 (.t 74), none⟩, ⟨none, .store 1 (.t 75) (.t 73), none⟩]))
  (.reg [⟨some 69, .mv (.t 14) false, none⟩, ⟨some 70, .bin .add (.t 69) (.c (.int .i64 1)), none⟩, ⟨some 14, .mv (.t 70) true, none⟩]))
def L10_0 : C := .loop [4, 13, 14] 4 B10_0
theorem go10_0 (s : Env × Bx) (nb) : evL tab ext nb L10_0 s = (loopIn nb [4, 13, 14] 4 s).bind fun s0 => (evL tab ext nb B10_0 s0).bind (seqG tab ext nb L10_0) := eL_loop _ _ _
def B10_2 : C := .seq (.seq (.reg [⟨some 93, .mv (.t 17) false, none⟩, ⟨some 94, .mv (.t 15) false, none⟩, ⟨some 95, .len (.t 94), none⟩, ⟨some 96, .bin .lss (.t 93) (.t 95), none⟩])
  (.cond (.t 96) (.skip)
  (.exit 2)))
  (.seq (.block 3 (.seq (.seq (.reg [⟨some 99, .mv (.t 15) false, none⟩, ⟨some 100, .mv (.t 17) false, none⟩, ⟨some 101, .ia 1 (.t 99) (.t 100), none⟩, ⟨some 102, .load 1 false (.t 101) false, none⟩, ⟨some 103, .bin .lss (.t 102) (.c (.int .i64 0)), none⟩, ⟨some 104, .mv (.t 103) false, none⟩, ⟨some 105, .mv (.t 15) false, some (104, false)⟩, ⟨some 106, .mv (.t 17) false, some (104, false)⟩, ⟨some 107, .ia 1 (.t 105) (.t 106), some (104, false)⟩, ⟨some 108, .load 1 false (.t 107) false, some (104, false)⟩, ⟨some 109, .mv (.t 13) false, some (104, false)⟩, ⟨some 110, .len (.t 109), some (104, false)⟩, ⟨some 111, .bin .geq (.t 108) (.t 110), some (104, false)⟩, ⟨some 112, .pick (.t 104) (.c (.bool true)) (.t 111), none⟩, ⟨some 113, .mv (.t 112) false, none⟩, ⟨some 114, .mv (.t 16) false, some (113, false)⟩, ⟨some 115, .mv (.t 15) false, some (113, false)⟩, ⟨some 116, .mv (.t 17) false, some (113, false)⟩, ⟨some 117, .ia 1 (.t 115) (.t 116), some (113, false)⟩, ⟨some 118, .load 1 false (.t 117) false, some (113, false)⟩, ⟨some 119, .ia 1 (.t 114) (.t 118), some (113, false)⟩, ⟨some 120, .load 1 false (.t 119) false, some (113, false)⟩, ⟨some 121, .pick (.t 113) (.c (.bool true)) (.t 120), none⟩, ⟨some 122, .mv (.t 121) false, none⟩, ⟨some 123, .mv (.t 17) false, some (122, false)⟩, ⟨some 124, .bin .gtr (.t 123) (.c (.int .i64 0)), some (122, false)⟩, ⟨some 125, .mv (.t 124) false, some (122, false)⟩, ⟨some 126, .mv (.t 13) false, some (125, true)⟩, ⟨some 127, .mv (.t 15) false, some (125, true)⟩, ⟨some 128, .mv (.t 17) false, some (125, true)⟩, ⟨some 129, .bin .sub (.t 128) (.c (.int .i64 1)), some (125, true)⟩, ⟨some 130, .ia 1 (.t 127) (.t 129), some (125, true)⟩, ⟨some 131, .load 1 false (.t 130) false, some (125, true)⟩, ⟨some 132, .ia 3 (.t 126) (.t 131), some (125, true)⟩, ⟨some 133, .load 3 true (.t 132) false, some (125, true)⟩, ⟨some 134, .mv (.t 13) false, some (125, true)⟩, ⟨some 135, .mv (.t 15) false, some (125, true)⟩, ⟨some 136, .mv (.t 17) false, some (125, true)⟩, ⟨some 137, .ia 1 (.t 135) (.t 136), some (125, true)⟩, ⟨some 138, .load 1 false (.t 137) false, some (125, true)⟩, ⟨some 139, .ia 3 (.t 134) (.t 138), some (125, true)⟩, ⟨some 140, .load 3 true (.t 139) false, some (125, true)⟩, ⟨some 141, .call 35 [(.t 133), (.t 140)] false, some (125, true)⟩, ⟨some 142, .un .not (.t 141), some (125, true)⟩, ⟨some 143, .pick (.t 125) (.t 142) (.c (.bool false)), some (122, false)⟩, ⟨some 144, .pick (.t 122) (.c (.bool true)) (.t 143), none⟩])
  (.cond (.t 144) (.seq (.reg [⟨some 10, .mv (.c (.bool false)) true, none⟩])
  (.ret))
  (.skip)))
  (.reg [⟨some 145, .mv (.t 16) false, none⟩, ⟨some 146, .mv (.t 15) false, none⟩, ⟨some 147, .mv (.t 17) false, none⟩, ⟨some 148, .ia 1 (.t 146) (.t 147), none⟩, ⟨some 149, .load 1 false (.t 148) false, none⟩, ⟨some 150, .ia 1 (.t 145) (.t 149), none⟩, ⟨none, .store 1 (.t 150) (.c (.bool true)), none⟩])))
  (.reg [⟨some 97, .mv (.t 17) false, none⟩, ⟨some 98, .bin .add (.t 97) (.c (.int .i64 1)), none⟩, ⟨some 17, .mv (.t 98) true, none⟩]))
def L10_2 : C := .loop [13, 15, 16, 17] 1 B10_2
theorem go10_2 (s : Env × Bx) (nb) : evL tab ext nb L10_2 s = (loopIn nb [13, 15, 16, 17] 1 s).bind fun s0 => (evL tab ext nb B10_2 s0).bind (seqG tab ext nb L10_2) := eL_loop _ _ _
def B10_4 : C := .seq (.seq (.reg [⟨some 151, .mv (.t 18) false, none⟩, ⟨some 152, .mv (.t 13) false, none⟩, ⟨some 153, .len (.t 152), none⟩, ⟨some 154, .bin .lss (.t 151) (.t 153), none⟩, ⟨some 155, .mv (.t 154) false, none⟩, ⟨some 156, .mv (.t 15) false, some (155, true)⟩, ⟨some 157, .len (.t 156), some (155, true)⟩, ⟨some 158, .bin .gtr (.t 157) (.c (.int .i64 0)), some (155, true)⟩, ⟨some 159, .pick (.t 155) (.t 158) (.c (.bool false)), none⟩])
  (.cond (.t 159) (.skip)
  (.exit 4)))
  (.seq (.block 5 (.seq (.reg [⟨some 162, .mv (.t 16) false, none⟩, ⟨some 163, .mv (.t 18) false, none⟩, ⟨some 164, .ia 1 (.t 162) (.t 163), none⟩, ⟨some 165, .load 1 false (.t 164) false, none⟩, ⟨some 166, .un .not (.t 165), none⟩, ⟨some 167, .mv (.t 166) false, none⟩, ⟨some 168, .mv (.t 13) false, some (167, true)⟩, ⟨some 169, .mv (.t 18) false, some (167, true)⟩, ⟨some 170, .ia 3 (.t 168) (.t 169), some (167, true)⟩, ⟨some 171, .load 3 true (.t 170) false, some (167, true)⟩, ⟨some 172, .mv (.t 13) false, some (167, true)⟩, ⟨some 173, .mv (.t 15) false, some (167, true)⟩, ⟨some 174, .mv (.t 15) false, some (167, true)⟩, ⟨some 175, .len (.t 174), some (167, true)⟩, ⟨some 176, .bin .sub (.t 175) (.c (.int .i64 1)), some (167, true)⟩, ⟨some 177, .ia 1 (.t 173) (.t 176), some (167, true)⟩, ⟨some 178, .load 1 false (.t 177) false, some (167, true)⟩, ⟨some 179, .ia 3 (.t 172) (.t 178), some (167, true)⟩, ⟨some 180, .load 3 true (.t 179) false, some (167, true)⟩, ⟨some 181, .call 35 [(.t 171), (.t 180)] false, some (167, true)⟩, ⟨some 182, .pick (.t 167) (.t 181) (.c (.bool false)), none⟩])
  (.cond (.t 182) (.seq (.reg [⟨some 10, .mv (.c (.bool false)) true, none⟩])
  (.ret))
  (.skip))))
  (.reg [⟨some 160, .mv (.t 18) false, none⟩, ⟨some 161, .bin .add (.t 160) (.c (.int .i64 1)), none⟩, ⟨some 18, .mv (.t 161) true, none⟩]))
def L10_4 : C := .loop [13, 15, 16, 18] 1 B10_4
theorem go10_4 (s : Env × Bx) (nb) : evL tab ext nb L10_4 s = (loopIn nb [13, 15, 16, 18] 1 s).bind fun s0 => (evL tab ext nb B10_4 s0).bind (seqG tab ext nb L10_4) := eL_loop _ _ _
/-- swingbridge/swingbridgelaw22.TurnOrder -/
def C10 : CFun := ⟨183, 5, .seq (.reg [⟨some 5, .box (.t 0), none⟩, ⟨some 6, .box (.t 1), none⟩, ⟨some 7, .box (.t 2), none⟩, ⟨some 10, .mv (.c (.bool false)) true, none⟩])
  (.seq (.seq (.reg [⟨some 19, .call 34 [] false, none⟩, ⟨some 20, .un .not (.t 19), none⟩])
  (.cond (.t 20) (.seq (.reg [⟨some 10, .mv (.c (.bool false)) true, none⟩])
  (.ret))
  (.skip)))
  (.seq (.seq (.reg [⟨some 21, .mv (.t 3) false, none⟩, ⟨some 22, .len (.t 21), none⟩, ⟨some 23, .bin .gtr (.t 22) (.c (.int .i64 30)), none⟩])
  (.cond (.t 23) (.seq (.reg [⟨some 10, .mv (.c (.bool true)) true, none⟩])
  (.ret))
  (.skip)))
  (.seq (.reg [⟨some 24, .load 3 true (.t 5) false, none⟩, ⟨some 25, .load 3 true (.t 6) false, none⟩, ⟨some 26, .call 35 [(.t 24), (.t 25)] false, none⟩, ⟨some 27, .load 3 true (.t 6) false, none⟩, ⟨some 28, .load 3 true (.t 5) false, none⟩, ⟨some 29, .call 35 [(.t 27), (.t 28)] false, none⟩, ⟨some 11, .mv (.t 26) true, none⟩, ⟨some 12, .mv (.t 29) true, none⟩])
  (.seq (.seq (.reg [⟨some 30, .mv (.t 11) false, none⟩, ⟨some 31, .mv (.t 30) false, none⟩, ⟨some 32, .mv (.t 12) false, some (31, true)⟩, ⟨some 33, .pick (.t 31) (.t 32) (.c (.bool false)), none⟩, ⟨some 34, .mv (.t 33) false, none⟩, ⟨some 35, .mv (.t 11) false, some (34, false)⟩, ⟨some 36, .mv (.t 35) false, some (34, false)⟩, ⟨some 37, .load 3 true (.t 6) false, some (36, true)⟩, ⟨some 38, .load 3 true (.t 7) false, some (36, true)⟩, ⟨some 39, .call 35 [(.t 37), (.t 38)] false, some (36, true)⟩, ⟨some 40, .pick (.t 36) (.t 39) (.c (.bool false)), some (34, false)⟩, ⟨some 41, .mv (.t 40) false, some (34, false)⟩, ⟨some 42, .load 3 true (.t 5) false, some (41, true)⟩, ⟨some 43, .load 3 true (.t 7) false, some (41, true)⟩, ⟨some 44, .call 35 [(.t 42), (.t 43)] false, some (41, true)⟩, ⟨some 45, .un .not (.t 44), some (41, true)⟩, ⟨some 46, .pick (.t 41) (.t 45) (.c (.bool false)), some (34, false)⟩, ⟨some 47, .pick (.t 34) (.c (.bool true)) (.t 46), none⟩, ⟨some 48, .mv (.t 47) false, none⟩, ⟨some 49, .fa 0 (.t 5), some (48, false)⟩, ⟨some 50, .load 1 false (.t 49) false, some (48, false)⟩, ⟨some 51, .fa 0 (.t 6), some (48, false)⟩, ⟨some 52, .load 1 false (.t 51) false, some (48, false)⟩, ⟨some 53, .bin .neq (.t 50) (.t 52), some (48, false)⟩, ⟨some 54, .mv (.t 53) false, some (48, false)⟩, ⟨some 55, .mv (.t 11) false, some (54, true)⟩, ⟨some 56, .un .not (.t 55), some (54, true)⟩, ⟨some 57, .pick (.t 54) (.t 56) (.c (.bool false)), some (48, false)⟩, ⟨some 58, .mv (.t 57) false, some (48, false)⟩, ⟨some 59, .mv (.t 12) false, some (58, true)⟩, ⟨some 60, .un .not (.t 59), some (58, true)⟩, ⟨some 61, .pick (.t 58) (.t 60) (.c (.bool false)), some (48, false)⟩, ⟨some 62, .pick (.t 48) (.c (.bool true)) (.t 61), none⟩])
  (.cond (.t 62) (.seq (.reg [⟨some 10, .mv (.c (.bool false)) true, none⟩])
  (.ret))
  (.skip)))
  (.seq (.reg [⟨some 63, .mv (.t 3) false, none⟩, ⟨some 64, .app 3 24 (.c (.slice none 0 0)) (.t 63) true, none⟩, ⟨some 13, .mv (.t 64) true, none⟩])
  (.seq (.seq (.reg [⟨some 14, .mv (.c (.int .i64 0)) true, none⟩])
  (.block 0 (L10_0)))
  (.seq (.reg [⟨some 76, .mv (.t 13) false, none⟩, ⟨some 77, .mv (.t 4) false, none⟩, ⟨some 78, .bin .rem (.t 77) (.c (.int .u8 40)), none⟩, ⟨some 79, .conv .i64 (.t 78), none⟩, ⟨some 80, .callz 183 38 [(.t 76), (.t 79)], none⟩, ⟨some 15, .mv (.t 80) true, none⟩])
  (.seq (.seq (.reg [⟨some 81, .mv (.t 15) false, none⟩, ⟨some 82, .len (.t 81), none⟩, ⟨some 83, .mv (.t 13) false, none⟩, ⟨some 84, .len (.t 83), none⟩, ⟨some 85, .mv (.t 4) false, none⟩, ⟨some 86, .bin .rem (.t 85) (.c (.int .u8 40)), none⟩, ⟨some 87, .conv .i64 (.t 86), none⟩, ⟨some 88, .mxn false [(.t 84), (.t 87)], none⟩, ⟨some 89, .bin .neq (.t 82) (.t 88), none⟩])
  (.cond (.t 89) (.seq (.reg [⟨some 10, .mv (.c (.bool false)) true, none⟩])
  (.ret))
  (.skip)))
  (.seq (.reg [⟨some 90, .mv (.t 13) false, none⟩, ⟨some 91, .len (.t 90), none⟩, ⟨some 92, .mksl 1 1 [(.bool false)] (.t 91) true, none⟩, ⟨some 16, .mv (.t 92) true, none⟩])
  (.seq (.seq (.reg [⟨some 17, .mv (.c (.int .i64 0)) true, none⟩])
  (.block 2 (L10_2)))
  (.seq (.seq (.reg [⟨some 18, .mv (.c (.int .i64 0)) true, none⟩])
  (.block 4 (L10_4)))
  (.seq (.reg [⟨some 10, .mv (.c (.bool true)) true, none⟩])
  (.ret))))))))))))), [.t 10]⟩
theorem row10 : RowOk Try.prog 10 C10 := ⟨Try.f10, ⟨[], [64, 92], [1000038, 2000183], []⟩, lvOf [(0, [4, 13, 14], 4), (2, [13, 15, 16, 17], 1), (4, [13, 15, 16, 18], 1)], Try.func10, by kernel_rfl, by kernel_rfl⟩
def B11_0 : C := .seq (.seq (.reg [⟨some 25, .mv (.t 9) false, none⟩, ⟨some 26, .mv (.t 0) false, none⟩, ⟨some 27, .len (.t 26), none⟩, ⟨some 28, .bin .lss (.t 25) (.t 27), none⟩])
  (.cond (.t 28) (.skip)
  (.exit 0)))
  (.seq (.block 1 (.seq (.reg [⟨some 31, .mv (.t 9) false, none⟩, ⟨some 32, .mv (.t 1) false, none⟩, ⟨some 33, .mv (.t 9) false, none⟩, ⟨some 34, .ia 1 (.t 32) (.t 33), none⟩, ⟨some 35, .load 1 false (.t 34) false, none⟩, ⟨some 36, .conv .i64 (.t 35), none⟩, ⟨some 37, .build [(.int .i64 0), (.int .i64 0), (.int .i64 0)] [(0, 1, (.t 31)), (1, 1, (.t 36))], none⟩, ⟨some 10, .alloc [(.int .i64 0), (.int .i64 0), (.int .i64 0)], none⟩, ⟨none, .store 3 (.t 10) (.t 37), none⟩])
  (.seq (.seq (.reg [⟨some 38, .mv (.t 0) false, none⟩, ⟨some 39, .mv (.t 9) false, none⟩, ⟨some 40, .ia 1 (.t 38) (.t 39), none⟩, ⟨some 41, .load 1 false (.t 40) false, none⟩, ⟨some 42, .bin .rem (.t 41) (.c (.int .u8 2)), none⟩, ⟨some 43, .bin .eql (.t 42) (.c (.int .u8 1)), none⟩])
  (.cond (.t 43) (.seq (.reg [⟨some 44, .mv (.t 0) false, none⟩, ⟨some 45, .mv (.t 9) false, none⟩, ⟨some 46, .ia 1 (.t 44) (.t 45), none⟩, ⟨some 47, .load 1 false (.t 46) false, none⟩, ⟨some 48, .conv .i64 (.t 47), none⟩, ⟨some 49, .fa 2 (.t 10), none⟩, ⟨none, .store 1 (.t 49) (.t 48), none⟩])
  (.reg [⟨some 50, .mv (.t 8) false, none⟩, ⟨some 51, .bin .add (.t 50) (.c (.int .i64 1)), none⟩, ⟨some 8, .mv (.t 51) true, none⟩]))
  (.skip)))
  (.reg [⟨some 52, .mv (.t 7) true, none⟩, ⟨some 53, .load 3 true (.t 10) false, none⟩, ⟨some 54, .bsl 3 1 [(.int .i64 0), (.int .i64 0), (.int .i64 0)] [(0, 3, (.t 53))] false, none⟩, ⟨some 55, .app 3 24 (.t 52) (.t 54) false, none⟩, ⟨some 7, .mv (.t 55) true, none⟩]))))
  (.reg [⟨some 29, .mv (.t 9) false, none⟩, ⟨some 30, .bin .add (.t 29) (.c (.int .i64 1)), none⟩, ⟨some 9, .mv (.t 30) true, none⟩]))
def L11_0 : C := .loop [0, 1, 2, 7, 8, 9] 0 B11_0
theorem go11_0 (s : Env × Bx) (nb) : evL tab ext nb L11_0 s = (loopIn nb [0, 1, 2, 7, 8, 9] 0 s).bind fun s0 => (evL tab ext nb B11_0 s0).bind (seqG tab ext nb L11_0) := eL_loop _ _ _
def B11_2 : C := .seq (.seq (.reg [⟨some 80, .mv (.t 12) false, none⟩, ⟨some 81, .mv (.t 11) false, none⟩, ⟨some 82, .len (.t 81), none⟩, ⟨some 83, .bin .lss (.t 80) (.t 82), none⟩])
  (.cond (.t 83) (.skip)
  (.exit 2)))
  (.seq (.block 3 (.seq (.seq (.reg [⟨some 86, .mv (.t 11) false, none⟩, ⟨some 87, .mv (.t 12) false, none⟩, ⟨some 88, .ia 1 (.t 86) (.t 87), none⟩, ⟨some 89, .load 1 false (.t 88) false, none⟩, ⟨some 90, .bin .lss (.t 89) (.c (.int .i64 0)), none⟩, ⟨some 91, .mv (.t 90) false, none⟩, ⟨some 92, .mv (.t 11) false, some (91, false)⟩, ⟨some 93, .mv (.t 12) false, some (91, false)⟩, ⟨some 94, .ia 1 (.t 92) (.t 93), some (91, false)⟩, ⟨some 95, .load 1 false (.t 94) false, some (91, false)⟩, ⟨some 96, .mv (.t 7) false, some (91, false)⟩, ⟨some 97, .len (.t 96), some (91, false)⟩, ⟨some 98, .bin .geq (.t 95) (.t 97), some (91, false)⟩, ⟨some 99, .pick (.t 91) (.c (.bool true)) (.t 98), none⟩, ⟨some 100, .mv (.t 99) false, none⟩, ⟨some 101, .mv (.t 0) false, some (100, false)⟩, ⟨some 102, .mv (.t 11) false, some (100, false)⟩, ⟨some 103, .mv (.t 12) false, some (100, false)⟩, ⟨some 104, .ia 1 (.t 102) (.t 103), some (100, false)⟩, ⟨some 105, .load 1 false (.t 104) false, some (100, false)⟩, ⟨some 106, .ia 1 (.t 101) (.t 105), some (100, false)⟩, ⟨some 107, .load 1 false (.t 106) false, some (100, false)⟩, ⟨some 108, .bin .rem (.t 107) (.c (.int .u8 2)), some (100, false)⟩, ⟨some 109, .bin .eql (.t 108) (.c (.int .u8 1)), some (100, false)⟩, ⟨some 110, .mv (.t 12) false, some (100, false)⟩, ⟨some 111, .mv (.t 8) false, some (100, false)⟩, ⟨some 112, .bin .lss (.t 110) (.t 111), some (100, false)⟩, ⟨some 113, .eqb true (.t 109) (.t 112), some (100, false)⟩, ⟨some 114, .pick (.t 100) (.c (.bool true)) (.t 113), none⟩])
  (.cond (.t 114) (.seq (.reg [⟨some 6, .mv (.c (.bool false)) true, none⟩])
  (.ret))
  (.skip)))
  (.seq (.reg [⟨some 115, .mv (.t 12) false, none⟩, ⟨some 116, .bin .gtr (.t 115) (.c (.int .i64 0)), none⟩, ⟨some 117, .mv (.t 116) false, none⟩, ⟨some 118, .mv (.t 12) false, some (117, true)⟩, ⟨some 119, .mv (.t 8) false, some (117, true)⟩, ⟨some 120, .bin .lss (.t 118) (.t 119), some (117, true)⟩, ⟨some 121, .pick (.t 117) (.t 120) (.c (.bool false)), none⟩, ⟨some 122, .mv (.t 121) false, none⟩, ⟨some 123, .mv (.t 0) false, some (122, true)⟩, ⟨some 124, .mv (.t 11) false, some (122, true)⟩, ⟨some 125, .mv (.t 12) false, some (122, true)⟩, ⟨some 126, .bin .sub (.t 125) (.c (.int .i64 1)), some (122, true)⟩, ⟨some 127, .ia 1 (.t 124) (.t 126), some (122, true)⟩, ⟨some 128, .load 1 false (.t 127) false, some (122, true)⟩, ⟨some 129, .ia 1 (.t 123) (.t 128), some (122, true)⟩, ⟨some 130, .load 1 false (.t 129) false, some (122, true)⟩, ⟨some 131, .mv (.t 0) false, some (122, true)⟩, ⟨some 132, .mv (.t 11) false, some (122, true)⟩, ⟨some 133, .mv (.t 12) false, some (122, true)⟩, ⟨some 134, .ia 1 (.t 132) (.t 133), some (122, true)⟩, ⟨some 135, .load 1 false (.t 134) false, some (122, true)⟩, ⟨some 136, .ia 1 (.t 131) (.t 135), some (122, true)⟩, ⟨some 137, .load 1 false (.t 136) false, some (122, true)⟩, ⟨some 138, .bin .gtr (.t 130) (.t 137), some (122, true)⟩, ⟨some 139, .pick (.t 122) (.t 138) (.c (.bool false)), none⟩, ⟨some 140, .mv (.t 139) false, none⟩, ⟨some 141, .mv (.t 12) false, some (140, false)⟩, ⟨some 142, .mv (.t 8) false, some (140, false)⟩, ⟨some 143, .bin .gtr (.t 141) (.t 142), some (140, false)⟩, ⟨some 144, .mv (.t 143) false, some (140, false)⟩, ⟨some 145, .mv (.t 1) false, some (144, true)⟩, ⟨some 146, .mv (.t 11) false, some (144, true)⟩, ⟨some 147, .mv (.t 12) false, some (144, true)⟩, ⟨some 148, .bin .sub (.t 147) (.c (.int .i64 1)), some (144, true)⟩, ⟨some 149, .ia 1 (.t 146) (.t 148), some (144, true)⟩, ⟨some 150, .load 1 false (.t 149) false, some (144, true)⟩, ⟨some 151, .ia 1 (.t 145) (.t 150), some (144, true)⟩, ⟨some 152, .load 1 false (.t 151) false, some (144, true)⟩, ⟨some 153, .mv (.t 1) false, some (144, true)⟩, ⟨some 154, .mv (.t 11) false, some (144, true)⟩, ⟨some 155, .mv (.t 12) false, some (144, true)⟩, ⟨some 156, .ia 1 (.t 154) (.t 155), some (144, true)⟩, ⟨some 157, .load 1 false (.t 156) false, some (144, true)⟩, ⟨some 158, .ia 1 (.t 153) (.t 157), some (144, true)⟩, ⟨some 159, .load 1 false (.t 158) false, some (144, true)⟩, ⟨some 160, .bin .gtr (.t 152) (.t 159), some (144, true)⟩, ⟨some 161, .pick (.t 144) (.t 160) (.c (.bool false)), some (140, false)⟩, ⟨some 162, .pick (.t 140) (.c (.bool true)) (.t 161), none⟩])
  (.cond (.t 162) (.seq (.reg [⟨some 6, .mv (.c (.bool false)) true, none⟩])
  (.ret))
  (.skip)))))
  (.reg [⟨some 84, .mv (.t 12) false, none⟩, ⟨some 85, .bin .add (.t 84) (.c (.int .i64 1)), none⟩, ⟨some 12, .mv (.t 85) true, none⟩]))
def L11_2 : C := .loop [0, 1, 7, 8, 11, 12] 0 B11_2
theorem go11_2 (s : Env × Bx) (nb) : evL tab ext nb L11_2 s = (loopIn nb [0, 1, 7, 8, 11, 12] 0 s).bind fun s0 => (evL tab ext nb B11_2 s0).bind (seqG tab ext nb L11_2) := eL_loop _ _ _
/-- swingbridge/swingbridgelaw22.TurnBoosts -/
def C11 : CFun := ⟨163, 3, .seq (.reg [⟨some 6, .mv (.c (.bool false)) true, none⟩])
  (.seq (.seq (.reg [⟨some 13, .call 34 [] false, none⟩, ⟨some 14, .un .not (.t 13), none⟩])
  (.cond (.t 14) (.seq (.reg [⟨some 6, .mv (.c (.bool false)) true, none⟩])
  (.ret))
  (.skip)))
  (.seq (.seq (.reg [⟨some 15, .mv (.t 0) false, none⟩, ⟨some 16, .len (.t 15), none⟩, ⟨some 17, .bin .gtr (.t 16) (.c (.int .i64 20)), none⟩, ⟨some 18, .mv (.t 17) false, none⟩, ⟨some 19, .mv (.t 1) false, some (18, false)⟩, ⟨some 20, .len (.t 19), some (18, false)⟩, ⟨some 21, .mv (.t 0) false, some (18, false)⟩, ⟨some 22, .len (.t 21), some (18, false)⟩, ⟨some 23, .bin .lss (.t 20) (.t 22), some (18, false)⟩, ⟨some 24, .pick (.t 18) (.c (.bool true)) (.t 23), none⟩])
  (.cond (.t 24) (.seq (.reg [⟨some 6, .mv (.c (.bool true)) true, none⟩])
  (.ret))
  (.skip)))
  (.seq (.reg [⟨some 7, .mv (.c (.slice none 0 0)) true, none⟩])
  (.seq (.reg [⟨some 8, .mv (.c (.int .i64 0)) true, none⟩])
  (.seq (.seq (.reg [⟨some 9, .mv (.c (.int .i64 0)) true, none⟩])
  (.block 0 (L11_0)))
  (.seq (.reg [⟨some 56, .mv (.t 7) false, none⟩, ⟨some 57, .mv (.t 7) false, none⟩, ⟨some 58, .len (.t 57), none⟩, ⟨some 59, .call 38 [(.t 56), (.t 58)] false, none⟩, ⟨some 11, .mv (.t 59) true, none⟩])
  (.seq (.seq (.reg [⟨some 60, .mv (.t 11) false, none⟩, ⟨some 61, .len (.t 60), none⟩, ⟨some 62, .mv (.t 7) false, none⟩, ⟨some 63, .len (.t 62), none⟩, ⟨some 64, .bin .neq (.t 61) (.t 63), none⟩, ⟨some 65, .mv (.t 64) false, none⟩, ⟨some 66, .mv (.t 7) false, some (65, false)⟩, ⟨some 67, .mv (.t 2) false, some (65, false)⟩, ⟨some 68, .bin .rem (.t 67) (.c (.int .u8 25)), some (65, false)⟩, ⟨some 69, .conv .i64 (.t 68), some (65, false)⟩, ⟨some 70, .call 38 [(.t 66), (.t 69)] false, some (65, false)⟩, ⟨some 71, .len (.t 70), some (65, false)⟩, ⟨some 72, .mv (.t 2) false, some (65, false)⟩, ⟨some 73, .bin .rem (.t 72) (.c (.int .u8 25)), some (65, false)⟩, ⟨some 74, .conv .i64 (.t 73), some (65, false)⟩, ⟨some 75, .mv (.t 7) false, some (65, false)⟩, ⟨some 76, .len (.t 75), some (65, false)⟩, ⟨some 77, .mxn false [(.t 74), (.t 76)], some (65, false)⟩, ⟨some 78, .bin .neq (.t 71) (.t 77), some (65, false)⟩, ⟨some 79, .pick (.t 65) (.c (.bool true)) (.t 78), none⟩])
  (.cond (.t 79) (.seq (.reg [⟨some 6, .mv (.c (.bool false)) true, none⟩])
  (.ret))
  (.skip)))
  (.seq (.seq (.reg [⟨some 12, .mv (.c (.int .i64 0)) true, none⟩])
  (.block 2 (L11_2)))
  (.seq (.reg [⟨some 6, .mv (.c (.bool true)) true, none⟩])
  (.ret)))))))))), [.t 6]⟩
theorem row11 : RowOk Try.prog 11 C11 := ⟨Try.f11, ⟨[], [], [], []⟩, lvOf [(0, [0, 1, 2, 7, 8, 9], 0), (2, [0, 1, 7, 8, 11, 12], 0)], Try.func11, by kernel_rfl, by kernel_rfl⟩
/-- swingbridge/swingbridgelaw10.CanonTells -/
def C12 : CFun := ⟨34, 2, .seq (.reg [⟨some 2, .box (.t 0), none⟩, ⟨some 4, .mv (.c (.bool false)) true, none⟩])
  (.seq (.seq (.reg [⟨some 6, .call 40 [] false, none⟩, ⟨some 7, .un .not (.t 6), none⟩])
  (.cond (.t 7) (.seq (.reg [⟨some 4, .mv (.c (.bool false)) true, none⟩])
  (.ret))
  (.skip)))
  (.seq (.seq (.reg [⟨some 8, .load 4 true (.t 2) false, none⟩, ⟨some 9, .call 41 [(.t 8)] false, none⟩, ⟨some 10, .un .not (.t 9), none⟩])
  (.cond (.t 10) (.seq (.reg [⟨some 4, .mv (.c (.bool true)) true, none⟩])
  (.ret))
  (.skip)))
  (.seq (.reg [⟨some 11, .load 4 true (.t 2) false, none⟩, ⟨some 12, .call 42 [(.t 11)] false, none⟩, ⟨some 5, .mv (.t 12) true, none⟩])
  (.seq (.reg [⟨some 13, .load 4 true (.t 2) false, none⟩, ⟨some 14, .call 43 [(.t 13)] false, none⟩, ⟨some 15, .mv (.t 5) false, none⟩, ⟨some 16, .call 37 [(.t 14), (.t 15)] false, none⟩, ⟨some 17, .mv (.t 16) false, none⟩, ⟨some 18, .load 4 true (.t 2) false, some (17, true)⟩, ⟨some 19, .call 44 [(.t 18)] false, some (17, true)⟩, ⟨some 20, .load 4 true (.t 2) false, some (17, true)⟩, ⟨some 21, .mv (.t 5) false, some (17, true)⟩, ⟨some 22, .call 45 [(.t 20), (.t 21)] false, some (17, true)⟩, ⟨some 23, .call 20 [(.t 19), (.t 22)] false, some (17, true)⟩, ⟨some 24, .pick (.t 17) (.t 23) (.c (.bool false)), none⟩, ⟨some 25, .mv (.t 24) false, none⟩, ⟨some 26, .load 4 true (.t 2) false, some (25, true)⟩, ⟨some 27, .mv (.t 1) false, some (25, true)⟩, ⟨some 28, .call 46 [(.t 26), (.t 27)] false, some (25, true)⟩, ⟨some 29, .load 4 true (.t 2) false, some (25, true)⟩, ⟨some 30, .mv (.t 1) false, some (25, true)⟩, ⟨some 31, .call 47 [(.t 29), (.t 30)] false, some (25, true)⟩, ⟨some 32, .call 20 [(.t 28), (.t 31)] false, some (25, true)⟩, ⟨some 33, .pick (.t 25) (.t 32) (.c (.bool false)), none⟩, ⟨some 4, .mv (.t 33) true, none⟩])
  (.ret))))), [.t 4]⟩
theorem row12 : RowOk Try.prog 12 C12 := ⟨Try.f12, ⟨[], [], [], []⟩, lvOf [], Try.func12, by kernel_rfl, by kernel_rfl⟩
def B13_0 : C := .seq (.seq (.reg [⟨some 24, .mv (.t 7) false, none⟩, ⟨some 25, .fa 3 (.t 5), none⟩, ⟨some 26, .load 1 false (.t 25) false, none⟩, ⟨some 27, .len (.t 26), none⟩, ⟨some 28, .bin .lss (.t 24) (.t 27), none⟩])
  (.cond (.t 28) (.skip)
  (.exit 0)))
  (.seq (.block 1 (.seq (.reg [⟨some 31, .fa 3 (.t 5), none⟩, ⟨some 32, .load 1 false (.t 31) false, none⟩, ⟨some 33, .mv (.t 7) false, none⟩, ⟨some 34, .bin .sub (.t 33) (.c (.int .i64 1)), none⟩, ⟨some 35, .ia 6 (.t 32) (.t 34), none⟩, ⟨some 36, .fa 3 (.t 35), none⟩, ⟨some 37, .load 1 false (.t 36) false, none⟩, ⟨some 38, .fa 3 (.t 5), none⟩, ⟨some 39, .load 1 false (.t 38) false, none⟩, ⟨some 40, .mv (.t 7) false, none⟩, ⟨some 41, .ia 6 (.t 39) (.t 40), none⟩, ⟨some 42, .fa 3 (.t 41), none⟩, ⟨some 43, .load 1 false (.t 42) false, none⟩, ⟨some 44, .bin .geq (.t 37) (.t 43), none⟩])
  (.cond (.t 44) (.seq (.reg [⟨some 4, .mv (.c (.bool false)) true, none⟩])
  (.ret))
  (.skip))))
  (.reg [⟨some 29, .mv (.t 7) false, none⟩, ⟨some 30, .bin .add (.t 29) (.c (.int .i64 1)), none⟩, ⟨some 7, .mv (.t 30) true, none⟩]))
def L13_0 : C := .loop [1, 2, 5, 6, 7] 3 B13_0
theorem go13_0 (s : Env × Bx) (nb) : evL tab ext nb L13_0 s = (loopIn nb [1, 2, 5, 6, 7] 3 s).bind fun s0 => (evL tab ext nb B13_0 s0).bind (seqG tab ext nb L13_0) := eL_loop _ _ _
/-- swingbridge/swingbridgelaw10.CanonOne -/
def C13 : CFun := ⟨76, 2, .seq (.reg [⟨some 2, .box (.t 0), none⟩, ⟨some 4, .mv (.c (.bool false)) true, none⟩])
  (.seq (.seq (.reg [⟨some 8, .call 40 [] false, none⟩, ⟨some 9, .un .not (.t 8), none⟩])
  (.cond (.t 9) (.seq (.reg [⟨some 4, .mv (.c (.bool false)) true, none⟩])
  (.ret))
  (.skip)))
  (.seq (.seq (.reg [⟨some 10, .load 4 true (.t 2) false, none⟩, ⟨some 11, .call 41 [(.t 10)] false, none⟩, ⟨some 12, .un .not (.t 11), none⟩, ⟨some 13, .mv (.t 12) false, none⟩, ⟨some 14, .load 4 true (.t 2) false, some (13, false)⟩, ⟨some 15, .call 22 [(.t 14)] false, some (13, false)⟩, ⟨some 16, .un .not (.t 15), some (13, false)⟩, ⟨some 17, .pick (.t 13) (.c (.bool true)) (.t 16), none⟩])
  (.cond (.t 17) (.seq (.reg [⟨some 4, .mv (.c (.bool true)) true, none⟩])
  (.ret))
  (.skip)))
  (.seq (.reg [⟨some 18, .load 4 true (.t 2) false, none⟩, ⟨some 19, .call 44 [(.t 18)] false, none⟩, ⟨some 5, .alloc [(.int .i64 0), (.slice none 0 0), (.slice none 0 0), (.slice none 0 0)], none⟩, ⟨none, .store 4 (.t 5) (.t 19), none⟩])
  (.seq (.reg [⟨some 20, .load 4 true (.t 2) false, none⟩, ⟨some 21, .mv (.t 1) false, none⟩, ⟨some 22, .conv .i64 (.t 21), none⟩, ⟨some 23, .call 46 [(.t 20), (.t 22)] false, none⟩, ⟨some 6, .alloc [(.int .i64 0), (.slice none 0 0), (.slice none 0 0), (.slice none 0 0)], none⟩, ⟨none, .store 4 (.t 6) (.t 23), none⟩])
  (.seq (.seq (.reg [⟨some 7, .mv (.c (.int .i64 1)) true, none⟩])
  (.block 0 (L13_0)))
  (.seq (.reg [⟨some 45, .load 4 true (.t 6) false, none⟩, ⟨some 46, .call 44 [(.t 45)] false, none⟩, ⟨some 47, .load 4 true (.t 5) false, none⟩, ⟨some 48, .call 20 [(.t 46), (.t 47)] false, none⟩, ⟨some 49, .mv (.t 48) false, none⟩, ⟨some 50, .load 4 true (.t 5) false, some (49, true)⟩, ⟨some 51, .call 44 [(.t 50)] false, some (49, true)⟩, ⟨some 52, .load 4 true (.t 5) false, some (49, true)⟩, ⟨some 53, .call 20 [(.t 51), (.t 52)] false, some (49, true)⟩, ⟨some 54, .pick (.t 49) (.t 53) (.c (.bool false)), none⟩, ⟨some 55, .mv (.t 54) false, none⟩, ⟨some 56, .fa 3 (.t 5), some (55, true)⟩, ⟨some 57, .load 1 false (.t 56) false, some (55, true)⟩, ⟨some 58, .len (.t 57), some (55, true)⟩, ⟨some 59, .fa 3 (.t 2), some (55, true)⟩, ⟨some 60, .load 1 false (.t 59) false, some (55, true)⟩, ⟨some 61, .len (.t 60), some (55, true)⟩, ⟨some 62, .bin .eql (.t 58) (.t 61), some (55, true)⟩, ⟨some 63, .pick (.t 55) (.t 62) (.c (.bool false)), none⟩, ⟨some 64, .mv (.t 63) false, none⟩, ⟨some 65, .load 4 true (.t 2) false, some (64, true)⟩, ⟨some 66, .mv (.t 1) false, some (64, true)⟩, ⟨some 67, .conv .i64 (.t 66), some (64, true)⟩, ⟨some 68, .call 46 [(.t 65), (.t 67)] false, some (64, true)⟩, ⟨some 69, .mv (.t 1) false, some (64, true)⟩, ⟨some 70, .conv .i64 (.t 69), some (64, true)⟩, ⟨some 71, .un .neg (.t 70), some (64, true)⟩, ⟨some 72, .call 46 [(.t 68), (.t 71)] false, some (64, true)⟩, ⟨some 73, .load 4 true (.t 2) false, some (64, true)⟩, ⟨some 74, .call 20 [(.t 72), (.t 73)] false, some (64, true)⟩, ⟨some 75, .pick (.t 64) (.t 74) (.c (.bool false)), none⟩, ⟨some 4, .mv (.t 75) true, none⟩])
  (.ret))))))), [.t 4]⟩
theorem row13 : RowOk Try.prog 13 C13 := ⟨Try.f13, ⟨[], [], [], []⟩, lvOf [(0, [1, 2, 5, 6, 7], 3)], Try.func13, by kernel_rfl, by kernel_rfl⟩
/-- swingbridge/swingbridgelaw8.known -/
def C15 : CFun := ⟨68, 0, .seq (.reg [⟨some 0, .mv (.c (.bool false)) true, none⟩])
  (.seq (.reg [⟨some 6, .bsl 1 1 [(.int .i64 0)] [(0, 1, (.c (.int .i64 1)))] false, none⟩, ⟨some 7, .bsl 1 1 [(.int .i64 0)] [(0, 1, (.c (.int .i64 0)))] false, none⟩, ⟨some 8, .build [(.int .i64 0), (.int .i64 0), (.int .i64 0)] [(0, 1, (.c (.int .i64 3))), (1, 1, (.c (.int .i64 2)))], none⟩, ⟨some 9, .bsl 3 1 [(.int .i64 0), (.int .i64 0), (.int .i64 0)] [(0, 3, (.t 8))] false, none⟩, ⟨some 10, .build [(.string ⟨#[]⟩), (.int .i64 0), (.int .i64 0), (.int .i64 0), (.int .i64 0), (.slice none 0 0)] [(0, 1, (.c (.string ⟨#[97]⟩))), (1, 1, (.c (.int .i64 10))), (2, 1, (.c (.int .i64 10))), (3, 1, (.c (.int .i64 1))), (5, 1, (.t 9))], none⟩, ⟨some 11, .bsl 6 1 [(.string ⟨#[]⟩), (.int .i64 0), (.int .i64 0), (.int .i64 0), (.int .i64 0), (.slice none 0 0)] [(0, 6, (.t 10))] false, none⟩, ⟨some 12, .build [(.int .i64 0), (.slice none 0 0), (.slice none 0 0), (.slice none 0 0)] [(0, 1, (.c (.int .i64 1))), (1, 1, (.t 6)), (2, 1, (.t 7)), (3, 1, (.t 11))], none⟩, ⟨some 1, .alloc [(.int .i64 0), (.slice none 0 0), (.slice none 0 0), (.slice none 0 0)], none⟩, ⟨none, .store 4 (.t 1) (.t 12), none⟩])
  (.seq (.reg [⟨some 14, .load 4 true (.t 1) false, none⟩, ⟨some 15, .call 17 [(.t 14)] false, none⟩, ⟨some 13, .mv (.t 15) false, none⟩, ⟨some 16, .ext (.t 13) 0, none⟩, ⟨some 17, .ext (.t 13) 1, none⟩, ⟨some 2, .mv (.t 16) true, none⟩, ⟨some 3, .mv (.t 17) true, none⟩])
  (.seq (.reg [⟨some 19, .build [(.int .i64 0), (.slice none 0 0), (.slice none 0 0), (.slice none 0 0)] [], none⟩, ⟨some 20, .call 17 [(.t 19)] false, none⟩, ⟨some 18, .mv (.t 20) false, none⟩, ⟨some 21, .ext (.t 18) 0, none⟩, ⟨some 22, .ext (.t 18) 1, none⟩, ⟨some 4, .mv (.t 21) true, none⟩, ⟨some 5, .mv (.t 22) true, none⟩])
  (.seq (.reg [⟨some 23, .mv (.t 2) false, none⟩, ⟨some 24, .bin .eql (.t 23) (.c (.int .i64 (-1))), none⟩, ⟨some 25, .mv (.t 24) false, none⟩, ⟨some 26, .mv (.t 3) false, some (25, true)⟩, ⟨some 27, .bin .eql (.t 26) (.c (.int .i64 0)), some (25, true)⟩, ⟨some 28, .pick (.t 25) (.t 27) (.c (.bool false)), none⟩, ⟨some 29, .mv (.t 28) false, none⟩, ⟨some 30, .mv (.t 4) false, some (29, true)⟩, ⟨some 31, .bin .eql (.t 30) (.c (.int .i64 (-1))), some (29, true)⟩, ⟨some 32, .pick (.t 29) (.t 31) (.c (.bool false)), none⟩, ⟨some 33, .mv (.t 32) false, none⟩, ⟨some 34, .mv (.t 5) false, some (33, true)⟩, ⟨some 35, .bin .eql (.t 34) (.c (.int .i64 10)), some (33, true)⟩, ⟨some 36, .pick (.t 33) (.t 35) (.c (.bool false)), none⟩, ⟨some 37, .mv (.t 36) false, none⟩, ⟨some 38, .load 4 true (.t 1) false, some (37, true)⟩, ⟨some 39, .load 4 true (.t 1) false, some (37, true)⟩, ⟨some 40, .call 19 [(.t 38), (.t 39)] false, some (37, true)⟩, ⟨some 41, .pick (.t 37) (.t 40) (.c (.bool false)), none⟩, ⟨some 42, .mv (.t 41) false, none⟩, ⟨some 43, .fa 3 (.t 1), some (42, true)⟩, ⟨some 44, .load 1 false (.t 43) false, some (42, true)⟩, ⟨some 45, .ia 6 (.t 44) (.c (.int .i64 0)), some (42, true)⟩, ⟨some 46, .load 6 true (.t 45) false, some (42, true)⟩, ⟨some 47, .fa 3 (.t 1), some (42, true)⟩, ⟨some 48, .load 1 false (.t 47) false, some (42, true)⟩, ⟨some 49, .ia 6 (.t 48) (.c (.int .i64 0)), some (42, true)⟩, ⟨some 50, .load 6 true (.t 49) false, some (42, true)⟩, ⟨some 51, .call 48 [(.t 46), (.t 50)] false, some (42, true)⟩, ⟨some 52, .pick (.t 42) (.t 51) (.c (.bool false)), none⟩, ⟨some 53, .mv (.t 52) false, none⟩, ⟨some 54, .fa 3 (.t 1), some (53, true)⟩, ⟨some 55, .load 1 false (.t 54) false, some (53, true)⟩, ⟨some 56, .ia 6 (.t 55) (.c (.int .i64 0)), some (53, true)⟩, ⟨some 57, .load 6 true (.t 56) false, some (53, true)⟩, ⟨some 58, .build [(.string ⟨#[]⟩), (.int .i64 0), (.int .i64 0), (.int .i64 0), (.int .i64 0), (.slice none 0 0)] [], some (53, true)⟩, ⟨some 59, .call 48 [(.t 57), (.t 58)] false, some (53, true)⟩, ⟨some 60, .un .not (.t 59), some (53, true)⟩, ⟨some 61, .pick (.t 53) (.t 60) (.c (.bool false)), none⟩, ⟨some 62, .mv (.t 61) false, none⟩, ⟨some 63, .load 4 true (.t 1) false, some (62, true)⟩, ⟨some 64, .call 21 [(.t 63)] false, some (62, true)⟩, ⟨some 65, .load 4 true (.t 1) false, some (62, true)⟩, ⟨some 66, .call 19 [(.t 64), (.t 65)] false, some (62, true)⟩, ⟨some 67, .pick (.t 62) (.t 66) (.c (.bool false)), none⟩, ⟨some 0, .mv (.t 67) true, none⟩])
  (.ret))))), [.t 0]⟩
theorem row15 : RowOk Try.prog 15 C15 := ⟨Try.f15, ⟨[], [], [], []⟩, lvOf [], Try.func15, by kernel_rfl, by kernel_rfl⟩
def B16_0 : C := .seq (.seq (.reg [⟨some 20, .mv (.t 3) false, none⟩, ⟨some 21, .fa 3 (.t 1), none⟩, ⟨some 22, .load 1 false (.t 21) false, none⟩, ⟨some 23, .len (.t 22), none⟩, ⟨some 24, .bin .lss (.t 20) (.t 23), none⟩])
  (.cond (.t 24) (.skip)
  (.exit 0)))
  (.seq (.block 1 (.seq (.reg [⟨some 27, .fa 3 (.t 1), none⟩, ⟨some 28, .load 1 false (.t 27) false, none⟩, ⟨some 29, .mv (.t 3) false, none⟩, ⟨some 30, .ia 6 (.t 28) (.t 29), none⟩, ⟨some 31, .fa 0 (.t 30), none⟩, ⟨some 32, .load 1 false (.t 31) false, none⟩, ⟨some 33, .slen (.t 32), none⟩, ⟨some 34, .bin .gtr (.t 33) (.c (.int .i64 20)), none⟩, ⟨some 35, .mv (.t 34) false, none⟩, ⟨some 36, .fa 3 (.t 1), some (35, false)⟩, ⟨some 37, .load 1 false (.t 36) false, some (35, false)⟩, ⟨some 38, .mv (.t 3) false, some (35, false)⟩, ⟨some 39, .ia 6 (.t 37) (.t 38), some (35, false)⟩, ⟨some 40, .fa 5 (.t 39), some (35, false)⟩, ⟨some 41, .load 1 false (.t 40) false, some (35, false)⟩, ⟨some 42, .len (.t 41), some (35, false)⟩, ⟨some 43, .bin .gtr (.t 42) (.c (.int .i64 10)), some (35, false)⟩, ⟨some 44, .pick (.t 35) (.c (.bool true)) (.t 43), none⟩])
  (.cond (.t 44) (.seq (.reg [⟨some 2, .mv (.c (.bool false)) true, none⟩])
  (.ret))
  (.skip))))
  (.reg [⟨some 25, .mv (.t 3) false, none⟩, ⟨some 26, .bin .add (.t 25) (.c (.int .i64 1)), none⟩, ⟨some 3, .mv (.t 26) true, none⟩]))
def L16_0 : C := .loop [1, 3] 1 B16_0
theorem go16_0 (s : Env × Bx) (nb) : evL tab ext nb L16_0 s = (loopIn nb [1, 3] 1 s).bind fun s0 => (evL tab ext nb B16_0 s0).bind (seqG tab ext nb L16_0) := eL_loop _ _ _
/-- swingbridge/swingbridgelaw8.few -/
def C16 : CFun := ⟨45, 1, .seq (.reg [⟨some 1, .box (.t 0), none⟩, ⟨some 2, .mv (.c (.bool false)) true, none⟩])
  (.seq (.seq (.reg [⟨some 4, .fa 1 (.t 1), none⟩, ⟨some 5, .load 1 false (.t 4) false, none⟩, ⟨some 6, .len (.t 5), none⟩, ⟨some 7, .bin .gtr (.t 6) (.c (.int .i64 8)), none⟩, ⟨some 8, .mv (.t 7) false, none⟩, ⟨some 9, .fa 2 (.t 1), some (8, false)⟩, ⟨some 10, .load 1 false (.t 9) false, some (8, false)⟩, ⟨some 11, .len (.t 10), some (8, false)⟩, ⟨some 12, .bin .gtr (.t 11) (.c (.int .i64 10)), some (8, false)⟩, ⟨some 13, .pick (.t 8) (.c (.bool true)) (.t 12), none⟩, ⟨some 14, .mv (.t 13) false, none⟩, ⟨some 15, .fa 3 (.t 1), some (14, false)⟩, ⟨some 16, .load 1 false (.t 15) false, some (14, false)⟩, ⟨some 17, .len (.t 16), some (14, false)⟩, ⟨some 18, .bin .gtr (.t 17) (.c (.int .i64 9)), some (14, false)⟩, ⟨some 19, .pick (.t 14) (.c (.bool true)) (.t 18), none⟩])
  (.cond (.t 19) (.seq (.reg [⟨some 2, .mv (.c (.bool false)) true, none⟩])
  (.ret))
  (.skip)))
  (.seq (.seq (.reg [⟨some 3, .mv (.c (.int .i64 0)) true, none⟩])
  (.block 0 (L16_0)))
  (.seq (.reg [⟨some 2, .mv (.c (.bool true)) true, none⟩])
  (.ret)))), [.t 2]⟩
theorem row16 : RowOk Try.prog 16 C16 := ⟨Try.f16, ⟨[], [], [], []⟩, lvOf [(0, [1, 3], 1)], Try.func16, by kernel_rfl, by kernel_rfl⟩
def B17_1 : C := .seq (.reg [⟨some 29, .bin .lss (.t 28) (.t 27), none⟩])
  (.seq (.cond (.t 29) (.skip)
  (.exit 1))
  (.seq (.block 2 (.seq (.reg [⟨some 30, .mv (.t 28) false, none⟩, ⟨some 4, .mv (.t 30) true, none⟩])
  (.seq (.reg [⟨some 31, .load 4 true (.t 1) false, none⟩, ⟨some 32, .mv (.t 4) false, none⟩, ⟨some 33, .call 51 [(.t 31), (.t 32)] false, none⟩, ⟨some 5, .mv (.t 33) true, none⟩])
  (.seq (.reg [⟨some 34, .mv (.t 5) false, none⟩, ⟨some 35, .bin .neq (.t 34) (.c (.int .i64 0)), none⟩])
  (.cond (.t 35) (.seq (.reg [⟨some 36, .mv (.t 4) false, none⟩, ⟨some 37, .mv (.t 5) false, none⟩, ⟨some 2, .mv (.t 36) true, none⟩, ⟨some 3, .mv (.t 37) true, none⟩])
  (.ret))
  (.skip))))))
  (.reg [⟨some 38, .bin .add (.t 28) (.c (.int .i64 1)), none⟩, ⟨some 28, .mv (.t 38) false, none⟩])))
def L17_1 : C := .loop [1, 27, 28] 1 B17_1
theorem go17_1 (s : Env × Bx) (nb) : evL tab ext nb L17_1 s = (loopIn nb [1, 27, 28] 1 s).bind fun s0 => (evL tab ext nb B17_1 s0).bind (seqG tab ext nb L17_1) := eL_loop _ _ _
/-- swingbridge/task.Check -/
def C17 : CFun := ⟨39, 1, .seq (.reg [⟨some 1, .box (.t 0), none⟩, ⟨some 2, .mv (.c (.int .i64 0)) true, none⟩, ⟨some 3, .mv (.c (.int .i64 0)) true, none⟩])
  (.seq (.block 0 (.seq (.reg [⟨some 7, .fa 0 (.t 1), none⟩, ⟨some 8, .load 1 false (.t 7) false, none⟩, ⟨some 9, .call 49 [(.t 8), (.c (.int .i64 1)), (.c (.int .i64 3))] false, none⟩, ⟨some 10, .un .not (.t 9), none⟩, ⟨some 6, .mv (.t 10) true, none⟩])
  (.cond (.t 6) (.seq (.reg [⟨some 2, .mv (.c (.int .i64 (-1))) true, none⟩, ⟨some 3, .mv (.c (.int .i64 10)) true, none⟩])
  (.ret))
  (.seq (.reg [⟨some 12, .load 4 true (.t 1) false, none⟩, ⟨some 13, .call 50 [(.t 12)] false, none⟩, ⟨some 14, .un .not (.t 13), none⟩, ⟨some 11, .mv (.t 14) true, none⟩])
  (.cond (.t 11) (.seq (.reg [⟨some 2, .mv (.c (.int .i64 (-1))) true, none⟩, ⟨some 3, .mv (.c (.int .i64 16)) true, none⟩])
  (.ret))
  (.seq (.reg [⟨some 16, .fa 3 (.t 1), none⟩, ⟨some 17, .load 1 false (.t 16) false, none⟩, ⟨some 18, .len (.t 17), none⟩, ⟨some 19, .bin .gtr (.t 18) (.c (.int .i64 6)), none⟩, ⟨some 15, .mv (.t 19) true, none⟩])
  (.cond (.t 15) (.seq (.reg [⟨some 2, .mv (.c (.int .i64 (-1))) true, none⟩, ⟨some 3, .mv (.c (.int .i64 11)) true, none⟩])
  (.ret))
  (.seq (.reg [⟨some 21, .fa 3 (.t 1), none⟩, ⟨some 22, .load 1 false (.t 21) false, none⟩, ⟨some 23, .len (.t 22), none⟩, ⟨some 24, .bin .eql (.t 23) (.c (.int .i64 0)), none⟩, ⟨some 20, .mv (.t 24) true, none⟩])
  (.cond (.t 20) (.seq (.reg [⟨some 2, .mv (.c (.int .i64 (-1))) true, none⟩, ⟨some 3, .mv (.c (.int .i64 14)) true, none⟩])
  (.ret))
  (.skip))))))))))
  (.seq (.seq (.reg [⟨some 25, .fa 3 (.t 1), none⟩, ⟨some 26, .load 1 false (.t 25) false, none⟩, ⟨some 27, .len (.t 26), none⟩, ⟨some 28, .mv (.c (.int .i64 0)) false, none⟩])
  (.block 1 (L17_1)))
  (.seq (.reg [⟨some 2, .mv (.c (.int .i64 (-1))) true, none⟩, ⟨some 3, .mv (.c (.int .i64 0)) true, none⟩])
  (.ret)))), [.t 2, .t 3]⟩
theorem row17 : RowOk Try.prog 17 C17 := ⟨Try.f17, ⟨[], [], [], []⟩, lvOf [(1, [1, 27, 28], 1)], Try.func17, by kernel_rfl, by kernel_rfl⟩
def B18_1 : C := .seq (.seq (.reg [⟨some 29, .mv (.t 4) false, none⟩, ⟨some 30, .fa 3 (.t 1), none⟩, ⟨some 31, .load 1 false (.t 30) false, none⟩, ⟨some 32, .len (.t 31), none⟩, ⟨some 33, .bin .lss (.t 29) (.t 32), none⟩])
  (.cond (.t 33) (.skip)
  (.exit 1)))
  (.seq (.block 2 (.seq (.reg [⟨some 36, .load 4 true (.t 1) false, none⟩, ⟨some 37, .mv (.t 4) false, none⟩, ⟨some 38, .call 53 [(.t 36), (.t 37)] false, none⟩, ⟨some 5, .mv (.t 38) true, none⟩])
  (.seq (.reg [⟨some 39, .mv (.t 5) false, none⟩, ⟨some 40, .bin .neq (.t 39) (.c (.int .i64 0)), none⟩])
  (.cond (.t 40) (.seq (.reg [⟨some 41, .mv (.t 4) false, none⟩, ⟨some 42, .mv (.t 5) false, none⟩, ⟨some 2, .mv (.t 41) true, none⟩, ⟨some 3, .mv (.t 42) true, none⟩])
  (.ret))
  (.skip)))))
  (.reg [⟨some 34, .mv (.t 4) false, none⟩, ⟨some 35, .bin .add (.t 34) (.c (.int .i64 1)), none⟩, ⟨some 4, .mv (.t 35) true, none⟩]))
def L18_1 : C := .loop [1, 4] 1 B18_1
theorem go18_1 (s : Env × Bx) (nb) : evL tab ext nb L18_1 s = (loopIn nb [1, 4] 1 s).bind fun s0 => (evL tab ext nb B18_1 s0).bind (seqG tab ext nb L18_1) := eL_loop _ _ _
/-- swingbridge/swingbridgeref7.Check -/
def C18 : CFun := ⟨43, 1, .seq (.reg [⟨some 1, .box (.t 0), none⟩, ⟨some 2, .mv (.c (.int .i64 0)) true, none⟩, ⟨some 3, .mv (.c (.int .i64 0)) true, none⟩])
  (.seq (.block 0 (.seq (.reg [⟨some 7, .fa 0 (.t 1), none⟩, ⟨some 8, .load 1 false (.t 7) false, none⟩, ⟨some 9, .bin .lss (.t 8) (.c (.int .i64 1)), none⟩, ⟨some 10, .mv (.t 9) false, none⟩, ⟨some 11, .fa 0 (.t 1), some (10, false)⟩, ⟨some 12, .load 1 false (.t 11) false, some (10, false)⟩, ⟨some 13, .bin .gtr (.t 12) (.c (.int .i64 3)), some (10, false)⟩, ⟨some 14, .pick (.t 10) (.c (.bool true)) (.t 13), none⟩, ⟨some 6, .mv (.t 14) true, none⟩])
  (.cond (.t 6) (.seq (.reg [⟨some 2, .mv (.c (.int .i64 (-1))) true, none⟩, ⟨some 3, .mv (.c (.int .i64 10)) true, none⟩])
  (.ret))
  (.seq (.reg [⟨some 16, .load 4 true (.t 1) false, none⟩, ⟨some 17, .call 52 [(.t 16)] false, none⟩, ⟨some 18, .un .not (.t 17), none⟩, ⟨some 15, .mv (.t 18) true, none⟩])
  (.cond (.t 15) (.seq (.reg [⟨some 2, .mv (.c (.int .i64 (-1))) true, none⟩, ⟨some 3, .mv (.c (.int .i64 16)) true, none⟩])
  (.ret))
  (.seq (.reg [⟨some 20, .fa 3 (.t 1), none⟩, ⟨some 21, .load 1 false (.t 20) false, none⟩, ⟨some 22, .len (.t 21), none⟩, ⟨some 23, .bin .gtr (.t 22) (.c (.int .i64 6)), none⟩, ⟨some 19, .mv (.t 23) true, none⟩])
  (.cond (.t 19) (.seq (.reg [⟨some 2, .mv (.c (.int .i64 (-1))) true, none⟩, ⟨some 3, .mv (.c (.int .i64 11)) true, none⟩])
  (.ret))
  (.seq (.reg [⟨some 25, .fa 3 (.t 1), none⟩, ⟨some 26, .load 1 false (.t 25) false, none⟩, ⟨some 27, .len (.t 26), none⟩, ⟨some 28, .bin .eql (.t 27) (.c (.int .i64 0)), none⟩, ⟨some 24, .mv (.t 28) true, none⟩])
  (.cond (.t 24) (.seq (.reg [⟨some 2, .mv (.c (.int .i64 (-1))) true, none⟩, ⟨some 3, .mv (.c (.int .i64 14)) true, none⟩])
  (.ret))
  (.skip))))))))))
  (.seq (.seq (.reg [⟨some 4, .mv (.c (.int .i64 0)) true, none⟩])
  (.block 1 (L18_1)))
  (.seq (.reg [⟨some 2, .mv (.c (.int .i64 (-1))) true, none⟩, ⟨some 3, .mv (.c (.int .i64 0)) true, none⟩])
  (.ret)))), [.t 2, .t 3]⟩
theorem row18 : RowOk Try.prog 18 C18 := ⟨Try.f18, ⟨[], [], [], []⟩, lvOf [(1, [1, 4], 1)], Try.func18, by kernel_rfl, by kernel_rfl⟩
/-- swingbridge/task.Same -/
def C19 : CFun := ⟨31, 2, .seq (.reg [⟨some 2, .box (.t 0), none⟩, ⟨some 3, .box (.t 1), none⟩, ⟨some 4, .mv (.c (.bool false)) true, none⟩])
  (.seq (.reg [⟨some 5, .fa 0 (.t 2), none⟩, ⟨some 6, .load 1 false (.t 5) false, none⟩, ⟨some 7, .fa 0 (.t 3), none⟩, ⟨some 8, .load 1 false (.t 7) false, none⟩, ⟨some 9, .bin .eql (.t 6) (.t 8), none⟩, ⟨some 10, .mv (.t 9) false, none⟩, ⟨some 11, .fa 1 (.t 2), some (10, true)⟩, ⟨some 12, .load 1 false (.t 11) false, some (10, true)⟩, ⟨some 13, .fa 1 (.t 3), some (10, true)⟩, ⟨some 14, .load 1 false (.t 13) false, some (10, true)⟩, ⟨some 15, .call 54 [(.t 12), (.t 14)] false, some (10, true)⟩, ⟨some 16, .pick (.t 10) (.t 15) (.c (.bool false)), none⟩, ⟨some 17, .mv (.t 16) false, none⟩, ⟨some 18, .fa 2 (.t 2), some (17, true)⟩, ⟨some 19, .load 1 false (.t 18) false, some (17, true)⟩, ⟨some 20, .fa 2 (.t 3), some (17, true)⟩, ⟨some 21, .load 1 false (.t 20) false, some (17, true)⟩, ⟨some 22, .call 54 [(.t 19), (.t 21)] false, some (17, true)⟩, ⟨some 23, .pick (.t 17) (.t 22) (.c (.bool false)), none⟩, ⟨some 24, .mv (.t 23) false, none⟩, ⟨some 25, .fa 3 (.t 2), some (24, true)⟩, ⟨some 26, .load 1 false (.t 25) false, some (24, true)⟩, ⟨some 27, .fa 3 (.t 3), some (24, true)⟩, ⟨some 28, .load 1 false (.t 27) false, some (24, true)⟩, ⟨some 29, .calli 55 [(.t 26), (.t 28), (.f 48)], some (24, true)⟩, ⟨some 30, .pick (.t 24) (.t 29) (.c (.bool false)), none⟩, ⟨some 4, .mv (.t 30) true, none⟩])
  (.ret)), [.t 4]⟩
theorem row19 : RowOk Try.prog 19 C19 := ⟨Try.f19, ⟨[], [], [], []⟩, lvOf [], Try.func19, by kernel_rfl, by kernel_rfl⟩
def B20_0 : C := .seq (.seq (.reg [⟨some 36, .mv (.t 5) false, none⟩, ⟨some 37, .fa 3 (.t 2), none⟩, ⟨some 38, .load 1 false (.t 37) false, none⟩, ⟨some 39, .len (.t 38), none⟩, ⟨some 40, .bin .lss (.t 36) (.t 39), none⟩])
  (.cond (.t 40) (.skip)
  (.exit 0)))
  (.seq (.block 1 (.seq (.reg [⟨some 43, .fa 3 (.t 2), none⟩, ⟨some 44, .load 1 false (.t 43) false, none⟩, ⟨some 45, .mv (.t 5) false, none⟩, ⟨some 46, .ia 6 (.t 44) (.t 45), none⟩, ⟨some 47, .load 6 true (.t 46) false, none⟩, ⟨some 48, .fa 3 (.t 3), none⟩, ⟨some 49, .load 1 false (.t 48) false, none⟩, ⟨some 50, .mv (.t 5) false, none⟩, ⟨some 51, .ia 6 (.t 49) (.t 50), none⟩, ⟨some 52, .load 6 true (.t 51) false, none⟩, ⟨some 53, .call 57 [(.t 47), (.t 52)] false, none⟩, ⟨some 54, .un .not (.t 53), none⟩])
  (.cond (.t 54) (.seq (.reg [⟨some 4, .mv (.c (.bool false)) true, none⟩])
  (.ret))
  (.skip))))
  (.reg [⟨some 41, .mv (.t 5) false, none⟩, ⟨some 42, .bin .add (.t 41) (.c (.int .i64 1)), none⟩, ⟨some 5, .mv (.t 42) true, none⟩]))
def L20_0 : C := .loop [2, 3, 5] 2 B20_0
theorem go20_0 (s : Env × Bx) (nb) : evL tab ext nb L20_0 s = (loopIn nb [2, 3, 5] 2 s).bind fun s0 => (evL tab ext nb B20_0 s0).bind (seqG tab ext nb L20_0) := eL_loop _ _ _
/-- swingbridge/swingbridgeref7.Same -/
def C20 : CFun := ⟨55, 2, .seq (.reg [⟨some 2, .box (.t 0), none⟩, ⟨some 3, .box (.t 1), none⟩, ⟨some 4, .mv (.c (.bool false)) true, none⟩])
  (.seq (.seq (.reg [⟨some 6, .fa 0 (.t 2), none⟩, ⟨some 7, .load 1 false (.t 6) false, none⟩, ⟨some 8, .fa 0 (.t 3), none⟩, ⟨some 9, .load 1 false (.t 8) false, none⟩, ⟨some 10, .bin .neq (.t 7) (.t 9), none⟩, ⟨some 11, .mv (.t 10) false, none⟩, ⟨some 12, .fa 1 (.t 2), some (11, false)⟩, ⟨some 13, .load 1 false (.t 12) false, some (11, false)⟩, ⟨some 14, .fa 1 (.t 3), some (11, false)⟩, ⟨some 15, .load 1 false (.t 14) false, some (11, false)⟩, ⟨some 16, .call 56 [(.t 13), (.t 15)] false, some (11, false)⟩, ⟨some 17, .un .not (.t 16), some (11, false)⟩, ⟨some 18, .pick (.t 11) (.c (.bool true)) (.t 17), none⟩, ⟨some 19, .mv (.t 18) false, none⟩, ⟨some 20, .fa 2 (.t 2), some (19, false)⟩, ⟨some 21, .load 1 false (.t 20) false, some (19, false)⟩, ⟨some 22, .fa 2 (.t 3), some (19, false)⟩, ⟨some 23, .load 1 false (.t 22) false, some (19, false)⟩, ⟨some 24, .call 56 [(.t 21), (.t 23)] false, some (19, false)⟩, ⟨some 25, .un .not (.t 24), some (19, false)⟩, ⟨some 26, .pick (.t 19) (.c (.bool true)) (.t 25), none⟩, ⟨some 27, .mv (.t 26) false, none⟩, ⟨some 28, .fa 3 (.t 2), some (27, false)⟩, ⟨some 29, .load 1 false (.t 28) false, some (27, false)⟩, ⟨some 30, .len (.t 29), some (27, false)⟩, ⟨some 31, .fa 3 (.t 3), some (27, false)⟩, ⟨some 32, .load 1 false (.t 31) false, some (27, false)⟩, ⟨some 33, .len (.t 32), some (27, false)⟩, ⟨some 34, .bin .neq (.t 30) (.t 33), some (27, false)⟩, ⟨some 35, .pick (.t 27) (.c (.bool true)) (.t 34), none⟩])
  (.cond (.t 35) (.seq (.reg [⟨some 4, .mv (.c (.bool false)) true, none⟩])
  (.ret))
  (.skip)))
  (.seq (.seq (.reg [⟨some 5, .mv (.c (.int .i64 0)) true, none⟩])
  (.block 0 (L20_0)))
  (.seq (.reg [⟨some 4, .mv (.c (.bool true)) true, none⟩])
  (.ret)))), [.t 4]⟩
theorem row20 : RowOk Try.prog 20 C20 := ⟨Try.f20, ⟨[], [], [], []⟩, lvOf [(0, [2, 3, 5], 2)], Try.func20, by kernel_rfl, by kernel_rfl⟩
def B21_0 : C := .seq (.reg [⟨some 21, .bin .lss (.t 20) (.t 19), none⟩])
  (.seq (.cond (.t 21) (.skip)
  (.exit 0))
  (.seq (.block 1 (.seq (.reg [⟨some 22, .mv (.t 20) false, none⟩, ⟨some 23, .ia 6 (.t 18) (.t 20), none⟩, ⟨some 24, .load 6 true (.t 23) false, none⟩, ⟨some 4, .alloc [(.string ⟨#[]⟩), (.int .i64 0), (.int .i64 0), (.int .i64 0), (.int .i64 0), (.slice none 0 0)], none⟩, ⟨some 3, .mv (.t 22) true, none⟩, ⟨none, .store 6 (.t 4) (.t 24), none⟩])
  (.reg [⟨some 25, .fa 3 (.t 1), none⟩, ⟨some 26, .load 1 false (.t 25) false, none⟩, ⟨some 27, .mv (.t 3) false, none⟩, ⟨some 28, .fa 5 (.t 4), none⟩, ⟨some 29, .load 1 false (.t 28) false, none⟩, ⟨some 30, .call 60 [(.t 29)] false, none⟩, ⟨some 31, .ia 6 (.t 26) (.t 27), none⟩, ⟨some 32, .fa 5 (.t 31), none⟩, ⟨none, .store 1 (.t 32) (.t 30), none⟩])))
  (.reg [⟨some 33, .bin .add (.t 20) (.c (.int .i64 1)), none⟩, ⟨some 20, .mv (.t 33) false, none⟩])))
def L21_0 : C := .loop [1, 2, 18, 19, 20] 3 B21_0
theorem go21_0 (s : Env × Bx) (nb) : evL tab ext nb L21_0 s = (loopIn nb [1, 2, 18, 19, 20] 3 s).bind fun s0 => (evL tab ext nb B21_0 s0).bind (seqG tab ext nb L21_0) := eL_loop _ _ _
/-- swingbridge/task.Copy -/
def C21 : CFun := ⟨35, 1, .seq (.reg [⟨some 1, .box (.t 0), none⟩, ⟨some 2, .alloc [(.int .i64 0), (.slice none 0 0), (.slice none 0 0), (.slice none 0 0)], none⟩])
  (.seq (.reg [⟨some 5, .fa 1 (.t 1), none⟩, ⟨some 6, .load 1 false (.t 5) false, none⟩, ⟨some 7, .call 58 [(.t 6)] false, none⟩, ⟨some 8, .fa 2 (.t 1), none⟩, ⟨some 9, .load 1 false (.t 8) false, none⟩, ⟨some 10, .call 58 [(.t 9)] false, none⟩, ⟨some 11, .fa 3 (.t 1), none⟩, ⟨some 12, .load 1 false (.t 11) false, none⟩, ⟨some 13, .calli 59 [(.t 12)], none⟩, ⟨some 14, .fa 1 (.t 1), none⟩, ⟨none, .store 1 (.t 14) (.t 7), none⟩, ⟨some 15, .fa 2 (.t 1), none⟩, ⟨none, .store 1 (.t 15) (.t 10), none⟩, ⟨some 16, .fa 3 (.t 1), none⟩, ⟨none, .store 1 (.t 16) (.t 13), none⟩])
  (.seq (.seq (.reg [⟨some 17, .fa 3 (.t 1), none⟩, ⟨some 18, .load 1 false (.t 17) false, none⟩, ⟨some 19, .len (.t 18), none⟩, ⟨some 20, .mv (.c (.int .i64 0)) false, none⟩])
  (.block 0 (L21_0)))
  (.seq (.reg [⟨some 34, .load 4 true (.t 1) false, none⟩, ⟨none, .store 4 (.t 2) (.t 34), none⟩])
  (.ret)))), [.cell 2 4]⟩
theorem row21 : RowOk Try.prog 21 C21 := ⟨Try.f21, ⟨[], [], [], [59]⟩, lvOf [(0, [1, 2, 18, 19, 20], 3)], Try.func21, by kernel_rfl, by kernel_rfl⟩
/-- swingbridge/swingbridgeref7.OK -/
def C22 : CFun := ⟨12, 1, .seq (.reg [⟨some 1, .box (.t 0), none⟩, ⟨some 2, .mv (.c (.bool false)) true, none⟩])
  (.seq (.reg [⟨some 6, .load 4 true (.t 1) false, none⟩, ⟨some 7, .call 18 [(.t 6)] false, none⟩, ⟨some 5, .mv (.t 7) false, none⟩, ⟨some 8, .ext (.t 5) 0, none⟩, ⟨some 9, .ext (.t 5) 1, none⟩, ⟨some 3, .mv (.t 8) true, none⟩, ⟨some 4, .mv (.t 9) true, none⟩])
  (.seq (.reg [⟨some 10, .mv (.t 4) false, none⟩, ⟨some 11, .bin .eql (.t 10) (.c (.int .i64 0)), none⟩, ⟨some 2, .mv (.t 11) true, none⟩])
  (.ret))), [.t 2]⟩
theorem row22 : RowOk Try.prog 22 C22 := ⟨Try.f22, ⟨[], [], [], []⟩, lvOf [], Try.func22, by kernel_rfl, by kernel_rfl⟩
def B23_0 : C := .seq (.seq (.reg [⟨some 18, .mv (.t 4) false, none⟩, ⟨some 19, .fa 3 (.t 3), none⟩, ⟨some 20, .load 1 false (.t 19) false, none⟩, ⟨some 21, .len (.t 20), none⟩, ⟨some 22, .bin .lss (.t 18) (.t 21), none⟩])
  (.cond (.t 22) (.skip)
  (.exit 0)))
  (.seq (.block 1 (.reg [⟨some 25, .fa 3 (.t 3), none⟩, ⟨some 26, .load 1 false (.t 25) false, none⟩, ⟨some 27, .mv (.t 4) false, none⟩, ⟨some 28, .fa 3 (.t 1), none⟩, ⟨some 29, .load 1 false (.t 28) false, none⟩, ⟨some 30, .mv (.t 4) false, none⟩, ⟨some 31, .ia 6 (.t 29) (.t 30), none⟩, ⟨some 32, .fa 5 (.t 31), none⟩, ⟨some 33, .load 1 false (.t 32) false, none⟩, ⟨some 34, .app 3 24 (.c (.slice none 0 0)) (.t 33) false, none⟩, ⟨some 35, .ia 6 (.t 26) (.t 27), none⟩, ⟨some 36, .fa 5 (.t 35), none⟩, ⟨none, .store 1 (.t 36) (.t 34), none⟩]))
  (.reg [⟨some 23, .mv (.t 4) false, none⟩, ⟨some 24, .bin .add (.t 23) (.c (.int .i64 1)), none⟩, ⟨some 4, .mv (.t 24) true, none⟩]))
def L23_0 : C := .loop [1, 2, 3, 4] 4 B23_0
theorem go23_0 (s : Env × Bx) (nb) : evL tab ext nb L23_0 s = (loopIn nb [1, 2, 3, 4] 4 s).bind fun s0 => (evL tab ext nb B23_0 s0).bind (seqG tab ext nb L23_0) := eL_loop _ _ _
/-- swingbridge/swingbridgelaw8.copied -/
def C23 : CFun := ⟨38, 1, .seq (.reg [⟨some 1, .box (.t 0), none⟩, ⟨some 2, .alloc [(.int .i64 0), (.slice none 0 0), (.slice none 0 0), (.slice none 0 0)], none⟩])
  (.seq (.reg [⟨some 5, .load 4 true (.t 1) false, none⟩, ⟨some 3, .alloc [(.int .i64 0), (.slice none 0 0), (.slice none 0 0), (.slice none 0 0)], none⟩, ⟨none, .store 4 (.t 3) (.t 5), none⟩])
  (.seq (.reg [⟨some 6, .fa 1 (.t 1), none⟩, ⟨some 7, .load 1 false (.t 6) false, none⟩, ⟨some 8, .app 1 8 (.c (.slice none 0 0)) (.t 7) false, none⟩, ⟨some 9, .fa 2 (.t 1), none⟩, ⟨some 10, .load 1 false (.t 9) false, none⟩, ⟨some 11, .app 1 8 (.c (.slice none 0 0)) (.t 10) false, none⟩, ⟨some 12, .fa 3 (.t 1), none⟩, ⟨some 13, .load 1 false (.t 12) false, none⟩, ⟨some 14, .app 6 72 (.c (.slice none 0 0)) (.t 13) true, none⟩, ⟨some 15, .fa 1 (.t 3), none⟩, ⟨none, .store 1 (.t 15) (.t 8), none⟩, ⟨some 16, .fa 2 (.t 3), none⟩, ⟨none, .store 1 (.t 16) (.t 11), none⟩, ⟨some 17, .fa 3 (.t 3), none⟩, ⟨none, .store 1 (.t 17) (.t 14), none⟩])
  (.seq (.seq (.reg [⟨some 4, .mv (.c (.int .i64 0)) true, none⟩])
  (.block 0 (L23_0)))
  (.seq (.reg [⟨some 37, .load 4 true (.t 3) false, none⟩, ⟨none, .store 4 (.t 2) (.t 37), none⟩])
  (.ret))))), [.cell 2 4]⟩
theorem row23 : RowOk Try.prog 23 C23 := ⟨Try.f23, ⟨[], [14], [], []⟩, lvOf [(0, [1, 2, 3, 4], 4)], Try.func23, by kernel_rfl, by kernel_rfl⟩
/-- swingbridge/swingbridgelaw11.known -/
def C24 : CFun := ⟨51, 0, .seq (.reg [⟨some 0, .mv (.c (.bool false)) true, none⟩])
  (.seq (.reg [⟨some 3, .call 61 [(.c (.int .i64 1)), (.c (.int .i64 3)), (.c (.int .i64 2)), (.c (.int .i64 5)), (.c (.int .i64 7))] false, none⟩, ⟨some 1, .alloc [(.int .i64 0), (.slice none 0 0), (.slice none 0 0), (.slice none 0 0)], none⟩, ⟨none, .store 4 (.t 1) (.t 3), none⟩])
  (.seq (.reg [⟨some 4, .fa 3 (.t 1), none⟩, ⟨some 5, .load 1 false (.t 4) false, none⟩, ⟨some 6, .ia 6 (.t 5) (.c (.int .i64 0)), none⟩, ⟨some 7, .load 6 true (.t 6) false, none⟩, ⟨some 2, .alloc [(.string ⟨#[]⟩), (.int .i64 0), (.int .i64 0), (.int .i64 0), (.int .i64 0), (.slice none 0 0)], none⟩, ⟨none, .store 6 (.t 2) (.t 7), none⟩])
  (.seq (.reg [⟨some 8, .load 6 true (.t 2) false, none⟩, ⟨some 9, .call 32 [(.t 8)] false, none⟩, ⟨some 10, .bin .eql (.t 9) (.c (.int .i64 3)), none⟩, ⟨some 11, .mv (.t 10) false, none⟩, ⟨some 12, .load 6 true (.t 2) false, some (11, true)⟩, ⟨some 13, .call 31 [(.t 12)] false, some (11, true)⟩, ⟨some 14, .bin .eql (.t 13) (.c (.int .i64 2)), some (11, true)⟩, ⟨some 15, .pick (.t 11) (.t 14) (.c (.bool false)), none⟩, ⟨some 16, .mv (.t 15) false, none⟩, ⟨some 17, .load 6 true (.t 2) false, some (16, true)⟩, ⟨some 18, .call 33 [(.t 17)] false, some (16, true)⟩, ⟨some 19, .bin .eql (.t 18) (.c (.int .i64 0)), some (16, true)⟩, ⟨some 20, .pick (.t 16) (.t 19) (.c (.bool false)), none⟩, ⟨some 21, .mv (.t 20) false, none⟩, ⟨some 22, .load 6 true (.t 2) false, some (21, true)⟩, ⟨some 23, .call 30 [(.t 22)] false, some (21, true)⟩, ⟨some 24, .bin .eql (.t 23) (.c (.int .i64 2)), some (21, true)⟩, ⟨some 25, .pick (.t 21) (.t 24) (.c (.bool false)), none⟩, ⟨some 26, .mv (.t 25) false, none⟩, ⟨some 27, .load 4 true (.t 1) false, some (26, true)⟩, ⟨some 28, .call 28 [(.t 27), (.c (.int .i64 1)), (.c (.int .i64 0))] false, some (26, true)⟩, ⟨some 29, .bin .eql (.t 28) (.c (.int .i64 7)), some (26, true)⟩, ⟨some 30, .pick (.t 26) (.t 29) (.c (.bool false)), none⟩, ⟨some 31, .mv (.t 30) false, none⟩, ⟨some 32, .load 4 true (.t 1) false, some (31, true)⟩, ⟨some 33, .call 29 [(.t 32), (.c (.int .i64 1)), (.c (.int .i64 0))] false, some (31, true)⟩, ⟨some 34, .bin .eql (.t 33) (.c (.int .i64 7)), some (31, true)⟩, ⟨some 35, .pick (.t 31) (.t 34) (.c (.bool false)), none⟩, ⟨some 36, .mv (.t 35) false, none⟩, ⟨some 37, .load 4 true (.t 1) false, some (36, true)⟩, ⟨some 38, .call 28 [(.t 37), (.c (.int .i64 2)), (.c (.int .i64 0))] false, some (36, true)⟩, ⟨some 39, .bin .eql (.t 38) (.c (.int .i64 0)), some (36, true)⟩, ⟨some 40, .pick (.t 36) (.t 39) (.c (.bool false)), none⟩, ⟨some 41, .mv (.t 40) false, none⟩, ⟨some 42, .load 4 true (.t 1) false, some (41, true)⟩, ⟨some 43, .call 26 [(.t 42)] false, some (41, true)⟩, ⟨some 44, .bin .eql (.t 43) (.c (.int .i64 1)), some (41, true)⟩, ⟨some 45, .pick (.t 41) (.t 44) (.c (.bool false)), none⟩, ⟨some 46, .mv (.t 45) false, none⟩, ⟨some 47, .load 4 true (.t 1) false, some (46, true)⟩, ⟨some 48, .call 27 [(.t 47), (.c (.int .i64 0))] false, some (46, true)⟩, ⟨some 49, .bin .eql (.t 48) (.c (.int .i64 2)), some (46, true)⟩, ⟨some 50, .pick (.t 46) (.t 49) (.c (.bool false)), none⟩, ⟨some 0, .mv (.t 50) true, none⟩])
  (.ret)))), [.t 0]⟩
theorem row24 : RowOk Try.prog 24 C24 := ⟨Try.f24, ⟨[], [], [], []⟩, lvOf [], Try.func24, by kernel_rfl, by kernel_rfl⟩
def B25_0 : C := .seq (.seq (.reg [⟨some 20, .mv (.t 3) false, none⟩, ⟨some 21, .fa 3 (.t 1), none⟩, ⟨some 22, .load 1 false (.t 21) false, none⟩, ⟨some 23, .len (.t 22), none⟩, ⟨some 24, .bin .lss (.t 20) (.t 23), none⟩])
  (.cond (.t 24) (.skip)
  (.exit 0)))
  (.seq (.block 1 (.seq (.reg [⟨some 27, .fa 3 (.t 1), none⟩, ⟨some 28, .load 1 false (.t 27) false, none⟩, ⟨some 29, .mv (.t 3) false, none⟩, ⟨some 30, .ia 6 (.t 28) (.t 29), none⟩, ⟨some 31, .fa 0 (.t 30), none⟩, ⟨some 32, .load 1 false (.t 31) false, none⟩, ⟨some 33, .slen (.t 32), none⟩, ⟨some 34, .bin .gtr (.t 33) (.c (.int .i64 20)), none⟩, ⟨some 35, .mv (.t 34) false, none⟩, ⟨some 36, .fa 3 (.t 1), some (35, false)⟩, ⟨some 37, .load 1 false (.t 36) false, some (35, false)⟩, ⟨some 38, .mv (.t 3) false, some (35, false)⟩, ⟨some 39, .ia 6 (.t 37) (.t 38), some (35, false)⟩, ⟨some 40, .fa 5 (.t 39), some (35, false)⟩, ⟨some 41, .load 1 false (.t 40) false, some (35, false)⟩, ⟨some 42, .len (.t 41), some (35, false)⟩, ⟨some 43, .bin .gtr (.t 42) (.c (.int .i64 10)), some (35, false)⟩, ⟨some 44, .pick (.t 35) (.c (.bool true)) (.t 43), none⟩])
  (.cond (.t 44) (.seq (.reg [⟨some 2, .mv (.c (.bool false)) true, none⟩])
  (.ret))
  (.skip))))
  (.reg [⟨some 25, .mv (.t 3) false, none⟩, ⟨some 26, .bin .add (.t 25) (.c (.int .i64 1)), none⟩, ⟨some 3, .mv (.t 26) true, none⟩]))
def L25_0 : C := .loop [1, 3] 1 B25_0
theorem go25_0 (s : Env × Bx) (nb) : evL tab ext nb L25_0 s = (loopIn nb [1, 3] 1 s).bind fun s0 => (evL tab ext nb B25_0 s0).bind (seqG tab ext nb L25_0) := eL_loop _ _ _
/-- swingbridge/swingbridgelaw11.few -/
def C25 : CFun := ⟨45, 1, .seq (.reg [⟨some 1, .box (.t 0), none⟩, ⟨some 2, .mv (.c (.bool false)) true, none⟩])
  (.seq (.seq (.reg [⟨some 4, .fa 1 (.t 1), none⟩, ⟨some 5, .load 1 false (.t 4) false, none⟩, ⟨some 6, .len (.t 5), none⟩, ⟨some 7, .bin .gtr (.t 6) (.c (.int .i64 8)), none⟩, ⟨some 8, .mv (.t 7) false, none⟩, ⟨some 9, .fa 2 (.t 1), some (8, false)⟩, ⟨some 10, .load 1 false (.t 9) false, some (8, false)⟩, ⟨some 11, .len (.t 10), some (8, false)⟩, ⟨some 12, .bin .gtr (.t 11) (.c (.int .i64 10)), some (8, false)⟩, ⟨some 13, .pick (.t 8) (.c (.bool true)) (.t 12), none⟩, ⟨some 14, .mv (.t 13) false, none⟩, ⟨some 15, .fa 3 (.t 1), some (14, false)⟩, ⟨some 16, .load 1 false (.t 15) false, some (14, false)⟩, ⟨some 17, .len (.t 16), some (14, false)⟩, ⟨some 18, .bin .gtr (.t 17) (.c (.int .i64 9)), some (14, false)⟩, ⟨some 19, .pick (.t 14) (.c (.bool true)) (.t 18), none⟩])
  (.cond (.t 19) (.seq (.reg [⟨some 2, .mv (.c (.bool false)) true, none⟩])
  (.ret))
  (.skip)))
  (.seq (.seq (.reg [⟨some 3, .mv (.c (.int .i64 0)) true, none⟩])
  (.block 0 (L25_0)))
  (.seq (.reg [⟨some 2, .mv (.c (.bool true)) true, none⟩])
  (.ret)))), [.t 2]⟩
theorem row25 : RowOk Try.prog 25 C25 := ⟨Try.f25, ⟨[], [], [], []⟩, lvOf [(0, [1, 3], 1)], Try.func25, by kernel_rfl, by kernel_rfl⟩
def B26_0 : C := .seq (.reg [⟨some 12, .bin .lss (.t 11) (.t 10), none⟩])
  (.seq (.cond (.t 12) (.skip)
  (.exit 0))
  (.seq (.block 1 (.seq (.reg [⟨some 13, .ia 1 (.t 9) (.t 11), none⟩, ⟨some 14, .load 1 false (.t 13) false, none⟩, ⟨some 5, .mv (.t 14) true, none⟩])
  (.reg [⟨some 15, .mv (.t 3) false, none⟩, ⟨some 16, .mv (.t 5) false, none⟩, ⟨some 17, .bin .add (.t 15) (.t 16), none⟩, ⟨some 3, .mv (.t 17) true, none⟩])))
  (.reg [⟨some 18, .bin .add (.t 11) (.c (.int .i64 1)), none⟩, ⟨some 11, .mv (.t 18) false, none⟩])))
def L26_0 : C := .loop [3, 9, 10, 11] 1 B26_0
theorem go26_0 (s : Env × Bx) (nb) : evL tab ext nb L26_0 s = (loopIn nb [3, 9, 10, 11] 1 s).bind fun s0 => (evL tab ext nb B26_0 s0).bind (seqG tab ext nb L26_0) := eL_loop _ _ _
/-- swingbridge/demand.Cores -/
def C26 : CFun := ⟨20, 1, .seq (.reg [⟨some 1, .box (.t 0), none⟩, ⟨some 2, .mv (.c (.int .i64 0)) true, none⟩])
  (.seq (.reg [⟨some 3, .mv (.c (.int .i64 0)) true, none⟩])
  (.seq (.seq (.reg [⟨some 6, .load 4 true (.t 1) false, none⟩, ⟨some 7, .call 62 [(.t 6), (.c (.int .i64 0))] false, none⟩])
  (.cond (.t 7) (.seq (.reg [⟨some 8, .fa 1 (.t 1), none⟩, ⟨some 9, .load 1 false (.t 8) false, none⟩, ⟨some 10, .len (.t 9), none⟩, ⟨some 11, .mv (.c (.int .i64 0)) false, none⟩])
  (.block 0 (L26_0)))
  (.skip)))
  (.seq (.reg [⟨some 19, .mv (.t 3) false, none⟩, ⟨some 2, .mv (.t 19) true, none⟩])
  (.ret)))), [.t 2]⟩
theorem row26 : RowOk Try.prog 26 C26 := ⟨Try.f26, ⟨[], [], [], []⟩, lvOf [(0, [3, 9, 10, 11], 1)], Try.func26, by kernel_rfl, by kernel_rfl⟩
def B27_0 : C := .seq (.reg [⟨some 12, .bin .lss (.t 11) (.t 10), none⟩])
  (.seq (.cond (.t 12) (.skip)
  (.exit 0))
  (.seq (.block 1 (.seq (.reg [⟨some 13, .mv (.t 11) false, none⟩, ⟨some 14, .ia 6 (.t 9) (.t 11), none⟩, ⟨some 15, .load 6 true (.t 14) false, none⟩, ⟨some 7, .alloc [(.string ⟨#[]⟩), (.int .i64 0), (.int .i64 0), (.int .i64 0), (.int .i64 0), (.slice none 0 0)], none⟩, ⟨some 6, .mv (.t 13) true, none⟩, ⟨none, .store 6 (.t 7) (.t 15), none⟩])
  (.seq (.reg [⟨some 16, .load 4 true (.t 2) false, none⟩, ⟨some 17, .mv (.t 6) false, none⟩, ⟨some 18, .call 62 [(.t 16), (.t 17)] false, none⟩, ⟨some 19, .mv (.t 18) false, none⟩, ⟨some 20, .fa 4 (.t 7), some (19, true)⟩, ⟨some 21, .load 1 false (.t 20) false, some (19, true)⟩, ⟨some 22, .mv (.t 1) false, some (19, true)⟩, ⟨some 23, .bin .eql (.t 21) (.t 22), some (19, true)⟩, ⟨some 24, .pick (.t 19) (.t 23) (.c (.bool false)), none⟩, ⟨some 25, .mv (.t 24) false, none⟩, ⟨some 26, .load 6 true (.t 7) false, some (25, true)⟩, ⟨some 27, .call 30 [(.t 26)] false, some (25, true)⟩, ⟨some 28, .bin .gtr (.t 27) (.c (.int .i64 0)), some (25, true)⟩, ⟨some 29, .pick (.t 25) (.t 28) (.c (.bool false)), none⟩])
  (.cond (.t 29) (.reg [⟨some 30, .mv (.t 5) false, none⟩, ⟨some 31, .bin .add (.t 30) (.c (.int .i64 1)), none⟩, ⟨some 5, .mv (.t 31) true, none⟩])
  (.skip)))))
  (.reg [⟨some 32, .bin .add (.t 11) (.c (.int .i64 1)), none⟩, ⟨some 11, .mv (.t 32) false, none⟩])))
def L27_0 : C := .loop [1, 2, 5, 9, 10, 11] 1 B27_0
theorem go27_0 (s : Env × Bx) (nb) : evL tab ext nb L27_0 s = (loopIn nb [1, 2, 5, 9, 10, 11] 1 s).bind fun s0 => (evL tab ext nb B27_0 s0).bind (seqG tab ext nb L27_0) := eL_loop _ _ _
/-- swingbridge/demand.Askers -/
def C27 : CFun := ⟨34, 2, .seq (.reg [⟨some 2, .box (.t 0), none⟩, ⟨some 4, .mv (.c (.int .i64 0)) true, none⟩])
  (.seq (.reg [⟨some 5, .mv (.c (.int .i64 0)) true, none⟩])
  (.seq (.seq (.reg [⟨some 8, .fa 3 (.t 2), none⟩, ⟨some 9, .load 1 false (.t 8) false, none⟩, ⟨some 10, .len (.t 9), none⟩, ⟨some 11, .mv (.c (.int .i64 0)) false, none⟩])
  (.block 0 (L27_0)))
  (.seq (.reg [⟨some 33, .mv (.t 5) false, none⟩, ⟨some 4, .mv (.t 33) true, none⟩])
  (.ret)))), [.t 4]⟩
theorem row27 : RowOk Try.prog 27 C27 := ⟨Try.f27, ⟨[], [], [], []⟩, lvOf [(0, [1, 2, 5, 9, 10, 11], 1)], Try.func27, by kernel_rfl, by kernel_rfl⟩
def B28_0 : C := .seq (.reg [⟨some 16, .bin .lss (.t 15) (.t 14), none⟩])
  (.seq (.cond (.t 16) (.skip)
  (.exit 0))
  (.seq (.block 1 (.seq (.reg [⟨some 17, .ia 1 (.t 13) (.t 15), none⟩, ⟨some 18, .load 1 false (.t 17) false, none⟩, ⟨some 9, .mv (.t 18) true, none⟩])
  (.reg [⟨some 19, .mv (.t 7) false, none⟩, ⟨some 20, .mv (.t 9) false, none⟩, ⟨some 21, .bin .add (.t 19) (.t 20), none⟩, ⟨some 7, .mv (.t 21) true, none⟩])))
  (.reg [⟨some 22, .bin .add (.t 15) (.c (.int .i64 1)), none⟩, ⟨some 15, .mv (.t 22) false, none⟩])))
def L28_0 : C := .loop [7, 13, 14, 15] 1 B28_0
theorem go28_0 (s : Env × Bx) (nb) : evL tab ext nb L28_0 s = (loopIn nb [7, 13, 14, 15] 1 s).bind fun s0 => (evL tab ext nb B28_0 s0).bind (seqG tab ext nb L28_0) := eL_loop _ _ _
/-- swingbridge/demand.At -/
def C28 : CFun := ⟨24, 3, .seq (.reg [⟨some 3, .box (.t 0), none⟩, ⟨some 6, .mv (.c (.int .i64 0)) true, none⟩])
  (.seq (.reg [⟨some 7, .mv (.c (.int .i64 0)) true, none⟩])
  (.seq (.seq (.reg [⟨some 10, .load 4 true (.t 3) false, none⟩, ⟨some 11, .mv (.t 1) false, none⟩, ⟨some 12, .mv (.t 2) false, none⟩, ⟨some 13, .call 63 [(.t 10), (.t 11), (.t 12)] false, none⟩, ⟨some 14, .len (.t 13), none⟩, ⟨some 15, .mv (.c (.int .i64 0)) false, none⟩])
  (.block 0 (L28_0)))
  (.seq (.reg [⟨some 23, .mv (.t 7) false, none⟩, ⟨some 6, .mv (.t 23) true, none⟩])
  (.ret)))), [.t 6]⟩
theorem row28 : RowOk Try.prog 28 C28 := ⟨Try.f28, ⟨[], [], [], []⟩, lvOf [(0, [7, 13, 14, 15], 1)], Try.func28, by kernel_rfl, by kernel_rfl⟩
def B29_0 : C := .seq (.reg [⟨some 16, .bin .lss (.t 15) (.t 14), none⟩])
  (.seq (.cond (.t 16) (.skip)
  (.exit 0))
  (.seq (.block 1 (.seq (.reg [⟨some 17, .ia 1 (.t 13) (.t 15), none⟩, ⟨some 18, .load 1 false (.t 17) false, none⟩, ⟨some 9, .mv (.t 18) true, none⟩])
  (.reg [⟨some 19, .mv (.t 7) false, none⟩, ⟨some 20, .mv (.t 9) false, none⟩, ⟨some 21, .mxn true [(.t 19), (.t 20)], none⟩, ⟨some 7, .mv (.t 21) true, none⟩])))
  (.reg [⟨some 22, .bin .add (.t 15) (.c (.int .i64 1)), none⟩, ⟨some 15, .mv (.t 22) false, none⟩])))
def L29_0 : C := .loop [7, 13, 14, 15] 1 B29_0
theorem go29_0 (s : Env × Bx) (nb) : evL tab ext nb L29_0 s = (loopIn nb [7, 13, 14, 15] 1 s).bind fun s0 => (evL tab ext nb B29_0 s0).bind (seqG tab ext nb L29_0) := eL_loop _ _ _
/-- swingbridge/demand.Most -/
def C29 : CFun := ⟨24, 3, .seq (.reg [⟨some 3, .box (.t 0), none⟩, ⟨some 6, .mv (.c (.int .i64 0)) true, none⟩])
  (.seq (.reg [⟨some 7, .mv (.c (.int .i64 0)) true, none⟩])
  (.seq (.seq (.reg [⟨some 10, .load 4 true (.t 3) false, none⟩, ⟨some 11, .mv (.t 1) false, none⟩, ⟨some 12, .mv (.t 2) false, none⟩, ⟨some 13, .call 63 [(.t 10), (.t 11), (.t 12)] false, none⟩, ⟨some 14, .len (.t 13), none⟩, ⟨some 15, .mv (.c (.int .i64 0)) false, none⟩])
  (.block 0 (L29_0)))
  (.seq (.reg [⟨some 23, .mv (.t 7) false, none⟩, ⟨some 6, .mv (.t 23) true, none⟩])
  (.ret)))), [.t 6]⟩
theorem row29 : RowOk Try.prog 29 C29 := ⟨Try.f29, ⟨[], [], [], []⟩, lvOf [(0, [7, 13, 14, 15], 1)], Try.func29, by kernel_rfl, by kernel_rfl⟩
def B30_0 : C := .seq (.reg [⟨some 10, .bin .lss (.t 9) (.t 8), none⟩])
  (.seq (.cond (.t 10) (.skip)
  (.exit 0))
  (.seq (.block 1 (.seq (.reg [⟨some 11, .ia 3 (.t 7) (.t 9), none⟩, ⟨some 12, .load 3 true (.t 11) false, none⟩, ⟨some 5, .alloc [(.int .i64 0), (.int .i64 0), (.int .i64 0)], none⟩, ⟨none, .store 3 (.t 5) (.t 12), none⟩])
  (.seq (.reg [⟨some 13, .fa 0 (.t 5), none⟩, ⟨some 14, .load 1 false (.t 13) false, none⟩, ⟨some 15, .bin .eql (.t 14) (.c (.int .i64 3)), none⟩])
  (.cond (.t 15) (.reg [⟨some 16, .mv (.t 3) false, none⟩, ⟨some 17, .fa 1 (.t 5), none⟩, ⟨some 18, .load 1 false (.t 17) false, none⟩, ⟨some 19, .mxn true [(.t 16), (.t 18)], none⟩, ⟨some 3, .mv (.t 19) true, none⟩])
  (.skip)))))
  (.reg [⟨some 20, .bin .add (.t 9) (.c (.int .i64 1)), none⟩, ⟨some 9, .mv (.t 20) false, none⟩])))
def L30_0 : C := .loop [3, 7, 8, 9] 1 B30_0
theorem go30_0 (s : Env × Bx) (nb) : evL tab ext nb L30_0 s = (loopIn nb [3, 7, 8, 9] 1 s).bind fun s0 => (evL tab ext nb B30_0 s0).bind (seqG tab ext nb L30_0) := eL_loop _ _ _
/-- swingbridge/demand.Longest -/
def C30 : CFun := ⟨22, 1, .seq (.reg [⟨some 1, .box (.t 0), none⟩, ⟨some 2, .mv (.c (.int .i64 0)) true, none⟩])
  (.seq (.reg [⟨some 3, .mv (.c (.int .i64 0)) true, none⟩])
  (.seq (.seq (.reg [⟨some 6, .fa 5 (.t 1), none⟩, ⟨some 7, .load 1 false (.t 6) false, none⟩, ⟨some 8, .len (.t 7), none⟩, ⟨some 9, .mv (.c (.int .i64 0)) false, none⟩])
  (.block 0 (L30_0)))
  (.seq (.reg [⟨some 21, .mv (.t 3) false, none⟩, ⟨some 2, .mv (.t 21) true, none⟩])
  (.ret)))), [.t 2]⟩
theorem row30 : RowOk Try.prog 30 C30 := ⟨Try.f30, ⟨[], [], [], []⟩, lvOf [(0, [3, 7, 8, 9], 1)], Try.func30, by kernel_rfl, by kernel_rfl⟩
/-- swingbridge/demand.Locks -/
def C31 : CFun := ⟨5, 1, .seq (.reg [⟨some 1, .box (.t 0), none⟩, ⟨some 2, .mv (.c (.int .i64 0)) true, none⟩])
  (.seq (.reg [⟨some 3, .load 6 true (.t 1) false, none⟩, ⟨some 4, .call 64 [(.t 3), (.c (.int .i64 3))] false, none⟩, ⟨some 2, .mv (.t 4) true, none⟩])
  (.ret)), [.t 2]⟩
theorem row31 : RowOk Try.prog 31 C31 := ⟨Try.f31, ⟨[], [], [], []⟩, lvOf [], Try.func31, by kernel_rfl, by kernel_rfl⟩
/-- swingbridge/demand.Runs -/
def C32 : CFun := ⟨5, 1, .seq (.reg [⟨some 1, .box (.t 0), none⟩, ⟨some 2, .mv (.c (.int .i64 0)) true, none⟩])
  (.seq (.reg [⟨some 3, .load 6 true (.t 1) false, none⟩, ⟨some 4, .call 64 [(.t 3), (.c (.int .i64 1))] false, none⟩, ⟨some 2, .mv (.t 4) true, none⟩])
  (.ret)), [.t 2]⟩
theorem row32 : RowOk Try.prog 32 C32 := ⟨Try.f32, ⟨[], [], [], []⟩, lvOf [], Try.func32, by kernel_rfl, by kernel_rfl⟩
/-- swingbridge/demand.Sleeps -/
def C33 : CFun := ⟨5, 1, .seq (.reg [⟨some 1, .box (.t 0), none⟩, ⟨some 2, .mv (.c (.int .i64 0)) true, none⟩])
  (.seq (.reg [⟨some 3, .load 6 true (.t 1) false, none⟩, ⟨some 4, .call 64 [(.t 3), (.c (.int .i64 2))] false, none⟩, ⟨some 2, .mv (.t 4) true, none⟩])
  (.ret)), [.t 2]⟩
theorem row33 : RowOk Try.prog 33 C33 := ⟨Try.f33, ⟨[], [], [], []⟩, lvOf [], Try.func33, by kernel_rfl, by kernel_rfl⟩
/-- swingbridge/swingbridgelaw22.known -/
def C34 : CFun := ⟨49, 0, .seq (.reg [⟨some 0, .mv (.c (.bool false)) true, none⟩])
  (.seq (.reg [⟨some 5, .build [(.int .i64 0), (.int .i64 0), (.int .i64 0)] [(0, 1, (.c (.int .i64 1))), (1, 1, (.c (.int .i64 1)))], none⟩, ⟨some 6, .build [(.int .i64 0), (.int .i64 0), (.int .i64 0)] [(0, 1, (.c (.int .i64 2))), (1, 1, (.c (.int .i64 9))), (2, 1, (.c (.int .i64 5)))], none⟩, ⟨some 7, .build [(.int .i64 0), (.int .i64 0), (.int .i64 0)] [(0, 1, (.c (.int .i64 3))), (1, 1, (.c (.int .i64 4)))], none⟩, ⟨some 1, .alloc [(.int .i64 0), (.int .i64 0), (.int .i64 0)], none⟩, ⟨some 2, .alloc [(.int .i64 0), (.int .i64 0), (.int .i64 0)], none⟩, ⟨some 3, .alloc [(.int .i64 0), (.int .i64 0), (.int .i64 0)], none⟩, ⟨none, .store 3 (.t 1) (.t 5), none⟩, ⟨none, .store 3 (.t 2) (.t 6), none⟩, ⟨none, .store 3 (.t 3) (.t 7), none⟩])
  (.seq (.reg [⟨some 8, .load 3 true (.t 3) false, none⟩, ⟨some 9, .load 3 true (.t 1) false, none⟩, ⟨some 10, .load 3 true (.t 2) false, none⟩, ⟨some 11, .bsl 3 3 [(.int .i64 0), (.int .i64 0), (.int .i64 0), (.int .i64 0), (.int .i64 0), (.int .i64 0), (.int .i64 0), (.int .i64 0), (.int .i64 0)] [(0, 3, (.t 8)), (3, 3, (.t 9)), (6, 3, (.t 10))] false, none⟩, ⟨some 12, .call 38 [(.t 11), (.c (.int .i64 2))] false, none⟩, ⟨some 4, .mv (.t 12) true, none⟩])
  (.seq (.reg [⟨some 13, .load 3 true (.t 2) false, none⟩, ⟨some 14, .load 3 true (.t 1) false, none⟩, ⟨some 15, .call 35 [(.t 13), (.t 14)] false, none⟩, ⟨some 16, .mv (.t 15) false, none⟩, ⟨some 17, .load 3 true (.t 1) false, some (16, true)⟩, ⟨some 18, .load 3 true (.t 3) false, some (16, true)⟩, ⟨some 19, .call 35 [(.t 17), (.t 18)] false, some (16, true)⟩, ⟨some 20, .pick (.t 16) (.t 19) (.c (.bool false)), none⟩, ⟨some 21, .mv (.t 20) false, none⟩, ⟨some 22, .load 3 true (.t 1) false, some (21, true)⟩, ⟨some 23, .load 3 true (.t 1) false, some (21, true)⟩, ⟨some 24, .call 35 [(.t 22), (.t 23)] false, some (21, true)⟩, ⟨some 25, .un .not (.t 24), some (21, true)⟩, ⟨some 26, .pick (.t 21) (.t 25) (.c (.bool false)), none⟩, ⟨some 27, .mv (.t 26) false, none⟩, ⟨some 28, .mv (.t 4) false, some (27, true)⟩, ⟨some 29, .len (.t 28), some (27, true)⟩, ⟨some 30, .bin .eql (.t 29) (.c (.int .i64 2)), some (27, true)⟩, ⟨some 31, .pick (.t 27) (.t 30) (.c (.bool false)), none⟩, ⟨some 32, .mv (.t 31) false, none⟩, ⟨some 33, .mv (.t 4) false, some (32, true)⟩, ⟨some 34, .ia 1 (.t 33) (.c (.int .i64 0)), some (32, true)⟩, ⟨some 35, .load 1 false (.t 34) false, some (32, true)⟩, ⟨some 36, .bin .eql (.t 35) (.c (.int .i64 2)), some (32, true)⟩, ⟨some 37, .pick (.t 32) (.t 36) (.c (.bool false)), none⟩, ⟨some 38, .mv (.t 37) false, none⟩, ⟨some 39, .mv (.t 4) false, some (38, true)⟩, ⟨some 40, .ia 1 (.t 39) (.c (.int .i64 1)), some (38, true)⟩, ⟨some 41, .load 1 false (.t 40) false, some (38, true)⟩, ⟨some 42, .bin .eql (.t 41) (.c (.int .i64 1)), some (38, true)⟩, ⟨some 43, .pick (.t 38) (.t 42) (.c (.bool false)), none⟩, ⟨some 44, .mv (.t 43) false, none⟩, ⟨some 45, .call 38 [(.c (.slice none 0 0)), (.c (.int .i64 3))] false, some (44, true)⟩, ⟨some 46, .len (.t 45), some (44, true)⟩, ⟨some 47, .bin .eql (.t 46) (.c (.int .i64 0)), some (44, true)⟩, ⟨some 48, .pick (.t 44) (.t 47) (.c (.bool false)), none⟩, ⟨some 0, .mv (.t 48) true, none⟩])
  (.ret)))), [.t 0]⟩
theorem row34 : RowOk Try.prog 34 C34 := ⟨Try.f34, ⟨[], [], [], []⟩, lvOf [], Try.func34, by kernel_rfl, by kernel_rfl⟩
/-- swingbridge/turn.Ahead -/
def C35 : CFun := ⟨9, 2, .seq (.reg [⟨some 2, .box (.t 0), none⟩, ⟨some 3, .box (.t 1), none⟩, ⟨some 4, .mv (.c (.bool false)) true, none⟩])
  (.seq (.reg [⟨some 5, .load 3 true (.t 2) false, none⟩, ⟨some 6, .load 3 true (.t 3) false, none⟩, ⟨some 7, .call 65 [(.t 5), (.t 6)] false, none⟩, ⟨some 8, .bin .lss (.t 7) (.c (.int .i64 0)), none⟩, ⟨some 4, .mv (.t 8) true, none⟩])
  (.ret)), [.t 4]⟩
theorem row35 : RowOk Try.prog 35 C35 := ⟨Try.f35, ⟨[], [], [], []⟩, lvOf [], Try.func35, by kernel_rfl, by kernel_rfl⟩
/-- swingbridge/swingbridgeref20.Ahead -/
def C36 : CFun := ⟨52, 2, .seq (.reg [⟨some 2, .box (.t 0), none⟩, ⟨some 3, .box (.t 1), none⟩, ⟨some 4, .mv (.c (.bool false)) true, none⟩])
  (.seq (.reg [⟨some 7, .fa 2 (.t 2), none⟩, ⟨some 8, .load 1 false (.t 7) false, none⟩, ⟨some 9, .bin .gtr (.t 8) (.c (.int .i64 0)), none⟩, ⟨some 10, .fa 2 (.t 3), none⟩, ⟨some 11, .load 1 false (.t 10) false, none⟩, ⟨some 12, .bin .gtr (.t 11) (.c (.int .i64 0)), none⟩, ⟨some 5, .mv (.t 9) true, none⟩, ⟨some 6, .mv (.t 12) true, none⟩])
  (.seq (.block 0 (.seq (.reg [⟨some 14, .mv (.t 5) false, none⟩, ⟨some 15, .mv (.t 6) false, none⟩, ⟨some 16, .eqb true (.t 14) (.t 15), none⟩, ⟨some 13, .mv (.t 16) true, none⟩])
  (.cond (.t 13) (.seq (.reg [⟨some 17, .mv (.t 5) false, none⟩, ⟨some 4, .mv (.t 17) true, none⟩])
  (.ret))
  (.seq (.reg [⟨some 19, .mv (.t 5) false, none⟩, ⟨some 20, .mv (.t 19) false, none⟩, ⟨some 21, .fa 2 (.t 2), some (20, true)⟩, ⟨some 22, .load 1 false (.t 21) false, some (20, true)⟩, ⟨some 23, .fa 2 (.t 3), some (20, true)⟩, ⟨some 24, .load 1 false (.t 23) false, some (20, true)⟩, ⟨some 25, .bin .neq (.t 22) (.t 24), some (20, true)⟩, ⟨some 26, .pick (.t 20) (.t 25) (.c (.bool false)), none⟩, ⟨some 18, .mv (.t 26) true, none⟩])
  (.cond (.t 18) (.seq (.reg [⟨some 27, .fa 2 (.t 2), none⟩, ⟨some 28, .load 1 false (.t 27) false, none⟩, ⟨some 29, .fa 2 (.t 3), none⟩, ⟨some 30, .load 1 false (.t 29) false, none⟩, ⟨some 31, .bin .lss (.t 28) (.t 30), none⟩, ⟨some 4, .mv (.t 31) true, none⟩])
  (.ret))
  (.seq (.reg [⟨some 33, .mv (.t 5) false, none⟩, ⟨some 34, .un .not (.t 33), none⟩, ⟨some 35, .mv (.t 34) false, none⟩, ⟨some 36, .fa 1 (.t 2), some (35, true)⟩, ⟨some 37, .load 1 false (.t 36) false, some (35, true)⟩, ⟨some 38, .fa 1 (.t 3), some (35, true)⟩, ⟨some 39, .load 1 false (.t 38) false, some (35, true)⟩, ⟨some 40, .bin .neq (.t 37) (.t 39), some (35, true)⟩, ⟨some 41, .pick (.t 35) (.t 40) (.c (.bool false)), none⟩, ⟨some 32, .mv (.t 41) true, none⟩])
  (.cond (.t 32) (.seq (.reg [⟨some 42, .fa 1 (.t 2), none⟩, ⟨some 43, .load 1 false (.t 42) false, none⟩, ⟨some 44, .fa 1 (.t 3), none⟩, ⟨some 45, .load 1 false (.t 44) false, none⟩, ⟨some 46, .bin .lss (.t 43) (.t 45), none⟩, ⟨some 4, .mv (.t 46) true, none⟩])
  (.ret))
  (.skip))))))))
  (.seq (.reg [⟨some 47, .fa 0 (.t 2), none⟩, ⟨some 48, .load 1 false (.t 47) false, none⟩, ⟨some 49, .fa 0 (.t 3), none⟩, ⟨some 50, .load 1 false (.t 49) false, none⟩, ⟨some 51, .bin .lss (.t 48) (.t 50), none⟩, ⟨some 4, .mv (.t 51) true, none⟩])
  (.ret)))), [.t 4]⟩
theorem row36 : RowOk Try.prog 36 C36 := ⟨Try.f36, ⟨[], [], [], []⟩, lvOf [], Try.func36, by kernel_rfl, by kernel_rfl⟩
def B37_0 : C := .seq (.seq (.reg [⟨some 11, .mv (.t 5) false, none⟩, ⟨some 12, .mv (.t 0) false, none⟩, ⟨some 13, .len (.t 12), none⟩, ⟨some 14, .bin .lss (.t 11) (.t 13), none⟩])
  (.cond (.t 14) (.skip)
  (.exit 0)))
  (.seq (.block 1 (.seq (.reg [⟨some 17, .mv (.t 0) false, none⟩, ⟨some 18, .mv (.t 5) false, none⟩, ⟨some 19, .ia 1 (.t 17) (.t 18), none⟩, ⟨some 20, .load 1 false (.t 19) false, none⟩, ⟨some 21, .mv (.t 1) false, none⟩, ⟨some 22, .mv (.t 5) false, none⟩, ⟨some 23, .ia 1 (.t 21) (.t 22), none⟩, ⟨some 24, .load 1 false (.t 23) false, none⟩, ⟨some 25, .bin .neq (.t 20) (.t 24), none⟩])
  (.cond (.t 25) (.seq (.reg [⟨some 4, .mv (.c (.bool false)) true, none⟩])
  (.ret))
  (.skip))))
  (.reg [⟨some 15, .mv (.t 5) false, none⟩, ⟨some 16, .bin .add (.t 15) (.c (.int .i64 1)), none⟩, ⟨some 5, .mv (.t 16) true, none⟩]))
def L37_0 : C := .loop [0, 1, 5] 0 B37_0
theorem go37_0 (s : Env × Bx) (nb) : evL tab ext nb L37_0 s = (loopIn nb [0, 1, 5] 0 s).bind fun s0 => (evL tab ext nb B37_0 s0).bind (seqG tab ext nb L37_0) := eL_loop _ _ _
/-- swingbridge/swingbridgeref2.SameInts -/
def C37 : CFun := ⟨26, 2, .seq (.reg [⟨some 4, .mv (.c (.bool false)) true, none⟩])
  (.seq (.seq (.reg [⟨some 6, .mv (.t 0) false, none⟩, ⟨some 7, .len (.t 6), none⟩, ⟨some 8, .mv (.t 1) false, none⟩, ⟨some 9, .len (.t 8), none⟩, ⟨some 10, .bin .neq (.t 7) (.t 9), none⟩])
  (.cond (.t 10) (.seq (.reg [⟨some 4, .mv (.c (.bool false)) true, none⟩])
  (.ret))
  (.skip)))
  (.seq (.seq (.reg [⟨some 5, .mv (.c (.int .i64 0)) true, none⟩])
  (.block 0 (L37_0)))
  (.seq (.reg [⟨some 4, .mv (.c (.bool true)) true, none⟩])
  (.ret)))), [.t 4]⟩
theorem row37 : RowOk Try.prog 37 C37 := ⟨Try.f37, ⟨[], [], [], []⟩, lvOf [(0, [0, 1, 5], 0)], Try.func37, by kernel_rfl, by kernel_rfl⟩
def B38_0 : C := .seq (.reg [⟨some 16, .bin .lss (.t 15) (.t 14), none⟩])
  (.seq (.cond (.t 16) (.skip)
  (.exit 0))
  (.seq (.block 1 (.seq (.reg [⟨some 17, .ia 3 (.t 13) (.t 15), none⟩, ⟨some 18, .load 3 true (.t 17) false, none⟩, ⟨some 8, .alloc [(.int .i64 0), (.int .i64 0), (.int .i64 0)], none⟩, ⟨none, .store 3 (.t 8) (.t 18), none⟩])
  (.seq (.seq (.reg [⟨some 19, .mv (.t 6) false, none⟩, ⟨some 20, .len (.t 19), none⟩, ⟨some 21, .mv (.t 1) false, none⟩, ⟨some 22, .bin .geq (.t 20) (.t 21), none⟩])
  (.cond (.t 22) (.exit 0)
  (.skip)))
  (.reg [⟨some 23, .mv (.t 6) true, none⟩, ⟨some 24, .fa 0 (.t 8), none⟩, ⟨some 25, .load 1 false (.t 24) false, none⟩, ⟨some 26, .bsl 1 1 [(.int .i64 0)] [(0, 1, (.t 25))] false, none⟩, ⟨some 27, .app 1 8 (.t 23) (.t 26) false, none⟩, ⟨some 6, .mv (.t 27) true, none⟩]))))
  (.reg [⟨some 28, .bin .add (.t 15) (.c (.int .i64 1)), none⟩, ⟨some 15, .mv (.t 28) false, none⟩])))
def L38_0 : C := .loop [1, 6, 13, 14, 15] 1 B38_0
theorem go38_0 (s : Env × Bx) (nb) : evL tab ext nb L38_0 s = (loopIn nb [1, 6, 13, 14, 15] 1 s).bind fun s0 => (evL tab ext nb B38_0 s0).bind (seqG tab ext nb L38_0) := eL_loop _ _ _
/-- swingbridge/turn.First -/
def C38 : CFun := ⟨30, 2, .seq (.reg [⟨some 4, .mv (.c (.slice none 0 0)) true, none⟩])
  (.scope (.seq (.reg [⟨some 9, .mv (.t 0) false, none⟩, ⟨some 10, .calli 66 [(.t 9)], none⟩, ⟨some 5, .mv (.t 10) true, none⟩])
  (.seq (.reg [⟨some 11, .mv (.t 5) false, none⟩, ⟨some 12, .calli 67 [(.t 11), (.f 65)], none⟩])
  (.seq (.reg [⟨some 6, .mv (.c (.slice none 0 0)) true, none⟩])
  (.seq (.skip)
  (.seq (.seq (.reg [⟨some 13, .mv (.t 5) false, none⟩, ⟨some 14, .len (.t 13), none⟩, ⟨some 15, .mv (.c (.int .i64 0)) false, none⟩])
  (.block 0 (L38_0)))
  (.seq (.reg [⟨some 29, .mv (.t 6) false, none⟩, ⟨some 4, .mv (.t 29) true, none⟩])
  (.ret)))))))), [.t 4]⟩
theorem row38 : RowOk Try.prog 38 C38 := ⟨Try.f38, ⟨[], [], [], [66]⟩, lvOf [(0, [1, 6, 13, 14, 15], 1)], Try.func38, by kernel_rfl, by kernel_rfl⟩
def B39_2 : C := .seq (.seq (.reg [⟨some 18, .mv (.t 7) false, none⟩, ⟨some 19, .bin .gtr (.t 18) (.c (.int .i64 0)), none⟩, ⟨some 20, .mv (.t 19) false, none⟩, ⟨some 21, .mv (.t 0) false, some (20, true)⟩, ⟨some 22, .mv (.t 6) false, some (20, true)⟩, ⟨some 23, .ia 3 (.t 21) (.t 22), some (20, true)⟩, ⟨some 24, .load 3 true (.t 23) false, some (20, true)⟩, ⟨some 25, .mv (.t 5) false, some (20, true)⟩, ⟨some 26, .mv (.t 7) false, some (20, true)⟩, ⟨some 27, .bin .sub (.t 26) (.c (.int .i64 1)), some (20, true)⟩, ⟨some 28, .ia 3 (.t 25) (.t 27), some (20, true)⟩, ⟨some 29, .load 3 true (.t 28) false, some (20, true)⟩, ⟨some 30, .call 36 [(.t 24), (.t 29)] false, some (20, true)⟩, ⟨some 31, .pick (.t 20) (.t 30) (.c (.bool false)), none⟩])
  (.cond (.t 31) (.skip)
  (.exit 2)))
  (.block 3 (.reg [⟨some 32, .mv (.t 7) false, none⟩, ⟨some 33, .bin .sub (.t 32) (.c (.int .i64 1)), none⟩, ⟨some 7, .mv (.t 33) true, none⟩]))
def L39_2 : C := .loop [0, 1, 5, 6, 7] 0 B39_2
theorem go39_2 (s : Env × Bx) (nb) : evL tab ext nb L39_2 s = (loopIn nb [0, 1, 5, 6, 7] 0 s).bind fun s0 => (evL tab ext nb B39_2 s0).bind (seqG tab ext nb L39_2) := eL_loop _ _ _
def B39_0 : C := .seq (.seq (.reg [⟨some 10, .mv (.t 6) false, none⟩, ⟨some 11, .mv (.t 0) false, none⟩, ⟨some 12, .len (.t 11), none⟩, ⟨some 13, .bin .lss (.t 10) (.t 12), none⟩])
  (.cond (.t 13) (.skip)
  (.exit 0)))
  (.seq (.block 1 (.seq (.reg [⟨some 16, .mv (.t 5) false, none⟩, ⟨some 17, .len (.t 16), none⟩, ⟨some 7, .mv (.t 17) true, none⟩])
  (.seq (.block 2 (L39_2))
  (.reg [⟨some 34, .mv (.t 5) false, none⟩, ⟨some 35, .mv (.t 7) false, none⟩, ⟨some 36, .slc 3 (.t 34) none (some (.t 35)) none, none⟩, ⟨some 37, .app 3 24 (.c (.slice none 0 0)) (.t 36) false, none⟩, ⟨some 38, .mv (.t 0) false, none⟩, ⟨some 39, .mv (.t 6) false, none⟩, ⟨some 40, .ia 3 (.t 38) (.t 39), none⟩, ⟨some 41, .load 3 true (.t 40) false, none⟩, ⟨some 42, .bsl 3 1 [(.int .i64 0), (.int .i64 0), (.int .i64 0)] [(0, 3, (.t 41))] false, none⟩, ⟨some 43, .app 3 24 (.t 37) (.t 42) false, none⟩, ⟨some 44, .mv (.t 5) false, none⟩, ⟨some 45, .mv (.t 7) false, none⟩, ⟨some 46, .slc 3 (.t 44) (some (.t 45)) none none, none⟩, ⟨some 47, .app 3 24 (.t 43) (.t 46) false, none⟩, ⟨some 5, .mv (.t 47) true, none⟩]))))
  (.reg [⟨some 14, .mv (.t 6) false, none⟩, ⟨some 15, .bin .add (.t 14) (.c (.int .i64 1)), none⟩, ⟨some 6, .mv (.t 15) true, none⟩]))
def L39_0 : C := .loop [0, 1, 5, 6] 0 B39_0
theorem go39_0 (s : Env × Bx) (nb) : evL tab ext nb L39_0 s = (loopIn nb [0, 1, 5, 6] 0 s).bind fun s0 => (evL tab ext nb B39_0 s0).bind (seqG tab ext nb L39_0) := eL_loop _ _ _
def B39_4 : C := .seq (.seq (.reg [⟨some 48, .mv (.t 9) false, none⟩, ⟨some 49, .mv (.t 5) false, none⟩, ⟨some 50, .len (.t 49), none⟩, ⟨some 51, .bin .lss (.t 48) (.t 50), none⟩, ⟨some 52, .mv (.t 51) false, none⟩, ⟨some 53, .mv (.t 9) false, some (52, true)⟩, ⟨some 54, .mv (.t 1) false, some (52, true)⟩, ⟨some 55, .bin .lss (.t 53) (.t 54), some (52, true)⟩, ⟨some 56, .pick (.t 52) (.t 55) (.c (.bool false)), none⟩])
  (.cond (.t 56) (.skip)
  (.exit 4)))
  (.seq (.block 5 (.reg [⟨some 59, .mv (.t 8) true, none⟩, ⟨some 60, .mv (.t 5) false, none⟩, ⟨some 61, .mv (.t 9) false, none⟩, ⟨some 62, .ia 3 (.t 60) (.t 61), none⟩, ⟨some 63, .fa 0 (.t 62), none⟩, ⟨some 64, .load 1 false (.t 63) false, none⟩, ⟨some 65, .bsl 1 1 [(.int .i64 0)] [(0, 1, (.t 64))] false, none⟩, ⟨some 66, .app 1 8 (.t 59) (.t 65) false, none⟩, ⟨some 8, .mv (.t 66) true, none⟩]))
  (.reg [⟨some 57, .mv (.t 9) false, none⟩, ⟨some 58, .bin .add (.t 57) (.c (.int .i64 1)), none⟩, ⟨some 9, .mv (.t 58) true, none⟩]))
def L39_4 : C := .loop [1, 5, 8, 9] 0 B39_4
theorem go39_4 (s : Env × Bx) (nb) : evL tab ext nb L39_4 s = (loopIn nb [1, 5, 8, 9] 0 s).bind fun s0 => (evL tab ext nb B39_4 s0).bind (seqG tab ext nb L39_4) := eL_loop _ _ _
/-- swingbridge/swingbridgeref20.First -/
def C39 : CFun := ⟨68, 2, .seq (.reg [⟨some 4, .mv (.c (.slice none 0 0)) true, none⟩])
  (.seq (.reg [⟨some 5, .mv (.c (.slice none 0 0)) true, none⟩])
  (.seq (.seq (.reg [⟨some 6, .mv (.c (.int .i64 0)) true, none⟩])
  (.block 0 (L39_0)))
  (.seq (.reg [⟨some 8, .mv (.c (.slice none 0 0)) true, none⟩])
  (.seq (.seq (.reg [⟨some 9, .mv (.c (.int .i64 0)) true, none⟩])
  (.block 4 (L39_4)))
  (.seq (.reg [⟨some 67, .mv (.t 8) false, none⟩, ⟨some 4, .mv (.t 67) true, none⟩])
  (.ret)))))), [.t 4]⟩
theorem row39 : RowOk Try.prog 39 C39 := ⟨Try.f39, ⟨[], [], [], []⟩, lvOf [(0, [0, 1, 5, 6], 0), (2, [0, 1, 5, 6, 7], 0), (4, [1, 5, 8, 9], 0)], Try.func39, by kernel_rfl, by kernel_rfl⟩
def B41_0 : C := .seq (.seq (.reg [⟨some 20, .mv (.t 3) false, none⟩, ⟨some 21, .fa 3 (.t 1), none⟩, ⟨some 22, .load 1 false (.t 21) false, none⟩, ⟨some 23, .len (.t 22), none⟩, ⟨some 24, .bin .lss (.t 20) (.t 23), none⟩])
  (.cond (.t 24) (.skip)
  (.exit 0)))
  (.seq (.block 1 (.seq (.reg [⟨some 27, .fa 3 (.t 1), none⟩, ⟨some 28, .load 1 false (.t 27) false, none⟩, ⟨some 29, .mv (.t 3) false, none⟩, ⟨some 30, .ia 6 (.t 28) (.t 29), none⟩, ⟨some 31, .fa 0 (.t 30), none⟩, ⟨some 32, .load 1 false (.t 31) false, none⟩, ⟨some 33, .slen (.t 32), none⟩, ⟨some 34, .bin .gtr (.t 33) (.c (.int .i64 20)), none⟩, ⟨some 35, .mv (.t 34) false, none⟩, ⟨some 36, .fa 3 (.t 1), some (35, false)⟩, ⟨some 37, .load 1 false (.t 36) false, some (35, false)⟩, ⟨some 38, .mv (.t 3) false, some (35, false)⟩, ⟨some 39, .ia 6 (.t 37) (.t 38), some (35, false)⟩, ⟨some 40, .fa 5 (.t 39), some (35, false)⟩, ⟨some 41, .load 1 false (.t 40) false, some (35, false)⟩, ⟨some 42, .len (.t 41), some (35, false)⟩, ⟨some 43, .bin .gtr (.t 42) (.c (.int .i64 10)), some (35, false)⟩, ⟨some 44, .pick (.t 35) (.c (.bool true)) (.t 43), none⟩])
  (.cond (.t 44) (.seq (.reg [⟨some 2, .mv (.c (.bool false)) true, none⟩])
  (.ret))
  (.skip))))
  (.reg [⟨some 25, .mv (.t 3) false, none⟩, ⟨some 26, .bin .add (.t 25) (.c (.int .i64 1)), none⟩, ⟨some 3, .mv (.t 26) true, none⟩]))
def L41_0 : C := .loop [1, 3] 1 B41_0
theorem go41_0 (s : Env × Bx) (nb) : evL tab ext nb L41_0 s = (loopIn nb [1, 3] 1 s).bind fun s0 => (evL tab ext nb B41_0 s0).bind (seqG tab ext nb L41_0) := eL_loop _ _ _
/-- swingbridge/swingbridgelaw10.few -/
def C41 : CFun := ⟨45, 1, .seq (.reg [⟨some 1, .box (.t 0), none⟩, ⟨some 2, .mv (.c (.bool false)) true, none⟩])
  (.seq (.seq (.reg [⟨some 4, .fa 1 (.t 1), none⟩, ⟨some 5, .load 1 false (.t 4) false, none⟩, ⟨some 6, .len (.t 5), none⟩, ⟨some 7, .bin .gtr (.t 6) (.c (.int .i64 8)), none⟩, ⟨some 8, .mv (.t 7) false, none⟩, ⟨some 9, .fa 2 (.t 1), some (8, false)⟩, ⟨some 10, .load 1 false (.t 9) false, some (8, false)⟩, ⟨some 11, .len (.t 10), some (8, false)⟩, ⟨some 12, .bin .gtr (.t 11) (.c (.int .i64 10)), some (8, false)⟩, ⟨some 13, .pick (.t 8) (.c (.bool true)) (.t 12), none⟩, ⟨some 14, .mv (.t 13) false, none⟩, ⟨some 15, .fa 3 (.t 1), some (14, false)⟩, ⟨some 16, .load 1 false (.t 15) false, some (14, false)⟩, ⟨some 17, .len (.t 16), some (14, false)⟩, ⟨some 18, .bin .gtr (.t 17) (.c (.int .i64 9)), some (14, false)⟩, ⟨some 19, .pick (.t 14) (.c (.bool true)) (.t 18), none⟩])
  (.cond (.t 19) (.seq (.reg [⟨some 2, .mv (.c (.bool false)) true, none⟩])
  (.ret))
  (.skip)))
  (.seq (.seq (.reg [⟨some 3, .mv (.c (.int .i64 0)) true, none⟩])
  (.block 0 (L41_0)))
  (.seq (.reg [⟨some 2, .mv (.c (.bool true)) true, none⟩])
  (.ret)))), [.t 2]⟩
theorem row41 : RowOk Try.prog 41 C41 := ⟨Try.f41, ⟨[], [], [], []⟩, lvOf [(0, [1, 3], 1)], Try.func41, by kernel_rfl, by kernel_rfl⟩
def B42_2 : C := .seq (.seq (.reg [⟨some 15, .mv (.t 5) false, none⟩, ⟨some 16, .bin .gtr (.t 15) (.c (.int .i64 0)), none⟩, ⟨some 17, .mv (.t 16) false, none⟩, ⟨some 18, .fa 3 (.t 1), some (17, true)⟩, ⟨some 19, .load 1 false (.t 18) false, some (17, true)⟩, ⟨some 20, .mv (.t 3) false, some (17, true)⟩, ⟨some 21, .mv (.t 5) false, some (17, true)⟩, ⟨some 22, .bin .sub (.t 21) (.c (.int .i64 1)), some (17, true)⟩, ⟨some 23, .ia 1 (.t 20) (.t 22), some (17, true)⟩, ⟨some 24, .load 1 false (.t 23) false, some (17, true)⟩, ⟨some 25, .ia 6 (.t 19) (.t 24), some (17, true)⟩, ⟨some 26, .fa 3 (.t 25), some (17, true)⟩, ⟨some 27, .load 1 false (.t 26) false, some (17, true)⟩, ⟨some 28, .fa 3 (.t 1), some (17, true)⟩, ⟨some 29, .load 1 false (.t 28) false, some (17, true)⟩, ⟨some 30, .mv (.t 4) false, some (17, true)⟩, ⟨some 31, .ia 6 (.t 29) (.t 30), some (17, true)⟩, ⟨some 32, .fa 3 (.t 31), some (17, true)⟩, ⟨some 33, .load 1 false (.t 32) false, some (17, true)⟩, ⟨some 34, .bin .gtr (.t 27) (.t 33), some (17, true)⟩, ⟨some 35, .pick (.t 17) (.t 34) (.c (.bool false)), none⟩])
  (.cond (.t 35) (.skip)
  (.exit 2)))
  (.block 3 (.reg [⟨some 36, .mv (.t 5) false, none⟩, ⟨some 37, .bin .sub (.t 36) (.c (.int .i64 1)), none⟩, ⟨some 5, .mv (.t 37) true, none⟩]))
def L42_2 : C := .loop [1, 3, 4, 5] 1 B42_2
theorem go42_2 (s : Env × Bx) (nb) : evL tab ext nb L42_2 s = (loopIn nb [1, 3, 4, 5] 1 s).bind fun s0 => (evL tab ext nb B42_2 s0).bind (seqG tab ext nb L42_2) := eL_loop _ _ _
def B42_0 : C := .seq (.seq (.reg [⟨some 6, .mv (.t 4) false, none⟩, ⟨some 7, .fa 3 (.t 1), none⟩, ⟨some 8, .load 1 false (.t 7) false, none⟩, ⟨some 9, .len (.t 8), none⟩, ⟨some 10, .bin .lss (.t 6) (.t 9), none⟩])
  (.cond (.t 10) (.skip)
  (.exit 0)))
  (.seq (.block 1 (.seq (.reg [⟨some 13, .mv (.t 3) false, none⟩, ⟨some 14, .len (.t 13), none⟩, ⟨some 5, .mv (.t 14) true, none⟩])
  (.seq (.block 2 (L42_2))
  (.reg [⟨some 38, .mv (.t 3) false, none⟩, ⟨some 39, .mv (.t 5) false, none⟩, ⟨some 40, .slc 1 (.t 38) none (some (.t 39)) none, none⟩, ⟨some 41, .app 1 8 (.c (.slice none 0 0)) (.t 40) false, none⟩, ⟨some 42, .mv (.t 4) false, none⟩, ⟨some 43, .bsl 1 1 [(.int .i64 0)] [(0, 1, (.t 42))] false, none⟩, ⟨some 44, .app 1 8 (.t 41) (.t 43) false, none⟩, ⟨some 45, .mv (.t 3) false, none⟩, ⟨some 46, .mv (.t 5) false, none⟩, ⟨some 47, .slc 1 (.t 45) (some (.t 46)) none none, none⟩, ⟨some 48, .app 1 8 (.t 44) (.t 47) false, none⟩, ⟨some 3, .mv (.t 48) true, none⟩]))))
  (.reg [⟨some 11, .mv (.t 4) false, none⟩, ⟨some 12, .bin .add (.t 11) (.c (.int .i64 1)), none⟩, ⟨some 4, .mv (.t 12) true, none⟩]))
def L42_0 : C := .loop [1, 3, 4] 1 B42_0
theorem go42_0 (s : Env × Bx) (nb) : evL tab ext nb L42_0 s = (loopIn nb [1, 3, 4] 1 s).bind fun s0 => (evL tab ext nb B42_0 s0).bind (seqG tab ext nb L42_0) := eL_loop _ _ _
/-- swingbridge/swingbridgeref7.Order -/
def C42 : CFun := ⟨50, 1, .seq (.reg [⟨some 1, .box (.t 0), none⟩, ⟨some 2, .mv (.c (.slice none 0 0)) true, none⟩])
  (.seq (.reg [⟨some 3, .mv (.c (.slice none 0 0)) true, none⟩])
  (.seq (.seq (.reg [⟨some 4, .mv (.c (.int .i64 0)) true, none⟩])
  (.block 0 (L42_0)))
  (.seq (.reg [⟨some 49, .mv (.t 3) false, none⟩, ⟨some 2, .mv (.t 49) true, none⟩])
  (.ret)))), [.t 2]⟩
theorem row42 : RowOk Try.prog 42 C42 := ⟨Try.f42, ⟨[], [], [], []⟩, lvOf [(0, [1, 3, 4], 1), (2, [1, 3, 4, 5], 1)], Try.func42, by kernel_rfl, by kernel_rfl⟩
def B43_0 : C := .seq (.reg [⟨some 13, .bin .lss (.t 12) (.t 11), none⟩])
  (.seq (.cond (.t 13) (.skip)
  (.exit 0))
  (.seq (.block 1 (.seq (.reg [⟨some 14, .mv (.t 12) false, none⟩, ⟨some 15, .ia 6 (.t 10) (.t 12), none⟩, ⟨some 16, .load 6 true (.t 15) false, none⟩, ⟨some 5, .alloc [(.string ⟨#[]⟩), (.int .i64 0), (.int .i64 0), (.int .i64 0), (.int .i64 0), (.slice none 0 0)], none⟩, ⟨some 4, .mv (.t 14) true, none⟩, ⟨none, .store 6 (.t 5) (.t 16), none⟩])
  (.reg [⟨some 17, .mv (.t 3) true, none⟩, ⟨some 18, .fa 3 (.t 5), none⟩, ⟨some 19, .load 1 false (.t 18) false, none⟩, ⟨some 20, .mv (.t 4) false, none⟩, ⟨some 21, .build [(.int .i64 0), (.int .i64 0)] [(0, 1, (.t 19)), (1, 1, (.t 20))], none⟩, ⟨some 22, .bsl 2 1 [(.int .i64 0), (.int .i64 0)] [(0, 2, (.t 21))] false, none⟩, ⟨some 23, .app 2 16 (.t 17) (.t 22) false, none⟩, ⟨some 3, .mv (.t 23) true, none⟩])))
  (.reg [⟨some 24, .bin .add (.t 12) (.c (.int .i64 1)), none⟩, ⟨some 12, .mv (.t 24) false, none⟩])))
def L43_0 : C := .loop [3, 10, 11, 12] 1 B43_0
theorem go43_0 (s : Env × Bx) (nb) : evL tab ext nb L43_0 s = (loopIn nb [3, 10, 11, 12] 1 s).bind fun s0 => (evL tab ext nb B43_0 s0).bind (seqG tab ext nb L43_0) := eL_loop _ _ _
def B43_2 : C := .seq (.reg [⟨some 29, .bin .lss (.t 28) (.t 27), none⟩])
  (.seq (.cond (.t 29) (.skip)
  (.exit 2))
  (.seq (.block 3 (.seq (.reg [⟨some 30, .ia 2 (.t 26) (.t 28), none⟩, ⟨some 31, .load 2 true (.t 30) false, none⟩, ⟨some 8, .alloc [(.int .i64 0), (.int .i64 0)], none⟩, ⟨none, .store 2 (.t 8) (.t 31), none⟩])
  (.reg [⟨some 32, .mv (.t 6) true, none⟩, ⟨some 33, .fa 1 (.t 8), none⟩, ⟨some 34, .load 1 false (.t 33) false, none⟩, ⟨some 35, .bsl 1 1 [(.int .i64 0)] [(0, 1, (.t 34))] false, none⟩, ⟨some 36, .app 1 8 (.t 32) (.t 35) false, none⟩, ⟨some 6, .mv (.t 36) true, none⟩])))
  (.reg [⟨some 37, .bin .add (.t 28) (.c (.int .i64 1)), none⟩, ⟨some 28, .mv (.t 37) false, none⟩])))
def L43_2 : C := .loop [6, 26, 27, 28] 1 B43_2
theorem go43_2 (s : Env × Bx) (nb) : evL tab ext nb L43_2 s = (loopIn nb [6, 26, 27, 28] 1 s).bind fun s0 => (evL tab ext nb B43_2 s0).bind (seqG tab ext nb L43_2) := eL_loop _ _ _
/-- swingbridge/canon.Order -/
def C43 : CFun := ⟨39, 1, .seq (.reg [⟨some 1, .box (.t 0), none⟩, ⟨some 2, .mv (.c (.slice none 0 0)) true, none⟩])
  (.seq (.reg [⟨some 3, .mv (.c (.slice none 0 0)) true, none⟩])
  (.seq (.seq (.reg [⟨some 9, .fa 3 (.t 1), none⟩, ⟨some 10, .load 1 false (.t 9) false, none⟩, ⟨some 11, .len (.t 10), none⟩, ⟨some 12, .mv (.c (.int .i64 0)) false, none⟩])
  (.block 0 (L43_0)))
  (.seq (.reg [⟨some 6, .mv (.c (.slice none 0 0)) true, none⟩])
  (.seq (.seq (.reg [⟨some 25, .mv (.t 3) false, none⟩, ⟨some 26, .call 68 [(.t 25)] false, none⟩, ⟨some 27, .len (.t 26), none⟩, ⟨some 28, .mv (.c (.int .i64 0)) false, none⟩])
  (.block 2 (L43_2)))
  (.seq (.reg [⟨some 38, .mv (.t 6) false, none⟩, ⟨some 2, .mv (.t 38) true, none⟩])
  (.ret)))))), [.t 2]⟩
theorem row43 : RowOk Try.prog 43 C43 := ⟨Try.f43, ⟨[], [], [], []⟩, lvOf [(0, [3, 10, 11, 12], 1), (2, [6, 26, 27, 28], 1)], Try.func43, by kernel_rfl, by kernel_rfl⟩
/-- swingbridge/canon.Canon -/
def C44 : CFun := ⟨7, 1, .seq (.reg [⟨some 1, .box (.t 0), none⟩, ⟨some 2, .alloc [(.int .i64 0), (.slice none 0 0), (.slice none 0 0), (.slice none 0 0)], none⟩])
  (.seq (.reg [⟨some 3, .load 4 true (.t 1) false, none⟩, ⟨some 4, .load 4 true (.t 1) false, none⟩, ⟨some 5, .call 43 [(.t 4)] false, none⟩, ⟨some 6, .call 69 [(.t 3), (.t 5)] false, none⟩, ⟨none, .store 4 (.t 2) (.t 6), none⟩])
  (.ret)), [.cell 2 4]⟩
theorem row44 : RowOk Try.prog 44 C44 := ⟨Try.f44, ⟨[], [], [], []⟩, lvOf [], Try.func44, by kernel_rfl, by kernel_rfl⟩
def B45_0 : C := .seq (.seq (.reg [⟨some 9, .mv (.t 6) false, none⟩, ⟨some 10, .mv (.t 1) false, none⟩, ⟨some 11, .len (.t 10), none⟩, ⟨some 12, .bin .lss (.t 9) (.t 11), none⟩])
  (.cond (.t 12) (.skip)
  (.exit 0)))
  (.seq (.block 1 (.reg [⟨some 15, .fa 3 (.t 5), none⟩, ⟨some 16, .load 1 false (.t 15) true, none⟩, ⟨some 17, .fa 3 (.t 2), none⟩, ⟨some 18, .load 1 false (.t 17) false, none⟩, ⟨some 19, .mv (.t 1) false, none⟩, ⟨some 20, .mv (.t 6) false, none⟩, ⟨some 21, .ia 1 (.t 19) (.t 20), none⟩, ⟨some 22, .load 1 false (.t 21) false, none⟩, ⟨some 23, .ia 6 (.t 18) (.t 22), none⟩, ⟨some 24, .load 6 true (.t 23) false, none⟩, ⟨some 25, .bsl 6 1 [(.string ⟨#[]⟩), (.int .i64 0), (.int .i64 0), (.int .i64 0), (.int .i64 0), (.slice none 0 0)] [(0, 6, (.t 24))] false, none⟩, ⟨some 26, .app 6 72 (.t 16) (.t 25) false, none⟩, ⟨some 27, .fa 3 (.t 5), none⟩, ⟨none, .store 1 (.t 27) (.t 26), none⟩]))
  (.reg [⟨some 13, .mv (.t 6) false, none⟩, ⟨some 14, .bin .add (.t 13) (.c (.int .i64 1)), none⟩, ⟨some 6, .mv (.t 14) true, none⟩]))
def L45_0 : C := .loop [1, 2, 4, 5, 6] 3 B45_0
theorem go45_0 (s : Env × Bx) (nb) : evL tab ext nb L45_0 s = (loopIn nb [1, 2, 4, 5, 6] 3 s).bind fun s0 => (evL tab ext nb B45_0 s0).bind (seqG tab ext nb L45_0) := eL_loop _ _ _
/-- swingbridge/swingbridgeref7.With -/
def C45 : CFun := ⟨29, 2, .seq (.reg [⟨some 2, .box (.t 0), none⟩, ⟨some 4, .alloc [(.int .i64 0), (.slice none 0 0), (.slice none 0 0), (.slice none 0 0)], none⟩])
  (.seq (.reg [⟨some 7, .load 4 true (.t 2) false, none⟩, ⟨some 5, .alloc [(.int .i64 0), (.slice none 0 0), (.slice none 0 0), (.slice none 0 0)], none⟩, ⟨none, .store 4 (.t 5) (.t 7), none⟩])
  (.seq (.reg [⟨some 8, .fa 3 (.t 5), none⟩, ⟨none, .store 1 (.t 8) (.c (.slice none 0 0)), none⟩])
  (.seq (.seq (.reg [⟨some 6, .mv (.c (.int .i64 0)) true, none⟩])
  (.block 0 (L45_0)))
  (.seq (.reg [⟨some 28, .load 4 true (.t 5) false, none⟩, ⟨none, .store 4 (.t 4) (.t 28), none⟩])
  (.ret))))), [.cell 4 4]⟩
theorem row45 : RowOk Try.prog 45 C45 := ⟨Try.f45, ⟨[], [], [], []⟩, lvOf [(0, [1, 2, 4, 5, 6], 3)], Try.func45, by kernel_rfl, by kernel_rfl⟩
def B46_0 : C := .seq (.reg [⟨some 13, .bin .lss (.t 12) (.t 11), none⟩])
  (.seq (.cond (.t 13) (.skip)
  (.exit 0))
  (.seq (.block 1 (.seq (.reg [⟨some 14, .mv (.t 12) false, none⟩, ⟨some 7, .mv (.t 14) true, none⟩])
  (.seq (.seq (.reg [⟨some 15, .mv (.t 7) false, none⟩, ⟨some 16, .bin .eql (.t 15) (.c (.int .i64 0)), none⟩])
  (.cond (.t 16) (.seq (.reg [⟨some 17, .mv (.t 6) true, none⟩, ⟨some 18, .mv (.t 1) false, none⟩, ⟨some 19, .mv (.t 5) false, none⟩, ⟨some 20, .bin .rem (.t 18) (.t 19), none⟩, ⟨some 21, .mv (.t 5) false, none⟩, ⟨some 22, .bin .add (.t 20) (.t 21), none⟩, ⟨some 23, .mv (.t 5) false, none⟩, ⟨some 24, .bin .rem (.t 22) (.t 23), none⟩, ⟨some 25, .bsl 1 1 [(.int .i64 0)] [(0, 1, (.t 24))] false, none⟩, ⟨some 26, .app 1 8 (.t 17) (.t 25) false, none⟩, ⟨some 6, .mv (.t 26) true, none⟩])
  (.exit 1))
  (.skip)))
  (.reg [⟨some 27, .mv (.t 6) true, none⟩, ⟨some 28, .mv (.t 6) false, none⟩, ⟨some 29, .mv (.t 7) false, none⟩, ⟨some 30, .bin .sub (.t 29) (.c (.int .i64 1)), none⟩, ⟨some 31, .ia 1 (.t 28) (.t 30), none⟩, ⟨some 32, .load 1 false (.t 31) false, none⟩, ⟨some 33, .bin .add (.t 32) (.c (.int .i64 1)), none⟩, ⟨some 34, .mv (.t 5) false, none⟩, ⟨some 35, .bin .rem (.t 33) (.t 34), none⟩, ⟨some 36, .bsl 1 1 [(.int .i64 0)] [(0, 1, (.t 35))] false, none⟩, ⟨some 37, .app 1 8 (.t 27) (.t 36) false, none⟩, ⟨some 6, .mv (.t 37) true, none⟩]))))
  (.reg [⟨some 38, .bin .add (.t 12) (.c (.int .i64 1)), none⟩, ⟨some 12, .mv (.t 38) false, none⟩])))
def L46_0 : C := .loop [1, 2, 4, 5, 6, 11, 12] 2 B46_0
theorem go46_0 (s : Env × Bx) (nb) : evL tab ext nb L46_0 s = (loopIn nb [1, 2, 4, 5, 6, 11, 12] 2 s).bind fun s0 => (evL tab ext nb B46_0 s0).bind (seqG tab ext nb L46_0) := eL_loop _ _ _
/-- swingbridge/canon.Move -/
def C46 : CFun := ⟨42, 2, .seq (.reg [⟨some 2, .box (.t 0), none⟩, ⟨some 4, .alloc [(.int .i64 0), (.slice none 0 0), (.slice none 0 0), (.slice none 0 0)], none⟩])
  (.scope (.seq (.reg [⟨some 8, .fa 3 (.t 2), none⟩, ⟨some 9, .load 1 false (.t 8) false, none⟩, ⟨some 10, .len (.t 9), none⟩, ⟨some 5, .mv (.t 10) true, none⟩])
  (.seq (.reg [⟨some 6, .mv (.c (.slice none 0 0)) true, none⟩])
  (.seq (.skip)
  (.seq (.seq (.reg [⟨some 11, .mv (.t 5) false, none⟩, ⟨some 12, .mv (.c (.int .i64 0)) false, none⟩])
  (.block 0 (L46_0)))
  (.seq (.reg [⟨some 39, .load 4 true (.t 2) false, none⟩, ⟨some 40, .mv (.t 6) false, none⟩, ⟨some 41, .call 69 [(.t 39), (.t 40)] false, none⟩, ⟨none, .store 4 (.t 4) (.t 41), none⟩])
  (.ret))))))), [.cell 4 4]⟩
theorem row46 : RowOk Try.prog 46 C46 := ⟨Try.f46, ⟨[], [], [], []⟩, lvOf [(0, [1, 2, 4, 5, 6, 11, 12], 2)], Try.func46, by kernel_rfl, by kernel_rfl⟩
def B47_0 : C := .seq (.seq (.reg [⟨some 11, .mv (.t 7) false, none⟩, ⟨some 12, .mv (.t 5) false, none⟩, ⟨some 13, .bin .lss (.t 11) (.t 12), none⟩])
  (.cond (.t 13) (.skip)
  (.exit 0)))
  (.seq (.block 1 (.reg [⟨some 16, .mv (.t 6) true, none⟩, ⟨some 17, .mv (.t 1) false, none⟩, ⟨some 18, .mv (.t 5) false, none⟩, ⟨some 19, .bin .rem (.t 17) (.t 18), none⟩, ⟨some 20, .mv (.t 5) false, none⟩, ⟨some 21, .bin .add (.t 19) (.t 20), none⟩, ⟨some 22, .mv (.t 5) false, none⟩, ⟨some 23, .bin .rem (.t 21) (.t 22), none⟩, ⟨some 24, .mv (.t 7) false, none⟩, ⟨some 25, .bin .add (.t 23) (.t 24), none⟩, ⟨some 26, .mv (.t 5) false, none⟩, ⟨some 27, .bin .rem (.t 25) (.t 26), none⟩, ⟨some 28, .bsl 1 1 [(.int .i64 0)] [(0, 1, (.t 27))] false, none⟩, ⟨some 29, .app 1 8 (.t 16) (.t 28) false, none⟩, ⟨some 6, .mv (.t 29) true, none⟩]))
  (.reg [⟨some 14, .mv (.t 7) false, none⟩, ⟨some 15, .bin .add (.t 14) (.c (.int .i64 1)), none⟩, ⟨some 7, .mv (.t 15) true, none⟩]))
def L47_0 : C := .loop [1, 2, 4, 5, 6, 7] 2 B47_0
theorem go47_0 (s : Env × Bx) (nb) : evL tab ext nb L47_0 s = (loopIn nb [1, 2, 4, 5, 6, 7] 2 s).bind fun s0 => (evL tab ext nb B47_0 s0).bind (seqG tab ext nb L47_0) := eL_loop _ _ _
/-- swingbridge/swingbridgeref7.Move -/
def C47 : CFun := ⟨33, 2, .seq (.reg [⟨some 2, .box (.t 0), none⟩, ⟨some 4, .alloc [(.int .i64 0), (.slice none 0 0), (.slice none 0 0), (.slice none 0 0)], none⟩])
  (.seq (.reg [⟨some 8, .fa 3 (.t 2), none⟩, ⟨some 9, .load 1 false (.t 8) false, none⟩, ⟨some 10, .len (.t 9), none⟩, ⟨some 5, .mv (.t 10) true, none⟩])
  (.seq (.reg [⟨some 6, .mv (.c (.slice none 0 0)) true, none⟩])
  (.seq (.seq (.reg [⟨some 7, .mv (.c (.int .i64 0)) true, none⟩])
  (.block 0 (L47_0)))
  (.seq (.reg [⟨some 30, .load 4 true (.t 2) false, none⟩, ⟨some 31, .mv (.t 6) false, none⟩, ⟨some 32, .call 45 [(.t 30), (.t 31)] false, none⟩, ⟨none, .store 4 (.t 4) (.t 32), none⟩])
  (.ret))))), [.cell 4 4]⟩
theorem row47 : RowOk Try.prog 47 C47 := ⟨Try.f47, ⟨[], [], [], []⟩, lvOf [(0, [1, 2, 4, 5, 6, 7], 2)], Try.func47, by kernel_rfl, by kernel_rfl⟩
/-- swingbridge/task.SameTask -/
def C48 : CFun := ⟨45, 2, .seq (.reg [⟨some 2, .box (.t 0), none⟩, ⟨some 3, .box (.t 1), none⟩, ⟨some 4, .mv (.c (.bool false)) true, none⟩])
  (.seq (.reg [⟨some 5, .fa 0 (.t 2), none⟩, ⟨some 6, .load 1 false (.t 5) false, none⟩, ⟨some 7, .fa 0 (.t 3), none⟩, ⟨some 8, .load 1 false (.t 7) false, none⟩, ⟨some 9, .bin .eql (.t 6) (.t 8), none⟩, ⟨some 10, .mv (.t 9) false, none⟩, ⟨some 11, .fa 1 (.t 2), some (10, true)⟩, ⟨some 12, .load 1 false (.t 11) false, some (10, true)⟩, ⟨some 13, .fa 1 (.t 3), some (10, true)⟩, ⟨some 14, .load 1 false (.t 13) false, some (10, true)⟩, ⟨some 15, .bin .eql (.t 12) (.t 14), some (10, true)⟩, ⟨some 16, .pick (.t 10) (.t 15) (.c (.bool false)), none⟩, ⟨some 17, .mv (.t 16) false, none⟩, ⟨some 18, .fa 2 (.t 2), some (17, true)⟩, ⟨some 19, .load 1 false (.t 18) false, some (17, true)⟩, ⟨some 20, .fa 2 (.t 3), some (17, true)⟩, ⟨some 21, .load 1 false (.t 20) false, some (17, true)⟩, ⟨some 22, .bin .eql (.t 19) (.t 21), some (17, true)⟩, ⟨some 23, .pick (.t 17) (.t 22) (.c (.bool false)), none⟩, ⟨some 24, .mv (.t 23) false, none⟩, ⟨some 25, .fa 3 (.t 2), some (24, true)⟩, ⟨some 26, .load 1 false (.t 25) false, some (24, true)⟩, ⟨some 27, .fa 3 (.t 3), some (24, true)⟩, ⟨some 28, .load 1 false (.t 27) false, some (24, true)⟩, ⟨some 29, .bin .eql (.t 26) (.t 28), some (24, true)⟩, ⟨some 30, .pick (.t 24) (.t 29) (.c (.bool false)), none⟩, ⟨some 31, .mv (.t 30) false, none⟩, ⟨some 32, .fa 4 (.t 2), some (31, true)⟩, ⟨some 33, .load 1 false (.t 32) false, some (31, true)⟩, ⟨some 34, .fa 4 (.t 3), some (31, true)⟩, ⟨some 35, .load 1 false (.t 34) false, some (31, true)⟩, ⟨some 36, .bin .eql (.t 33) (.t 35), some (31, true)⟩, ⟨some 37, .pick (.t 31) (.t 36) (.c (.bool false)), none⟩, ⟨some 38, .mv (.t 37) false, none⟩, ⟨some 39, .fa 5 (.t 2), some (38, true)⟩, ⟨some 40, .load 1 false (.t 39) false, some (38, true)⟩, ⟨some 41, .fa 5 (.t 3), some (38, true)⟩, ⟨some 42, .load 1 false (.t 41) false, some (38, true)⟩, ⟨some 43, .call 70 [(.t 40), (.t 42)] false, some (38, true)⟩, ⟨some 44, .pick (.t 38) (.t 43) (.c (.bool false)), none⟩, ⟨some 4, .mv (.t 44) true, none⟩])
  (.ret)), [.t 4]⟩
theorem row48 : RowOk Try.prog 48 C48 := ⟨Try.f48, ⟨[], [], [], []⟩, lvOf [], Try.func48, by kernel_rfl, by kernel_rfl⟩
/-- swingbridge/task.between -/
def C49 : CFun := ⟨15, 3, .seq (.reg [⟨some 6, .mv (.c (.bool false)) true, none⟩])
  (.seq (.reg [⟨some 7, .mv (.t 0) false, none⟩, ⟨some 8, .mv (.t 1) false, none⟩, ⟨some 9, .bin .geq (.t 7) (.t 8), none⟩, ⟨some 10, .mv (.t 9) false, none⟩, ⟨some 11, .mv (.t 0) false, some (10, true)⟩, ⟨some 12, .mv (.t 2) false, some (10, true)⟩, ⟨some 13, .bin .leq (.t 11) (.t 12), some (10, true)⟩, ⟨some 14, .pick (.t 10) (.t 13) (.c (.bool false)), none⟩, ⟨some 6, .mv (.t 14) true, none⟩])
  (.ret)), [.t 6]⟩
theorem row49 : RowOk Try.prog 49 C49 := ⟨Try.f49, ⟨[], [], [], []⟩, lvOf [], Try.func49, by kernel_rfl, by kernel_rfl⟩
/-- swingbridge/task.placed -/
def C50 : CFun := ⟨32, 1, .seq (.reg [⟨some 1, .box (.t 0), none⟩, ⟨some 2, .mv (.c (.bool false)) true, none⟩])
  (.seq (.reg [⟨some 6, .fa 1 (.t 1), none⟩, ⟨some 7, .load 1 false (.t 6) false, none⟩, ⟨some 8, .len (.t 7), none⟩, ⟨some 9, .call 49 [(.t 8), (.c (.int .i64 1)), (.c (.int .i64 3))] false, none⟩, ⟨some 10, .mv (.t 9) false, none⟩, ⟨some 11, .fa 2 (.t 1), some (10, true)⟩, ⟨some 12, .load 1 false (.t 11) false, some (10, true)⟩, ⟨some 13, .len (.t 12), some (10, true)⟩, ⟨some 14, .bin .leq (.t 13) (.c (.int .i64 4)), some (10, true)⟩, ⟨some 15, .pick (.t 10) (.t 14) (.c (.bool false)), none⟩, ⟨some 3, .mv (.t 15) true, none⟩])
  (.seq (.reg [⟨some 4, .mv (.f 71) true, none⟩])
  (.seq (.reg [⟨some 16, .mkf 72 [(.t 1)], none⟩, ⟨some 5, .mv (.t 16) true, none⟩])
  (.seq (.reg [⟨some 17, .mv (.t 3) false, none⟩, ⟨some 18, .mv (.t 17) false, none⟩, ⟨some 19, .fa 1 (.t 1), some (18, true)⟩, ⟨some 20, .load 1 false (.t 19) false, some (18, true)⟩, ⟨some 21, .mv (.t 4) false, some (18, true)⟩, ⟨some 22, .calli 73 [(.t 20), (.t 21)], some (18, true)⟩, ⟨some 23, .un .not (.t 22), some (18, true)⟩, ⟨some 24, .pick (.t 18) (.t 23) (.c (.bool false)), none⟩, ⟨some 25, .mv (.t 24) false, none⟩, ⟨some 26, .fa 2 (.t 1), some (25, true)⟩, ⟨some 27, .load 1 false (.t 26) false, some (25, true)⟩, ⟨some 28, .mv (.t 5) false, some (25, true)⟩, ⟨some 29, .calli 73 [(.t 27), (.t 28)], some (25, true)⟩, ⟨some 30, .un .not (.t 29), some (25, true)⟩, ⟨some 31, .pick (.t 25) (.t 30) (.c (.bool false)), none⟩, ⟨some 2, .mv (.t 31) true, none⟩])
  (.ret))))), [.t 2]⟩
theorem row50 : RowOk Try.prog 50 C50 := ⟨Try.f50, ⟨[], [], [], []⟩, lvOf [], Try.func50, by kernel_rfl, by kernel_rfl⟩
/-- swingbridge/task.one -/
def C51 : CFun := ⟨60, 2, .seq (.reg [⟨some 2, .box (.t 0), none⟩, ⟨some 4, .mv (.c (.int .i64 0)) true, none⟩])
  (.seq (.reg [⟨some 7, .fa 3 (.t 2), none⟩, ⟨some 8, .load 1 false (.t 7) false, none⟩, ⟨some 9, .mv (.t 1) false, none⟩, ⟨some 10, .ia 6 (.t 8) (.t 9), none⟩, ⟨some 11, .load 6 true (.t 10) false, none⟩, ⟨some 5, .alloc [(.string ⟨#[]⟩), (.int .i64 0), (.int .i64 0), (.int .i64 0), (.int .i64 0), (.slice none 0 0)], none⟩, ⟨none, .store 6 (.t 5) (.t 11), none⟩])
  (.seq (.reg [⟨some 12, .mkf 74 [(.t 5)], none⟩, ⟨some 6, .mv (.t 12) true, none⟩])
  (.seq (.block 0 (.seq (.reg [⟨some 14, .fa 0 (.t 5), none⟩, ⟨some 15, .load 1 false (.t 14) false, none⟩, ⟨some 16, .call 75 [(.t 15)] false, none⟩, ⟨some 17, .un .not (.t 16), none⟩, ⟨some 18, .mv (.t 17) false, none⟩, ⟨some 19, .fa 1 (.t 5), some (18, false)⟩, ⟨some 20, .load 1 false (.t 19) false, some (18, false)⟩, ⟨some 21, .call 49 [(.t 20), (.c (.int .i64 1)), (.c (.int .i64 3000))] false, some (18, false)⟩, ⟨some 22, .un .not (.t 21), some (18, false)⟩, ⟨some 23, .pick (.t 18) (.c (.bool true)) (.t 22), none⟩, ⟨some 24, .mv (.t 23) false, none⟩, ⟨some 25, .fa 2 (.t 5), some (24, false)⟩, ⟨some 26, .load 1 false (.t 25) false, some (24, false)⟩, ⟨some 27, .fa 1 (.t 5), some (24, false)⟩, ⟨some 28, .load 1 false (.t 27) false, some (24, false)⟩, ⟨some 29, .call 49 [(.t 26), (.c (.int .i64 1)), (.t 28)] false, some (24, false)⟩, ⟨some 30, .un .not (.t 29), some (24, false)⟩, ⟨some 31, .pick (.t 24) (.c (.bool true)) (.t 30), none⟩, ⟨some 32, .mv (.t 31) false, none⟩, ⟨some 33, .fa 3 (.t 5), some (32, false)⟩, ⟨some 34, .load 1 false (.t 33) false, some (32, false)⟩, ⟨some 35, .call 49 [(.t 34), (.c (.int .i64 1)), (.c (.int .i64 1000))] false, some (32, false)⟩, ⟨some 36, .un .not (.t 35), some (32, false)⟩, ⟨some 37, .pick (.t 32) (.c (.bool true)) (.t 36), none⟩, ⟨some 13, .mv (.t 37) true, none⟩])
  (.cond (.t 13) (.seq (.reg [⟨some 4, .mv (.c (.int .i64 10)) true, none⟩])
  (.ret))
  (.seq (.reg [⟨some 39, .fa 4 (.t 5), none⟩, ⟨some 40, .load 1 false (.t 39) false, none⟩, ⟨some 41, .fa 1 (.t 2), none⟩, ⟨some 42, .load 1 false (.t 41) false, none⟩, ⟨some 43, .len (.t 42), none⟩, ⟨some 44, .bin .sub (.t 43) (.c (.int .i64 1)), none⟩, ⟨some 45, .call 49 [(.t 40), (.c (.int .i64 0)), (.t 44)] false, none⟩, ⟨some 46, .un .not (.t 45), none⟩, ⟨some 38, .mv (.t 46) true, none⟩])
  (.cond (.t 38) (.seq (.reg [⟨some 4, .mv (.c (.int .i64 16)) true, none⟩])
  (.ret))
  (.seq (.reg [⟨some 48, .fa 3 (.t 2), none⟩, ⟨some 49, .load 1 false (.t 48) false, none⟩, ⟨some 50, .mv (.t 1) false, none⟩, ⟨some 51, .slc 6 (.t 49) none (some (.t 50)) none, none⟩, ⟨some 52, .mv (.t 6) false, none⟩, ⟨some 53, .calli 76 [(.t 51), (.t 52)], none⟩, ⟨some 47, .mv (.t 53) true, none⟩])
  (.cond (.t 47) (.seq (.reg [⟨some 4, .mv (.c (.int .i64 17)) true, none⟩])
  (.ret))
  (.seq (.reg [⟨some 55, .load 4 true (.t 2) false, none⟩, ⟨some 56, .fa 5 (.t 5), none⟩, ⟨some 57, .load 1 false (.t 56) false, none⟩, ⟨some 58, .call 77 [(.t 55), (.t 57)] false, none⟩, ⟨some 59, .un .not (.t 58), none⟩, ⟨some 54, .mv (.t 59) true, none⟩])
  (.cond (.t 54) (.seq (.reg [⟨some 4, .mv (.c (.int .i64 15)) true, none⟩])
  (.ret))
  (.skip))))))))))
  (.seq (.reg [⟨some 4, .mv (.c (.int .i64 0)) true, none⟩])
  (.ret))))), [.t 4]⟩
theorem row51 : RowOk Try.prog 51 C51 := ⟨Try.f51, ⟨[], [], [], []⟩, lvOf [], Try.func51, by kernel_rfl, by kernel_rfl⟩
def B52_0 : C := .seq (.seq (.reg [⟨some 21, .mv (.t 3) false, none⟩, ⟨some 22, .fa 1 (.t 1), none⟩, ⟨some 23, .load 1 false (.t 22) false, none⟩, ⟨some 24, .len (.t 23), none⟩, ⟨some 25, .bin .lss (.t 21) (.t 24), none⟩])
  (.cond (.t 25) (.skip)
  (.exit 0)))
  (.seq (.block 1 (.seq (.reg [⟨some 28, .fa 1 (.t 1), none⟩, ⟨some 29, .load 1 false (.t 28) false, none⟩, ⟨some 30, .mv (.t 3) false, none⟩, ⟨some 31, .ia 1 (.t 29) (.t 30), none⟩, ⟨some 32, .load 1 false (.t 31) false, none⟩, ⟨some 33, .bin .lss (.t 32) (.c (.int .i64 1)), none⟩, ⟨some 34, .mv (.t 33) false, none⟩, ⟨some 35, .fa 1 (.t 1), some (34, false)⟩, ⟨some 36, .load 1 false (.t 35) false, some (34, false)⟩, ⟨some 37, .mv (.t 3) false, some (34, false)⟩, ⟨some 38, .ia 1 (.t 36) (.t 37), some (34, false)⟩, ⟨some 39, .load 1 false (.t 38) false, some (34, false)⟩, ⟨some 40, .bin .gtr (.t 39) (.c (.int .i64 3)), some (34, false)⟩, ⟨some 41, .pick (.t 34) (.c (.bool true)) (.t 40), none⟩])
  (.cond (.t 41) (.seq (.reg [⟨some 2, .mv (.c (.bool false)) true, none⟩])
  (.ret))
  (.skip))))
  (.reg [⟨some 26, .mv (.t 3) false, none⟩, ⟨some 27, .bin .add (.t 26) (.c (.int .i64 1)), none⟩, ⟨some 3, .mv (.t 27) true, none⟩]))
def L52_0 : C := .loop [1, 3] 1 B52_0
theorem go52_0 (s : Env × Bx) (nb) : evL tab ext nb L52_0 s = (loopIn nb [1, 3] 1 s).bind fun s0 => (evL tab ext nb B52_0 s0).bind (seqG tab ext nb L52_0) := eL_loop _ _ _
def B52_2 : C := .seq (.seq (.reg [⟨some 42, .mv (.t 4) false, none⟩, ⟨some 43, .fa 2 (.t 1), none⟩, ⟨some 44, .load 1 false (.t 43) false, none⟩, ⟨some 45, .len (.t 44), none⟩, ⟨some 46, .bin .lss (.t 42) (.t 45), none⟩])
  (.cond (.t 46) (.skip)
  (.exit 2)))
  (.seq (.block 3 (.seq (.reg [⟨some 49, .fa 2 (.t 1), none⟩, ⟨some 50, .load 1 false (.t 49) false, none⟩, ⟨some 51, .mv (.t 4) false, none⟩, ⟨some 52, .ia 1 (.t 50) (.t 51), none⟩, ⟨some 53, .load 1 false (.t 52) false, none⟩, ⟨some 54, .bin .lss (.t 53) (.c (.int .i64 0)), none⟩, ⟨some 55, .mv (.t 54) false, none⟩, ⟨some 56, .fa 2 (.t 1), some (55, false)⟩, ⟨some 57, .load 1 false (.t 56) false, some (55, false)⟩, ⟨some 58, .mv (.t 4) false, some (55, false)⟩, ⟨some 59, .ia 1 (.t 57) (.t 58), some (55, false)⟩, ⟨some 60, .load 1 false (.t 59) false, some (55, false)⟩, ⟨some 61, .fa 1 (.t 1), some (55, false)⟩, ⟨some 62, .load 1 false (.t 61) false, some (55, false)⟩, ⟨some 63, .len (.t 62), some (55, false)⟩, ⟨some 64, .bin .geq (.t 60) (.t 63), some (55, false)⟩, ⟨some 65, .pick (.t 55) (.c (.bool true)) (.t 64), none⟩])
  (.cond (.t 65) (.seq (.reg [⟨some 2, .mv (.c (.bool false)) true, none⟩])
  (.ret))
  (.skip))))
  (.reg [⟨some 47, .mv (.t 4) false, none⟩, ⟨some 48, .bin .add (.t 47) (.c (.int .i64 1)), none⟩, ⟨some 4, .mv (.t 48) true, none⟩]))
def L52_2 : C := .loop [1, 4] 1 B52_2
theorem go52_2 (s : Env × Bx) (nb) : evL tab ext nb L52_2 s = (loopIn nb [1, 4] 1 s).bind fun s0 => (evL tab ext nb B52_2 s0).bind (seqG tab ext nb L52_2) := eL_loop _ _ _
/-- swingbridge/swingbridgeref7.places -/
def C52 : CFun := ⟨66, 1, .seq (.reg [⟨some 1, .box (.t 0), none⟩, ⟨some 2, .mv (.c (.bool false)) true, none⟩])
  (.seq (.seq (.reg [⟨some 5, .fa 1 (.t 1), none⟩, ⟨some 6, .load 1 false (.t 5) false, none⟩, ⟨some 7, .len (.t 6), none⟩, ⟨some 8, .bin .lss (.t 7) (.c (.int .i64 1)), none⟩, ⟨some 9, .mv (.t 8) false, none⟩, ⟨some 10, .fa 1 (.t 1), some (9, false)⟩, ⟨some 11, .load 1 false (.t 10) false, some (9, false)⟩, ⟨some 12, .len (.t 11), some (9, false)⟩, ⟨some 13, .bin .gtr (.t 12) (.c (.int .i64 3)), some (9, false)⟩, ⟨some 14, .pick (.t 9) (.c (.bool true)) (.t 13), none⟩, ⟨some 15, .mv (.t 14) false, none⟩, ⟨some 16, .fa 2 (.t 1), some (15, false)⟩, ⟨some 17, .load 1 false (.t 16) false, some (15, false)⟩, ⟨some 18, .len (.t 17), some (15, false)⟩, ⟨some 19, .bin .gtr (.t 18) (.c (.int .i64 4)), some (15, false)⟩, ⟨some 20, .pick (.t 15) (.c (.bool true)) (.t 19), none⟩])
  (.cond (.t 20) (.seq (.reg [⟨some 2, .mv (.c (.bool false)) true, none⟩])
  (.ret))
  (.skip)))
  (.seq (.seq (.reg [⟨some 3, .mv (.c (.int .i64 0)) true, none⟩])
  (.block 0 (L52_0)))
  (.seq (.seq (.reg [⟨some 4, .mv (.c (.int .i64 0)) true, none⟩])
  (.block 2 (L52_2)))
  (.seq (.reg [⟨some 2, .mv (.c (.bool true)) true, none⟩])
  (.ret))))), [.t 2]⟩
theorem row52 : RowOk Try.prog 52 C52 := ⟨Try.f52, ⟨[], [], [], []⟩, lvOf [(0, [1, 3], 1), (2, [1, 4], 1)], Try.func52, by kernel_rfl, by kernel_rfl⟩
def B53_0 : C := .seq (.seq (.reg [⟨some 60, .mv (.t 6) false, none⟩, ⟨some 61, .mv (.t 1) false, none⟩, ⟨some 62, .bin .lss (.t 60) (.t 61), none⟩])
  (.cond (.t 62) (.skip)
  (.exit 0)))
  (.seq (.block 1 (.seq (.reg [⟨some 65, .fa 3 (.t 2), none⟩, ⟨some 66, .load 1 false (.t 65) false, none⟩, ⟨some 67, .mv (.t 6) false, none⟩, ⟨some 68, .ia 6 (.t 66) (.t 67), none⟩, ⟨some 69, .fa 0 (.t 68), none⟩, ⟨some 70, .load 1 false (.t 69) false, none⟩, ⟨some 71, .fa 0 (.t 5), none⟩, ⟨some 72, .load 1 false (.t 71) false, none⟩, ⟨some 73, .bin .eql (.t 70) (.t 72), none⟩, ⟨some 74, .mv (.t 73) false, none⟩, ⟨some 75, .fa 3 (.t 2), some (74, false)⟩, ⟨some 76, .load 1 false (.t 75) false, some (74, false)⟩, ⟨some 77, .mv (.t 6) false, some (74, false)⟩, ⟨some 78, .ia 6 (.t 76) (.t 77), some (74, false)⟩, ⟨some 79, .fa 3 (.t 78), some (74, false)⟩, ⟨some 80, .load 1 false (.t 79) false, some (74, false)⟩, ⟨some 81, .fa 3 (.t 5), some (74, false)⟩, ⟨some 82, .load 1 false (.t 81) false, some (74, false)⟩, ⟨some 83, .bin .eql (.t 80) (.t 82), some (74, false)⟩, ⟨some 84, .pick (.t 74) (.c (.bool true)) (.t 83), none⟩])
  (.cond (.t 84) (.seq (.reg [⟨some 4, .mv (.c (.int .i64 17)) true, none⟩])
  (.ret))
  (.skip))))
  (.reg [⟨some 63, .mv (.t 6) false, none⟩, ⟨some 64, .bin .add (.t 63) (.c (.int .i64 1)), none⟩, ⟨some 6, .mv (.t 64) true, none⟩]))
def L53_0 : C := .loop [1, 2, 5, 6] 2 B53_0
theorem go53_0 (s : Env × Bx) (nb) : evL tab ext nb L53_0 s = (loopIn nb [1, 2, 5, 6] 2 s).bind fun s0 => (evL tab ext nb B53_0 s0).bind (seqG tab ext nb L53_0) := eL_loop _ _ _
def B53_2 : C := .seq (.seq (.reg [⟨some 95, .mv (.t 7) false, none⟩, ⟨some 96, .fa 5 (.t 5), none⟩, ⟨some 97, .load 1 false (.t 96) false, none⟩, ⟨some 98, .len (.t 97), none⟩, ⟨some 99, .bin .lss (.t 95) (.t 98), none⟩])
  (.cond (.t 99) (.skip)
  (.exit 2)))
  (.seq (.block 3 (.seq (.reg [⟨some 102, .load 4 true (.t 2) false, none⟩, ⟨some 103, .fa 5 (.t 5), none⟩, ⟨some 104, .load 1 false (.t 103) false, none⟩, ⟨some 105, .mv (.t 7) false, none⟩, ⟨some 106, .ia 3 (.t 104) (.t 105), none⟩, ⟨some 107, .load 3 true (.t 106) false, none⟩, ⟨some 108, .call 79 [(.t 102), (.t 107)] false, none⟩, ⟨some 109, .un .not (.t 108), none⟩])
  (.cond (.t 109) (.seq (.reg [⟨some 4, .mv (.c (.int .i64 15)) true, none⟩])
  (.ret))
  (.skip))))
  (.reg [⟨some 100, .mv (.t 7) false, none⟩, ⟨some 101, .bin .add (.t 100) (.c (.int .i64 1)), none⟩, ⟨some 7, .mv (.t 101) true, none⟩]))
def L53_2 : C := .loop [2, 5, 7] 2 B53_2
theorem go53_2 (s : Env × Bx) (nb) : evL tab ext nb L53_2 s = (loopIn nb [2, 5, 7] 2 s).bind fun s0 => (evL tab ext nb B53_2 s0).bind (seqG tab ext nb L53_2) := eL_loop _ _ _
/-- swingbridge/swingbridgeref7.task -/
def C53 : CFun := ⟨110, 2, .seq (.reg [⟨some 2, .box (.t 0), none⟩, ⟨some 4, .mv (.c (.int .i64 0)) true, none⟩])
  (.seq (.reg [⟨some 8, .fa 3 (.t 2), none⟩, ⟨some 9, .load 1 false (.t 8) false, none⟩, ⟨some 10, .mv (.t 1) false, none⟩, ⟨some 11, .ia 6 (.t 9) (.t 10), none⟩, ⟨some 12, .load 6 true (.t 11) false, none⟩, ⟨some 5, .alloc [(.string ⟨#[]⟩), (.int .i64 0), (.int .i64 0), (.int .i64 0), (.int .i64 0), (.slice none 0 0)], none⟩, ⟨none, .store 6 (.t 5) (.t 12), none⟩])
  (.seq (.seq (.reg [⟨some 13, .fa 0 (.t 5), none⟩, ⟨some 14, .load 1 false (.t 13) false, none⟩, ⟨some 15, .call 78 [(.t 14)] false, none⟩, ⟨some 16, .un .not (.t 15), none⟩, ⟨some 17, .mv (.t 16) false, none⟩, ⟨some 18, .fa 1 (.t 5), some (17, false)⟩, ⟨some 19, .load 1 false (.t 18) false, some (17, false)⟩, ⟨some 20, .bin .lss (.t 19) (.c (.int .i64 1)), some (17, false)⟩, ⟨some 21, .pick (.t 17) (.c (.bool true)) (.t 20), none⟩, ⟨some 22, .mv (.t 21) false, none⟩, ⟨some 23, .fa 1 (.t 5), some (22, false)⟩, ⟨some 24, .load 1 false (.t 23) false, some (22, false)⟩, ⟨some 25, .bin .gtr (.t 24) (.c (.int .i64 3000)), some (22, false)⟩, ⟨some 26, .pick (.t 22) (.c (.bool true)) (.t 25), none⟩, ⟨some 27, .mv (.t 26) false, none⟩, ⟨some 28, .fa 2 (.t 5), some (27, false)⟩, ⟨some 29, .load 1 false (.t 28) false, some (27, false)⟩, ⟨some 30, .bin .lss (.t 29) (.c (.int .i64 1)), some (27, false)⟩, ⟨some 31, .pick (.t 27) (.c (.bool true)) (.t 30), none⟩, ⟨some 32, .mv (.t 31) false, none⟩, ⟨some 33, .fa 2 (.t 5), some (32, false)⟩, ⟨some 34, .load 1 false (.t 33) false, some (32, false)⟩, ⟨some 35, .fa 1 (.t 5), some (32, false)⟩, ⟨some 36, .load 1 false (.t 35) false, some (32, false)⟩, ⟨some 37, .bin .gtr (.t 34) (.t 36), some (32, false)⟩, ⟨some 38, .pick (.t 32) (.c (.bool true)) (.t 37), none⟩, ⟨some 39, .mv (.t 38) false, none⟩, ⟨some 40, .fa 3 (.t 5), some (39, false)⟩, ⟨some 41, .load 1 false (.t 40) false, some (39, false)⟩, ⟨some 42, .bin .lss (.t 41) (.c (.int .i64 1)), some (39, false)⟩, ⟨some 43, .pick (.t 39) (.c (.bool true)) (.t 42), none⟩, ⟨some 44, .mv (.t 43) false, none⟩, ⟨some 45, .fa 3 (.t 5), some (44, false)⟩, ⟨some 46, .load 1 false (.t 45) false, some (44, false)⟩, ⟨some 47, .bin .gtr (.t 46) (.c (.int .i64 1000)), some (44, false)⟩, ⟨some 48, .pick (.t 44) (.c (.bool true)) (.t 47), none⟩])
  (.cond (.t 48) (.seq (.reg [⟨some 4, .mv (.c (.int .i64 10)) true, none⟩])
  (.ret))
  (.skip)))
  (.seq (.seq (.reg [⟨some 49, .fa 4 (.t 5), none⟩, ⟨some 50, .load 1 false (.t 49) false, none⟩, ⟨some 51, .bin .lss (.t 50) (.c (.int .i64 0)), none⟩, ⟨some 52, .mv (.t 51) false, none⟩, ⟨some 53, .fa 4 (.t 5), some (52, false)⟩, ⟨some 54, .load 1 false (.t 53) false, some (52, false)⟩, ⟨some 55, .fa 1 (.t 2), some (52, false)⟩, ⟨some 56, .load 1 false (.t 55) false, some (52, false)⟩, ⟨some 57, .len (.t 56), some (52, false)⟩, ⟨some 58, .bin .geq (.t 54) (.t 57), some (52, false)⟩, ⟨some 59, .pick (.t 52) (.c (.bool true)) (.t 58), none⟩])
  (.cond (.t 59) (.seq (.reg [⟨some 4, .mv (.c (.int .i64 16)) true, none⟩])
  (.ret))
  (.skip)))
  (.seq (.seq (.reg [⟨some 6, .mv (.c (.int .i64 0)) true, none⟩])
  (.block 0 (L53_0)))
  (.seq (.seq (.reg [⟨some 85, .fa 5 (.t 5), none⟩, ⟨some 86, .load 1 false (.t 85) false, none⟩, ⟨some 87, .len (.t 86), none⟩, ⟨some 88, .bin .lss (.t 87) (.c (.int .i64 1)), none⟩, ⟨some 89, .mv (.t 88) false, none⟩, ⟨some 90, .fa 5 (.t 5), some (89, false)⟩, ⟨some 91, .load 1 false (.t 90) false, some (89, false)⟩, ⟨some 92, .len (.t 91), some (89, false)⟩, ⟨some 93, .bin .gtr (.t 92) (.c (.int .i64 6)), some (89, false)⟩, ⟨some 94, .pick (.t 89) (.c (.bool true)) (.t 93), none⟩])
  (.cond (.t 94) (.seq (.reg [⟨some 4, .mv (.c (.int .i64 15)) true, none⟩])
  (.ret))
  (.skip)))
  (.seq (.seq (.reg [⟨some 7, .mv (.c (.int .i64 0)) true, none⟩])
  (.block 2 (L53_2)))
  (.seq (.reg [⟨some 4, .mv (.c (.int .i64 0)) true, none⟩])
  (.ret)))))))), [.t 4]⟩
theorem row53 : RowOk Try.prog 53 C53 := ⟨Try.f53, ⟨[], [], [], []⟩, lvOf [(0, [1, 2, 5, 6], 2), (2, [2, 5, 7], 2)], Try.func53, by kernel_rfl, by kernel_rfl⟩
def B54_0 : C := .seq (.reg [⟨some 14, .bin .lss (.t 13) (.t 12), none⟩])
  (.seq (.cond (.t 14) (.skip)
  (.exit 0))
  (.seq (.block 1 (.seq (.reg [⟨some 15, .mv (.t 13) false, none⟩, ⟨some 5, .mv (.t 15) true, none⟩])
  (.seq (.reg [⟨some 16, .mv (.t 0) false, none⟩, ⟨some 17, .mv (.t 5) false, none⟩, ⟨some 18, .ia 1 (.t 16) (.t 17), none⟩, ⟨some 19, .load 1 false (.t 18) false, none⟩, ⟨some 20, .mv (.t 1) false, none⟩, ⟨some 21, .mv (.t 5) false, none⟩, ⟨some 22, .ia 1 (.t 20) (.t 21), none⟩, ⟨some 23, .load 1 false (.t 22) false, none⟩, ⟨some 24, .bin .neq (.t 19) (.t 23), none⟩])
  (.cond (.t 24) (.seq (.reg [⟨some 4, .mv (.c (.bool false)) true, none⟩])
  (.ret))
  (.skip)))))
  (.reg [⟨some 25, .bin .add (.t 13) (.c (.int .i64 1)), none⟩, ⟨some 13, .mv (.t 25) false, none⟩])))
def L54_0 : C := .loop [0, 1, 12, 13] 0 B54_0
theorem go54_0 (s : Env × Bx) (nb) : evL tab ext nb L54_0 s = (loopIn nb [0, 1, 12, 13] 0 s).bind fun s0 => (evL tab ext nb B54_0 s0).bind (seqG tab ext nb L54_0) := eL_loop _ _ _
/-- slices.Equal[[]int,int] -/
def C54 : CFun := ⟨26, 2, .seq (.reg [⟨some 4, .mv (.c (.bool false)) true, none⟩])
  (.seq (.seq (.reg [⟨some 6, .mv (.t 0) false, none⟩, ⟨some 7, .len (.t 6), none⟩, ⟨some 8, .mv (.t 1) false, none⟩, ⟨some 9, .len (.t 8), none⟩, ⟨some 10, .bin .neq (.t 7) (.t 9), none⟩])
  (.cond (.t 10) (.seq (.reg [⟨some 4, .mv (.c (.bool false)) true, none⟩])
  (.ret))
  (.skip)))
  (.seq (.seq (.reg [⟨some 11, .mv (.t 0) false, none⟩, ⟨some 12, .len (.t 11), none⟩, ⟨some 13, .mv (.c (.int .i64 0)) false, none⟩])
  (.block 0 (L54_0)))
  (.seq (.reg [⟨some 4, .mv (.c (.bool true)) true, none⟩])
  (.ret)))), [.t 4]⟩
theorem row54 : RowOk Try.prog 54 C54 := ⟨Try.f54, ⟨[], [], [], []⟩, lvOf [(0, [0, 1, 12, 13], 0)], Try.func54, by kernel_rfl, by kernel_rfl⟩
def B55_0 : C := .seq (.reg [⟨some 18, .bin .lss (.t 17) (.t 16), none⟩])
  (.seq (.cond (.t 18) (.skip)
  (.exit 0))
  (.seq (.block 1 (.seq (.reg [⟨some 19, .mv (.t 17) false, none⟩, ⟨some 20, .ia 6 (.t 15) (.t 17), none⟩, ⟨some 21, .load 6 true (.t 20) false, none⟩, ⟨some 8, .alloc [(.string ⟨#[]⟩), (.int .i64 0), (.int .i64 0), (.int .i64 0), (.int .i64 0), (.slice none 0 0)], none⟩, ⟨some 7, .mv (.t 19) true, none⟩, ⟨none, .store 6 (.t 8) (.t 21), none⟩])
  (.seq (.reg [⟨some 22, .mv (.t 1) false, none⟩, ⟨some 23, .mv (.t 7) false, none⟩, ⟨some 24, .ia 6 (.t 22) (.t 23), none⟩, ⟨some 25, .load 6 true (.t 24) false, none⟩, ⟨some 9, .alloc [(.string ⟨#[]⟩), (.int .i64 0), (.int .i64 0), (.int .i64 0), (.int .i64 0), (.slice none 0 0)], none⟩, ⟨none, .store 6 (.t 9) (.t 25), none⟩])
  (.seq (.reg [⟨some 26, .mv (.t 2) false, none⟩, ⟨some 27, .load 6 true (.t 8) false, none⟩, ⟨some 28, .load 6 true (.t 9) false, none⟩, ⟨some 29, .callv (.t 26) [(.t 27), (.t 28)], none⟩, ⟨some 30, .un .not (.t 29), none⟩])
  (.cond (.t 30) (.seq (.reg [⟨some 6, .mv (.c (.bool false)) true, none⟩])
  (.ret))
  (.skip))))))
  (.reg [⟨some 31, .bin .add (.t 17) (.c (.int .i64 1)), none⟩, ⟨some 17, .mv (.t 31) false, none⟩])))
def L55_0 : C := .loop [1, 2, 15, 16, 17] 0 B55_0
theorem go55_0 (s : Env × Bx) (nb) : evL tab ext nb L55_0 s = (loopIn nb [1, 2, 15, 16, 17] 0 s).bind fun s0 => (evL tab ext nb B55_0 s0).bind (seqG tab ext nb L55_0) := eL_loop _ _ _
/-- slices.EqualFunc[[]swingbridge/api.Task,[]swingbridge/api.Task,swingbridge/api.Task,swingbridge/api.Task] -/
def C55 : CFun := ⟨32, 3, .seq (.reg [⟨some 6, .mv (.c (.bool false)) true, none⟩])
  (.seq (.seq (.reg [⟨some 10, .mv (.t 0) false, none⟩, ⟨some 11, .len (.t 10), none⟩, ⟨some 12, .mv (.t 1) false, none⟩, ⟨some 13, .len (.t 12), none⟩, ⟨some 14, .bin .neq (.t 11) (.t 13), none⟩])
  (.cond (.t 14) (.seq (.reg [⟨some 6, .mv (.c (.bool false)) true, none⟩])
  (.ret))
  (.skip)))
  (.seq (.seq (.reg [⟨some 15, .mv (.t 0) false, none⟩, ⟨some 16, .len (.t 15), none⟩, ⟨some 17, .mv (.c (.int .i64 0)) false, none⟩])
  (.block 0 (L55_0)))
  (.seq (.reg [⟨some 6, .mv (.c (.bool true)) true, none⟩])
  (.ret)))), [.t 6]⟩
theorem row55 : RowOk Try.prog 55 C55 := ⟨Try.f55, ⟨[], [], [], []⟩, lvOf [(0, [1, 2, 15, 16, 17], 0)], Try.func55, by kernel_rfl, by kernel_rfl⟩
def B56_0 : C := .seq (.seq (.reg [⟨some 11, .mv (.t 5) false, none⟩, ⟨some 12, .mv (.t 0) false, none⟩, ⟨some 13, .len (.t 12), none⟩, ⟨some 14, .bin .lss (.t 11) (.t 13), none⟩])
  (.cond (.t 14) (.skip)
  (.exit 0)))
  (.seq (.block 1 (.seq (.reg [⟨some 17, .mv (.t 0) false, none⟩, ⟨some 18, .mv (.t 5) false, none⟩, ⟨some 19, .ia 1 (.t 17) (.t 18), none⟩, ⟨some 20, .load 1 false (.t 19) false, none⟩, ⟨some 21, .mv (.t 1) false, none⟩, ⟨some 22, .mv (.t 5) false, none⟩, ⟨some 23, .ia 1 (.t 21) (.t 22), none⟩, ⟨some 24, .load 1 false (.t 23) false, none⟩, ⟨some 25, .bin .neq (.t 20) (.t 24), none⟩])
  (.cond (.t 25) (.seq (.reg [⟨some 4, .mv (.c (.bool false)) true, none⟩])
  (.ret))
  (.skip))))
  (.reg [⟨some 15, .mv (.t 5) false, none⟩, ⟨some 16, .bin .add (.t 15) (.c (.int .i64 1)), none⟩, ⟨some 5, .mv (.t 16) true, none⟩]))
def L56_0 : C := .loop [0, 1, 5] 0 B56_0
theorem go56_0 (s : Env × Bx) (nb) : evL tab ext nb L56_0 s = (loopIn nb [0, 1, 5] 0 s).bind fun s0 => (evL tab ext nb B56_0 s0).bind (seqG tab ext nb L56_0) := eL_loop _ _ _
/-- swingbridge/swingbridgeref7.sameInts -/
def C56 : CFun := ⟨26, 2, .seq (.reg [⟨some 4, .mv (.c (.bool false)) true, none⟩])
  (.seq (.seq (.reg [⟨some 6, .mv (.t 0) false, none⟩, ⟨some 7, .len (.t 6), none⟩, ⟨some 8, .mv (.t 1) false, none⟩, ⟨some 9, .len (.t 8), none⟩, ⟨some 10, .bin .neq (.t 7) (.t 9), none⟩])
  (.cond (.t 10) (.seq (.reg [⟨some 4, .mv (.c (.bool false)) true, none⟩])
  (.ret))
  (.skip)))
  (.seq (.seq (.reg [⟨some 5, .mv (.c (.int .i64 0)) true, none⟩])
  (.block 0 (L56_0)))
  (.seq (.reg [⟨some 4, .mv (.c (.bool true)) true, none⟩])
  (.ret)))), [.t 4]⟩
theorem row56 : RowOk Try.prog 56 C56 := ⟨Try.f56, ⟨[], [], [], []⟩, lvOf [(0, [0, 1, 5], 0)], Try.func56, by kernel_rfl, by kernel_rfl⟩
end Go.Proofs.YtkohggddaheefaaEv
