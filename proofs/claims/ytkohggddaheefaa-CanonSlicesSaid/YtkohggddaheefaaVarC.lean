/- Other code of functions whose answers are written to. -/
import Derived.Test.YtkohggddaheefaaT1
import Derived.Test.YtkohggddaheefaaProg
import Derived.KernelRfl
namespace Go.Proofs.YtkohggddaheefaaEv
open Go
set_option maxRecDepth 100000
variable {tab : Nat → Option CFun} {ext : CallF}
def B21v_0 : C := .seq (.reg [⟨some 21, .bin .lss (.t 20) (.t 19), none⟩])
  (.seq (.cond (.t 21) (.skip)
  (.exit 0))
  (.seq (.block 1 (.seq (.reg [⟨some 22, .mv (.t 20) false, none⟩, ⟨some 23, .ia 6 (.t 18) (.t 20), none⟩, ⟨some 24, .load 6 true (.t 23) false, none⟩, ⟨some 4, .alloc [(.string ⟨#[]⟩), (.int .i64 0), (.int .i64 0), (.int .i64 0), (.int .i64 0), (.slice none 0 0)], none⟩, ⟨some 3, .mv (.t 22) true, none⟩, ⟨none, .store 6 (.t 4) (.t 24), none⟩])
  (.dreg [] [] [⟨some 25, .fa 3 (.t 1), none⟩, ⟨some 26, .load 1 false (.t 25) false, none⟩, ⟨some 27, .mv (.t 3) false, none⟩, ⟨some 28, .fa 5 (.t 4), none⟩, ⟨some 29, .load 1 false (.t 28) false, none⟩, ⟨some 30, .calln 60 [(.t 29)], none⟩, ⟨some 31, .ia 6 (.t 26) (.t 27), none⟩, ⟨some 32, .fa 5 (.t 31), none⟩, ⟨none, .store 1 (.t 32) (.t 30), none⟩])))
  (.reg [⟨some 33, .bin .add (.t 20) (.c (.int .i64 1)), none⟩, ⟨some 20, .mv (.t 33) false, none⟩])))
def L21v_0 : C := .loop [1, 2, 18, 19, 20] 20 B21v_0
theorem go21v_0 (s : Env × Bx) (nb) : evL tab ext nb L21v_0 s = (loopIn nb [1, 2, 18, 19, 20] 20 s).bind fun s0 => (evL tab ext nb B21v_0 s0).bind (seqG tab ext nb L21v_0) := eL_loop _ _ _
/-- swingbridge/task.Copy -/
def C21v : CFun := ⟨35, 1, .seq (.reg [⟨some 1, .box (.t 0), none⟩, ⟨some 2, .alloc [(.int .i64 0), (.slice none 0 0), (.slice none 0 0), (.slice none 0 0)], none⟩])
  (.seq (.dreg [] [] [⟨some 5, .fa 1 (.t 1), none⟩, ⟨some 6, .load 1 false (.t 5) false, none⟩, ⟨some 7, .calln 58 [(.t 6)], none⟩, ⟨some 8, .fa 2 (.t 1), none⟩, ⟨some 9, .load 1 false (.t 8) false, none⟩, ⟨some 10, .calln 58 [(.t 9)], none⟩, ⟨some 11, .fa 3 (.t 1), none⟩, ⟨some 12, .load 1 false (.t 11) false, none⟩, ⟨some 13, .calln 59 [(.t 12)], none⟩, ⟨some 14, .fa 1 (.t 1), none⟩, ⟨none, .store 1 (.t 14) (.t 7), none⟩, ⟨some 15, .fa 2 (.t 1), none⟩, ⟨none, .store 1 (.t 15) (.t 10), none⟩, ⟨some 16, .fa 3 (.t 1), none⟩, ⟨none, .store 1 (.t 16) (.t 13), none⟩])
  (.seq (.seq (.reg [⟨some 17, .fa 3 (.t 1), none⟩, ⟨some 18, .load 1 false (.t 17) false, none⟩, ⟨some 19, .len (.t 18), none⟩, ⟨some 20, .mv (.c (.int .i64 0)) false, none⟩])
  (.block 0 (L21v_0)))
  (.seq (.reg [⟨some 34, .load 4 true (.t 1) false, none⟩, ⟨none, .store 4 (.t 2) (.t 34), none⟩])
  (.ret)))), [.cell 2 4]⟩
theorem row21v : RowOk Try.prog 21 C21v := ⟨Try.f21, ⟨[], [], [3000058, 3000059, 3000060], [58, 59, 60]⟩, lvOf [(0, [1, 2, 18, 19, 20], 20)], Try.func21, by kernel_rfl, by kernel_rfl⟩
/-- swingbridge/swingbridgelaw8.TaskSpoils -/
def C4v : CFun := ⟨142, 3, .seq (.reg [⟨some 3, .box (.t 0), none⟩, ⟨some 6, .mv (.c (.bool false)) true, none⟩])
  (.seq (.seq (.reg [⟨some 14, .call 15 [] false, none⟩, ⟨some 15, .un .not (.t 14), none⟩])
  (.cond (.t 15) (.seq (.reg [⟨some 6, .mv (.c (.bool false)) true, none⟩])
  (.ret))
  (.skip)))
  (.seq (.seq (.reg [⟨some 16, .load 4 true (.t 3) false, none⟩, ⟨some 17, .call 16 [(.t 16)] false, none⟩, ⟨some 18, .un .not (.t 17), none⟩, ⟨some 19, .mv (.t 18) false, none⟩, ⟨some 20, .load 4 true (.t 3) false, some (19, false)⟩, ⟨some 21, .call 22 [(.t 20)] false, some (19, false)⟩, ⟨some 22, .un .not (.t 21), some (19, false)⟩, ⟨some 23, .pick (.t 19) (.c (.bool true)) (.t 22), none⟩])
  (.cond (.t 23) (.seq (.reg [⟨some 6, .mv (.c (.bool true)) true, none⟩])
  (.ret))
  (.skip)))
  (.seq (.reg [⟨some 24, .load 4 true (.t 3) false, none⟩, ⟨some 25, .call 23 [(.t 24)] false, none⟩, ⟨some 7, .alloc [(.int .i64 0), (.slice none 0 0), (.slice none 0 0), (.slice none 0 0)], none⟩, ⟨none, .store 4 (.t 7) (.t 25), none⟩])
  (.seq (.reg [⟨some 26, .load 4 true (.t 7) false, none⟩, ⟨some 27, .calli 21 [(.t 26)], none⟩, ⟨some 8, .alloc [(.int .i64 0), (.slice none 0 0), (.slice none 0 0), (.slice none 0 0)], none⟩, ⟨none, .store 4 (.t 8) (.t 27), none⟩])
  (.seq (.seq (.reg [⟨some 28, .load 4 true (.t 8) false, none⟩, ⟨some 29, .load 4 true (.t 3) false, none⟩, ⟨some 30, .call 20 [(.t 28), (.t 29)] false, none⟩, ⟨some 31, .un .not (.t 30), none⟩])
  (.cond (.t 31) (.seq (.reg [⟨some 6, .mv (.c (.bool false)) true, none⟩])
  (.ret))
  (.skip)))
  (.seq (.reg [⟨some 32, .mv (.t 2) false, none⟩, ⟨some 33, .conv .i64 (.t 32), none⟩, ⟨some 34, .fa 3 (.t 8), none⟩, ⟨some 35, .load 1 false (.t 34) false, none⟩, ⟨some 36, .len (.t 35), none⟩, ⟨some 37, .bin .rem (.t 33) (.t 36), none⟩, ⟨some 9, .mv (.t 37) true, none⟩])
  (.seq (.reg [⟨some 38, .mv (.t 9) false, none⟩, ⟨some 10, .mv (.c (.int .i64 10)) true, none⟩, ⟨some 11, .mv (.t 38) true, none⟩])
  (.seq (.seq (.reg [⟨some 39, .mv (.t 1) false, none⟩, ⟨some 40, .bin .rem (.t 39) (.c (.int .u8 10)), none⟩])
  (.block 0 (.seq (.reg [⟨some 43, .bin .eql (.t 40) (.c (.int .u8 0)), none⟩, ⟨some 42, .mv (.t 43) true, none⟩])
  (.cond (.t 42) (.reg [⟨some 44, .fa 3 (.t 8), none⟩, ⟨some 45, .load 1 false (.t 44) false, none⟩, ⟨some 46, .mv (.t 9) false, none⟩, ⟨some 47, .ia 6 (.t 45) (.t 46), none⟩, ⟨some 48, .fa 0 (.t 47), none⟩, ⟨none, .store 1 (.t 48) (.c (.string ⟨#[66, 97, 100]⟩)), none⟩])
  (.seq (.reg [⟨some 50, .bin .eql (.t 40) (.c (.int .u8 1)), none⟩, ⟨some 49, .mv (.t 50) true, none⟩])
  (.cond (.t 49) (.reg [⟨some 51, .fa 3 (.t 8), none⟩, ⟨some 52, .load 1 false (.t 51) false, none⟩, ⟨some 53, .mv (.t 9) false, none⟩, ⟨some 54, .fa 3 (.t 8), none⟩, ⟨some 55, .load 1 false (.t 54) false, none⟩, ⟨some 56, .mv (.t 9) false, none⟩, ⟨some 57, .ia 6 (.t 55) (.t 56), none⟩, ⟨some 58, .fa 1 (.t 57), none⟩, ⟨some 59, .load 1 false (.t 58) false, none⟩, ⟨some 60, .bin .add (.t 59) (.c (.int .i64 1)), none⟩, ⟨some 61, .ia 6 (.t 52) (.t 53), none⟩, ⟨some 62, .fa 2 (.t 61), none⟩, ⟨none, .store 1 (.t 62) (.t 60), none⟩])
  (.seq (.reg [⟨some 64, .bin .eql (.t 40) (.c (.int .u8 2)), none⟩, ⟨some 63, .mv (.t 64) true, none⟩])
  (.cond (.t 63) (.reg [⟨some 65, .fa 3 (.t 8), none⟩, ⟨some 66, .load 1 false (.t 65) false, none⟩, ⟨some 67, .mv (.t 9) false, none⟩, ⟨some 68, .ia 6 (.t 66) (.t 67), none⟩, ⟨some 69, .fa 3 (.t 68), none⟩, ⟨none, .store 1 (.t 69) (.c (.int .i64 1001)), none⟩])
  (.seq (.reg [⟨some 71, .bin .eql (.t 40) (.c (.int .u8 3)), none⟩, ⟨some 70, .mv (.t 71) true, none⟩])
  (.cond (.t 70) (.reg [⟨some 72, .fa 3 (.t 8), none⟩, ⟨some 73, .load 1 false (.t 72) false, none⟩, ⟨some 74, .mv (.t 9) false, none⟩, ⟨some 75, .fa 1 (.t 8), none⟩, ⟨some 76, .load 1 false (.t 75) false, none⟩, ⟨some 77, .len (.t 76), none⟩, ⟨some 78, .ia 6 (.t 73) (.t 74), none⟩, ⟨some 79, .fa 4 (.t 78), none⟩, ⟨none, .store 1 (.t 79) (.t 77), none⟩, ⟨some 10, .mv (.c (.int .i64 16)) true, none⟩])
  (.seq (.reg [⟨some 81, .bin .eql (.t 40) (.c (.int .u8 4)), none⟩, ⟨some 80, .mv (.t 81) true, none⟩])
  (.cond (.t 80) (.reg [⟨some 82, .fa 3 (.t 8), none⟩, ⟨some 83, .load 1 false (.t 82) false, none⟩, ⟨some 84, .mv (.t 9) false, none⟩, ⟨some 85, .ia 6 (.t 83) (.t 84), none⟩, ⟨some 86, .fa 5 (.t 85), none⟩, ⟨none, .store 1 (.t 86) (.c (.slice none 0 0)), none⟩, ⟨some 10, .mv (.c (.int .i64 15)) true, none⟩])
  (.seq (.reg [⟨some 88, .bin .eql (.t 40) (.c (.int .u8 5)), none⟩, ⟨some 87, .mv (.t 88) true, none⟩])
  (.cond (.t 87) (.reg [⟨some 89, .fa 3 (.t 8), none⟩, ⟨some 90, .load 1 false (.t 89) false, none⟩, ⟨some 91, .mv (.t 9) false, none⟩, ⟨some 92, .ia 6 (.t 90) (.t 91), none⟩, ⟨some 93, .fa 5 (.t 92), none⟩, ⟨some 94, .load 1 false (.t 93) false, none⟩, ⟨some 95, .ia 3 (.t 94) (.c (.int .i64 0)), none⟩, ⟨some 96, .fa 1 (.t 95), none⟩, ⟨none, .store 1 (.t 96) (.c (.int .i64 61)), none⟩, ⟨some 10, .mv (.c (.int .i64 15)) true, none⟩])
  (.seq (.reg [⟨some 98, .bin .eql (.t 40) (.c (.int .u8 6)), none⟩, ⟨some 97, .mv (.t 98) true, none⟩])
  (.cond (.t 97) (.reg [⟨some 99, .fa 3 (.t 8), none⟩, ⟨some 100, .load 1 false (.t 99) false, none⟩, ⟨some 101, .mv (.t 9) false, none⟩, ⟨some 102, .ia 6 (.t 100) (.t 101), none⟩, ⟨some 103, .fa 5 (.t 102), none⟩, ⟨some 104, .load 1 false (.t 103) false, none⟩, ⟨some 105, .fa 2 (.t 8), none⟩, ⟨some 106, .load 1 false (.t 105) false, none⟩, ⟨some 107, .len (.t 106), none⟩, ⟨some 108, .build [(.int .i64 0), (.int .i64 0), (.int .i64 0)] [(0, 1, (.c (.int .i64 3))), (1, 1, (.c (.int .i64 1))), (2, 1, (.t 107))], none⟩, ⟨some 109, .ia 3 (.t 104) (.c (.int .i64 0)), none⟩, ⟨none, .store 3 (.t 109) (.t 108), none⟩, ⟨some 10, .mv (.c (.int .i64 15)) true, none⟩])
  (.seq (.reg [⟨some 111, .bin .eql (.t 40) (.c (.int .u8 7)), none⟩, ⟨some 110, .mv (.t 111) true, none⟩])
  (.cond (.t 110) (.reg [⟨some 112, .fa 0 (.t 8), none⟩, ⟨none, .store 1 (.t 112) (.c (.int .i64 4)), none⟩, ⟨some 11, .mv (.c (.int .i64 (-1))) true, none⟩])
  (.seq (.reg [⟨some 114, .bin .eql (.t 40) (.c (.int .u8 8)), none⟩, ⟨some 113, .mv (.t 114) true, none⟩])
  (.cond (.t 113) (.reg [⟨some 115, .fa 1 (.t 8), none⟩, ⟨some 116, .load 1 false (.t 115) false, none⟩, ⟨some 117, .ia 1 (.t 116) (.c (.int .i64 0)), none⟩, ⟨none, .store 1 (.t 117) (.c (.int .i64 0)), none⟩, ⟨some 10, .mv (.c (.int .i64 16)) true, none⟩, ⟨some 11, .mv (.c (.int .i64 (-1))) true, none⟩])
  (.reg [⟨some 41, .fa 3 (.t 8), none⟩, ⟨none, .store 1 (.t 41) (.c (.slice none 0 0)), none⟩, ⟨some 10, .mv (.c (.int .i64 14)) true, none⟩, ⟨some 11, .mv (.c (.int .i64 (-1))) true, none⟩])))))))))))))))))))))
  (.seq (.reg [⟨some 119, .load 4 true (.t 8) false, none⟩, ⟨some 120, .call 17 [(.t 119)] false, none⟩, ⟨some 118, .mv (.t 120) false, none⟩, ⟨some 121, .ext (.t 118) 0, none⟩, ⟨some 122, .ext (.t 118) 1, none⟩, ⟨some 12, .mv (.t 121) true, none⟩, ⟨some 13, .mv (.t 122) true, none⟩])
  (.seq (.reg [⟨some 123, .mv (.t 13) false, none⟩, ⟨some 124, .mv (.t 10) false, none⟩, ⟨some 125, .bin .eql (.t 123) (.t 124), none⟩, ⟨some 126, .mv (.t 125) false, none⟩, ⟨some 127, .mv (.t 12) false, some (126, true)⟩, ⟨some 128, .mv (.t 11) false, some (126, true)⟩, ⟨some 129, .bin .eql (.t 127) (.t 128), some (126, true)⟩, ⟨some 130, .pick (.t 126) (.t 129) (.c (.bool false)), none⟩, ⟨some 131, .mv (.t 130) false, none⟩, ⟨some 132, .load 4 true (.t 8) false, some (131, true)⟩, ⟨some 133, .load 4 true (.t 3) false, some (131, true)⟩, ⟨some 134, .call 19 [(.t 132), (.t 133)] false, some (131, true)⟩, ⟨some 135, .un .not (.t 134), some (131, true)⟩, ⟨some 136, .pick (.t 131) (.t 135) (.c (.bool false)), none⟩, ⟨some 137, .mv (.t 136) false, none⟩, ⟨some 138, .load 4 true (.t 7) false, some (137, true)⟩, ⟨some 139, .load 4 true (.t 3) false, some (137, true)⟩, ⟨some 140, .call 20 [(.t 138), (.t 139)] false, some (137, true)⟩, ⟨some 141, .pick (.t 137) (.t 140) (.c (.bool false)), none⟩, ⟨some 6, .mv (.t 141) true, none⟩])
  (.ret))))))))))), [.t 6]⟩
theorem row4v : RowOk Try.prog 4 C4v := ⟨Try.f4, ⟨[], [], [], [21]⟩, lvOf [], Try.func4, by kernel_rfl, by kernel_rfl⟩
end Go.Proofs.YtkohggddaheefaaEv
