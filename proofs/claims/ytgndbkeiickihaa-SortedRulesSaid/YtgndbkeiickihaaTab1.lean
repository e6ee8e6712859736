/- The seat's functions in compact code; each row is checked against the program. -/
import Derived.Test.YtgndbkeiickihaaEv4
import Derived.Test.YtgndbkeiickihaaProg
import Derived.KernelRfl
namespace Go.Proofs.YtgndbkeiickihaaEv
open Go
set_option maxRecDepth 100000
variable {tab : Nat → Option CFun} {ext : CallF}
/-- swingbridge/swingbridgelaw2.SortedTells -/
def C3 : CFun := ⟨60, 4, .seq (.reg [⟨some 5, .box (.t 1), none⟩, ⟨some 8, .mv (.c (.bool false)) true, none⟩])
  (.seq (.seq (.reg [⟨some 10, .call 10 [] false, none⟩, ⟨some 11, .un .not (.t 10), none⟩])
  (.cond (.t 11) (.seq (.reg [⟨some 8, .mv (.c (.bool false)) true, none⟩])
  (.ret))
  (.skip)))
  (.seq (.seq (.reg [⟨some 12, .mv (.t 0) false, none⟩, ⟨some 13, .len (.t 12), none⟩, ⟨some 14, .bin .gtr (.t 13) (.c (.int .i64 50)), none⟩, ⟨some 15, .mv (.t 14) false, none⟩, ⟨some 16, .mv (.t 2) false, some (15, false)⟩, ⟨some 17, .len (.t 16), some (15, false)⟩, ⟨some 18, .bin .gtr (.t 17) (.c (.int .i64 50)), some (15, false)⟩, ⟨some 19, .pick (.t 15) (.c (.bool true)) (.t 18), none⟩])
  (.cond (.t 19) (.seq (.reg [⟨some 8, .mv (.c (.bool true)) true, none⟩])
  (.ret))
  (.skip)))
  (.seq (.reg [⟨some 20, .mv (.t 0) false, none⟩, ⟨some 21, .call 11 [(.t 20)] false, none⟩, ⟨some 9, .mv (.t 21) true, none⟩])
  (.seq (.reg [⟨some 22, .mv (.t 0) false, none⟩, ⟨some 23, .call 13 [(.t 22)] false, none⟩, ⟨some 24, .mv (.t 9) false, none⟩, ⟨some 25, .call 12 [(.t 23), (.t 24)] false, none⟩, ⟨some 26, .mv (.t 25) false, none⟩, ⟨some 27, .mv (.t 0) false, some (26, true)⟩, ⟨some 28, .call 14 [(.t 27)] false, some (26, true)⟩, ⟨some 29, .mv (.t 0) false, some (26, true)⟩, ⟨some 30, .call 15 [(.t 29)] false, some (26, true)⟩, ⟨some 31, .eqb false (.t 28) (.t 30), some (26, true)⟩, ⟨some 32, .pick (.t 26) (.t 31) (.c (.bool false)), none⟩, ⟨some 33, .mv (.t 32) false, none⟩, ⟨some 34, .mv (.t 0) false, some (33, true)⟩, ⟨some 35, .load 2 true (.t 5) false, some (33, true)⟩, ⟨some 36, .call 16 [(.t 34), (.t 35)] false, some (33, true)⟩, ⟨some 37, .mv (.t 9) false, some (33, true)⟩, ⟨some 38, .load 2 true (.t 5) false, some (33, true)⟩, ⟨some 39, .call 17 [(.t 37), (.t 38)] false, some (33, true)⟩, ⟨some 40, .call 12 [(.t 36), (.t 39)] false, some (33, true)⟩, ⟨some 41, .pick (.t 33) (.t 40) (.c (.bool false)), none⟩, ⟨some 42, .mv (.t 41) false, none⟩, ⟨some 43, .mv (.t 2) false, some (42, true)⟩, ⟨some 44, .mv (.t 3) false, some (42, true)⟩, ⟨some 45, .call 19 [(.t 43), (.t 44)] false, some (42, true)⟩, ⟨some 46, .mv (.t 2) false, some (42, true)⟩, ⟨some 47, .mv (.t 3) false, some (42, true)⟩, ⟨some 48, .call 20 [(.t 46), (.t 47)] false, some (42, true)⟩, ⟨some 49, .call 18 [(.t 45), (.t 48)] false, some (42, true)⟩, ⟨some 50, .pick (.t 42) (.t 49) (.c (.bool false)), none⟩, ⟨some 51, .mv (.t 50) false, none⟩, ⟨some 52, .mv (.t 2) false, some (51, true)⟩, ⟨some 53, .mv (.t 3) false, some (51, true)⟩, ⟨some 54, .call 21 [(.t 52), (.t 53)] false, some (51, true)⟩, ⟨some 55, .mv (.t 2) false, some (51, true)⟩, ⟨some 56, .mv (.t 3) false, some (51, true)⟩, ⟨some 57, .call 22 [(.t 55), (.t 56)] false, some (51, true)⟩, ⟨some 58, .bin .eql (.t 54) (.t 57), some (51, true)⟩, ⟨some 59, .pick (.t 51) (.t 58) (.c (.bool false)), none⟩, ⟨some 8, .mv (.t 59) true, none⟩])
  (.ret))))), [.t 8]⟩
theorem row3 : RowOk Try.prog 3 C3 := ⟨Try.f3, ⟨[], [], [], []⟩, lvOf [], Try.func3, by kernel_rfl, by kernel_rfl⟩
def B4_0 : C := .seq (.seq (.reg [⟨some 16, .mv (.t 4) false, none⟩, ⟨some 17, .mv (.t 3) false, none⟩, ⟨some 18, .len (.t 17), none⟩, ⟨some 19, .bin .lss (.t 16) (.t 18), none⟩])
  (.cond (.t 19) (.skip)
  (.exit 0)))
  (.seq (.block 1 (.reg [⟨some 22, .mv (.t 3) false, none⟩, ⟨some 23, .mv (.t 4) false, none⟩, ⟨some 24, .mv (.t 4) false, none⟩, ⟨some 25, .ia 2 (.t 22) (.t 23), none⟩, ⟨some 26, .fa 1 (.t 25), none⟩, ⟨none, .store 1 (.t 26) (.t 24), none⟩]))
  (.reg [⟨some 20, .mv (.t 4) false, none⟩, ⟨some 21, .bin .add (.t 20) (.c (.int .i64 1)), none⟩, ⟨some 4, .mv (.t 21) true, none⟩]))
def L4_0 : C := .loop [3, 4] 1 B4_0
theorem go4_0 (s : Env × Bx) (nb) : evL tab ext nb L4_0 s = (loopIn nb [3, 4] 1 s).bind fun s0 => (evL tab ext nb B4_0 s0).bind (seqG tab ext nb L4_0) := eL_loop _ _ _
def B4_2 : C := .seq (.seq (.reg [⟨some 42, .mv (.t 7) false, none⟩, ⟨some 43, .mv (.t 5) false, none⟩, ⟨some 44, .len (.t 43), none⟩, ⟨some 45, .bin .lss (.t 42) (.t 44), none⟩])
  (.cond (.t 45) (.skip)
  (.exit 2)))
  (.seq (.block 3 (.seq (.reg [⟨some 48, .mv (.t 5) false, none⟩, ⟨some 49, .mv (.t 7) false, none⟩, ⟨some 50, .ia 2 (.t 48) (.t 49), none⟩, ⟨some 51, .fa 1 (.t 50), none⟩, ⟨some 52, .load 1 false (.t 51) false, none⟩, ⟨some 8, .mv (.t 52) true, none⟩])
  (.seq (.seq (.reg [⟨some 53, .mv (.t 8) false, none⟩, ⟨some 54, .bin .lss (.t 53) (.c (.int .i64 0)), none⟩, ⟨some 55, .mv (.t 54) false, none⟩, ⟨some 56, .mv (.t 8) false, some (55, false)⟩, ⟨some 57, .mv (.t 3) false, some (55, false)⟩, ⟨some 58, .len (.t 57), some (55, false)⟩, ⟨some 59, .bin .geq (.t 56) (.t 58), some (55, false)⟩, ⟨some 60, .pick (.t 55) (.c (.bool true)) (.t 59), none⟩, ⟨some 61, .mv (.t 60) false, none⟩, ⟨some 62, .mv (.t 6) false, some (61, false)⟩, ⟨some 63, .mv (.t 8) false, some (61, false)⟩, ⟨some 64, .ia 1 (.t 62) (.t 63), some (61, false)⟩, ⟨some 65, .load 1 false (.t 64) false, some (61, false)⟩, ⟨some 66, .pick (.t 61) (.c (.bool true)) (.t 65), none⟩, ⟨some 67, .mv (.t 66) false, none⟩, ⟨some 68, .mv (.t 3) false, some (67, false)⟩, ⟨some 69, .mv (.t 8) false, some (67, false)⟩, ⟨some 70, .ia 2 (.t 68) (.t 69), some (67, false)⟩, ⟨some 71, .fa 0 (.t 70), some (67, false)⟩, ⟨some 72, .load 1 false (.t 71) false, some (67, false)⟩, ⟨some 73, .mv (.t 5) false, some (67, false)⟩, ⟨some 74, .mv (.t 7) false, some (67, false)⟩, ⟨some 75, .ia 2 (.t 73) (.t 74), some (67, false)⟩, ⟨some 76, .fa 0 (.t 75), some (67, false)⟩, ⟨some 77, .load 1 false (.t 76) false, some (67, false)⟩, ⟨some 78, .bin .neq (.t 72) (.t 77), some (67, false)⟩, ⟨some 79, .pick (.t 67) (.c (.bool true)) (.t 78), none⟩, ⟨some 80, .mv (.t 79) false, none⟩, ⟨some 81, .mv (.t 7) false, some (80, false)⟩, ⟨some 82, .bin .gtr (.t 81) (.c (.int .i64 0)), some (80, false)⟩, ⟨some 83, .mv (.t 82) false, some (80, false)⟩, ⟨some 84, .mv (.t 5) false, some (83, true)⟩, ⟨some 85, .mv (.t 7) false, some (83, true)⟩, ⟨some 86, .bin .sub (.t 85) (.c (.int .i64 1)), some (83, true)⟩, ⟨some 87, .ia 2 (.t 84) (.t 86), some (83, true)⟩, ⟨some 88, .fa 0 (.t 87), some (83, true)⟩, ⟨some 89, .load 1 false (.t 88) false, some (83, true)⟩, ⟨some 90, .mv (.t 5) false, some (83, true)⟩, ⟨some 91, .mv (.t 7) false, some (83, true)⟩, ⟨some 92, .ia 2 (.t 90) (.t 91), some (83, true)⟩, ⟨some 93, .fa 0 (.t 92), some (83, true)⟩, ⟨some 94, .load 1 false (.t 93) false, some (83, true)⟩, ⟨some 95, .bin .eql (.t 89) (.t 94), some (83, true)⟩, ⟨some 96, .pick (.t 83) (.t 95) (.c (.bool false)), some (80, false)⟩, ⟨some 97, .mv (.t 96) false, some (80, false)⟩, ⟨some 98, .mv (.t 5) false, some (97, true)⟩, ⟨some 99, .mv (.t 7) false, some (97, true)⟩, ⟨some 100, .bin .sub (.t 99) (.c (.int .i64 1)), some (97, true)⟩, ⟨some 101, .ia 2 (.t 98) (.t 100), some (97, true)⟩, ⟨some 102, .fa 1 (.t 101), some (97, true)⟩, ⟨some 103, .load 1 false (.t 102) false, some (97, true)⟩, ⟨some 104, .mv (.t 8) false, some (97, true)⟩, ⟨some 105, .bin .gtr (.t 103) (.t 104), some (97, true)⟩, ⟨some 106, .pick (.t 97) (.t 105) (.c (.bool false)), some (80, false)⟩, ⟨some 107, .pick (.t 80) (.c (.bool true)) (.t 106), none⟩])
  (.cond (.t 107) (.seq (.reg [⟨some 2, .mv (.c (.bool false)) true, none⟩])
  (.ret))
  (.skip)))
  (.reg [⟨some 108, .mv (.t 6) false, none⟩, ⟨some 109, .mv (.t 8) false, none⟩, ⟨some 110, .ia 1 (.t 108) (.t 109), none⟩, ⟨none, .store 1 (.t 110) (.c (.bool true)), none⟩]))))
  (.reg [⟨some 46, .mv (.t 7) false, none⟩, ⟨some 47, .bin .add (.t 46) (.c (.int .i64 1)), none⟩, ⟨some 7, .mv (.t 47) true, none⟩]))
def L4_2 : C := .loop [3, 5, 6, 7] 1 B4_2
theorem go4_2 (s : Env × Bx) (nb) : evL tab ext nb L4_2 s = (loopIn nb [3, 5, 6, 7] 1 s).bind fun s0 => (evL tab ext nb B4_2 s0).bind (seqG tab ext nb L4_2) := eL_loop _ _ _
/-- swingbridge/swingbridgelaw2.SortedRules -/
def C4 : CFun := ⟨111, 1, .seq (.reg [⟨some 2, .mv (.c (.bool false)) true, none⟩])
  (.seq (.seq (.reg [⟨some 9, .call 10 [] false, none⟩, ⟨some 10, .un .not (.t 9), none⟩])
  (.cond (.t 10) (.seq (.reg [⟨some 2, .mv (.c (.bool false)) true, none⟩])
  (.ret))
  (.skip)))
  (.seq (.seq (.reg [⟨some 11, .mv (.t 0) false, none⟩, ⟨some 12, .len (.t 11), none⟩, ⟨some 13, .bin .gtr (.t 12) (.c (.int .i64 50)), none⟩])
  (.cond (.t 13) (.seq (.reg [⟨some 2, .mv (.c (.bool true)) true, none⟩])
  (.ret))
  (.skip)))
  (.seq (.reg [⟨some 14, .mv (.t 0) false, none⟩, ⟨some 15, .app 2 16 (.c (.slice none 0 0)) (.t 14) true, none⟩, ⟨some 3, .mv (.t 15) true, none⟩])
  (.seq (.seq (.reg [⟨some 4, .mv (.c (.int .i64 0)) true, none⟩])
  (.block 0 (L4_0)))
  (.seq (.reg [⟨some 27, .mv (.t 3) false, none⟩, ⟨some 28, .call 13 [(.t 27)] false, none⟩, ⟨some 5, .mv (.t 28) true, none⟩])
  (.seq (.seq (.reg [⟨some 29, .mv (.t 5) false, none⟩, ⟨some 30, .len (.t 29), none⟩, ⟨some 31, .mv (.t 3) false, none⟩, ⟨some 32, .len (.t 31), none⟩, ⟨some 33, .bin .neq (.t 30) (.t 32), none⟩, ⟨some 34, .mv (.t 33) false, none⟩, ⟨some 35, .mv (.t 5) false, some (34, false)⟩, ⟨some 36, .call 14 [(.t 35)] false, some (34, false)⟩, ⟨some 37, .un .not (.t 36), some (34, false)⟩, ⟨some 38, .pick (.t 34) (.c (.bool true)) (.t 37), none⟩])
  (.cond (.t 38) (.seq (.reg [⟨some 2, .mv (.c (.bool false)) true, none⟩])
  (.ret))
  (.skip)))
  (.seq (.reg [⟨some 39, .mv (.t 3) false, none⟩, ⟨some 40, .len (.t 39), none⟩, ⟨some 41, .mksl 1 1 [(.bool false)] (.t 40) true, none⟩, ⟨some 6, .mv (.t 41) true, none⟩])
  (.seq (.seq (.reg [⟨some 7, .mv (.c (.int .i64 0)) true, none⟩])
  (.block 2 (L4_2)))
  (.seq (.reg [⟨some 2, .mv (.c (.bool true)) true, none⟩])
  (.ret)))))))))), [.t 2]⟩
theorem row4 : RowOk Try.prog 4 C4 := ⟨Try.f4, ⟨[], [15, 41], [], []⟩, lvOf [(0, [3, 4], 1), (2, [3, 5, 6, 7], 1)], Try.func4, by kernel_rfl, by kernel_rfl⟩
def B5_2 : C := .seq (.seq (.reg [⟨some 34, .mv (.t 8) false, none⟩, ⟨some 35, .mv (.t 0) false, none⟩, ⟨some 36, .len (.t 35), none⟩, ⟨some 37, .bin .lss (.t 34) (.t 36), none⟩])
  (.cond (.t 37) (.skip)
  (.exit 2)))
  (.seq (.block 3 (.seq (.reg [⟨some 40, .mv (.t 0) false, none⟩, ⟨some 41, .mv (.t 8) false, none⟩, ⟨some 42, .ia 1 (.t 40) (.t 41), none⟩, ⟨some 43, .load 1 false (.t 42) false, none⟩, ⟨some 44, .mv (.t 5) false, none⟩, ⟨some 45, .mv (.t 6) false, none⟩, ⟨some 46, .ia 1 (.t 44) (.t 45), none⟩, ⟨some 47, .load 1 false (.t 46) false, none⟩, ⟨some 48, .bin .gtr (.t 43) (.t 47), none⟩])
  (.cond (.t 48) (.reg [⟨some 49, .mv (.t 7) false, none⟩, ⟨some 50, .bin .add (.t 49) (.c (.int .i64 1)), none⟩, ⟨some 7, .mv (.t 50) true, none⟩])
  (.skip))))
  (.reg [⟨some 38, .mv (.t 8) false, none⟩, ⟨some 39, .bin .add (.t 38) (.c (.int .i64 1)), none⟩, ⟨some 8, .mv (.t 39) true, none⟩]))
def L5_2 : C := .loop [0, 5, 6, 7, 8] 0 B5_2
theorem go5_2 (s : Env × Bx) (nb) : evL tab ext nb L5_2 s = (loopIn nb [0, 5, 6, 7, 8] 0 s).bind fun s0 => (evL tab ext nb B5_2 s0).bind (seqG tab ext nb L5_2) := eL_loop _ _ _
def B5_0 : C := .seq (.seq (.reg [⟨some 28, .mv (.t 6) false, none⟩, ⟨some 29, .mv (.t 5) false, none⟩, ⟨some 30, .len (.t 29), none⟩, ⟨some 31, .bin .lss (.t 28) (.t 30), none⟩])
  (.cond (.t 31) (.skip)
  (.exit 0)))
  (.seq (.block 1 (.seq (.reg [⟨some 7, .mv (.c (.int .i64 0)) true, none⟩])
  (.seq (.seq (.reg [⟨some 8, .mv (.c (.int .i64 0)) true, none⟩])
  (.block 2 (L5_2)))
  (.seq (.reg [⟨some 51, .mv (.t 7) false, none⟩, ⟨some 52, .mv (.t 6) false, none⟩, ⟨some 53, .bin .gtr (.t 51) (.t 52), none⟩, ⟨some 54, .mv (.t 53) false, none⟩, ⟨some 55, .mv (.t 6) false, some (54, false)⟩, ⟨some 56, .bin .gtr (.t 55) (.c (.int .i64 0)), some (54, false)⟩, ⟨some 57, .mv (.t 56) false, some (54, false)⟩, ⟨some 58, .mv (.t 5) false, some (57, true)⟩, ⟨some 59, .mv (.t 6) false, some (57, true)⟩, ⟨some 60, .bin .sub (.t 59) (.c (.int .i64 1)), some (57, true)⟩, ⟨some 61, .ia 1 (.t 58) (.t 60), some (57, true)⟩, ⟨some 62, .load 1 false (.t 61) false, some (57, true)⟩, ⟨some 63, .mv (.t 5) false, some (57, true)⟩, ⟨some 64, .mv (.t 6) false, some (57, true)⟩, ⟨some 65, .ia 1 (.t 63) (.t 64), some (57, true)⟩, ⟨some 66, .load 1 false (.t 65) false, some (57, true)⟩, ⟨some 67, .bin .lss (.t 62) (.t 66), some (57, true)⟩, ⟨some 68, .pick (.t 57) (.t 67) (.c (.bool false)), some (54, false)⟩, ⟨some 69, .pick (.t 54) (.c (.bool true)) (.t 68), none⟩, ⟨some 70, .mv (.t 69) false, none⟩, ⟨some 71, .mv (.t 0) false, some (70, false)⟩, ⟨some 72, .mv (.t 5) false, some (70, false)⟩, ⟨some 73, .mv (.t 6) false, some (70, false)⟩, ⟨some 74, .ia 1 (.t 72) (.t 73), some (70, false)⟩, ⟨some 75, .load 1 false (.t 74) false, some (70, false)⟩, ⟨some 76, .call 23 [(.t 71), (.t 75)] false, some (70, false)⟩, ⟨some 77, .un .not (.t 76), some (70, false)⟩, ⟨some 78, .pick (.t 70) (.c (.bool true)) (.t 77), none⟩])
  (.cond (.t 78) (.seq (.reg [⟨some 4, .mv (.c (.bool false)) true, none⟩])
  (.ret))
  (.skip))))))
  (.reg [⟨some 32, .mv (.t 6) false, none⟩, ⟨some 33, .bin .add (.t 32) (.c (.int .i64 1)), none⟩, ⟨some 6, .mv (.t 33) true, none⟩]))
def L5_0 : C := .loop [0, 5, 6] 0 B5_0
theorem go5_0 (s : Env × Bx) (nb) : evL tab ext nb L5_0 s = (loopIn nb [0, 5, 6] 0 s).bind fun s0 => (evL tab ext nb B5_0 s0).bind (seqG tab ext nb L5_0) := eL_loop _ _ _
/-- swingbridge/swingbridgelaw2.SortedTops -/
def C5 : CFun := ⟨79, 2, .seq (.reg [⟨some 4, .mv (.c (.bool false)) true, none⟩])
  (.seq (.seq (.reg [⟨some 9, .call 10 [] false, none⟩, ⟨some 10, .un .not (.t 9), none⟩])
  (.cond (.t 10) (.seq (.reg [⟨some 4, .mv (.c (.bool false)) true, none⟩])
  (.ret))
  (.skip)))
  (.seq (.seq (.reg [⟨some 11, .mv (.t 0) false, none⟩, ⟨some 12, .len (.t 11), none⟩, ⟨some 13, .bin .gtr (.t 12) (.c (.int .i64 50)), none⟩])
  (.cond (.t 13) (.seq (.reg [⟨some 4, .mv (.c (.bool true)) true, none⟩])
  (.ret))
  (.skip)))
  (.seq (.reg [⟨some 14, .mv (.t 0) false, none⟩, ⟨some 15, .mv (.t 1) false, none⟩, ⟨some 16, .bin .rem (.t 15) (.c (.int .u8 60)), none⟩, ⟨some 17, .conv .i64 (.t 16), none⟩, ⟨some 18, .call 19 [(.t 14), (.t 17)] false, none⟩, ⟨some 5, .mv (.t 18) true, none⟩])
  (.seq (.seq (.reg [⟨some 19, .mv (.t 5) false, none⟩, ⟨some 20, .len (.t 19), none⟩, ⟨some 21, .mv (.t 1) false, none⟩, ⟨some 22, .bin .rem (.t 21) (.c (.int .u8 60)), none⟩, ⟨some 23, .conv .i64 (.t 22), none⟩, ⟨some 24, .mv (.t 0) false, none⟩, ⟨some 25, .len (.t 24), none⟩, ⟨some 26, .mxn false [(.t 23), (.t 25)], none⟩, ⟨some 27, .bin .neq (.t 20) (.t 26), none⟩])
  (.cond (.t 27) (.seq (.reg [⟨some 4, .mv (.c (.bool false)) true, none⟩])
  (.ret))
  (.skip)))
  (.seq (.seq (.reg [⟨some 6, .mv (.c (.int .i64 0)) true, none⟩])
  (.block 0 (L5_0)))
  (.seq (.reg [⟨some 4, .mv (.c (.bool true)) true, none⟩])
  (.ret))))))), [.t 4]⟩
theorem row5 : RowOk Try.prog 5 C5 := ⟨Try.f5, ⟨[], [], [], []⟩, lvOf [(0, [0, 5, 6], 0), (2, [0, 5, 6, 7, 8], 0)], Try.func5, by kernel_rfl, by kernel_rfl⟩
def B6_0 : C := .seq (.seq (.reg [⟨some 10, .mv (.t 4) false, none⟩, ⟨some 11, .mv (.t 0) false, none⟩, ⟨some 12, .len (.t 11), none⟩, ⟨some 13, .bin .lss (.t 10) (.t 12), none⟩])
  (.cond (.t 13) (.skip)
  (.exit 0)))
  (.seq (.block 1 (.seq (.reg [⟨some 16, .mv (.t 3) false, none⟩, ⟨some 17, .mv (.t 0) false, none⟩, ⟨some 18, .mv (.t 4) false, none⟩, ⟨some 19, .ia 2 (.t 17) (.t 18), none⟩, ⟨some 20, .load 2 true (.t 19) false, none⟩, ⟨some 21, .call 16 [(.t 16), (.t 20)] false, none⟩, ⟨some 3, .mv (.t 21) true, none⟩])
  (.seq (.reg [⟨some 22, .mv (.t 3) false, none⟩, ⟨some 23, .len (.t 22), none⟩, ⟨some 24, .mv (.t 4) false, none⟩, ⟨some 25, .bin .add (.t 24) (.c (.int .i64 1)), none⟩, ⟨some 26, .bin .neq (.t 23) (.t 25), none⟩, ⟨some 27, .mv (.t 26) false, none⟩, ⟨some 28, .mv (.t 3) false, some (27, false)⟩, ⟨some 29, .call 14 [(.t 28)] false, some (27, false)⟩, ⟨some 30, .un .not (.t 29), some (27, false)⟩, ⟨some 31, .pick (.t 27) (.c (.bool true)) (.t 30), none⟩])
  (.cond (.t 31) (.seq (.reg [⟨some 2, .mv (.c (.bool false)) true, none⟩])
  (.ret))
  (.skip)))))
  (.reg [⟨some 14, .mv (.t 4) false, none⟩, ⟨some 15, .bin .add (.t 14) (.c (.int .i64 1)), none⟩, ⟨some 4, .mv (.t 15) true, none⟩]))
def L6_0 : C := .loop [0, 3, 4] 0 B6_0
theorem go6_0 (s : Env × Bx) (nb) : evL tab ext nb L6_0 s = (loopIn nb [0, 3, 4] 0 s).bind fun s0 => (evL tab ext nb B6_0 s0).bind (seqG tab ext nb L6_0) := eL_loop _ _ _
/-- swingbridge/swingbridgelaw2.SortedOnes -/
def C6 : CFun := ⟨42, 1, .seq (.reg [⟨some 2, .mv (.c (.bool false)) true, none⟩])
  (.seq (.seq (.reg [⟨some 5, .call 10 [] false, none⟩, ⟨some 6, .un .not (.t 5), none⟩])
  (.cond (.t 6) (.seq (.reg [⟨some 2, .mv (.c (.bool false)) true, none⟩])
  (.ret))
  (.skip)))
  (.seq (.seq (.reg [⟨some 7, .mv (.t 0) false, none⟩, ⟨some 8, .len (.t 7), none⟩, ⟨some 9, .bin .gtr (.t 8) (.c (.int .i64 40)), none⟩])
  (.cond (.t 9) (.seq (.reg [⟨some 2, .mv (.c (.bool true)) true, none⟩])
  (.ret))
  (.skip)))
  (.seq (.reg [⟨some 3, .mv (.c (.slice none 0 0)) true, none⟩])
  (.seq (.seq (.reg [⟨some 4, .mv (.c (.int .i64 0)) true, none⟩])
  (.block 0 (L6_0)))
  (.seq (.reg [⟨some 32, .mv (.t 3) false, none⟩, ⟨some 33, .mv (.t 0) false, none⟩, ⟨some 34, .call 13 [(.t 33)] false, none⟩, ⟨some 35, .call 12 [(.t 32), (.t 34)] false, none⟩, ⟨some 36, .mv (.t 35) false, none⟩, ⟨some 37, .mv (.t 3) false, some (36, true)⟩, ⟨some 38, .call 13 [(.t 37)] false, some (36, true)⟩, ⟨some 39, .mv (.t 3) false, some (36, true)⟩, ⟨some 40, .call 12 [(.t 38), (.t 39)] false, some (36, true)⟩, ⟨some 41, .pick (.t 36) (.t 40) (.c (.bool false)), none⟩, ⟨some 2, .mv (.t 41) true, none⟩])
  (.ret)))))), [.t 2]⟩
theorem row6 : RowOk Try.prog 6 C6 := ⟨Try.f6, ⟨[], [], [], []⟩, lvOf [(0, [0, 3, 4], 0)], Try.func6, by kernel_rfl, by kernel_rfl⟩
def B7_0 : C := .seq (.seq (.reg [⟨some 18, .mv (.t 9) false, none⟩, ⟨some 19, .mv (.t 0) false, none⟩, ⟨some 20, .len (.t 19), none⟩, ⟨some 21, .bin .lss (.t 18) (.t 20), none⟩])
  (.cond (.t 21) (.skip)
  (.exit 0)))
  (.seq (.block 1 (.seq (.reg [⟨some 24, .mv (.t 7) true, none⟩, ⟨some 25, .mv (.t 0) false, none⟩, ⟨some 26, .mv (.t 9) false, none⟩, ⟨some 27, .ia 1 (.t 25) (.t 26), none⟩, ⟨some 28, .load 1 false (.t 27) false, none⟩, ⟨some 29, .conv .i64 (.t 28), none⟩, ⟨some 30, .bsl 1 1 [(.int .i64 0)] [(0, 1, (.t 29))] false, none⟩, ⟨some 31, .app 1 8 (.t 24) (.t 30) false, none⟩, ⟨some 7, .mv (.t 31) true, none⟩])
  (.reg [⟨some 32, .mv (.t 8) false, none⟩, ⟨some 33, .mv (.t 0) false, none⟩, ⟨some 34, .mv (.t 9) false, none⟩, ⟨some 35, .ia 1 (.t 33) (.t 34), none⟩, ⟨some 36, .load 1 false (.t 35) false, none⟩, ⟨some 37, .conv .i64 (.t 36), none⟩, ⟨some 38, .bin .add (.t 32) (.t 37), none⟩, ⟨some 8, .mv (.t 38) true, none⟩])))
  (.reg [⟨some 22, .mv (.t 9) false, none⟩, ⟨some 23, .bin .add (.t 22) (.c (.int .i64 1)), none⟩, ⟨some 9, .mv (.t 23) true, none⟩]))
def L7_0 : C := .loop [0, 1, 2, 7, 8, 9] 0 B7_0
theorem go7_0 (s : Env × Bx) (nb) : evL tab ext nb L7_0 s = (loopIn nb [0, 1, 2, 7, 8, 9] 0 s).bind fun s0 => (evL tab ext nb B7_0 s0).bind (seqG tab ext nb L7_0) := eL_loop _ _ _
/-- swingbridge/swingbridgelaw2.SortedSums -/
def C7 : CFun := ⟨82, 3, .seq (.reg [⟨some 6, .mv (.c (.bool false)) true, none⟩])
  (.seq (.seq (.reg [⟨some 13, .call 10 [] false, none⟩, ⟨some 14, .un .not (.t 13), none⟩])
  (.cond (.t 14) (.seq (.reg [⟨some 6, .mv (.c (.bool false)) true, none⟩])
  (.ret))
  (.skip)))
  (.seq (.seq (.reg [⟨some 15, .mv (.t 0) false, none⟩, ⟨some 16, .len (.t 15), none⟩, ⟨some 17, .bin .gtr (.t 16) (.c (.int .i64 40)), none⟩])
  (.cond (.t 17) (.seq (.reg [⟨some 6, .mv (.c (.bool true)) true, none⟩])
  (.ret))
  (.skip)))
  (.seq (.reg [⟨some 7, .mv (.c (.slice none 0 0)) true, none⟩])
  (.seq (.reg [⟨some 8, .mv (.c (.int .i64 0)) true, none⟩])
  (.seq (.seq (.reg [⟨some 9, .mv (.c (.int .i64 0)) true, none⟩])
  (.block 0 (L7_0)))
  (.seq (.reg [⟨some 39, .mv (.t 1) false, none⟩, ⟨some 40, .bin .rem (.t 39) (.c (.int .u8 45)), none⟩, ⟨some 41, .conv .i64 (.t 40), none⟩, ⟨some 10, .mv (.t 41) true, none⟩])
  (.seq (.reg [⟨some 42, .mv (.t 7) false, none⟩, ⟨some 43, .mv (.t 10) false, none⟩, ⟨some 44, .call 21 [(.t 42), (.t 43)] false, none⟩, ⟨some 11, .mv (.t 44) true, none⟩])
  (.seq (.reg [⟨some 45, .mv (.t 7) false, none⟩, ⟨some 46, .app 1 8 (.c (.slice none 0 0)) (.t 45) false, none⟩, ⟨some 47, .mv (.t 2) false, none⟩, ⟨some 48, .conv .i64 (.t 47), none⟩, ⟨some 49, .bsl 1 1 [(.int .i64 0)] [(0, 1, (.t 48))] false, none⟩, ⟨some 50, .app 1 8 (.t 46) (.t 49) false, none⟩, ⟨some 51, .mv (.t 10) false, none⟩, ⟨some 52, .call 21 [(.t 50), (.t 51)] false, none⟩, ⟨some 12, .mv (.t 52) true, none⟩])
  (.seq (.reg [⟨some 53, .mv (.t 7) false, none⟩, ⟨some 54, .mv (.t 7) false, none⟩, ⟨some 55, .len (.t 54), none⟩, ⟨some 56, .call 21 [(.t 53), (.t 55)] false, none⟩, ⟨some 57, .mv (.t 8) false, none⟩, ⟨some 58, .bin .eql (.t 56) (.t 57), none⟩, ⟨some 59, .mv (.t 58) false, none⟩, ⟨some 60, .mv (.t 11) false, some (59, true)⟩, ⟨some 61, .mv (.t 8) false, some (59, true)⟩, ⟨some 62, .bin .leq (.t 60) (.t 61), some (59, true)⟩, ⟨some 63, .pick (.t 59) (.t 62) (.c (.bool false)), none⟩, ⟨some 64, .mv (.t 63) false, none⟩, ⟨some 65, .mv (.t 12) false, some (64, true)⟩, ⟨some 66, .mv (.t 11) false, some (64, true)⟩, ⟨some 67, .bin .geq (.t 65) (.t 66), some (64, true)⟩, ⟨some 68, .pick (.t 64) (.t 67) (.c (.bool false)), none⟩, ⟨some 69, .mv (.t 68) false, none⟩, ⟨some 70, .mv (.t 7) false, some (69, true)⟩, ⟨some 71, .call 21 [(.t 70), (.c (.int .i64 (-1)))] false, some (69, true)⟩, ⟨some 72, .bin .eql (.t 71) (.c (.int .i64 0)), some (69, true)⟩, ⟨some 73, .pick (.t 69) (.t 72) (.c (.bool false)), none⟩, ⟨some 74, .mv (.t 73) false, none⟩, ⟨some 75, .mv (.t 7) false, some (74, true)⟩, ⟨some 76, .mv (.t 10) false, some (74, true)⟩, ⟨some 77, .bin .add (.t 76) (.c (.int .i64 1)), some (74, true)⟩, ⟨some 78, .call 21 [(.t 75), (.t 77)] false, some (74, true)⟩, ⟨some 79, .mv (.t 11) false, some (74, true)⟩, ⟨some 80, .bin .geq (.t 78) (.t 79), some (74, true)⟩, ⟨some 81, .pick (.t 74) (.t 80) (.c (.bool false)), none⟩, ⟨some 6, .mv (.t 81) true, none⟩])
  (.ret)))))))))), [.t 6]⟩
theorem row7 : RowOk Try.prog 7 C7 := ⟨Try.f7, ⟨[], [], [], []⟩, lvOf [(0, [0, 1, 2, 7, 8, 9], 0)], Try.func7, by kernel_rfl, by kernel_rfl⟩
def B8_2 : C := .seq (.seq (.reg [⟨some 139, .mv (.t 20) false, none⟩, ⟨some 140, .mv (.t 16) false, none⟩, ⟨some 141, .len (.t 140), none⟩, ⟨some 142, .bin .lss (.t 139) (.t 141), none⟩, ⟨some 143, .mv (.t 142) false, none⟩, ⟨some 144, .mv (.t 17) false, some (143, true)⟩, ⟨some 145, .pick (.t 143) (.t 144) (.c (.bool false)), none⟩])
  (.cond (.t 145) (.skip)
  (.exit 2)))
  (.seq (.block 3 (.seq (.reg [⟨some 148, .fa 3 (.t 5), none⟩, ⟨some 149, .load 1 false (.t 148) false, none⟩, ⟨some 150, .mv (.t 15) false, none⟩, ⟨some 151, .ia 6 (.t 149) (.t 150), none⟩, ⟨some 152, .fa 5 (.t 151), none⟩, ⟨some 153, .load 1 false (.t 152) false, none⟩, ⟨some 154, .mv (.t 20) false, none⟩, ⟨some 155, .ia 3 (.t 153) (.t 154), none⟩, ⟨some 156, .load 3 true (.t 155) false, none⟩, ⟨some 21, .alloc [(.int .i64 0), (.int .i64 0), (.int .i64 0)], none⟩, ⟨none, .store 3 (.t 21) (.t 156), none⟩])
  (.seq (.reg [⟨some 157, .mv (.t 16) false, none⟩, ⟨some 158, .mv (.t 20) false, none⟩, ⟨some 159, .ia 1 (.t 157) (.t 158), none⟩, ⟨some 160, .load 1 false (.t 159) false, none⟩, ⟨some 161, .bin .gtr (.t 160) (.c (.int .i64 0)), none⟩, ⟨some 162, .fa 0 (.t 21), none⟩, ⟨some 163, .load 1 false (.t 162) false, none⟩, ⟨some 164, .bin .eql (.t 163) (.c (.int .i64 3)), none⟩, ⟨some 165, .eqb true (.t 161) (.t 164), none⟩, ⟨some 166, .mv (.t 165) false, none⟩, ⟨some 167, .fa 0 (.t 21), some (166, false)⟩, ⟨some 168, .load 1 false (.t 167) false, some (166, false)⟩, ⟨some 169, .bin .eql (.t 168) (.c (.int .i64 3)), some (166, false)⟩, ⟨some 170, .mv (.t 169) false, some (166, false)⟩, ⟨some 171, .mv (.t 16) false, some (170, true)⟩, ⟨some 172, .mv (.t 20) false, some (170, true)⟩, ⟨some 173, .ia 1 (.t 171) (.t 172), some (170, true)⟩, ⟨some 174, .load 1 false (.t 173) false, some (170, true)⟩, ⟨some 175, .fa 1 (.t 21), some (170, true)⟩, ⟨some 176, .load 1 false (.t 175) false, some (170, true)⟩, ⟨some 177, .bin .lss (.t 174) (.t 176), some (170, true)⟩, ⟨some 178, .pick (.t 170) (.t 177) (.c (.bool false)), some (166, false)⟩, ⟨some 179, .pick (.t 166) (.c (.bool true)) (.t 178), none⟩, ⟨some 180, .mv (.t 179) false, none⟩, ⟨some 181, .mv (.t 19) false, some (180, false)⟩, ⟨some 182, .mv (.t 181) false, some (180, false)⟩, ⟨some 183, .mv (.t 20) false, some (182, true)⟩, ⟨some 184, .mv (.t 18) false, some (182, true)⟩, ⟨some 185, .len (.t 184), some (182, true)⟩, ⟨some 186, .bin .lss (.t 183) (.t 185), some (182, true)⟩, ⟨some 187, .pick (.t 182) (.t 186) (.c (.bool false)), some (180, false)⟩, ⟨some 188, .mv (.t 187) false, some (180, false)⟩, ⟨some 189, .mv (.t 18) false, some (188, true)⟩, ⟨some 190, .mv (.t 20) false, some (188, true)⟩, ⟨some 191, .ia 1 (.t 189) (.t 190), some (188, true)⟩, ⟨some 192, .load 1 false (.t 191) false, some (188, true)⟩, ⟨some 193, .mv (.t 16) false, some (188, true)⟩, ⟨some 194, .mv (.t 20) false, some (188, true)⟩, ⟨some 195, .ia 1 (.t 193) (.t 194), some (188, true)⟩, ⟨some 196, .load 1 false (.t 195) false, some (188, true)⟩, ⟨some 197, .bin .lss (.t 192) (.t 196), some (188, true)⟩, ⟨some 198, .pick (.t 188) (.t 197) (.c (.bool false)), some (180, false)⟩, ⟨some 199, .pick (.t 180) (.c (.bool true)) (.t 198), none⟩])
  (.cond (.t 199) (.seq (.reg [⟨some 10, .mv (.c (.bool false)) true, none⟩])
  (.ret))
  (.skip)))))
  (.reg [⟨some 146, .mv (.t 20) false, none⟩, ⟨some 147, .bin .add (.t 146) (.c (.int .i64 1)), none⟩, ⟨some 20, .mv (.t 147) true, none⟩]))
def L8_2 : C := .loop [1, 5, 12, 15, 16, 17, 18, 19, 20] 0 B8_2
theorem go8_2 (s : Env × Bx) (nb) : evL tab ext nb L8_2 s = (loopIn nb [1, 5, 12, 15, 16, 17, 18, 19, 20] 0 s).bind fun s0 => (evL tab ext nb B8_2 s0).bind (seqG tab ext nb L8_2) := eL_loop _ _ _
def B8_0 : C := .seq (.seq (.reg [⟨some 98, .mv (.t 15) false, none⟩, ⟨some 99, .fa 3 (.t 5), none⟩, ⟨some 100, .load 1 false (.t 99) false, none⟩, ⟨some 101, .len (.t 100), none⟩, ⟨some 102, .bin .lss (.t 98) (.t 101), none⟩])
  (.cond (.t 102) (.skip)
  (.exit 0)))
  (.seq (.block 1 (.seq (.reg [⟨some 106, .load 4 true (.t 5) false, none⟩, ⟨some 107, .mv (.t 1) false, none⟩, ⟨some 108, .mv (.t 15) false, none⟩, ⟨some 109, .call 27 [(.t 106), (.t 107), (.t 108)] false, none⟩, ⟨some 105, .mv (.t 109) false, none⟩, ⟨some 110, .ext (.t 105) 0, none⟩, ⟨some 111, .ext (.t 105) 1, none⟩, ⟨some 16, .mv (.t 110) true, none⟩, ⟨some 17, .mv (.t 111) true, none⟩])
  (.seq (.reg [⟨some 113, .load 4 true (.t 12) false, none⟩, ⟨some 114, .mv (.t 1) false, none⟩, ⟨some 115, .mv (.t 15) false, none⟩, ⟨some 116, .call 27 [(.t 113), (.t 114), (.t 115)] false, none⟩, ⟨some 112, .mv (.t 116) false, none⟩, ⟨some 117, .ext (.t 112) 0, none⟩, ⟨some 118, .ext (.t 112) 1, none⟩, ⟨some 18, .mv (.t 117) true, none⟩, ⟨some 19, .mv (.t 118) true, none⟩])
  (.seq (.seq (.reg [⟨some 119, .mv (.t 19) false, none⟩, ⟨some 120, .mv (.t 119) false, none⟩, ⟨some 121, .mv (.t 17) false, some (120, true)⟩, ⟨some 122, .un .not (.t 121), some (120, true)⟩, ⟨some 123, .pick (.t 120) (.t 122) (.c (.bool false)), none⟩, ⟨some 124, .mv (.t 123) false, none⟩, ⟨some 125, .mv (.t 17) false, some (124, false)⟩, ⟨some 126, .mv (.t 125) false, some (124, false)⟩, ⟨some 127, .mv (.t 16) false, some (126, true)⟩, ⟨some 128, .len (.t 127), some (126, true)⟩, ⟨some 129, .fa 3 (.t 5), some (126, true)⟩, ⟨some 130, .load 1 false (.t 129) false, some (126, true)⟩, ⟨some 131, .mv (.t 15) false, some (126, true)⟩, ⟨some 132, .ia 6 (.t 130) (.t 131), some (126, true)⟩, ⟨some 133, .fa 5 (.t 132), some (126, true)⟩, ⟨some 134, .load 1 false (.t 133) false, some (126, true)⟩, ⟨some 135, .len (.t 134), some (126, true)⟩, ⟨some 136, .bin .neq (.t 128) (.t 135), some (126, true)⟩, ⟨some 137, .pick (.t 126) (.t 136) (.c (.bool false)), some (124, false)⟩, ⟨some 138, .pick (.t 124) (.c (.bool true)) (.t 137), none⟩])
  (.cond (.t 138) (.seq (.reg [⟨some 10, .mv (.c (.bool false)) true, none⟩])
  (.ret))
  (.skip)))
  (.seq (.reg [⟨some 20, .mv (.c (.int .i64 0)) true, none⟩])
  (.block 2 (L8_2)))))))
  (.reg [⟨some 103, .mv (.t 15) false, none⟩, ⟨some 104, .bin .add (.t 103) (.c (.int .i64 1)), none⟩, ⟨some 15, .mv (.t 104) true, none⟩]))
def L8_0 : C := .loop [1, 5, 12, 15] 0 B8_0
theorem go8_0 (s : Env × Bx) (nb) : evL tab ext nb L8_0 s = (loopIn nb [1, 5, 12, 15] 0 s).bind fun s0 => (evL tab ext nb B8_0 s0).bind (seqG tab ext nb L8_0) := eL_loop _ _ _
/-- swingbridge/swingbridgelaw16.WaitLeast -/
def C8 : CFun := ⟨200, 5, .seq (.reg [⟨some 5, .box (.t 0), none⟩, ⟨some 10, .mv (.c (.bool false)) true, none⟩])
  (.seq (.seq (.reg [⟨some 22, .call 24 [] false, none⟩, ⟨some 23, .un .not (.t 22), none⟩])
  (.cond (.t 23) (.seq (.reg [⟨some 10, .mv (.c (.bool false)) true, none⟩])
  (.ret))
  (.skip)))
  (.seq (.seq (.reg [⟨some 24, .load 4 true (.t 5) false, none⟩, ⟨some 25, .call 25 [(.t 24)] false, none⟩, ⟨some 26, .un .not (.t 25), none⟩, ⟨some 27, .mv (.t 26) false, none⟩, ⟨some 28, .load 4 true (.t 5) false, some (27, false)⟩, ⟨some 29, .call 26 [(.t 28), (.c (.int .i64 0))] false, some (27, false)⟩, ⟨some 30, .un .not (.t 29), some (27, false)⟩, ⟨some 31, .pick (.t 27) (.c (.bool true)) (.t 30), none⟩, ⟨some 32, .mv (.t 31) false, none⟩, ⟨some 33, .mv (.t 1) false, some (32, false)⟩, ⟨some 34, .len (.t 33), some (32, false)⟩, ⟨some 35, .fa 3 (.t 5), some (32, false)⟩, ⟨some 36, .load 1 false (.t 35) false, some (32, false)⟩, ⟨some 37, .len (.t 36), some (32, false)⟩, ⟨some 38, .bin .neq (.t 34) (.t 37), some (32, false)⟩, ⟨some 39, .pick (.t 32) (.c (.bool true)) (.t 38), none⟩])
  (.cond (.t 39) (.seq (.reg [⟨some 10, .mv (.c (.bool true)) true, none⟩])
  (.ret))
  (.skip)))
  (.seq (.reg [⟨some 40, .mv (.t 2) false, none⟩, ⟨some 41, .conv .i64 (.t 40), none⟩, ⟨some 42, .fa 3 (.t 5), none⟩, ⟨some 43, .load 1 false (.t 42) false, none⟩, ⟨some 44, .len (.t 43), none⟩, ⟨some 45, .bin .rem (.t 41) (.t 44), none⟩, ⟨some 11, .mv (.t 45) true, none⟩])
  (.seq (.reg [⟨some 46, .load 4 true (.t 5) false, none⟩, ⟨some 12, .alloc [(.int .i64 0), (.slice none 0 0), (.slice none 0 0), (.slice none 0 0)], none⟩, ⟨none, .store 4 (.t 12) (.t 46), none⟩])
  (.seq (.reg [⟨some 47, .fa 3 (.t 5), none⟩, ⟨some 48, .load 1 false (.t 47) false, none⟩, ⟨some 49, .app 6 72 (.c (.slice none 0 0)) (.t 48) true, none⟩, ⟨some 50, .fa 3 (.t 12), none⟩, ⟨none, .store 1 (.t 50) (.t 49), none⟩])
  (.seq (.dreg [] [] [⟨some 51, .fa 3 (.t 12), none⟩, ⟨some 52, .load 1 false (.t 51) false, none⟩, ⟨some 53, .mv (.t 11) false, none⟩, ⟨some 54, .fa 3 (.t 5), none⟩, ⟨some 55, .load 1 false (.t 54) false, none⟩, ⟨some 56, .mv (.t 11) false, none⟩, ⟨some 57, .ia 6 (.t 55) (.t 56), none⟩, ⟨some 58, .fa 5 (.t 57), none⟩, ⟨some 59, .load 1 false (.t 58) false, none⟩, ⟨some 60, .app 3 24 (.c (.slice none 0 0)) (.t 59) true, none⟩, ⟨some 61, .ia 6 (.t 52) (.t 53), none⟩, ⟨some 62, .fa 5 (.t 61), none⟩, ⟨none, .store 1 (.t 62) (.t 60), none⟩])
  (.seq (.reg [⟨some 63, .mv (.t 3) false, none⟩, ⟨some 64, .conv .i64 (.t 63), none⟩, ⟨some 65, .fa 3 (.t 12), none⟩, ⟨some 66, .load 1 false (.t 65) false, none⟩, ⟨some 67, .mv (.t 11) false, none⟩, ⟨some 68, .ia 6 (.t 66) (.t 67), none⟩, ⟨some 69, .fa 5 (.t 68), none⟩, ⟨some 70, .load 1 false (.t 69) false, none⟩, ⟨some 71, .len (.t 70), none⟩, ⟨some 72, .bin .rem (.t 64) (.t 71), none⟩, ⟨some 13, .mv (.t 72) true, none⟩])
  (.seq (.reg [⟨some 73, .fa 3 (.t 12), none⟩, ⟨some 74, .load 1 false (.t 73) false, none⟩, ⟨some 75, .mv (.t 11) false, none⟩, ⟨some 76, .ia 6 (.t 74) (.t 75), none⟩, ⟨some 77, .fa 5 (.t 76), none⟩, ⟨some 78, .load 1 false (.t 77) false, none⟩, ⟨some 79, .mv (.t 13) false, none⟩, ⟨some 80, .ia 3 (.t 78) (.t 79), none⟩, ⟨some 81, .load 3 true (.t 80) false, none⟩, ⟨some 14, .alloc [(.int .i64 0), (.int .i64 0), (.int .i64 0)], none⟩, ⟨none, .store 3 (.t 14) (.t 81), none⟩])
  (.seq (.reg [⟨some 82, .fa 3 (.t 12), none⟩, ⟨some 83, .load 1 false (.t 82) false, none⟩, ⟨some 84, .mv (.t 11) false, none⟩, ⟨some 85, .ia 6 (.t 83) (.t 84), none⟩, ⟨some 86, .fa 5 (.t 85), none⟩, ⟨some 87, .load 1 false (.t 86) false, none⟩, ⟨some 88, .mv (.t 13) false, none⟩, ⟨some 89, .fa 1 (.t 14), none⟩, ⟨some 90, .load 1 false (.t 89) false, none⟩, ⟨some 91, .mv (.t 4) false, none⟩, ⟨some 92, .bin .rem (.t 91) (.c (.int .u8 20)), none⟩, ⟨some 93, .conv .i64 (.t 92), none⟩, ⟨some 94, .bin .add (.t 90) (.t 93), none⟩, ⟨some 95, .mxn false [(.c (.int .i64 60)), (.t 94)], none⟩, ⟨some 96, .ia 3 (.t 87) (.t 88), none⟩, ⟨some 97, .fa 1 (.t 96), none⟩, ⟨none, .store 1 (.t 97) (.t 95), none⟩])
  (.seq (.seq (.reg [⟨some 15, .mv (.c (.int .i64 0)) true, none⟩])
  (.block 0 (L8_0)))
  (.seq (.reg [⟨some 10, .mv (.c (.bool true)) true, none⟩])
  (.ret)))))))))))), [.t 10]⟩
theorem row8 : RowOk Try.prog 8 C8 := ⟨Try.f8, ⟨[], [49, 60], [], []⟩, lvOf [(0, [1, 5, 12, 15], 0), (2, [1, 5, 12, 15, 16, 17, 18, 19, 20], 0)], Try.func8, by kernel_rfl, by kernel_rfl⟩
def B9_0 : C := .seq (.seq (.reg [⟨some 95, .mv (.t 16) false, none⟩, ⟨some 96, .bin .leq (.t 95) (.c (.int .i64 3000)), none⟩, ⟨some 97, .mv (.t 96) false, none⟩, ⟨some 98, .mv (.t 8) false, some (97, true)⟩, ⟨some 99, .mv (.t 7) false, some (97, true)⟩, ⟨some 100, .mv (.t 16) false, some (97, true)⟩, ⟨some 101, .bin .add (.t 100) (.c (.int .i64 90)), some (97, true)⟩, ⟨some 102, .bin .add (.t 101) (.c (.int .i64 99)), some (97, true)⟩, ⟨some 103, .bin .quo (.t 102) (.c (.int .i64 100)), some (97, true)⟩, ⟨some 104, .bin .mul (.t 99) (.t 103), some (97, true)⟩, ⟨some 105, .bin .add (.t 98) (.t 104), some (97, true)⟩, ⟨some 106, .mv (.t 16) false, some (97, true)⟩, ⟨some 107, .bin .neq (.t 105) (.t 106), some (97, true)⟩, ⟨some 108, .pick (.t 97) (.t 107) (.c (.bool false)), none⟩])
  (.cond (.t 108) (.skip)
  (.exit 0)))
  (.block 1 (.reg [⟨some 109, .mv (.t 8) false, none⟩, ⟨some 110, .mv (.t 7) false, none⟩, ⟨some 111, .mv (.t 16) false, none⟩, ⟨some 112, .bin .add (.t 111) (.c (.int .i64 90)), none⟩, ⟨some 113, .bin .add (.t 112) (.c (.int .i64 99)), none⟩, ⟨some 114, .bin .quo (.t 113) (.c (.int .i64 100)), none⟩, ⟨some 115, .bin .mul (.t 110) (.t 114), none⟩, ⟨some 116, .bin .add (.t 109) (.t 115), none⟩, ⟨some 16, .mv (.t 116) true, none⟩]))
def L9_0 : C := .loop [7, 8, 12, 13, 14, 15, 16] 1 B9_0
theorem go9_0 (s : Env × Bx) (nb) : evL tab ext nb L9_0 s = (loopIn nb [7, 8, 12, 13, 14, 15, 16] 1 s).bind fun s0 => (evL tab ext nb B9_0 s0).bind (seqG tab ext nb L9_0) := eL_loop _ _ _
/-- swingbridge/swingbridgelaw16.WaitProtocols -/
def C9 : CFun := ⟨140, 3, .seq (.reg [⟨some 6, .mv (.c (.bool false)) true, none⟩])
  (.seq (.seq (.reg [⟨some 17, .call 24 [] false, none⟩, ⟨some 18, .un .not (.t 17), none⟩])
  (.cond (.t 18) (.seq (.reg [⟨some 6, .mv (.c (.bool false)) true, none⟩])
  (.ret))
  (.skip)))
  (.seq (.reg [⟨some 19, .mv (.t 0) false, none⟩, ⟨some 20, .bin .rem (.t 19) (.c (.int .u8 50)), none⟩, ⟨some 21, .conv .i64 (.t 20), none⟩, ⟨some 22, .bin .add (.t 21) (.c (.int .i64 1)), none⟩, ⟨some 23, .mv (.t 1) false, none⟩, ⟨some 24, .bin .rem (.t 23) (.c (.int .u8 50)), none⟩, ⟨some 25, .conv .i64 (.t 24), none⟩, ⟨some 26, .bin .add (.t 25) (.c (.int .i64 1)), none⟩, ⟨some 7, .mv (.t 22) true, none⟩, ⟨some 8, .mv (.t 26) true, none⟩])
  (.seq (.reg [⟨some 27, .mv (.t 2) false, none⟩, ⟨some 28, .bin .rem (.t 27) (.c (.int .u8 3)), none⟩, ⟨some 29, .conv .i64 (.t 28), none⟩, ⟨some 30, .bin .add (.t 29) (.c (.int .i64 1)), none⟩, ⟨some 9, .mv (.t 30) true, none⟩])
  (.seq (.reg [⟨some 31, .mv (.t 9) false, none⟩, ⟨some 32, .mv (.t 7) false, none⟩, ⟨some 33, .mv (.t 8) false, none⟩, ⟨some 34, .call 28 [(.t 31), (.c (.int .i64 1)), (.t 32), (.c (.int .i64 1)), (.t 33)] false, none⟩, ⟨some 10, .alloc [(.int .i64 0), (.slice none 0 0), (.slice none 0 0), (.slice none 0 0)], none⟩, ⟨none, .store 4 (.t 10) (.t 34), none⟩])
  (.seq (.reg [⟨some 35, .bsl 1 2 [(.int .i64 0), (.int .i64 0)] [(0, 1, (.c (.int .i64 90))), (1, 1, (.c (.int .i64 190)))] false, none⟩, ⟨some 11, .mv (.t 35) true, none⟩])
  (.seq (.reg [⟨some 37, .load 4 true (.t 10) false, none⟩, ⟨some 38, .mv (.t 11) false, none⟩, ⟨some 39, .call 29 [(.t 37), (.t 38), (.c (.int .i64 0)), (.c (.int .i64 1))] false, none⟩, ⟨some 36, .mv (.t 39) false, none⟩, ⟨some 40, .ext (.t 36) 0, none⟩, ⟨some 41, .ext (.t 36) 1, none⟩, ⟨some 12, .mv (.t 40) true, none⟩, ⟨some 13, .mv (.t 41) true, none⟩])
  (.seq (.reg [⟨some 43, .load 4 true (.t 10) false, none⟩, ⟨some 44, .mv (.t 11) false, none⟩, ⟨some 45, .call 29 [(.t 43), (.t 44), (.c (.int .i64 1)), (.c (.int .i64 1))] false, none⟩, ⟨some 42, .mv (.t 45) false, none⟩, ⟨some 46, .ext (.t 42) 0, none⟩, ⟨some 47, .ext (.t 42) 1, none⟩, ⟨some 14, .mv (.t 46) true, none⟩, ⟨some 15, .mv (.t 47) true, none⟩])
  (.seq (.seq (.reg [⟨some 48, .mv (.t 9) false, none⟩, ⟨some 49, .bin .eql (.t 48) (.c (.int .i64 3)), none⟩])
  (.cond (.t 49) (.seq (.reg [⟨some 50, .mv (.t 13) false, none⟩, ⟨some 51, .mv (.t 50) false, none⟩, ⟨some 52, .mv (.t 12) false, some (51, true)⟩, ⟨some 53, .mv (.t 7) false, some (51, true)⟩, ⟨some 54, .mv (.t 7) false, some (51, true)⟩, ⟨some 55, .mv (.t 8) false, some (51, true)⟩, ⟨some 56, .mxn true [(.t 54), (.t 55)], some (51, true)⟩, ⟨some 57, .bin .add (.t 53) (.t 56), some (51, true)⟩, ⟨some 58, .bin .eql (.t 52) (.t 57), some (51, true)⟩, ⟨some 59, .pick (.t 51) (.t 58) (.c (.bool false)), none⟩, ⟨some 60, .mv (.t 59) false, none⟩, ⟨some 61, .mv (.t 15) false, some (60, true)⟩, ⟨some 62, .pick (.t 60) (.t 61) (.c (.bool false)), none⟩, ⟨some 63, .mv (.t 62) false, none⟩, ⟨some 64, .mv (.t 14) false, some (63, true)⟩, ⟨some 65, .mv (.t 8) false, some (63, true)⟩, ⟨some 66, .mv (.t 7) false, some (63, true)⟩, ⟨some 67, .mv (.t 8) false, some (63, true)⟩, ⟨some 68, .mxn true [(.t 66), (.t 67)], some (63, true)⟩, ⟨some 69, .bin .add (.t 65) (.t 68), some (63, true)⟩, ⟨some 70, .bin .eql (.t 64) (.t 69), some (63, true)⟩, ⟨some 71, .pick (.t 63) (.t 70) (.c (.bool false)), none⟩, ⟨some 6, .mv (.t 71) true, none⟩])
  (.ret))
  (.skip)))
  (.seq (.seq (.reg [⟨some 72, .mv (.t 9) false, none⟩, ⟨some 73, .bin .eql (.t 72) (.c (.int .i64 1)), none⟩])
  (.cond (.t 73) (.seq (.reg [⟨some 74, .mv (.t 13) false, none⟩, ⟨some 75, .mv (.t 74) false, none⟩, ⟨some 76, .mv (.t 12) false, some (75, true)⟩, ⟨some 77, .mv (.t 7) false, some (75, true)⟩, ⟨some 78, .mv (.t 8) false, some (75, true)⟩, ⟨some 79, .bin .add (.t 77) (.t 78), some (75, true)⟩, ⟨some 80, .bin .eql (.t 76) (.t 79), some (75, true)⟩, ⟨some 81, .pick (.t 75) (.t 80) (.c (.bool false)), none⟩, ⟨some 82, .mv (.t 81) false, none⟩, ⟨some 83, .mv (.t 15) false, some (82, true)⟩, ⟨some 84, .pick (.t 82) (.t 83) (.c (.bool false)), none⟩, ⟨some 85, .mv (.t 84) false, none⟩, ⟨some 86, .mv (.t 14) false, some (85, true)⟩, ⟨some 87, .mv (.t 7) false, some (85, true)⟩, ⟨some 88, .mv (.t 8) false, some (85, true)⟩, ⟨some 89, .bin .add (.t 87) (.t 88), some (85, true)⟩, ⟨some 90, .bin .eql (.t 86) (.t 89), some (85, true)⟩, ⟨some 91, .pick (.t 85) (.t 90) (.c (.bool false)), none⟩, ⟨some 6, .mv (.t 91) true, none⟩])
  (.ret))
  (.skip)))
  (.seq (.reg [⟨some 92, .mv (.t 8) false, none⟩, ⟨some 93, .mv (.t 7) false, none⟩, ⟨some 94, .bin .add (.t 92) (.t 93), none⟩, ⟨some 16, .mv (.t 94) true, none⟩])
  (.seq (.block 0 (L9_0))
  (.seq (.reg [⟨some 117, .mv (.t 13) false, none⟩, ⟨some 118, .mv (.t 117) false, none⟩, ⟨some 119, .mv (.t 12) false, some (118, true)⟩, ⟨some 120, .mv (.t 7) false, some (118, true)⟩, ⟨some 121, .mv (.t 8) false, some (118, true)⟩, ⟨some 122, .bin .add (.t 120) (.t 121), some (118, true)⟩, ⟨some 123, .bin .eql (.t 119) (.t 122), some (118, true)⟩, ⟨some 124, .pick (.t 118) (.t 123) (.c (.bool false)), none⟩, ⟨some 125, .mv (.t 124) false, none⟩, ⟨some 126, .mv (.t 15) false, some (125, true)⟩, ⟨some 127, .mv (.t 16) false, some (125, true)⟩, ⟨some 128, .bin .leq (.t 127) (.c (.int .i64 3000)), some (125, true)⟩, ⟨some 129, .eqb false (.t 126) (.t 128), some (125, true)⟩, ⟨some 130, .pick (.t 125) (.t 129) (.c (.bool false)), none⟩, ⟨some 131, .mv (.t 130) false, none⟩, ⟨some 132, .mv (.t 15) false, some (131, true)⟩, ⟨some 133, .un .not (.t 132), some (131, true)⟩, ⟨some 134, .mv (.t 133) false, some (131, true)⟩, ⟨some 135, .mv (.t 14) false, some (134, false)⟩, ⟨some 136, .mv (.t 16) false, some (134, false)⟩, ⟨some 137, .bin .eql (.t 135) (.t 136), some (134, false)⟩, ⟨some 138, .pick (.t 134) (.c (.bool true)) (.t 137), some (131, true)⟩, ⟨some 139, .pick (.t 131) (.t 138) (.c (.bool false)), none⟩, ⟨some 6, .mv (.t 139) true, none⟩])
  (.ret))))))))))))), [.t 6]⟩
theorem row9 : RowOk Try.prog 9 C9 := ⟨Try.f9, ⟨[], [], [], []⟩, lvOf [(0, [7, 8, 12, 13, 14, 15, 16], 1)], Try.func9, by kernel_rfl, by kernel_rfl⟩
/-- swingbridge/swingbridgelaw2.known -/
def C10 : CFun := ⟨62, 0, .seq (.reg [⟨some 0, .mv (.c (.bool false)) true, none⟩])
  (.seq (.reg [⟨some 6, .build [(.int .i64 0), (.int .i64 0)] [(0, 1, (.c (.int .i64 5))), (1, 1, (.c (.int .i64 1)))], none⟩, ⟨some 7, .build [(.int .i64 0), (.int .i64 0)] [(0, 1, (.c (.int .i64 2))), (1, 1, (.c (.int .i64 2)))], none⟩, ⟨some 8, .build [(.int .i64 0), (.int .i64 0)] [(0, 1, (.c (.int .i64 5))), (1, 1, (.c (.int .i64 3)))], none⟩, ⟨some 1, .alloc [(.int .i64 0), (.int .i64 0)], none⟩, ⟨some 2, .alloc [(.int .i64 0), (.int .i64 0)], none⟩, ⟨some 3, .alloc [(.int .i64 0), (.int .i64 0)], none⟩, ⟨none, .store 2 (.t 1) (.t 6), none⟩, ⟨none, .store 2 (.t 2) (.t 7), none⟩, ⟨none, .store 2 (.t 3) (.t 8), none⟩])
  (.seq (.reg [⟨some 9, .load 2 true (.t 1) false, none⟩, ⟨some 10, .load 2 true (.t 2) false, none⟩, ⟨some 11, .load 2 true (.t 3) false, none⟩, ⟨some 12, .bsl 2 3 [(.int .i64 0), (.int .i64 0), (.int .i64 0), (.int .i64 0), (.int .i64 0), (.int .i64 0)] [(0, 2, (.t 9)), (2, 2, (.t 10)), (4, 2, (.t 11))] false, none⟩, ⟨some 13, .call 13 [(.t 12)] false, none⟩, ⟨some 4, .mv (.t 13) true, none⟩])
  (.seq (.reg [⟨some 14, .bsl 1 3 [(.int .i64 0), (.int .i64 0), (.int .i64 0)] [(0, 1, (.c (.int .i64 3))), (1, 1, (.c (.int .i64 9))), (2, 1, (.c (.int .i64 4)))] false, none⟩, ⟨some 15, .call 19 [(.t 14), (.c (.int .i64 2))] false, none⟩, ⟨some 5, .mv (.t 15) true, none⟩])
  (.seq (.reg [⟨some 16, .mv (.t 4) false, none⟩, ⟨some 17, .load 2 true (.t 2) false, none⟩, ⟨some 18, .load 2 true (.t 1) false, none⟩, ⟨some 19, .load 2 true (.t 3) false, none⟩, ⟨some 20, .bsl 2 3 [(.int .i64 0), (.int .i64 0), (.int .i64 0), (.int .i64 0), (.int .i64 0), (.int .i64 0)] [(0, 2, (.t 17)), (2, 2, (.t 18)), (4, 2, (.t 19))] false, none⟩, ⟨some 21, .call 12 [(.t 16), (.t 20)] false, none⟩, ⟨some 22, .mv (.t 21) false, none⟩, ⟨some 23, .mv (.t 4) false, some (22, true)⟩, ⟨some 24, .call 14 [(.t 23)] false, some (22, true)⟩, ⟨some 25, .pick (.t 22) (.t 24) (.c (.bool false)), none⟩, ⟨some 26, .mv (.t 25) false, none⟩, ⟨some 27, .load 2 true (.t 1) false, some (26, true)⟩, ⟨some 28, .load 2 true (.t 2) false, some (26, true)⟩, ⟨some 29, .bsl 2 2 [(.int .i64 0), (.int .i64 0), (.int .i64 0), (.int .i64 0)] [(0, 2, (.t 27)), (2, 2, (.t 28))] false, some (26, true)⟩, ⟨some 30, .call 14 [(.t 29)] false, some (26, true)⟩, ⟨some 31, .un .not (.t 30), some (26, true)⟩, ⟨some 32, .pick (.t 26) (.t 31) (.c (.bool false)), none⟩, ⟨some 33, .mv (.t 32) false, none⟩, ⟨some 34, .mv (.t 4) false, some (33, true)⟩, ⟨some 35, .load 2 true (.t 2) false, some (33, true)⟩, ⟨some 36, .call 16 [(.t 34), (.t 35)] false, some (33, true)⟩, ⟨some 37, .len (.t 36), some (33, true)⟩, ⟨some 38, .bin .eql (.t 37) (.c (.int .i64 4)), some (33, true)⟩, ⟨some 39, .pick (.t 33) (.t 38) (.c (.bool false)), none⟩, ⟨some 40, .mv (.t 39) false, none⟩, ⟨some 41, .mv (.t 5) false, some (40, true)⟩, ⟨some 42, .len (.t 41), some (40, true)⟩, ⟨some 43, .bin .eql (.t 42) (.c (.int .i64 2)), some (40, true)⟩, ⟨some 44, .pick (.t 40) (.t 43) (.c (.bool false)), none⟩, ⟨some 45, .mv (.t 44) false, none⟩, ⟨some 46, .mv (.t 5) false, some (45, true)⟩, ⟨some 47, .ia 1 (.t 46) (.c (.int .i64 0)), some (45, true)⟩, ⟨some 48, .load 1 false (.t 47) false, some (45, true)⟩, ⟨some 49, .bin .eql (.t 48) (.c (.int .i64 9)), some (45, true)⟩, ⟨some 50, .pick (.t 45) (.t 49) (.c (.bool false)), none⟩, ⟨some 51, .mv (.t 50) false, none⟩, ⟨some 52, .mv (.t 5) false, some (51, true)⟩, ⟨some 53, .ia 1 (.t 52) (.c (.int .i64 1)), some (51, true)⟩, ⟨some 54, .load 1 false (.t 53) false, some (51, true)⟩, ⟨some 55, .bin .eql (.t 54) (.c (.int .i64 4)), some (51, true)⟩, ⟨some 56, .pick (.t 51) (.t 55) (.c (.bool false)), none⟩, ⟨some 57, .mv (.t 56) false, none⟩, ⟨some 58, .bsl 1 3 [(.int .i64 0), (.int .i64 0), (.int .i64 0)] [(0, 1, (.c (.int .i64 3))), (1, 1, (.c (.int .i64 9))), (2, 1, (.c (.int .i64 4)))] false, some (57, true)⟩, ⟨some 59, .call 21 [(.t 58), (.c (.int .i64 2))] false, some (57, true)⟩, ⟨some 60, .bin .eql (.t 59) (.c (.int .i64 13)), some (57, true)⟩, ⟨some 61, .pick (.t 57) (.t 60) (.c (.bool false)), none⟩, ⟨some 0, .mv (.t 61) true, none⟩])
  (.ret))))), [.t 0]⟩
theorem row10 : RowOk Try.prog 10 C10 := ⟨Try.f10, ⟨[], [], [], []⟩, lvOf [], Try.func10, by kernel_rfl, by kernel_rfl⟩
def B11_0 : C := .seq (.seq (.reg [⟨some 5, .mv (.t 4) false, none⟩, ⟨some 6, .mv (.t 0) false, none⟩, ⟨some 7, .len (.t 6), none⟩, ⟨some 8, .bin .lss (.t 5) (.t 7), none⟩])
  (.cond (.t 8) (.skip)
  (.exit 0)))
  (.seq (.block 1 (.reg [⟨some 11, .mv (.t 3) false, none⟩, ⟨some 12, .mv (.t 0) false, none⟩, ⟨some 13, .mv (.t 4) false, none⟩, ⟨some 14, .ia 2 (.t 12) (.t 13), none⟩, ⟨some 15, .load 2 true (.t 14) false, none⟩, ⟨some 16, .call 17 [(.t 11), (.t 15)] false, none⟩, ⟨some 3, .mv (.t 16) true, none⟩]))
  (.reg [⟨some 9, .mv (.t 4) false, none⟩, ⟨some 10, .bin .add (.t 9) (.c (.int .i64 1)), none⟩, ⟨some 4, .mv (.t 10) true, none⟩]))
def L11_0 : C := .loop [0, 3, 4] 0 B11_0
theorem go11_0 (s : Env × Bx) (nb) : evL tab ext nb L11_0 s = (loopIn nb [0, 3, 4] 0 s).bind fun s0 => (evL tab ext nb B11_0 s0).bind (seqG tab ext nb L11_0) := eL_loop _ _ _
/-- swingbridge/swingbridgeref2.Sort -/
def C11 : CFun := ⟨18, 1, .seq (.reg [⟨some 2, .mv (.c (.slice none 0 0)) true, none⟩])
  (.seq (.reg [⟨some 3, .mv (.c (.slice none 0 0)) true, none⟩])
  (.seq (.seq (.reg [⟨some 4, .mv (.c (.int .i64 0)) true, none⟩])
  (.block 0 (L11_0)))
  (.seq (.reg [⟨some 17, .mv (.t 3) false, none⟩, ⟨some 2, .mv (.t 17) true, none⟩])
  (.ret)))), [.t 2]⟩
theorem row11 : RowOk Try.prog 11 C11 := ⟨Try.f11, ⟨[], [], [], []⟩, lvOf [(0, [0, 3, 4], 0)], Try.func11, by kernel_rfl, by kernel_rfl⟩
def B12_0 : C := .seq (.seq (.reg [⟨some 11, .mv (.t 5) false, none⟩, ⟨some 12, .mv (.t 0) false, none⟩, ⟨some 13, .len (.t 12), none⟩, ⟨some 14, .bin .lss (.t 11) (.t 13), none⟩])
  (.cond (.t 14) (.skip)
  (.exit 0)))
  (.seq (.block 1 (.seq (.reg [⟨some 17, .mv (.t 0) false, none⟩, ⟨some 18, .mv (.t 5) false, none⟩, ⟨some 19, .ia 2 (.t 17) (.t 18), none⟩, ⟨some 20, .load 2 true (.t 19) false, none⟩, ⟨some 21, .mv (.t 1) false, none⟩, ⟨some 22, .mv (.t 5) false, none⟩, ⟨some 23, .ia 2 (.t 21) (.t 22), none⟩, ⟨some 24, .load 2 true (.t 23) false, none⟩, ⟨some 25, .eqs true 2 (.t 20) (.t 24), none⟩])
  (.cond (.t 25) (.seq (.reg [⟨some 4, .mv (.c (.bool false)) true, none⟩])
  (.ret))
  (.skip))))
  (.reg [⟨some 15, .mv (.t 5) false, none⟩, ⟨some 16, .bin .add (.t 15) (.c (.int .i64 1)), none⟩, ⟨some 5, .mv (.t 16) true, none⟩]))
def L12_0 : C := .loop [0, 1, 5] 0 B12_0
theorem go12_0 (s : Env × Bx) (nb) : evL tab ext nb L12_0 s = (loopIn nb [0, 1, 5] 0 s).bind fun s0 => (evL tab ext nb B12_0 s0).bind (seqG tab ext nb L12_0) := eL_loop _ _ _
/-- swingbridge/swingbridgeref2.Same -/
def C12 : CFun := ⟨26, 2, .seq (.reg [⟨some 4, .mv (.c (.bool false)) true, none⟩])
  (.seq (.seq (.reg [⟨some 6, .mv (.t 0) false, none⟩, ⟨some 7, .len (.t 6), none⟩, ⟨some 8, .mv (.t 1) false, none⟩, ⟨some 9, .len (.t 8), none⟩, ⟨some 10, .bin .neq (.t 7) (.t 9), none⟩])
  (.cond (.t 10) (.seq (.reg [⟨some 4, .mv (.c (.bool false)) true, none⟩])
  (.ret))
  (.skip)))
  (.seq (.seq (.reg [⟨some 5, .mv (.c (.int .i64 0)) true, none⟩])
  (.block 0 (L12_0)))
  (.seq (.reg [⟨some 4, .mv (.c (.bool true)) true, none⟩])
  (.ret)))), [.t 4]⟩
theorem row12 : RowOk Try.prog 12 C12 := ⟨Try.f12, ⟨[], [], [], []⟩, lvOf [(0, [0, 1, 5], 0)], Try.func12, by kernel_rfl, by kernel_rfl⟩
/-- swingbridge/sorted.Sort -/
def C13 : CFun := ⟨9, 1, .seq (.reg [⟨some 2, .mv (.c (.slice none 0 0)) true, none⟩])
  (.seq (.reg [⟨some 4, .mv (.t 0) false, none⟩, ⟨some 5, .calli 30 [(.t 4)], none⟩, ⟨some 3, .mv (.t 5) true, none⟩])
  (.seq (.reg [⟨some 6, .mv (.t 3) false, none⟩, ⟨some 7, .calli 31 [(.t 6), (.f 32)], none⟩])
  (.seq (.reg [⟨some 8, .mv (.t 3) false, none⟩, ⟨some 2, .mv (.t 8) true, none⟩])
  (.ret)))), [.t 2]⟩
theorem row13 : RowOk Try.prog 13 C13 := ⟨Try.f13, ⟨[], [], [], [30]⟩, lvOf [], Try.func13, by kernel_rfl, by kernel_rfl⟩
/-- swingbridge/sorted.Is -/
def C14 : CFun := ⟨5, 1, .seq (.reg [⟨some 2, .mv (.c (.bool false)) true, none⟩])
  (.seq (.reg [⟨some 3, .mv (.t 0) false, none⟩, ⟨some 4, .calli 33 [(.t 3), (.f 32)], none⟩, ⟨some 2, .mv (.t 4) true, none⟩])
  (.ret)), [.t 2]⟩
theorem row14 : RowOk Try.prog 14 C14 := ⟨Try.f14, ⟨[], [], [], []⟩, lvOf [], Try.func14, by kernel_rfl, by kernel_rfl⟩
def B15_0 : C := .seq (.seq (.reg [⟨some 4, .mv (.t 3) false, none⟩, ⟨some 5, .mv (.t 0) false, none⟩, ⟨some 6, .len (.t 5), none⟩, ⟨some 7, .bin .lss (.t 4) (.t 6), none⟩])
  (.cond (.t 7) (.skip)
  (.exit 0)))
  (.seq (.block 1 (.seq (.reg [⟨some 10, .mv (.t 0) false, none⟩, ⟨some 11, .mv (.t 3) false, none⟩, ⟨some 12, .bin .sub (.t 11) (.c (.int .i64 1)), none⟩, ⟨some 13, .ia 2 (.t 10) (.t 12), none⟩, ⟨some 14, .fa 0 (.t 13), none⟩, ⟨some 15, .load 1 false (.t 14) false, none⟩, ⟨some 16, .mv (.t 0) false, none⟩, ⟨some 17, .mv (.t 3) false, none⟩, ⟨some 18, .ia 2 (.t 16) (.t 17), none⟩, ⟨some 19, .fa 0 (.t 18), none⟩, ⟨some 20, .load 1 false (.t 19) false, none⟩, ⟨some 21, .bin .gtr (.t 15) (.t 20), none⟩])
  (.cond (.t 21) (.seq (.reg [⟨some 2, .mv (.c (.bool false)) true, none⟩])
  (.ret))
  (.skip))))
  (.reg [⟨some 8, .mv (.t 3) false, none⟩, ⟨some 9, .bin .add (.t 8) (.c (.int .i64 1)), none⟩, ⟨some 3, .mv (.t 9) true, none⟩]))
def L15_0 : C := .loop [0, 3] 0 B15_0
theorem go15_0 (s : Env × Bx) (nb) : evL tab ext nb L15_0 s = (loopIn nb [0, 3] 0 s).bind fun s0 => (evL tab ext nb B15_0 s0).bind (seqG tab ext nb L15_0) := eL_loop _ _ _
/-- swingbridge/swingbridgeref2.Is -/
def C15 : CFun := ⟨22, 1, .seq (.reg [⟨some 2, .mv (.c (.bool false)) true, none⟩])
  (.seq (.seq (.reg [⟨some 3, .mv (.c (.int .i64 1)) true, none⟩])
  (.block 0 (L15_0)))
  (.seq (.reg [⟨some 2, .mv (.c (.bool true)) true, none⟩])
  (.ret))), [.t 2]⟩
theorem row15 : RowOk Try.prog 15 C15 := ⟨Try.f15, ⟨[], [], [], []⟩, lvOf [(0, [0, 3], 0)], Try.func15, by kernel_rfl, by kernel_rfl⟩
def B17_0 : C := .seq (.seq (.reg [⟨some 8, .mv (.t 7) false, none⟩, ⟨some 9, .mv (.t 0) false, none⟩, ⟨some 10, .len (.t 9), none⟩, ⟨some 11, .bin .lss (.t 8) (.t 10), none⟩])
  (.cond (.t 11) (.skip)
  (.exit 0)))
  (.seq (.block 1 (.seq (.seq (.reg [⟨some 14, .mv (.t 6) false, none⟩, ⟨some 15, .un .not (.t 14), none⟩, ⟨some 16, .mv (.t 15) false, none⟩, ⟨some 17, .mv (.t 0) false, some (16, true)⟩, ⟨some 18, .mv (.t 7) false, some (16, true)⟩, ⟨some 19, .ia 2 (.t 17) (.t 18), some (16, true)⟩, ⟨some 20, .fa 0 (.t 19), some (16, true)⟩, ⟨some 21, .load 1 false (.t 20) false, some (16, true)⟩, ⟨some 22, .fa 0 (.t 3), some (16, true)⟩, ⟨some 23, .load 1 false (.t 22) false, some (16, true)⟩, ⟨some 24, .bin .gtr (.t 21) (.t 23), some (16, true)⟩, ⟨some 25, .pick (.t 16) (.t 24) (.c (.bool false)), none⟩])
  (.cond (.t 25) (.seq (.reg [⟨some 26, .mv (.t 5) true, none⟩, ⟨some 27, .load 2 true (.t 3) false, none⟩, ⟨some 28, .bsl 2 1 [(.int .i64 0), (.int .i64 0)] [(0, 2, (.t 27))] false, none⟩, ⟨some 29, .app 2 16 (.t 26) (.t 28) false, none⟩, ⟨some 5, .mv (.t 29) true, none⟩])
  (.reg [⟨some 6, .mv (.c (.bool true)) true, none⟩]))
  (.skip)))
  (.reg [⟨some 30, .mv (.t 5) true, none⟩, ⟨some 31, .mv (.t 0) false, none⟩, ⟨some 32, .mv (.t 7) false, none⟩, ⟨some 33, .ia 2 (.t 31) (.t 32), none⟩, ⟨some 34, .load 2 true (.t 33) false, none⟩, ⟨some 35, .bsl 2 1 [(.int .i64 0), (.int .i64 0)] [(0, 2, (.t 34))] false, none⟩, ⟨some 36, .app 2 16 (.t 30) (.t 35) false, none⟩, ⟨some 5, .mv (.t 36) true, none⟩])))
  (.reg [⟨some 12, .mv (.t 7) false, none⟩, ⟨some 13, .bin .add (.t 12) (.c (.int .i64 1)), none⟩, ⟨some 7, .mv (.t 13) true, none⟩]))
def L17_0 : C := .loop [0, 3, 5, 6, 7] 1 B17_0
theorem go17_0 (s : Env × Bx) (nb) : evL tab ext nb L17_0 s = (loopIn nb [0, 3, 5, 6, 7] 1 s).bind fun s0 => (evL tab ext nb B17_0 s0).bind (seqG tab ext nb L17_0) := eL_loop _ _ _
/-- swingbridge/swingbridgeref2.Put -/
def C17 : CFun := ⟨44, 2, .seq (.reg [⟨some 3, .box (.t 1), none⟩, ⟨some 4, .mv (.c (.slice none 0 0)) true, none⟩])
  (.seq (.reg [⟨some 5, .mv (.c (.slice none 0 0)) true, none⟩])
  (.seq (.reg [⟨some 6, .mv (.c (.bool false)) true, none⟩])
  (.seq (.seq (.reg [⟨some 7, .mv (.c (.int .i64 0)) true, none⟩])
  (.block 0 (L17_0)))
  (.seq (.seq (.reg [⟨some 37, .mv (.t 6) false, none⟩, ⟨some 38, .un .not (.t 37), none⟩])
  (.cond (.t 38) (.reg [⟨some 39, .mv (.t 5) true, none⟩, ⟨some 40, .load 2 true (.t 3) false, none⟩, ⟨some 41, .bsl 2 1 [(.int .i64 0), (.int .i64 0)] [(0, 2, (.t 40))] false, none⟩, ⟨some 42, .app 2 16 (.t 39) (.t 41) false, none⟩, ⟨some 5, .mv (.t 42) true, none⟩])
  (.skip)))
  (.seq (.reg [⟨some 43, .mv (.t 5) false, none⟩, ⟨some 4, .mv (.t 43) true, none⟩])
  (.ret)))))), [.t 4]⟩
theorem row17 : RowOk Try.prog 17 C17 := ⟨Try.f17, ⟨[], [], [], []⟩, lvOf [(0, [0, 3, 5, 6, 7], 1)], Try.func17, by kernel_rfl, by kernel_rfl⟩
def B18_0 : C := .seq (.seq (.reg [⟨some 11, .mv (.t 5) false, none⟩, ⟨some 12, .mv (.t 0) false, none⟩, ⟨some 13, .len (.t 12), none⟩, ⟨some 14, .bin .lss (.t 11) (.t 13), none⟩])
  (.cond (.t 14) (.skip)
  (.exit 0)))
  (.seq (.block 1 (.seq (.reg [⟨some 17, .mv (.t 0) false, none⟩, ⟨some 18, .mv (.t 5) false, none⟩, ⟨some 19, .ia 1 (.t 17) (.t 18), none⟩, ⟨some 20, .load 1 false (.t 19) false, none⟩, ⟨some 21, .mv (.t 1) false, none⟩, ⟨some 22, .mv (.t 5) false, none⟩, ⟨some 23, .ia 1 (.t 21) (.t 22), none⟩, ⟨some 24, .load 1 false (.t 23) false, none⟩, ⟨some 25, .bin .neq (.t 20) (.t 24), none⟩])
  (.cond (.t 25) (.seq (.reg [⟨some 4, .mv (.c (.bool false)) true, none⟩])
  (.ret))
  (.skip))))
  (.reg [⟨some 15, .mv (.t 5) false, none⟩, ⟨some 16, .bin .add (.t 15) (.c (.int .i64 1)), none⟩, ⟨some 5, .mv (.t 16) true, none⟩]))
def L18_0 : C := .loop [0, 1, 5] 0 B18_0
theorem go18_0 (s : Env × Bx) (nb) : evL tab ext nb L18_0 s = (loopIn nb [0, 1, 5] 0 s).bind fun s0 => (evL tab ext nb B18_0 s0).bind (seqG tab ext nb L18_0) := eL_loop _ _ _
/-- swingbridge/swingbridgeref2.SameInts -/
def C18 : CFun := ⟨26, 2, .seq (.reg [⟨some 4, .mv (.c (.bool false)) true, none⟩])
  (.seq (.seq (.reg [⟨some 6, .mv (.t 0) false, none⟩, ⟨some 7, .len (.t 6), none⟩, ⟨some 8, .mv (.t 1) false, none⟩, ⟨some 9, .len (.t 8), none⟩, ⟨some 10, .bin .neq (.t 7) (.t 9), none⟩])
  (.cond (.t 10) (.seq (.reg [⟨some 4, .mv (.c (.bool false)) true, none⟩])
  (.ret))
  (.skip)))
  (.seq (.seq (.reg [⟨some 5, .mv (.c (.int .i64 0)) true, none⟩])
  (.block 0 (L18_0)))
  (.seq (.reg [⟨some 4, .mv (.c (.bool true)) true, none⟩])
  (.ret)))), [.t 4]⟩
theorem row18 : RowOk Try.prog 18 C18 := ⟨Try.f18, ⟨[], [], [], []⟩, lvOf [(0, [0, 1, 5], 0)], Try.func18, by kernel_rfl, by kernel_rfl⟩
/-- swingbridge/sorted.Top -/
def C19 : CFun := ⟨17, 2, .seq (.reg [⟨some 4, .mv (.c (.slice none 0 0)) true, none⟩])
  (.seq (.reg [⟨some 6, .mv (.t 0) false, none⟩, ⟨some 7, .calli 35 [(.t 6)], none⟩, ⟨some 5, .mv (.t 7) true, none⟩])
  (.seq (.reg [⟨some 8, .mv (.t 5) false, none⟩, ⟨some 9, .calli 36 [(.t 8), (.f 37)], none⟩])
  (.seq (.reg [⟨some 10, .mv (.t 5) false, none⟩, ⟨some 11, .mv (.t 1) false, none⟩, ⟨some 12, .mxn true [(.t 11), (.c (.int .i64 0))], none⟩, ⟨some 13, .mv (.t 5) false, none⟩, ⟨some 14, .len (.t 13), none⟩, ⟨some 15, .mxn false [(.t 12), (.t 14)], none⟩, ⟨some 16, .slc 1 (.t 10) none (some (.t 15)) none, none⟩, ⟨some 4, .mv (.t 16) true, none⟩])
  (.ret)))), [.t 4]⟩
theorem row19 : RowOk Try.prog 19 C19 := ⟨Try.f19, ⟨[], [], [], [35]⟩, lvOf [], Try.func19, by kernel_rfl, by kernel_rfl⟩
def B20_2 : C := .seq (.seq (.reg [⟨some 20, .mv (.t 8) false, none⟩, ⟨some 21, .mv (.t 5) false, none⟩, ⟨some 22, .len (.t 21), none⟩, ⟨some 23, .bin .lss (.t 20) (.t 22), none⟩])
  (.cond (.t 23) (.skip)
  (.exit 2)))
  (.seq (.block 3 (.seq (.reg [⟨some 26, .mv (.t 5) false, none⟩, ⟨some 27, .mv (.t 8) false, none⟩, ⟨some 28, .ia 1 (.t 26) (.t 27), none⟩, ⟨some 29, .load 1 false (.t 28) false, none⟩, ⟨some 30, .mv (.t 5) false, none⟩, ⟨some 31, .mv (.t 7) false, none⟩, ⟨some 32, .ia 1 (.t 30) (.t 31), none⟩, ⟨some 33, .load 1 false (.t 32) false, none⟩, ⟨some 34, .bin .gtr (.t 29) (.t 33), none⟩])
  (.cond (.t 34) (.reg [⟨some 35, .mv (.t 8) false, none⟩, ⟨some 7, .mv (.t 35) true, none⟩])
  (.skip))))
  (.reg [⟨some 24, .mv (.t 8) false, none⟩, ⟨some 25, .bin .add (.t 24) (.c (.int .i64 1)), none⟩, ⟨some 8, .mv (.t 25) true, none⟩]))
def L20_2 : C := .loop [1, 5, 6, 7, 8] 0 B20_2
theorem go20_2 (s : Env × Bx) (nb) : evL tab ext nb L20_2 s = (loopIn nb [1, 5, 6, 7, 8] 0 s).bind fun s0 => (evL tab ext nb B20_2 s0).bind (seqG tab ext nb L20_2) := eL_loop _ _ _
def B20_0 : C := .seq (.seq (.reg [⟨some 11, .mv (.t 6) false, none⟩, ⟨some 12, .len (.t 11), none⟩, ⟨some 13, .mv (.t 1) false, none⟩, ⟨some 14, .bin .lss (.t 12) (.t 13), none⟩, ⟨some 15, .mv (.t 14) false, none⟩, ⟨some 16, .mv (.t 5) false, some (15, true)⟩, ⟨some 17, .len (.t 16), some (15, true)⟩, ⟨some 18, .bin .gtr (.t 17) (.c (.int .i64 0)), some (15, true)⟩, ⟨some 19, .pick (.t 15) (.t 18) (.c (.bool false)), none⟩])
  (.cond (.t 19) (.skip)
  (.exit 0)))
  (.block 1 (.seq (.reg [⟨some 7, .mv (.c (.int .i64 0)) true, none⟩])
  (.seq (.seq (.reg [⟨some 8, .mv (.c (.int .i64 1)) true, none⟩])
  (.block 2 (L20_2)))
  (.seq (.reg [⟨some 36, .mv (.t 6) true, none⟩, ⟨some 37, .mv (.t 5) false, none⟩, ⟨some 38, .mv (.t 7) false, none⟩, ⟨some 39, .ia 1 (.t 37) (.t 38), none⟩, ⟨some 40, .load 1 false (.t 39) false, none⟩, ⟨some 41, .bsl 1 1 [(.int .i64 0)] [(0, 1, (.t 40))] false, none⟩, ⟨some 42, .app 1 8 (.t 36) (.t 41) false, none⟩, ⟨some 6, .mv (.t 42) true, none⟩])
  (.reg [⟨some 43, .mv (.t 5) false, none⟩, ⟨some 44, .mv (.t 7) false, none⟩, ⟨some 45, .slc 1 (.t 43) none (some (.t 44)) none, none⟩, ⟨some 46, .app 1 8 (.c (.slice none 0 0)) (.t 45) false, none⟩, ⟨some 47, .mv (.t 5) false, none⟩, ⟨some 48, .mv (.t 7) false, none⟩, ⟨some 49, .bin .add (.t 48) (.c (.int .i64 1)), none⟩, ⟨some 50, .slc 1 (.t 47) (some (.t 49)) none none, none⟩, ⟨some 51, .app 1 8 (.t 46) (.t 50) false, none⟩, ⟨some 5, .mv (.t 51) true, none⟩])))))
def L20_0 : C := .loop [1, 5, 6] 0 B20_0
theorem go20_0 (s : Env × Bx) (nb) : evL tab ext nb L20_0 s = (loopIn nb [1, 5, 6] 0 s).bind fun s0 => (evL tab ext nb B20_0 s0).bind (seqG tab ext nb L20_0) := eL_loop _ _ _
/-- swingbridge/swingbridgeref2.Top -/
def C20 : CFun := ⟨53, 2, .seq (.reg [⟨some 4, .mv (.c (.slice none 0 0)) true, none⟩])
  (.seq (.reg [⟨some 9, .mv (.t 0) false, none⟩, ⟨some 10, .app 1 8 (.c (.slice none 0 0)) (.t 9) false, none⟩, ⟨some 5, .mv (.t 10) true, none⟩])
  (.seq (.reg [⟨some 6, .mv (.c (.slice none 0 0)) true, none⟩])
  (.seq (.block 0 (L20_0))
  (.seq (.reg [⟨some 52, .mv (.t 6) false, none⟩, ⟨some 4, .mv (.t 52) true, none⟩])
  (.ret))))), [.t 4]⟩
theorem row20 : RowOk Try.prog 20 C20 := ⟨Try.f20, ⟨[], [], [], []⟩, lvOf [(0, [1, 5, 6], 0), (2, [1, 5, 6, 7, 8], 0)], Try.func20, by kernel_rfl, by kernel_rfl⟩
def B21_0 : C := .seq (.reg [⟨some 13, .bin .lss (.t 12) (.t 11), none⟩])
  (.seq (.cond (.t 13) (.skip)
  (.exit 0))
  (.seq (.block 1 (.seq (.reg [⟨some 14, .ia 1 (.t 10) (.t 12), none⟩, ⟨some 15, .load 1 false (.t 14) false, none⟩, ⟨some 7, .mv (.t 15) true, none⟩])
  (.reg [⟨some 16, .mv (.t 5) false, none⟩, ⟨some 17, .mv (.t 7) false, none⟩, ⟨some 18, .bin .add (.t 16) (.t 17), none⟩, ⟨some 5, .mv (.t 18) true, none⟩])))
  (.reg [⟨some 19, .bin .add (.t 12) (.c (.int .i64 1)), none⟩, ⟨some 12, .mv (.t 19) false, none⟩])))
def L21_0 : C := .loop [5, 10, 11, 12] 0 B21_0
theorem go21_0 (s : Env × Bx) (nb) : evL tab ext nb L21_0 s = (loopIn nb [5, 10, 11, 12] 0 s).bind fun s0 => (evL tab ext nb B21_0 s0).bind (seqG tab ext nb L21_0) := eL_loop _ _ _
/-- swingbridge/sorted.Sum -/
def C21 : CFun := ⟨21, 2, .seq (.reg [⟨some 4, .mv (.c (.int .i64 0)) true, none⟩])
  (.seq (.reg [⟨some 5, .mv (.c (.int .i64 0)) true, none⟩])
  (.seq (.seq (.reg [⟨some 8, .mv (.t 0) false, none⟩, ⟨some 9, .mv (.t 1) false, none⟩, ⟨some 10, .call 19 [(.t 8), (.t 9)] false, none⟩, ⟨some 11, .len (.t 10), none⟩, ⟨some 12, .mv (.c (.int .i64 0)) false, none⟩])
  (.block 0 (L21_0)))
  (.seq (.reg [⟨some 20, .mv (.t 5) false, none⟩, ⟨some 4, .mv (.t 20) true, none⟩])
  (.ret)))), [.t 4]⟩
theorem row21 : RowOk Try.prog 21 C21 := ⟨Try.f21, ⟨[], [], [], []⟩, lvOf [(0, [5, 10, 11, 12], 0)], Try.func21, by kernel_rfl, by kernel_rfl⟩
def B22_0 : C := .seq (.seq (.reg [⟨some 11, .mv (.t 7) false, none⟩, ⟨some 12, .mv (.t 5) false, none⟩, ⟨some 13, .len (.t 12), none⟩, ⟨some 14, .bin .lss (.t 11) (.t 13), none⟩])
  (.cond (.t 14) (.skip)
  (.exit 0)))
  (.seq (.block 1 (.reg [⟨some 17, .mv (.t 6) false, none⟩, ⟨some 18, .mv (.t 5) false, none⟩, ⟨some 19, .mv (.t 7) false, none⟩, ⟨some 20, .ia 1 (.t 18) (.t 19), none⟩, ⟨some 21, .load 1 false (.t 20) false, none⟩, ⟨some 22, .bin .add (.t 17) (.t 21), none⟩, ⟨some 6, .mv (.t 22) true, none⟩]))
  (.reg [⟨some 15, .mv (.t 7) false, none⟩, ⟨some 16, .bin .add (.t 15) (.c (.int .i64 1)), none⟩, ⟨some 7, .mv (.t 16) true, none⟩]))
def L22_0 : C := .loop [5, 6, 7] 0 B22_0
theorem go22_0 (s : Env × Bx) (nb) : evL tab ext nb L22_0 s = (loopIn nb [5, 6, 7] 0 s).bind fun s0 => (evL tab ext nb B22_0 s0).bind (seqG tab ext nb L22_0) := eL_loop _ _ _
/-- swingbridge/swingbridgeref2.Sum -/
def C22 : CFun := ⟨24, 2, .seq (.reg [⟨some 4, .mv (.c (.int .i64 0)) true, none⟩])
  (.seq (.reg [⟨some 8, .mv (.t 0) false, none⟩, ⟨some 9, .mv (.t 1) false, none⟩, ⟨some 10, .call 20 [(.t 8), (.t 9)] false, none⟩, ⟨some 5, .mv (.t 10) true, none⟩])
  (.seq (.reg [⟨some 6, .mv (.c (.int .i64 0)) true, none⟩])
  (.seq (.seq (.reg [⟨some 7, .mv (.c (.int .i64 0)) true, none⟩])
  (.block 0 (L22_0)))
  (.seq (.reg [⟨some 23, .mv (.t 6) false, none⟩, ⟨some 4, .mv (.t 23) true, none⟩])
  (.ret))))), [.t 4]⟩
theorem row22 : RowOk Try.prog 22 C22 := ⟨Try.f22, ⟨[], [], [], []⟩, lvOf [(0, [5, 6, 7], 0)], Try.func22, by kernel_rfl, by kernel_rfl⟩
/-- swingbridge/swingbridgelaw2.in -/
def C23 : CFun := ⟨9, 2, .seq (.reg [⟨some 4, .mv (.c (.bool false)) true, none⟩])
  (.seq (.reg [⟨some 5, .mv (.t 0) false, none⟩, ⟨some 6, .mv (.t 1) false, none⟩, ⟨some 7, .call 39 [(.t 5), (.t 6)] false, none⟩, ⟨some 8, .bin .geq (.t 7) (.c (.int .i64 0)), none⟩, ⟨some 4, .mv (.t 8) true, none⟩])
  (.ret)), [.t 4]⟩
theorem row23 : RowOk Try.prog 23 C23 := ⟨Try.f23, ⟨[], [], [], []⟩, lvOf [], Try.func23, by kernel_rfl, by kernel_rfl⟩
def B25_0 : C := .seq (.seq (.reg [⟨some 20, .mv (.t 3) false, none⟩, ⟨some 21, .fa 3 (.t 1), none⟩, ⟨some 22, .load 1 false (.t 21) false, none⟩, ⟨some 23, .len (.t 22), none⟩, ⟨some 24, .bin .lss (.t 20) (.t 23), none⟩])
  (.cond (.t 24) (.skip)
  (.exit 0)))
  (.seq (.block 1 (.seq (.reg [⟨some 27, .fa 3 (.t 1), none⟩, ⟨some 28, .load 1 false (.t 27) false, none⟩, ⟨some 29, .mv (.t 3) false, none⟩, ⟨some 30, .ia 6 (.t 28) (.t 29), none⟩, ⟨some 31, .fa 0 (.t 30), none⟩, ⟨some 32, .load 1 false (.t 31) false, none⟩, ⟨some 33, .slen (.t 32), none⟩, ⟨some 34, .bin .gtr (.t 33) (.c (.int .i64 20)), none⟩, ⟨some 35, .mv (.t 34) false, none⟩, ⟨some 36, .fa 3 (.t 1), some (35, false)⟩, ⟨some 37, .load 1 false (.t 36) false, some (35, false)⟩, ⟨some 38, .mv (.t 3) false, some (35, false)⟩, ⟨some 39, .ia 6 (.t 37) (.t 38), some (35, false)⟩, ⟨some 40, .fa 5 (.t 39), some (35, false)⟩, ⟨some 41, .load 1 false (.t 40) false, some (35, false)⟩, ⟨some 42, .len (.t 41), some (35, false)⟩, ⟨some 43, .bin .gtr (.t 42) (.c (.int .i64 10)), some (35, false)⟩, ⟨some 44, .pick (.t 35) (.c (.bool true)) (.t 43), none⟩])
  (.cond (.t 44) (.seq (.reg [⟨some 2, .mv (.c (.bool false)) true, none⟩])
  (.ret))
  (.skip))))
  (.reg [⟨some 25, .mv (.t 3) false, none⟩, ⟨some 26, .bin .add (.t 25) (.c (.int .i64 1)), none⟩, ⟨some 3, .mv (.t 26) true, none⟩]))
def L25_0 : C := .loop [1, 3] 1 B25_0
theorem go25_0 (s : Env × Bx) (nb) : evL tab ext nb L25_0 s = (loopIn nb [1, 3] 1 s).bind fun s0 => (evL tab ext nb B25_0 s0).bind (seqG tab ext nb L25_0) := eL_loop _ _ _
/-- swingbridge/swingbridgelaw16.few -/
def C25 : CFun := ⟨45, 1, .seq (.reg [⟨some 1, .box (.t 0), none⟩, ⟨some 2, .mv (.c (.bool false)) true, none⟩])
  (.seq (.seq (.reg [⟨some 4, .fa 1 (.t 1), none⟩, ⟨some 5, .load 1 false (.t 4) false, none⟩, ⟨some 6, .len (.t 5), none⟩, ⟨some 7, .bin .gtr (.t 6) (.c (.int .i64 8)), none⟩, ⟨some 8, .mv (.t 7) false, none⟩, ⟨some 9, .fa 2 (.t 1), some (8, false)⟩, ⟨some 10, .load 1 false (.t 9) false, some (8, false)⟩, ⟨some 11, .len (.t 10), some (8, false)⟩, ⟨some 12, .bin .gtr (.t 11) (.c (.int .i64 10)), some (8, false)⟩, ⟨some 13, .pick (.t 8) (.c (.bool true)) (.t 12), none⟩, ⟨some 14, .mv (.t 13) false, none⟩, ⟨some 15, .fa 3 (.t 1), some (14, false)⟩, ⟨some 16, .load 1 false (.t 15) false, some (14, false)⟩, ⟨some 17, .len (.t 16), some (14, false)⟩, ⟨some 18, .bin .gtr (.t 17) (.c (.int .i64 9)), some (14, false)⟩, ⟨some 19, .pick (.t 14) (.c (.bool true)) (.t 18), none⟩])
  (.cond (.t 19) (.seq (.reg [⟨some 2, .mv (.c (.bool false)) true, none⟩])
  (.ret))
  (.skip)))
  (.seq (.seq (.reg [⟨some 3, .mv (.c (.int .i64 0)) true, none⟩])
  (.block 0 (L25_0)))
  (.seq (.reg [⟨some 2, .mv (.c (.bool true)) true, none⟩])
  (.ret)))), [.t 2]⟩
theorem row25 : RowOk Try.prog 25 C25 := ⟨Try.f25, ⟨[], [], [], []⟩, lvOf [(0, [1, 3], 1)], Try.func25, by kernel_rfl, by kernel_rfl⟩
/-- swingbridge/swingbridgeref11.There -/
def C26 : CFun := ⟨18, 2, .seq (.reg [⟨some 2, .box (.t 0), none⟩, ⟨some 4, .mv (.c (.bool false)) true, none⟩])
  (.seq (.reg [⟨some 5, .load 4 true (.t 2) false, none⟩, ⟨some 6, .call 41 [(.t 5)] false, none⟩, ⟨some 7, .mv (.t 6) false, none⟩, ⟨some 8, .mv (.t 1) false, some (7, true)⟩, ⟨some 9, .bin .geq (.t 8) (.c (.int .i64 0)), some (7, true)⟩, ⟨some 10, .pick (.t 7) (.t 9) (.c (.bool false)), none⟩, ⟨some 11, .mv (.t 10) false, none⟩, ⟨some 12, .mv (.t 1) false, some (11, true)⟩, ⟨some 13, .fa 3 (.t 2), some (11, true)⟩, ⟨some 14, .load 1 false (.t 13) false, some (11, true)⟩, ⟨some 15, .len (.t 14), some (11, true)⟩, ⟨some 16, .bin .lss (.t 12) (.t 15), some (11, true)⟩, ⟨some 17, .pick (.t 11) (.t 16) (.c (.bool false)), none⟩, ⟨some 4, .mv (.t 17) true, none⟩])
  (.ret)), [.t 4]⟩
theorem row26 : RowOk Try.prog 26 C26 := ⟨Try.f26, ⟨[], [], [], []⟩, lvOf [], Try.func26, by kernel_rfl, by kernel_rfl⟩
def B27_0 : C := .seq (.reg [⟨some 49, .bin .lss (.t 48) (.t 47), none⟩])
  (.seq (.cond (.t 49) (.skip)
  (.exit 0))
  (.seq (.block 1 (.seq (.reg [⟨some 50, .mv (.t 48) false, none⟩, ⟨some 51, .ia 3 (.t 46) (.t 48), none⟩, ⟨some 52, .load 3 true (.t 51) false, none⟩, ⟨some 12, .alloc [(.int .i64 0), (.int .i64 0), (.int .i64 0)], none⟩, ⟨some 11, .mv (.t 50) true, none⟩, ⟨none, .store 3 (.t 12) (.t 52), none⟩])
  (.seq (.seq (.reg [⟨some 53, .fa 0 (.t 12), none⟩, ⟨some 54, .load 1 false (.t 53) false, none⟩, ⟨some 55, .bin .neq (.t 54) (.c (.int .i64 3)), none⟩])
  (.cond (.t 55) (.exit 1)
  (.skip)))
  (.seq (.reg [⟨some 57, .load 4 true (.t 3) false, none⟩, ⟨some 58, .mv (.t 1) false, none⟩, ⟨some 59, .mv (.t 2) false, none⟩, ⟨some 60, .mv (.t 11) false, none⟩, ⟨some 61, .call 29 [(.t 57), (.t 58), (.t 59), (.t 60)] false, none⟩, ⟨some 56, .mv (.t 61) false, none⟩, ⟨some 62, .ext (.t 56) 0, none⟩, ⟨some 63, .ext (.t 56) 1, none⟩, ⟨some 13, .mv (.t 62) true, none⟩, ⟨some 14, .mv (.t 63) true, none⟩])
  (.seq (.seq (.reg [⟨some 64, .mv (.t 14) false, none⟩, ⟨some 65, .un .not (.t 64), none⟩])
  (.cond (.t 65) (.seq (.reg [⟨some 6, .mv (.c (.slice none 0 0)) true, none⟩, ⟨some 7, .mv (.c (.bool false)) true, none⟩])
  (.ret))
  (.skip)))
  (.reg [⟨some 66, .mv (.t 10) false, none⟩, ⟨some 67, .mv (.t 11) false, none⟩, ⟨some 68, .mv (.t 13) false, none⟩, ⟨some 69, .ia 1 (.t 66) (.t 67), none⟩, ⟨none, .store 1 (.t 69) (.t 68), none⟩]))))))
  (.reg [⟨some 70, .bin .add (.t 48) (.c (.int .i64 1)), none⟩, ⟨some 48, .mv (.t 70) false, none⟩])))
def L27_0 : C := .loop [1, 2, 3, 10, 46, 47, 48] 2 B27_0
theorem go27_0 (s : Env × Bx) (nb) : evL tab ext nb L27_0 s = (loopIn nb [1, 2, 3, 10, 46, 47, 48] 2 s).bind fun s0 => (evL tab ext nb B27_0 s0).bind (seqG tab ext nb L27_0) := eL_loop _ _ _
/-- swingbridge/wait.All -/
def C27 : CFun := ⟨72, 3, .seq (.reg [⟨some 3, .box (.t 0), none⟩, ⟨some 6, .mv (.c (.slice none 0 0)) true, none⟩, ⟨some 7, .mv (.c (.bool false)) true, none⟩])
  (.scope (.seq (.seq (.reg [⟨some 16, .load 4 true (.t 3) false, none⟩, ⟨some 17, .call 42 [(.t 16)] false, none⟩, ⟨some 15, .mv (.t 17) false, none⟩, ⟨some 18, .ext (.t 15) 0, none⟩, ⟨some 19, .ext (.t 15) 1, none⟩, ⟨some 8, .mv (.t 18) true, none⟩, ⟨some 9, .mv (.t 19) true, none⟩])
  (.seq (.reg [⟨some 20, .mv (.t 9) false, none⟩, ⟨some 21, .bin .neq (.t 20) (.c (.int .i64 0)), none⟩, ⟨some 22, .mv (.t 21) false, none⟩, ⟨some 23, .mv (.t 2) false, some (22, false)⟩, ⟨some 24, .bin .lss (.t 23) (.c (.int .i64 0)), some (22, false)⟩, ⟨some 25, .pick (.t 22) (.c (.bool true)) (.t 24), none⟩, ⟨some 26, .mv (.t 25) false, none⟩, ⟨some 27, .mv (.t 2) false, some (26, false)⟩, ⟨some 28, .fa 3 (.t 3), some (26, false)⟩, ⟨some 29, .load 1 false (.t 28) false, some (26, false)⟩, ⟨some 30, .len (.t 29), some (26, false)⟩, ⟨some 31, .bin .geq (.t 27) (.t 30), some (26, false)⟩, ⟨some 32, .pick (.t 26) (.c (.bool true)) (.t 31), none⟩])
  (.cond (.t 32) (.seq (.reg [⟨some 6, .mv (.c (.slice none 0 0)) true, none⟩, ⟨some 7, .mv (.c (.bool false)) true, none⟩])
  (.ret))
  (.skip))))
  (.seq (.reg [⟨some 33, .fa 3 (.t 3), none⟩, ⟨some 34, .load 1 false (.t 33) false, none⟩, ⟨some 35, .mv (.t 2) false, none⟩, ⟨some 36, .ia 6 (.t 34) (.t 35), none⟩, ⟨some 37, .fa 5 (.t 36), none⟩, ⟨some 38, .load 1 false (.t 37) false, none⟩, ⟨some 39, .len (.t 38), none⟩, ⟨some 40, .mksl 1 8 [(.int .i64 0)] (.t 39) true, none⟩, ⟨some 10, .mv (.t 40) true, none⟩])
  (.seq (.skip)
  (.seq (.seq (.reg [⟨some 41, .fa 3 (.t 3), none⟩, ⟨some 42, .load 1 false (.t 41) false, none⟩, ⟨some 43, .mv (.t 2) false, none⟩, ⟨some 44, .ia 6 (.t 42) (.t 43), none⟩, ⟨some 45, .fa 5 (.t 44), none⟩, ⟨some 46, .load 1 false (.t 45) false, none⟩, ⟨some 47, .len (.t 46), none⟩, ⟨some 48, .mv (.c (.int .i64 0)) false, none⟩])
  (.block 0 (L27_0)))
  (.seq (.reg [⟨some 71, .mv (.t 10) false, none⟩, ⟨some 6, .mv (.t 71) true, none⟩, ⟨some 7, .mv (.c (.bool true)) true, none⟩])
  (.ret))))))), [.t 6, .t 7]⟩
theorem row27 : RowOk Try.prog 27 C27 := ⟨Try.f27, ⟨[], [40], [], []⟩, lvOf [(0, [1, 2, 3, 10, 46, 47, 48], 2)], Try.func27, by kernel_rfl, by kernel_rfl⟩
/-- swingbridge/swingbridgelaw16.two -/
def C28 : CFun := ⟨31, 5, .seq (.reg [⟨some 10, .alloc [(.int .i64 0), (.slice none 0 0), (.slice none 0 0), (.slice none 0 0)], none⟩])
  (.seq (.reg [⟨some 12, .mv (.t 0) false, none⟩, ⟨some 13, .mv (.t 1) false, none⟩, ⟨some 14, .build [(.int .i64 0), (.int .i64 0), (.int .i64 0)] [(0, 1, (.c (.int .i64 1))), (1, 1, (.t 13))], none⟩, ⟨some 15, .mv (.t 2) false, none⟩, ⟨some 16, .build [(.int .i64 0), (.int .i64 0), (.int .i64 0)] [(0, 1, (.c (.int .i64 3))), (1, 1, (.t 15))], none⟩, ⟨some 17, .bsl 3 2 [(.int .i64 0), (.int .i64 0), (.int .i64 0), (.int .i64 0), (.int .i64 0), (.int .i64 0)] [(0, 3, (.t 14)), (3, 3, (.t 16))] false, none⟩, ⟨some 18, .call 43 [(.t 12), (.t 17)] true, none⟩, ⟨some 11, .alloc [(.int .i64 0), (.slice none 0 0), (.slice none 0 0), (.slice none 0 0)], none⟩, ⟨none, .store 4 (.t 11) (.t 18), none⟩])
  (.seq (.reg [⟨some 19, .fa 3 (.t 11), none⟩, ⟨some 20, .load 1 false (.t 19) true, none⟩, ⟨some 21, .mv (.t 3) false, none⟩, ⟨some 22, .build [(.int .i64 0), (.int .i64 0), (.int .i64 0)] [(0, 1, (.c (.int .i64 1))), (1, 1, (.t 21))], none⟩, ⟨some 23, .mv (.t 4) false, none⟩, ⟨some 24, .build [(.int .i64 0), (.int .i64 0), (.int .i64 0)] [(0, 1, (.c (.int .i64 3))), (1, 1, (.t 23))], none⟩, ⟨some 25, .bsl 3 2 [(.int .i64 0), (.int .i64 0), (.int .i64 0), (.int .i64 0), (.int .i64 0), (.int .i64 0)] [(0, 3, (.t 22)), (3, 3, (.t 24))] false, none⟩, ⟨some 26, .build [(.string ⟨#[]⟩), (.int .i64 0), (.int .i64 0), (.int .i64 0), (.int .i64 0), (.slice none 0 0)] [(0, 1, (.c (.string ⟨#[98]⟩))), (1, 1, (.c (.int .i64 200))), (2, 1, (.c (.int .i64 200))), (3, 1, (.c (.int .i64 2))), (5, 1, (.t 25))], none⟩, ⟨some 27, .bsl 6 1 [(.string ⟨#[]⟩), (.int .i64 0), (.int .i64 0), (.int .i64 0), (.int .i64 0), (.slice none 0 0)] [(0, 6, (.t 26))] false, none⟩, ⟨some 28, .app 6 72 (.t 20) (.t 27) false, none⟩, ⟨some 29, .fa 3 (.t 11), none⟩, ⟨none, .store 1 (.t 29) (.t 28), none⟩])
  (.seq (.reg [⟨some 30, .load 4 true (.t 11) false, none⟩, ⟨none, .store 4 (.t 10) (.t 30), none⟩])
  (.ret)))), [.cell 10 4]⟩
theorem row28 : RowOk Try.prog 28 C28 := ⟨Try.f28, ⟨[], [], [43], []⟩, lvOf [], Try.func28, by kernel_rfl, by kernel_rfl⟩
/-- swingbridge/wait.Part -/
def C29 : CFun := ⟨41, 4, .seq (.reg [⟨some 4, .box (.t 0), none⟩, ⟨some 8, .mv (.c (.int .i64 0)) true, none⟩, ⟨some 9, .mv (.c (.bool false)) true, none⟩])
  (.seq (.seq (.reg [⟨some 10, .mv (.t 1) false, none⟩, ⟨some 11, .len (.t 10), none⟩, ⟨some 12, .fa 3 (.t 4), none⟩, ⟨some 13, .load 1 false (.t 12) false, none⟩, ⟨some 14, .len (.t 13), none⟩, ⟨some 15, .bin .neq (.t 11) (.t 14), none⟩])
  (.cond (.t 15) (.seq (.reg [⟨some 8, .mv (.c (.int .i64 0)) true, none⟩, ⟨some 9, .mv (.c (.bool false)) true, none⟩])
  (.ret))
  (.skip)))
  (.seq (.seq (.reg [⟨some 16, .fa 0 (.t 4), none⟩, ⟨some 17, .load 1 false (.t 16) false, none⟩])
  (.block 0 (.seq (.reg [⟨some 19, .bin .eql (.t 17) (.c (.int .i64 1)), none⟩, ⟨some 18, .mv (.t 19) true, none⟩])
  (.cond (.t 18) (.seq (.reg [⟨some 20, .load 4 true (.t 4) false, none⟩, ⟨some 21, .mv (.t 2) false, none⟩, ⟨some 22, .mv (.t 3) false, none⟩, ⟨some 23, .call 44 [(.t 20), (.t 21), (.t 22)] false, none⟩, ⟨some 24, .ext (.t 23) 0, none⟩, ⟨some 25, .ext (.t 23) 1, none⟩, ⟨some 8, .mv (.t 24) true, none⟩, ⟨some 9, .mv (.t 25) true, none⟩])
  (.ret))
  (.seq (.reg [⟨some 27, .bin .eql (.t 17) (.c (.int .i64 2)), none⟩, ⟨some 26, .mv (.t 27) true, none⟩])
  (.cond (.t 26) (.seq (.reg [⟨some 28, .load 4 true (.t 4) false, none⟩, ⟨some 29, .mv (.t 1) false, none⟩, ⟨some 30, .mv (.t 2) false, none⟩, ⟨some 31, .mv (.t 3) false, none⟩, ⟨some 32, .call 45 [(.t 28), (.t 29), (.t 30), (.t 31)] false, none⟩, ⟨some 33, .ext (.t 32) 0, none⟩, ⟨some 34, .ext (.t 32) 1, none⟩, ⟨some 8, .mv (.t 33) true, none⟩, ⟨some 9, .mv (.t 34) true, none⟩])
  (.ret))
  (.skip)))))))
  (.seq (.reg [⟨some 35, .load 4 true (.t 4) false, none⟩, ⟨some 36, .mv (.t 2) false, none⟩, ⟨some 37, .mv (.t 3) false, none⟩, ⟨some 38, .call 46 [(.t 35), (.t 36), (.t 37)] false, none⟩, ⟨some 39, .ext (.t 38) 0, none⟩, ⟨some 40, .ext (.t 38) 1, none⟩, ⟨some 8, .mv (.t 39) true, none⟩, ⟨some 9, .mv (.t 40) true, none⟩])
  (.ret)))), [.t 8, .t 9]⟩
theorem row29 : RowOk Try.prog 29 C29 := ⟨Try.f29, ⟨[], [], [], []⟩, lvOf [], Try.func29, by kernel_rfl, by kernel_rfl⟩
/-- slices.Clone[[]swingbridge/api.Item,swingbridge/api.Item] -/
def C30 : CFun := ⟨8, 1, .seq (.reg [⟨some 2, .mv (.c (.slice none 0 0)) true, none⟩])
  (.seq (.seq (.reg [⟨some 3, .mv (.t 0) false, none⟩, ⟨some 4, .isnil false (.t 3), none⟩])
  (.cond (.t 4) (.seq (.reg [⟨some 2, .mv (.c (.slice none 0 0)) true, none⟩])
  (.ret))
  (.skip)))
  (.seq (.reg [⟨some 5, .bsl 2 0 [] [] false, none⟩, ⟨some 6, .mv (.t 0) false, none⟩, ⟨some 7, .app 2 16 (.t 5) (.t 6) true, none⟩, ⟨some 2, .mv (.t 7) true, none⟩])
  (.ret))), [.t 2]⟩
theorem row30 : RowOk Try.prog 30 C30 := ⟨Try.f30, ⟨[], [7], [], []⟩, lvOf [], Try.func30, by kernel_rfl, by kernel_rfl⟩
/-- slices.SortStableFunc[[]swingbridge/api.Item,swingbridge/api.Item] -/
def C31 : CFun := ⟨9, 2, .reg [⟨some 4, .mv (.t 0) false, none⟩, ⟨some 5, .mv (.t 0) false, none⟩, ⟨some 6, .len (.t 5), none⟩, ⟨some 7, .mv (.t 1) false, none⟩, ⟨some 8, .calli 47 [(.t 4), (.t 6), (.t 7)], none⟩], []⟩
theorem row31 : RowOk Try.prog 31 C31 := ⟨Try.f31, ⟨[], [], [], []⟩, lvOf [], Try.func31, by kernel_rfl, by kernel_rfl⟩
/-- swingbridge/sorted.compare -/
def C32 : CFun := ⟨10, 2, .seq (.reg [⟨some 2, .box (.t 0), none⟩, ⟨some 3, .box (.t 1), none⟩, ⟨some 4, .mv (.c (.int .i64 0)) true, none⟩])
  (.seq (.reg [⟨some 5, .fa 0 (.t 2), none⟩, ⟨some 6, .load 1 false (.t 5) false, none⟩, ⟨some 7, .fa 0 (.t 3), none⟩, ⟨some 8, .load 1 false (.t 7) false, none⟩, ⟨some 9, .call 38 [(.t 6), (.t 8)] false, none⟩, ⟨some 4, .mv (.t 9) true, none⟩])
  (.ret)), [.t 4]⟩
theorem row32 : RowOk Try.prog 32 C32 := ⟨Try.f32, ⟨[], [], [], []⟩, lvOf [], Try.func32, by kernel_rfl, by kernel_rfl⟩
def B33_0 : C := .seq (.seq (.reg [⟨some 9, .mv (.t 5) false, none⟩, ⟨some 10, .bin .gtr (.t 9) (.c (.int .i64 0)), none⟩])
  (.cond (.t 10) (.skip)
  (.exit 0)))
  (.seq (.block 1 (.seq (.reg [⟨some 13, .mv (.t 1) false, none⟩, ⟨some 14, .mv (.t 0) false, none⟩, ⟨some 15, .mv (.t 5) false, none⟩, ⟨some 16, .ia 2 (.t 14) (.t 15), none⟩, ⟨some 17, .load 2 true (.t 16) false, none⟩, ⟨some 18, .mv (.t 0) false, none⟩, ⟨some 19, .mv (.t 5) false, none⟩, ⟨some 20, .bin .sub (.t 19) (.c (.int .i64 1)), none⟩, ⟨some 21, .ia 2 (.t 18) (.t 20), none⟩, ⟨some 22, .load 2 true (.t 21) false, none⟩, ⟨some 23, .callv (.t 13) [(.t 17), (.t 22)], none⟩, ⟨some 24, .bin .lss (.t 23) (.c (.int .i64 0)), none⟩])
  (.cond (.t 24) (.seq (.reg [⟨some 4, .mv (.c (.bool false)) true, none⟩])
  (.ret))
  (.skip))))
  (.reg [⟨some 11, .mv (.t 5) false, none⟩, ⟨some 12, .bin .sub (.t 11) (.c (.int .i64 1)), none⟩, ⟨some 5, .mv (.t 12) true, none⟩]))
def L33_0 : C := .loop [0, 1, 5] 0 B33_0
theorem go33_0 (s : Env × Bx) (nb) : evL tab ext nb L33_0 s = (loopIn nb [0, 1, 5] 0 s).bind fun s0 => (evL tab ext nb B33_0 s0).bind (seqG tab ext nb L33_0) := eL_loop _ _ _
/-- slices.IsSortedFunc[[]swingbridge/api.Item,swingbridge/api.Item] -/
def C33 : CFun := ⟨25, 2, .seq (.reg [⟨some 4, .mv (.c (.bool false)) true, none⟩])
  (.seq (.seq (.reg [⟨some 6, .mv (.t 0) false, none⟩, ⟨some 7, .len (.t 6), none⟩, ⟨some 8, .bin .sub (.t 7) (.c (.int .i64 1)), none⟩, ⟨some 5, .mv (.t 8) true, none⟩])
  (.block 0 (L33_0)))
  (.seq (.reg [⟨some 4, .mv (.c (.bool true)) true, none⟩])
  (.ret))), [.t 4]⟩
theorem row33 : RowOk Try.prog 33 C33 := ⟨Try.f33, ⟨[], [], [], []⟩, lvOf [(0, [0, 1, 5], 0)], Try.func33, by kernel_rfl, by kernel_rfl⟩
/-- slices.Clone[[]int,int] -/
def C35 : CFun := ⟨8, 1, .seq (.reg [⟨some 2, .mv (.c (.slice none 0 0)) true, none⟩])
  (.seq (.seq (.reg [⟨some 3, .mv (.t 0) false, none⟩, ⟨some 4, .isnil false (.t 3), none⟩])
  (.cond (.t 4) (.seq (.reg [⟨some 2, .mv (.c (.slice none 0 0)) true, none⟩])
  (.ret))
  (.skip)))
  (.seq (.reg [⟨some 5, .bsl 1 0 [] [] false, none⟩, ⟨some 6, .mv (.t 0) false, none⟩, ⟨some 7, .app 1 8 (.t 5) (.t 6) true, none⟩, ⟨some 2, .mv (.t 7) true, none⟩])
  (.ret))), [.t 2]⟩
theorem row35 : RowOk Try.prog 35 C35 := ⟨Try.f35, ⟨[], [7], [], []⟩, lvOf [], Try.func35, by kernel_rfl, by kernel_rfl⟩
/-- swingbridge/sorted.Top$1 -/
def C37 : CFun := ⟨8, 2, .seq (.reg [⟨some 4, .mv (.c (.int .i64 0)) true, none⟩])
  (.seq (.reg [⟨some 5, .mv (.t 1) false, none⟩, ⟨some 6, .mv (.t 0) false, none⟩, ⟨some 7, .call 38 [(.t 5), (.t 6)] false, none⟩, ⟨some 4, .mv (.t 7) true, none⟩])
  (.ret)), [.t 4]⟩
theorem row37 : RowOk Try.prog 37 C37 := ⟨Try.f37, ⟨[], [], [], []⟩, lvOf [], Try.func37, by kernel_rfl, by kernel_rfl⟩
/-- cmp.Compare[int] -/
def C38 : CFun := ⟨20, 2, .seq (.reg [⟨some 4, .mv (.c (.int .i64 0)) true, none⟩])
  (.seq (.reg [⟨some 7, .mv (.t 0) false, none⟩, ⟨some 8, .call 52 [(.t 7)] false, none⟩, ⟨some 5, .mv (.t 8) true, none⟩])
  (.seq (.reg [⟨some 9, .mv (.t 1) false, none⟩, ⟨some 10, .call 52 [(.t 9)] false, none⟩, ⟨some 6, .mv (.t 10) true, none⟩])
  (.seq (.seq (.reg [⟨some 11, .mv (.t 5) false, none⟩])
  (.cond (.t 11) (.seq (.seq (.reg [⟨some 12, .mv (.t 6) false, none⟩])
  (.cond (.t 12) (.seq (.reg [⟨some 4, .mv (.c (.int .i64 0)) true, none⟩])
  (.ret))
  (.skip)))
  (.seq (.reg [⟨some 4, .mv (.c (.int .i64 (-1))) true, none⟩])
  (.ret)))
  (.skip)))
  (.seq (.seq (.reg [⟨some 13, .mv (.t 6) false, none⟩])
  (.cond (.t 13) (.seq (.reg [⟨some 4, .mv (.c (.int .i64 1)) true, none⟩])
  (.ret))
  (.skip)))
  (.seq (.seq (.reg [⟨some 14, .mv (.t 0) false, none⟩, ⟨some 15, .mv (.t 1) false, none⟩, ⟨some 16, .bin .lss (.t 14) (.t 15), none⟩])
  (.cond (.t 16) (.seq (.reg [⟨some 4, .mv (.c (.int .i64 (-1))) true, none⟩])
  (.ret))
  (.skip)))
  (.seq (.seq (.reg [⟨some 17, .mv (.t 0) false, none⟩, ⟨some 18, .mv (.t 1) false, none⟩, ⟨some 19, .bin .gtr (.t 17) (.t 18), none⟩])
  (.cond (.t 19) (.seq (.reg [⟨some 4, .mv (.c (.int .i64 1)) true, none⟩])
  (.ret))
  (.skip)))
  (.seq (.reg [⟨some 4, .mv (.c (.int .i64 0)) true, none⟩])
  (.ret)))))))), [.t 4]⟩
theorem row38 : RowOk Try.prog 38 C38 := ⟨Try.f38, ⟨[], [], [], []⟩, lvOf [], Try.func38, by kernel_rfl, by kernel_rfl⟩
def B39_0 : C := .seq (.seq (.reg [⟨some 6, .mv (.t 5) false, none⟩, ⟨some 7, .mv (.t 0) false, none⟩, ⟨some 8, .len (.t 7), none⟩, ⟨some 9, .bin .lss (.t 6) (.t 8), none⟩])
  (.cond (.t 9) (.skip)
  (.exit 0)))
  (.seq (.block 1 (.seq (.reg [⟨some 12, .mv (.t 0) false, none⟩, ⟨some 13, .mv (.t 5) false, none⟩, ⟨some 14, .ia 1 (.t 12) (.t 13), none⟩, ⟨some 15, .load 1 false (.t 14) false, none⟩, ⟨some 16, .mv (.t 1) false, none⟩, ⟨some 17, .bin .eql (.t 15) (.t 16), none⟩])
  (.cond (.t 17) (.seq (.reg [⟨some 18, .mv (.t 5) false, none⟩, ⟨some 4, .mv (.t 18) true, none⟩])
  (.ret))
  (.skip))))
  (.reg [⟨some 10, .mv (.t 5) false, none⟩, ⟨some 11, .bin .add (.t 10) (.c (.int .i64 1)), none⟩, ⟨some 5, .mv (.t 11) true, none⟩]))
def L39_0 : C := .loop [0, 1, 5] 0 B39_0
theorem go39_0 (s : Env × Bx) (nb) : evL tab ext nb L39_0 s = (loopIn nb [0, 1, 5] 0 s).bind fun s0 => (evL tab ext nb B39_0 s0).bind (seqG tab ext nb L39_0) := eL_loop _ _ _
/-- swingbridge/swingbridgeref2.At -/
def C39 : CFun := ⟨19, 2, .seq (.reg [⟨some 4, .mv (.c (.int .i64 0)) true, none⟩])
  (.seq (.seq (.reg [⟨some 5, .mv (.c (.int .i64 0)) true, none⟩])
  (.block 0 (L39_0)))
  (.seq (.reg [⟨some 4, .mv (.c (.int .i64 (-1))) true, none⟩])
  (.ret))), [.t 4]⟩
theorem row39 : RowOk Try.prog 39 C39 := ⟨Try.f39, ⟨[], [], [], []⟩, lvOf [(0, [0, 1, 5], 0)], Try.func39, by kernel_rfl, by kernel_rfl⟩
def B40_0 : C := .seq (.reg [⟨some 23, .bin .lss (.t 22) (.t 21), none⟩])
  (.seq (.cond (.t 23) (.skip)
  (.exit 0))
  (.seq (.block 1 (.seq (.reg [⟨some 24, .ia 1 (.t 20) (.t 22), none⟩, ⟨some 25, .load 1 false (.t 24) false, none⟩, ⟨some 12, .mv (.t 25) true, none⟩])
  (.reg [⟨some 26, .mv (.t 10) false, none⟩, ⟨some 27, .mv (.t 12) false, none⟩, ⟨some 28, .bin .add (.t 26) (.t 27), none⟩, ⟨some 10, .mv (.t 28) true, none⟩])))
  (.reg [⟨some 29, .bin .add (.t 22) (.c (.int .i64 1)), none⟩, ⟨some 22, .mv (.t 29) false, none⟩])))
def L40_0 : C := .loop [9, 10, 20, 21, 22] 1 B40_0
theorem go40_0 (s : Env × Bx) (nb) : evL tab ext nb L40_0 s = (loopIn nb [9, 10, 20, 21, 22] 1 s).bind fun s0 => (evL tab ext nb B40_0 s0).bind (seqG tab ext nb L40_0) := eL_loop _ _ _
/-- swingbridge/wait.Sum -/
def C40 : CFun := ⟨32, 3, .seq (.reg [⟨some 3, .box (.t 0), none⟩, ⟨some 6, .mv (.c (.int .i64 0)) true, none⟩, ⟨some 7, .mv (.c (.bool false)) true, none⟩])
  (.seq (.reg [⟨some 14, .load 4 true (.t 3) false, none⟩, ⟨some 15, .mv (.t 1) false, none⟩, ⟨some 16, .mv (.t 2) false, none⟩, ⟨some 17, .call 27 [(.t 14), (.t 15), (.t 16)] false, none⟩, ⟨some 13, .mv (.t 17) false, none⟩, ⟨some 18, .ext (.t 13) 0, none⟩, ⟨some 19, .ext (.t 13) 1, none⟩, ⟨some 8, .mv (.t 18) true, none⟩, ⟨some 9, .mv (.t 19) true, none⟩])
  (.seq (.reg [⟨some 10, .mv (.c (.int .i64 0)) true, none⟩])
  (.seq (.seq (.reg [⟨some 20, .mv (.t 8) false, none⟩, ⟨some 21, .len (.t 20), none⟩, ⟨some 22, .mv (.c (.int .i64 0)) false, none⟩])
  (.block 0 (L40_0)))
  (.seq (.reg [⟨some 30, .mv (.t 10) false, none⟩, ⟨some 31, .mv (.t 9) false, none⟩, ⟨some 6, .mv (.t 30) true, none⟩, ⟨some 7, .mv (.t 31) true, none⟩])
  (.ret))))), [.t 6, .t 7]⟩
theorem row40 : RowOk Try.prog 40 C40 := ⟨Try.f40, ⟨[], [], [], []⟩, lvOf [(0, [9, 10, 20, 21, 22], 1)], Try.func40, by kernel_rfl, by kernel_rfl⟩
/-- swingbridge/swingbridgeref7.OK -/
def C41 : CFun := ⟨12, 1, .seq (.reg [⟨some 1, .box (.t 0), none⟩, ⟨some 2, .mv (.c (.bool false)) true, none⟩])
  (.seq (.reg [⟨some 6, .load 4 true (.t 1) false, none⟩, ⟨some 7, .call 53 [(.t 6)] false, none⟩, ⟨some 5, .mv (.t 7) false, none⟩, ⟨some 8, .ext (.t 5) 0, none⟩, ⟨some 9, .ext (.t 5) 1, none⟩, ⟨some 3, .mv (.t 8) true, none⟩, ⟨some 4, .mv (.t 9) true, none⟩])
  (.seq (.reg [⟨some 10, .mv (.t 4) false, none⟩, ⟨some 11, .bin .eql (.t 10) (.c (.int .i64 0)), none⟩, ⟨some 2, .mv (.t 11) true, none⟩])
  (.ret))), [.t 2]⟩
theorem row41 : RowOk Try.prog 41 C41 := ⟨Try.f41, ⟨[], [], [], []⟩, lvOf [], Try.func41, by kernel_rfl, by kernel_rfl⟩
def B42_1 : C := .seq (.reg [⟨some 29, .bin .lss (.t 28) (.t 27), none⟩])
  (.seq (.cond (.t 29) (.skip)
  (.exit 1))
  (.seq (.block 2 (.seq (.reg [⟨some 30, .mv (.t 28) false, none⟩, ⟨some 4, .mv (.t 30) true, none⟩])
  (.seq (.reg [⟨some 31, .load 4 true (.t 1) false, none⟩, ⟨some 32, .mv (.t 4) false, none⟩, ⟨some 33, .call 56 [(.t 31), (.t 32)] false, none⟩, ⟨some 5, .mv (.t 33) true, none⟩])
  (.seq (.reg [⟨some 34, .mv (.t 5) false, none⟩, ⟨some 35, .bin .neq (.t 34) (.c (.int .i64 0)), none⟩])
  (.cond (.t 35) (.seq (.reg [⟨some 36, .mv (.t 4) false, none⟩, ⟨some 37, .mv (.t 5) false, none⟩, ⟨some 2, .mv (.t 36) true, none⟩, ⟨some 3, .mv (.t 37) true, none⟩])
  (.ret))
  (.skip))))))
  (.reg [⟨some 38, .bin .add (.t 28) (.c (.int .i64 1)), none⟩, ⟨some 28, .mv (.t 38) false, none⟩])))
def L42_1 : C := .loop [1, 27, 28] 1 B42_1
theorem go42_1 (s : Env × Bx) (nb) : evL tab ext nb L42_1 s = (loopIn nb [1, 27, 28] 1 s).bind fun s0 => (evL tab ext nb B42_1 s0).bind (seqG tab ext nb L42_1) := eL_loop _ _ _
/-- swingbridge/task.Check -/
def C42 : CFun := ⟨39, 1, .seq (.reg [⟨some 1, .box (.t 0), none⟩, ⟨some 2, .mv (.c (.int .i64 0)) true, none⟩, ⟨some 3, .mv (.c (.int .i64 0)) true, none⟩])
  (.seq (.block 0 (.seq (.reg [⟨some 7, .fa 0 (.t 1), none⟩, ⟨some 8, .load 1 false (.t 7) false, none⟩, ⟨some 9, .call 54 [(.t 8), (.c (.int .i64 1)), (.c (.int .i64 3))] false, none⟩, ⟨some 10, .un .not (.t 9), none⟩, ⟨some 6, .mv (.t 10) true, none⟩])
  (.cond (.t 6) (.seq (.reg [⟨some 2, .mv (.c (.int .i64 (-1))) true, none⟩, ⟨some 3, .mv (.c (.int .i64 10)) true, none⟩])
  (.ret))
  (.seq (.reg [⟨some 12, .load 4 true (.t 1) false, none⟩, ⟨some 13, .call 55 [(.t 12)] false, none⟩, ⟨some 14, .un .not (.t 13), none⟩, ⟨some 11, .mv (.t 14) true, none⟩])
  (.cond (.t 11) (.seq (.reg [⟨some 2, .mv (.c (.int .i64 (-1))) true, none⟩, ⟨some 3, .mv (.c (.int .i64 16)) true, none⟩])
  (.ret))
  (.seq (.reg [⟨some 16, .fa 3 (.t 1), none⟩, ⟨some 17, .load 1 false (.t 16) false, none⟩, ⟨some 18, .len (.t 17), none⟩, ⟨some 19, .bin .gtr (.t 18) (.c (.int .i64 6)), none⟩, ⟨some 15, .mv (.t 19) true, none⟩])
  (.cond (.t 15) (.seq (.reg [⟨some 2, .mv (.c (.int .i64 (-1))) true, none⟩, ⟨some 3, .mv (.c (.int .i64 11)) true, none⟩])
  (.ret))
  (.seq (.reg [⟨some 21, .fa 3 (.t 1), none⟩, ⟨some 22, .load 1 false (.t 21) false, none⟩, ⟨some 23, .len (.t 22), none⟩, ⟨some 24, .bin .eql (.t 23) (.c (.int .i64 0)), none⟩, ⟨some 20, .mv (.t 24) true, none⟩])
  (.cond (.t 20) (.seq (.reg [⟨some 2, .mv (.c (.int .i64 (-1))) true, none⟩, ⟨some 3, .mv (.c (.int .i64 14)) true, none⟩])
  (.ret))
  (.skip))))))))))
  (.seq (.seq (.reg [⟨some 25, .fa 3 (.t 1), none⟩, ⟨some 26, .load 1 false (.t 25) false, none⟩, ⟨some 27, .len (.t 26), none⟩, ⟨some 28, .mv (.c (.int .i64 0)) false, none⟩])
  (.block 1 (L42_1)))
  (.seq (.reg [⟨some 2, .mv (.c (.int .i64 (-1))) true, none⟩, ⟨some 3, .mv (.c (.int .i64 0)) true, none⟩])
  (.ret)))), [.t 2, .t 3]⟩
theorem row42 : RowOk Try.prog 42 C42 := ⟨Try.f42, ⟨[], [], [], []⟩, lvOf [(1, [1, 27, 28], 1)], Try.func42, by kernel_rfl, by kernel_rfl⟩
/-- swingbridge/swingbridgelaw16.one -/
def C43 : CFun := ⟨12, 2, .seq (.reg [⟨some 4, .alloc [(.int .i64 0), (.slice none 0 0), (.slice none 0 0), (.slice none 0 0)], none⟩])
  (.seq (.reg [⟨some 5, .mv (.t 0) false, none⟩, ⟨some 6, .bsl 1 1 [(.int .i64 0)] [(0, 1, (.c (.int .i64 1)))] false, none⟩, ⟨some 7, .bsl 1 1 [(.int .i64 0)] [(0, 1, (.c (.int .i64 0)))] false, none⟩, ⟨some 8, .mv (.t 1) false, none⟩, ⟨some 9, .build [(.string ⟨#[]⟩), (.int .i64 0), (.int .i64 0), (.int .i64 0), (.int .i64 0), (.slice none 0 0)] [(0, 1, (.c (.string ⟨#[97]⟩))), (1, 1, (.c (.int .i64 100))), (2, 1, (.c (.int .i64 100))), (3, 1, (.c (.int .i64 1))), (5, 1, (.t 8))], none⟩, ⟨some 10, .bsl 6 1 [(.string ⟨#[]⟩), (.int .i64 0), (.int .i64 0), (.int .i64 0), (.int .i64 0), (.slice none 0 0)] [(0, 6, (.t 9))] false, none⟩, ⟨some 11, .build [(.int .i64 0), (.slice none 0 0), (.slice none 0 0), (.slice none 0 0)] [(0, 1, (.t 5)), (1, 1, (.t 6)), (2, 1, (.t 7)), (3, 1, (.t 10))], none⟩, ⟨none, .store 4 (.t 4) (.t 11), none⟩])
  (.ret)), [.cell 4 4]⟩
theorem row43 : RowOk Try.prog 43 C43 := ⟨Try.f43, ⟨[], [], [], []⟩, lvOf [], Try.func43, by kernel_rfl, by kernel_rfl⟩
/-- swingbridge/fair.Part -/
def C44 : CFun := ⟨30, 3, .seq (.reg [⟨some 3, .box (.t 0), none⟩, ⟨some 6, .mv (.c (.int .i64 0)) true, none⟩, ⟨some 7, .mv (.c (.bool false)) true, none⟩])
  (.seq (.reg [⟨some 12, .load 4 true (.t 3) false, none⟩, ⟨some 13, .mv (.t 1) false, none⟩, ⟨some 14, .mv (.t 2) false, none⟩, ⟨some 15, .call 57 [(.t 12), (.t 13), (.t 14)] false, none⟩, ⟨some 11, .mv (.t 15) false, none⟩, ⟨some 16, .ext (.t 11) 0, none⟩, ⟨some 17, .ext (.t 11) 1, none⟩, ⟨some 8, .alloc [(.int .i64 0), (.int .i64 0), (.int .i64 0)], none⟩, ⟨none, .store 3 (.t 8) (.t 16), none⟩, ⟨some 9, .mv (.t 17) true, none⟩])
  (.seq (.seq (.reg [⟨some 18, .mv (.t 9) false, none⟩, ⟨some 19, .un .not (.t 18), none⟩])
  (.cond (.t 19) (.seq (.reg [⟨some 6, .mv (.c (.int .i64 0)) true, none⟩, ⟨some 7, .mv (.c (.bool false)) true, none⟩])
  (.ret))
  (.skip)))
  (.seq (.reg [⟨some 20, .load 4 true (.t 3) false, none⟩, ⟨some 21, .mv (.t 1) false, none⟩, ⟨some 22, .call 58 [(.t 20), (.t 21)] false, none⟩, ⟨some 10, .mv (.t 22) true, none⟩])
  (.seq (.reg [⟨some 23, .fa 1 (.t 8), none⟩, ⟨some 24, .load 1 false (.t 23) false, none⟩, ⟨some 25, .mv (.t 10) false, none⟩, ⟨some 26, .mv (.t 10) false, none⟩, ⟨some 27, .len (.t 26), none⟩, ⟨some 28, .call 21 [(.t 25), (.t 27)] false, none⟩, ⟨some 29, .bin .add (.t 24) (.t 28), none⟩, ⟨some 6, .mv (.t 29) true, none⟩, ⟨some 7, .mv (.c (.bool true)) true, none⟩])
  (.ret))))), [.t 6, .t 7]⟩
theorem row44 : RowOk Try.prog 44 C44 := ⟨Try.f44, ⟨[], [], [], []⟩, lvOf [], Try.func44, by kernel_rfl, by kernel_rfl⟩
def B45_0 : C := .seq (.seq (.reg [⟨some 68, .mv (.t 13) false, none⟩, ⟨some 69, .bin .leq (.t 68) (.c (.int .i64 3000)), none⟩])
  (.cond (.t 69) (.skip)
  (.exit 0)))
  (.block 1 (.seq (.reg [⟨some 70, .mv (.t 12) false, none⟩, ⟨some 71, .load 4 true (.t 4) false, none⟩, ⟨some 72, .mv (.t 1) false, none⟩, ⟨some 73, .mv (.t 2) false, none⟩, ⟨some 74, .mv (.t 11) false, none⟩, ⟨some 75, .mv (.t 13) false, none⟩, ⟨some 76, .call 61 [(.t 71), (.t 72), (.t 73), (.t 74), (.t 75)] false, none⟩, ⟨some 77, .bin .add (.t 70) (.t 76), none⟩, ⟨some 14, .mv (.t 77) true, none⟩])
  (.seq (.seq (.reg [⟨some 78, .mv (.t 14) false, none⟩, ⟨some 79, .mv (.t 13) false, none⟩, ⟨some 80, .bin .eql (.t 78) (.t 79), none⟩])
  (.cond (.t 80) (.seq (.reg [⟨some 81, .mv (.t 13) false, none⟩, ⟨some 8, .mv (.t 81) true, none⟩, ⟨some 9, .mv (.c (.bool true)) true, none⟩])
  (.ret))
  (.skip)))
  (.seq (.seq (.reg [⟨some 82, .mv (.t 14) false, none⟩, ⟨some 83, .mv (.t 13) false, none⟩, ⟨some 84, .bin .lss (.t 82) (.t 83), none⟩])
  (.cond (.t 84) (.exit 0)
  (.skip)))
  (.reg [⟨some 85, .mv (.t 14) false, none⟩, ⟨some 13, .mv (.t 85) true, none⟩])))))
def L45_0 : C := .loop [1, 2, 4, 11, 12, 13] 2 B45_0
theorem go45_0 (s : Env × Bx) (nb) : evL tab ext nb L45_0 s = (loopIn nb [1, 2, 4, 11, 12, 13] 2 s).bind fun s0 => (evL tab ext nb B45_0 s0).bind (seqG tab ext nb L45_0) := eL_loop _ _ _
/-- swingbridge/agent.Part -/
def C45 : CFun := ⟨86, 4, .seq (.reg [⟨some 4, .box (.t 0), none⟩, ⟨some 8, .mv (.c (.int .i64 0)) true, none⟩, ⟨some 9, .mv (.c (.bool false)) true, none⟩])
  (.scope (.seq (.seq (.reg [⟨some 15, .load 4 true (.t 4) false, none⟩, ⟨some 16, .mv (.t 2) false, none⟩, ⟨some 17, .call 59 [(.t 15), (.t 16)] false, none⟩, ⟨some 18, .un .not (.t 17), none⟩, ⟨some 19, .mv (.t 18) false, none⟩, ⟨some 20, .mv (.t 1) false, some (19, false)⟩, ⟨some 21, .len (.t 20), some (19, false)⟩, ⟨some 22, .fa 3 (.t 4), some (19, false)⟩, ⟨some 23, .load 1 false (.t 22) false, some (19, false)⟩, ⟨some 24, .len (.t 23), some (19, false)⟩, ⟨some 25, .bin .neq (.t 21) (.t 24), some (19, false)⟩, ⟨some 26, .pick (.t 19) (.c (.bool true)) (.t 25), none⟩, ⟨some 27, .mv (.t 26) false, none⟩, ⟨some 28, .mv (.t 3) false, some (27, false)⟩, ⟨some 29, .bin .lss (.t 28) (.c (.int .i64 0)), some (27, false)⟩, ⟨some 30, .pick (.t 27) (.c (.bool true)) (.t 29), none⟩, ⟨some 31, .mv (.t 30) false, none⟩, ⟨some 32, .mv (.t 3) false, some (31, false)⟩, ⟨some 33, .fa 3 (.t 4), some (31, false)⟩, ⟨some 34, .load 1 false (.t 33) false, some (31, false)⟩, ⟨some 35, .mv (.t 2) false, some (31, false)⟩, ⟨some 36, .ia 6 (.t 34) (.t 35), some (31, false)⟩, ⟨some 37, .fa 5 (.t 36), some (31, false)⟩, ⟨some 38, .load 1 false (.t 37) false, some (31, false)⟩, ⟨some 39, .len (.t 38), some (31, false)⟩, ⟨some 40, .bin .geq (.t 32) (.t 39), some (31, false)⟩, ⟨some 41, .pick (.t 31) (.c (.bool true)) (.t 40), none⟩])
  (.cond (.t 41) (.seq (.reg [⟨some 8, .mv (.c (.int .i64 0)) true, none⟩, ⟨some 9, .mv (.c (.bool false)) true, none⟩])
  (.ret))
  (.skip)))
  (.seq (.reg [⟨some 42, .fa 3 (.t 4), none⟩, ⟨some 43, .load 1 false (.t 42) false, none⟩, ⟨some 44, .mv (.t 2) false, none⟩, ⟨some 45, .ia 6 (.t 43) (.t 44), none⟩, ⟨some 46, .fa 5 (.t 45), none⟩, ⟨some 47, .load 1 false (.t 46) false, none⟩, ⟨some 48, .mv (.t 3) false, none⟩, ⟨some 49, .ia 3 (.t 47) (.t 48), none⟩, ⟨some 50, .load 3 true (.t 49) false, none⟩, ⟨some 10, .alloc [(.int .i64 0), (.int .i64 0), (.int .i64 0)], none⟩, ⟨none, .store 3 (.t 10) (.t 50), none⟩])
  (.seq (.seq (.reg [⟨some 51, .fa 0 (.t 10), none⟩, ⟨some 52, .load 1 false (.t 51) false, none⟩, ⟨some 53, .bin .neq (.t 52) (.c (.int .i64 3)), none⟩])
  (.cond (.t 53) (.seq (.reg [⟨some 8, .mv (.c (.int .i64 0)) true, none⟩, ⟨some 9, .mv (.c (.bool false)) true, none⟩])
  (.ret))
  (.skip)))
  (.seq (.reg [⟨some 54, .fa 2 (.t 4), none⟩, ⟨some 55, .load 1 false (.t 54) false, none⟩, ⟨some 56, .fa 2 (.t 10), none⟩, ⟨some 57, .load 1 false (.t 56) false, none⟩, ⟨some 58, .ia 1 (.t 55) (.t 57), none⟩, ⟨some 59, .load 1 false (.t 58) false, none⟩, ⟨some 11, .mv (.t 59) true, none⟩])
  (.seq (.reg [⟨some 60, .fa 1 (.t 10), none⟩, ⟨some 61, .load 1 false (.t 60) false, none⟩, ⟨some 62, .load 4 true (.t 4) false, none⟩, ⟨some 63, .mv (.t 2) false, none⟩, ⟨some 64, .mv (.t 11) false, none⟩, ⟨some 65, .call 60 [(.t 62), (.t 63), (.t 64)] false, none⟩, ⟨some 66, .bin .add (.t 61) (.t 65), none⟩, ⟨some 12, .mv (.t 66) true, none⟩])
  (.seq (.reg [⟨some 67, .mv (.t 12) false, none⟩, ⟨some 13, .mv (.t 67) true, none⟩])
  (.seq (.skip)
  (.seq (.block 0 (L45_0))
  (.seq (.reg [⟨some 8, .mv (.c (.int .i64 0)) true, none⟩, ⟨some 9, .mv (.c (.bool false)) true, none⟩])
  (.ret))))))))))), [.t 8, .t 9]⟩
theorem row45 : RowOk Try.prog 45 C45 := ⟨Try.f45, ⟨[], [], [], []⟩, lvOf [(0, [1, 2, 4, 11, 12, 13], 2)], Try.func45, by kernel_rfl, by kernel_rfl⟩
/-- swingbridge/token.Part -/
def C46 : CFun := ⟨24, 3, .seq (.reg [⟨some 3, .box (.t 0), none⟩, ⟨some 6, .mv (.c (.int .i64 0)) true, none⟩, ⟨some 7, .mv (.c (.bool false)) true, none⟩])
  (.seq (.reg [⟨some 11, .load 4 true (.t 3) false, none⟩, ⟨some 12, .mv (.t 1) false, none⟩, ⟨some 13, .mv (.t 2) false, none⟩, ⟨some 14, .call 62 [(.t 11), (.t 12), (.t 13)] false, none⟩, ⟨some 10, .mv (.t 14) false, none⟩, ⟨some 15, .ext (.t 10) 0, none⟩, ⟨some 16, .ext (.t 10) 1, none⟩, ⟨some 8, .mv (.t 15) true, none⟩, ⟨some 9, .mv (.t 16) true, none⟩])
  (.seq (.seq (.reg [⟨some 17, .mv (.t 9) false, none⟩, ⟨some 18, .un .not (.t 17), none⟩])
  (.cond (.t 18) (.seq (.reg [⟨some 6, .mv (.c (.int .i64 0)) true, none⟩, ⟨some 7, .mv (.c (.bool false)) true, none⟩])
  (.ret))
  (.skip)))
  (.seq (.reg [⟨some 19, .mv (.t 8) false, none⟩, ⟨some 20, .load 4 true (.t 3) false, none⟩, ⟨some 21, .mv (.t 1) false, none⟩, ⟨some 22, .call 63 [(.t 20), (.t 21)] false, none⟩, ⟨some 23, .bin .add (.t 19) (.t 22), none⟩, ⟨some 6, .mv (.t 23) true, none⟩, ⟨some 7, .mv (.c (.bool true)) true, none⟩])
  (.ret)))), [.t 6, .t 7]⟩
theorem row46 : RowOk Try.prog 46 C46 := ⟨Try.f46, ⟨[], [], [], []⟩, lvOf [], Try.func46, by kernel_rfl, by kernel_rfl⟩
def B47_0 : C := .seq (.seq (.reg [⟨some 11, .mv (.t 8) false, none⟩, ⟨some 12, .mv (.t 1) false, none⟩, ⟨some 13, .bin .leq (.t 11) (.t 12), none⟩])
  (.cond (.t 13) (.skip)
  (.exit 0)))
  (.block 1 (.seq (.reg [⟨some 14, .mv (.t 0) false, none⟩, ⟨some 15, .mv (.t 7) false, none⟩, ⟨some 16, .mv (.t 8) false, none⟩, ⟨some 17, .mv (.t 2) false, none⟩, ⟨some 18, .calli 64 [(.t 14), (.t 15), (.t 16), (.t 17)], none⟩])
  (.seq (.reg [⟨some 19, .mv (.t 8) false, none⟩, ⟨some 7, .mv (.t 19) true, none⟩])
  (.reg [⟨some 20, .mv (.t 8) false, none⟩, ⟨some 21, .mv (.t 6) false, none⟩, ⟨some 22, .bin .add (.t 20) (.t 21), none⟩, ⟨some 8, .mv (.t 22) true, none⟩]))))
def L47_0 : C := .loop [0, 1, 2, 6, 7, 8] 0 B47_0
theorem go47_0 (s : Env × Bx) (nb) : evL tab ext nb L47_0 s = (loopIn nb [0, 1, 2, 6, 7, 8] 0 s).bind fun s0 => (evL tab ext nb B47_0 s0).bind (seqG tab ext nb L47_0) := eL_loop _ _ _
def B47_4 : C := .seq (.seq (.reg [⟨some 33, .mv (.t 8) false, none⟩, ⟨some 34, .mv (.t 1) false, none⟩, ⟨some 35, .bin .leq (.t 33) (.t 34), none⟩])
  (.cond (.t 35) (.skip)
  (.exit 4)))
  (.block 5 (.seq (.reg [⟨some 36, .mv (.t 0) false, none⟩, ⟨some 37, .mv (.t 7) false, none⟩, ⟨some 38, .mv (.t 7) false, none⟩, ⟨some 39, .mv (.t 6) false, none⟩, ⟨some 40, .bin .add (.t 38) (.t 39), none⟩, ⟨some 41, .mv (.t 8) false, none⟩, ⟨some 42, .mv (.t 2) false, none⟩, ⟨some 43, .calli 65 [(.t 36), (.t 37), (.t 40), (.t 41), (.t 42)], none⟩])
  (.seq (.reg [⟨some 44, .mv (.t 8) false, none⟩, ⟨some 7, .mv (.t 44) true, none⟩])
  (.reg [⟨some 45, .mv (.t 8) false, none⟩, ⟨some 46, .mv (.t 6) false, none⟩, ⟨some 47, .bin .mul (.c (.int .i64 2)) (.t 46), none⟩, ⟨some 48, .bin .add (.t 45) (.t 47), none⟩, ⟨some 8, .mv (.t 48) true, none⟩]))))
def L47_4 : C := .loop [0, 1, 2, 6, 7, 8] 0 B47_4
theorem go47_4 (s : Env × Bx) (nb) : evL tab ext nb L47_4 s = (loopIn nb [0, 1, 2, 6, 7, 8] 0 s).bind fun s0 => (evL tab ext nb B47_4 s0).bind (seqG tab ext nb L47_4) := eL_loop _ _ _
def B47_2 : C := .seq (.seq (.reg [⟨some 28, .mv (.t 6) false, none⟩, ⟨some 29, .mv (.t 1) false, none⟩, ⟨some 30, .bin .lss (.t 28) (.t 29), none⟩])
  (.cond (.t 30) (.skip)
  (.exit 2)))
  (.block 3 (.seq (.reg [⟨some 31, .mv (.t 6) false, none⟩, ⟨some 32, .bin .mul (.c (.int .i64 2)) (.t 31), none⟩, ⟨some 7, .mv (.c (.int .i64 0)) true, none⟩, ⟨some 8, .mv (.t 32) true, none⟩])
  (.seq (.block 4 (L47_4))
  (.seq (.seq (.reg [⟨some 49, .mv (.t 7) false, none⟩, ⟨some 50, .mv (.t 6) false, none⟩, ⟨some 51, .bin .add (.t 49) (.t 50), none⟩, ⟨some 9, .mv (.t 51) true, none⟩])
  (.seq (.reg [⟨some 52, .mv (.t 9) false, none⟩, ⟨some 53, .mv (.t 1) false, none⟩, ⟨some 54, .bin .lss (.t 52) (.t 53), none⟩])
  (.cond (.t 54) (.reg [⟨some 55, .mv (.t 0) false, none⟩, ⟨some 56, .mv (.t 7) false, none⟩, ⟨some 57, .mv (.t 9) false, none⟩, ⟨some 58, .mv (.t 1) false, none⟩, ⟨some 59, .mv (.t 2) false, none⟩, ⟨some 60, .calli 65 [(.t 55), (.t 56), (.t 57), (.t 58), (.t 59)], none⟩])
  (.skip))))
  (.reg [⟨some 61, .mv (.t 6) false, none⟩, ⟨some 62, .bin .mul (.t 61) (.c (.int .i64 2)), none⟩, ⟨some 6, .mv (.t 62) true, none⟩])))))
def L47_2 : C := .loop [0, 1, 2, 6] 0 B47_2
theorem go47_2 (s : Env × Bx) (nb) : evL tab ext nb L47_2 s = (loopIn nb [0, 1, 2, 6] 0 s).bind fun s0 => (evL tab ext nb B47_2 s0).bind (seqG tab ext nb L47_2) := eL_loop _ _ _
/-- slices.stableCmpFunc[swingbridge/api.Item] -/
def C47 : CFun := ⟨63, 3, .seq (.reg [⟨some 6, .mv (.c (.int .i64 20)) true, none⟩])
  (.seq (.reg [⟨some 10, .mv (.t 6) false, none⟩, ⟨some 7, .mv (.c (.int .i64 0)) true, none⟩, ⟨some 8, .mv (.t 10) true, none⟩])
  (.seq (.block 0 (L47_0))
  (.seq (.reg [⟨some 23, .mv (.t 0) false, none⟩, ⟨some 24, .mv (.t 7) false, none⟩, ⟨some 25, .mv (.t 1) false, none⟩, ⟨some 26, .mv (.t 2) false, none⟩, ⟨some 27, .calli 64 [(.t 23), (.t 24), (.t 25), (.t 26)], none⟩])
  (.block 2 (L47_2))))), []⟩
theorem row47 : RowOk Try.prog 47 C47 := ⟨Try.f47, ⟨[], [], [], []⟩, lvOf [(0, [0, 1, 2, 6, 7, 8], 0), (2, [0, 1, 2, 6], 0), (4, [0, 1, 2, 6, 7, 8], 0)], Try.func47, by kernel_rfl, by kernel_rfl⟩
/-- slices.rotateRight[swingbridge/api.Item] -/
def C49 : CFun := ⟨10, 2, .reg [⟨some 4, .mv (.t 0) false, none⟩, ⟨some 5, .mv (.t 0) false, none⟩, ⟨some 6, .len (.t 5), none⟩, ⟨some 7, .mv (.t 1) false, none⟩, ⟨some 8, .bin .sub (.t 6) (.t 7), none⟩, ⟨some 9, .call 66 [(.t 4), (.t 8)] false, none⟩], []⟩
theorem row49 : RowOk Try.prog 49 C49 := ⟨Try.f49, ⟨[], [], [], []⟩, lvOf [], Try.func49, by kernel_rfl, by kernel_rfl⟩
def B50_0 : C := .block 1 (.seq (.reg [⟨some 21, .mv (.t 2) false, none⟩, ⟨some 22, .mv (.t 1) false, none⟩, ⟨some 23, .bin .sub (.t 21) (.t 22), none⟩, ⟨some 12, .mv (.t 23) true, none⟩])
  (.seq (.seq (.reg [⟨some 24, .mv (.t 12) false, none⟩, ⟨some 25, .bin .leq (.t 24) (.c (.int .i64 12)), none⟩])
  (.cond (.t 25) (.seq (.reg [⟨some 26, .mv (.t 0) false, none⟩, ⟨some 27, .mv (.t 1) false, none⟩, ⟨some 28, .mv (.t 2) false, none⟩, ⟨some 29, .mv (.t 4) false, none⟩, ⟨some 30, .calli 67 [(.t 26), (.t 27), (.t 28), (.t 29)], none⟩])
  (.ret))
  (.skip)))
  (.seq (.seq (.reg [⟨some 31, .mv (.t 3) false, none⟩, ⟨some 32, .bin .eql (.t 31) (.c (.int .i64 0)), none⟩])
  (.cond (.t 32) (.seq (.reg [⟨some 33, .mv (.t 0) false, none⟩, ⟨some 34, .mv (.t 1) false, none⟩, ⟨some 35, .mv (.t 2) false, none⟩, ⟨some 36, .mv (.t 4) false, none⟩, ⟨some 37, .calli 68 [(.t 33), (.t 34), (.t 35), (.t 36)], none⟩])
  (.ret))
  (.skip)))
  (.seq (.seq (.reg [⟨some 38, .mv (.t 10) false, none⟩, ⟨some 39, .un .not (.t 38), none⟩])
  (.cond (.t 39) (.seq (.reg [⟨some 40, .mv (.t 0) false, none⟩, ⟨some 41, .mv (.t 1) false, none⟩, ⟨some 42, .mv (.t 2) false, none⟩, ⟨some 43, .mv (.t 4) false, none⟩, ⟨some 44, .calli 69 [(.t 40), (.t 41), (.t 42), (.t 43)], none⟩])
  (.reg [⟨some 45, .mv (.t 3) false, none⟩, ⟨some 46, .bin .sub (.t 45) (.c (.int .i64 1)), none⟩, ⟨some 3, .mv (.t 46) true, none⟩]))
  (.skip)))
  (.seq (.reg [⟨some 48, .mv (.t 0) false, none⟩, ⟨some 49, .mv (.t 1) false, none⟩, ⟨some 50, .mv (.t 2) false, none⟩, ⟨some 51, .mv (.t 4) false, none⟩, ⟨some 52, .calli 70 [(.t 48), (.t 49), (.t 50), (.t 51)], none⟩, ⟨some 47, .mv (.t 52) false, none⟩, ⟨some 53, .ext (.t 47) 0, none⟩, ⟨some 54, .ext (.t 47) 1, none⟩, ⟨some 13, .mv (.t 53) true, none⟩, ⟨some 14, .mv (.t 54) true, none⟩])
  (.seq (.seq (.reg [⟨some 55, .mv (.t 14) false, none⟩, ⟨some 56, .bin .eql (.t 55) (.c (.int .i64 2)), none⟩])
  (.cond (.t 56) (.seq (.reg [⟨some 57, .mv (.t 0) false, none⟩, ⟨some 58, .mv (.t 1) false, none⟩, ⟨some 59, .mv (.t 2) false, none⟩, ⟨some 60, .mv (.t 4) false, none⟩, ⟨some 61, .calli 71 [(.t 57), (.t 58), (.t 59), (.t 60)], none⟩])
  (.seq (.reg [⟨some 62, .mv (.t 2) false, none⟩, ⟨some 63, .bin .sub (.t 62) (.c (.int .i64 1)), none⟩, ⟨some 64, .mv (.t 13) false, none⟩, ⟨some 65, .mv (.t 1) false, none⟩, ⟨some 66, .bin .sub (.t 64) (.t 65), none⟩, ⟨some 67, .bin .sub (.t 63) (.t 66), none⟩, ⟨some 13, .mv (.t 67) true, none⟩])
  (.reg [⟨some 14, .mv (.c (.int .i64 1)) true, none⟩])))
  (.skip)))
  (.seq (.seq (.reg [⟨some 68, .mv (.t 10) false, none⟩, ⟨some 69, .mv (.t 68) false, none⟩, ⟨some 70, .mv (.t 11) false, some (69, true)⟩, ⟨some 71, .pick (.t 69) (.t 70) (.c (.bool false)), none⟩, ⟨some 72, .mv (.t 71) false, none⟩, ⟨some 73, .mv (.t 14) false, some (72, true)⟩, ⟨some 74, .bin .eql (.t 73) (.c (.int .i64 1)), some (72, true)⟩, ⟨some 75, .pick (.t 72) (.t 74) (.c (.bool false)), none⟩])
  (.cond (.t 75) (.seq (.reg [⟨some 76, .mv (.t 0) false, none⟩, ⟨some 77, .mv (.t 1) false, none⟩, ⟨some 78, .mv (.t 2) false, none⟩, ⟨some 79, .mv (.t 4) false, none⟩, ⟨some 80, .calli 72 [(.t 76), (.t 77), (.t 78), (.t 79)], none⟩])
  (.cond (.t 80) (.ret)
  (.skip)))
  (.skip)))
  (.seq (.seq (.reg [⟨some 81, .mv (.t 1) false, none⟩, ⟨some 82, .bin .gtr (.t 81) (.c (.int .i64 0)), none⟩, ⟨some 83, .mv (.t 82) false, none⟩, ⟨some 84, .mv (.t 4) false, some (83, true)⟩, ⟨some 85, .mv (.t 0) false, some (83, true)⟩, ⟨some 86, .mv (.t 1) false, some (83, true)⟩, ⟨some 87, .bin .sub (.t 86) (.c (.int .i64 1)), some (83, true)⟩, ⟨some 88, .ia 1 (.t 85) (.t 87), some (83, true)⟩, ⟨some 89, .load 1 false (.t 88) false, some (83, true)⟩, ⟨some 90, .mv (.t 0) false, some (83, true)⟩, ⟨some 91, .mv (.t 13) false, some (83, true)⟩, ⟨some 92, .ia 1 (.t 90) (.t 91), some (83, true)⟩, ⟨some 93, .load 1 false (.t 92) false, some (83, true)⟩, ⟨some 94, .callv (.t 84) [(.t 89), (.t 93)], some (83, true)⟩, ⟨some 95, .bin .lss (.t 94) (.c (.int .i64 0)), some (83, true)⟩, ⟨some 96, .un .not (.t 95), some (83, true)⟩, ⟨some 97, .pick (.t 83) (.t 96) (.c (.bool false)), none⟩])
  (.cond (.t 97) (.seq (.reg [⟨some 98, .mv (.t 0) false, none⟩, ⟨some 99, .mv (.t 1) false, none⟩, ⟨some 100, .mv (.t 2) false, none⟩, ⟨some 101, .mv (.t 13) false, none⟩, ⟨some 102, .mv (.t 4) false, none⟩, ⟨some 103, .calli 73 [(.t 98), (.t 99), (.t 100), (.t 101), (.t 102)], none⟩, ⟨some 15, .mv (.t 103) true, none⟩])
  (.seq (.reg [⟨some 104, .mv (.t 15) false, none⟩, ⟨some 1, .mv (.t 104) true, none⟩])
  (.exit 1)))
  (.skip)))
  (.seq (.reg [⟨some 106, .mv (.t 0) false, none⟩, ⟨some 107, .mv (.t 1) false, none⟩, ⟨some 108, .mv (.t 2) false, none⟩, ⟨some 109, .mv (.t 13) false, none⟩, ⟨some 110, .mv (.t 4) false, none⟩, ⟨some 111, .calli 74 [(.t 106), (.t 107), (.t 108), (.t 109), (.t 110)], none⟩, ⟨some 105, .mv (.t 111) false, none⟩, ⟨some 112, .ext (.t 105) 0, none⟩, ⟨some 113, .ext (.t 105) 1, none⟩, ⟨some 16, .mv (.t 112) true, none⟩, ⟨some 17, .mv (.t 113) true, none⟩])
  (.seq (.reg [⟨some 114, .mv (.t 17) false, none⟩, ⟨some 11, .mv (.t 114) true, none⟩])
  (.seq (.reg [⟨some 115, .mv (.t 16) false, none⟩, ⟨some 116, .mv (.t 1) false, none⟩, ⟨some 117, .bin .sub (.t 115) (.t 116), none⟩, ⟨some 118, .mv (.t 2) false, none⟩, ⟨some 119, .mv (.t 16) false, none⟩, ⟨some 120, .bin .sub (.t 118) (.t 119), none⟩, ⟨some 18, .mv (.t 117) true, none⟩, ⟨some 19, .mv (.t 120) true, none⟩])
  (.seq (.reg [⟨some 121, .mv (.t 12) false, none⟩, ⟨some 122, .bin .quo (.t 121) (.c (.int .i64 8)), none⟩, ⟨some 20, .mv (.t 122) true, none⟩])
  (.seq (.reg [⟨some 123, .mv (.t 18) false, none⟩, ⟨some 124, .mv (.t 19) false, none⟩, ⟨some 125, .bin .lss (.t 123) (.t 124), none⟩])
  (.cond (.t 125) (.seq (.reg [⟨some 126, .mv (.t 18) false, none⟩, ⟨some 127, .mv (.t 20) false, none⟩, ⟨some 128, .bin .geq (.t 126) (.t 127), none⟩, ⟨some 10, .mv (.t 128) true, none⟩])
  (.seq (.reg [⟨some 129, .mv (.t 0) false, none⟩, ⟨some 130, .mv (.t 1) false, none⟩, ⟨some 131, .mv (.t 16) false, none⟩, ⟨some 132, .mv (.t 3) false, none⟩, ⟨some 133, .mv (.t 4) false, none⟩, ⟨some 134, .calli 50 [(.t 129), (.t 130), (.t 131), (.t 132), (.t 133)], none⟩])
  (.reg [⟨some 135, .mv (.t 16) false, none⟩, ⟨some 136, .bin .add (.t 135) (.c (.int .i64 1)), none⟩, ⟨some 1, .mv (.t 136) true, none⟩])))
  (.seq (.reg [⟨some 137, .mv (.t 19) false, none⟩, ⟨some 138, .mv (.t 20) false, none⟩, ⟨some 139, .bin .geq (.t 137) (.t 138), none⟩, ⟨some 10, .mv (.t 139) true, none⟩])
  (.seq (.reg [⟨some 140, .mv (.t 0) false, none⟩, ⟨some 141, .mv (.t 16) false, none⟩, ⟨some 142, .bin .add (.t 141) (.c (.int .i64 1)), none⟩, ⟨some 143, .mv (.t 2) false, none⟩, ⟨some 144, .mv (.t 3) false, none⟩, ⟨some 145, .mv (.t 4) false, none⟩, ⟨some 146, .calli 50 [(.t 140), (.t 142), (.t 143), (.t 144), (.t 145)], none⟩])
  (.reg [⟨some 147, .mv (.t 16) false, none⟩, ⟨some 2, .mv (.t 147) true, none⟩])))))))))))))))))
def L50_0 : C := .loop [0, 1, 2, 3, 4, 10, 11] 0 B50_0
theorem go50_0 (s : Env × Bx) (nb) : evL tab ext nb L50_0 s = (loopIn nb [0, 1, 2, 3, 4, 10, 11] 0 s).bind fun s0 => (evL tab ext nb B50_0 s0).bind (seqG tab ext nb L50_0) := eL_loop _ _ _
/-- slices.pdqsortCmpFunc[int] -/
def C50 : CFun := ⟨148, 5, .seq (.reg [⟨some 10, .mv (.c (.bool true)) true, none⟩])
  (.seq (.reg [⟨some 11, .mv (.c (.bool true)) true, none⟩])
  (.block 0 (L50_0))), []⟩
theorem row50 : RowOk Try.prog 50 C50 := ⟨Try.f50, ⟨[], [], [], []⟩, lvOf [(0, [0, 1, 2, 3, 4, 10, 11], 0)], Try.func50, by kernel_rfl, by kernel_rfl⟩
/-- math/bits.Len -/
def C51 : CFun := ⟨8, 1, .seq (.reg [⟨some 2, .mv (.c (.int .i64 0)) true, none⟩])
  (.seq (.cond (.c (.bool false)) (.seq (.reg [⟨some 3, .mv (.t 0) false, none⟩, ⟨some 4, .conv .u32 (.t 3), none⟩, ⟨some 5, .call 75 [(.t 4)] false, none⟩, ⟨some 2, .mv (.t 5) true, none⟩])
  (.ret))
  (.skip))
  (.seq (.reg [⟨some 6, .mv (.t 0) false, none⟩, ⟨some 7, .call 76 [(.t 6)] false, none⟩, ⟨some 2, .mv (.t 7) true, none⟩])
  (.ret))), [.t 2]⟩
theorem row51 : RowOk Try.prog 51 C51 := ⟨Try.f51, ⟨[], [], [], []⟩, lvOf [], Try.func51, by kernel_rfl, by kernel_rfl⟩
/-- cmp.isNaN[int] -/
def C52 : CFun := ⟨6, 1, .seq (.reg [⟨some 2, .mv (.c (.bool false)) true, none⟩])
  (.seq (.reg [⟨some 3, .mv (.t 0) false, none⟩, ⟨some 4, .mv (.t 0) false, none⟩, ⟨some 5, .bin .neq (.t 3) (.t 4), none⟩, ⟨some 2, .mv (.t 5) true, none⟩])
  (.ret)), [.t 2]⟩
theorem row52 : RowOk Try.prog 52 C52 := ⟨Try.f52, ⟨[], [], [], []⟩, lvOf [], Try.func52, by kernel_rfl, by kernel_rfl⟩
def B53_1 : C := .seq (.seq (.reg [⟨some 29, .mv (.t 4) false, none⟩, ⟨some 30, .fa 3 (.t 1), none⟩, ⟨some 31, .load 1 false (.t 30) false, none⟩, ⟨some 32, .len (.t 31), none⟩, ⟨some 33, .bin .lss (.t 29) (.t 32), none⟩])
  (.cond (.t 33) (.skip)
  (.exit 1)))
  (.seq (.block 2 (.seq (.reg [⟨some 36, .load 4 true (.t 1) false, none⟩, ⟨some 37, .mv (.t 4) false, none⟩, ⟨some 38, .call 78 [(.t 36), (.t 37)] false, none⟩, ⟨some 5, .mv (.t 38) true, none⟩])
  (.seq (.reg [⟨some 39, .mv (.t 5) false, none⟩, ⟨some 40, .bin .neq (.t 39) (.c (.int .i64 0)), none⟩])
  (.cond (.t 40) (.seq (.reg [⟨some 41, .mv (.t 4) false, none⟩, ⟨some 42, .mv (.t 5) false, none⟩, ⟨some 2, .mv (.t 41) true, none⟩, ⟨some 3, .mv (.t 42) true, none⟩])
  (.ret))
  (.skip)))))
  (.reg [⟨some 34, .mv (.t 4) false, none⟩, ⟨some 35, .bin .add (.t 34) (.c (.int .i64 1)), none⟩, ⟨some 4, .mv (.t 35) true, none⟩]))
def L53_1 : C := .loop [1, 4] 1 B53_1
theorem go53_1 (s : Env × Bx) (nb) : evL tab ext nb L53_1 s = (loopIn nb [1, 4] 1 s).bind fun s0 => (evL tab ext nb B53_1 s0).bind (seqG tab ext nb L53_1) := eL_loop _ _ _
/-- swingbridge/swingbridgeref7.Check -/
def C53 : CFun := ⟨43, 1, .seq (.reg [⟨some 1, .box (.t 0), none⟩, ⟨some 2, .mv (.c (.int .i64 0)) true, none⟩, ⟨some 3, .mv (.c (.int .i64 0)) true, none⟩])
  (.seq (.block 0 (.seq (.reg [⟨some 7, .fa 0 (.t 1), none⟩, ⟨some 8, .load 1 false (.t 7) false, none⟩, ⟨some 9, .bin .lss (.t 8) (.c (.int .i64 1)), none⟩, ⟨some 10, .mv (.t 9) false, none⟩, ⟨some 11, .fa 0 (.t 1), some (10, false)⟩, ⟨some 12, .load 1 false (.t 11) false, some (10, false)⟩, ⟨some 13, .bin .gtr (.t 12) (.c (.int .i64 3)), some (10, false)⟩, ⟨some 14, .pick (.t 10) (.c (.bool true)) (.t 13), none⟩, ⟨some 6, .mv (.t 14) true, none⟩])
  (.cond (.t 6) (.seq (.reg [⟨some 2, .mv (.c (.int .i64 (-1))) true, none⟩, ⟨some 3, .mv (.c (.int .i64 10)) true, none⟩])
  (.ret))
  (.seq (.reg [⟨some 16, .load 4 true (.t 1) false, none⟩, ⟨some 17, .call 77 [(.t 16)] false, none⟩, ⟨some 18, .un .not (.t 17), none⟩, ⟨some 15, .mv (.t 18) true, none⟩])
  (.cond (.t 15) (.seq (.reg [⟨some 2, .mv (.c (.int .i64 (-1))) true, none⟩, ⟨some 3, .mv (.c (.int .i64 16)) true, none⟩])
  (.ret))
  (.seq (.reg [⟨some 20, .fa 3 (.t 1), none⟩, ⟨some 21, .load 1 false (.t 20) false, none⟩, ⟨some 22, .len (.t 21), none⟩, ⟨some 23, .bin .gtr (.t 22) (.c (.int .i64 6)), none⟩, ⟨some 19, .mv (.t 23) true, none⟩])
  (.cond (.t 19) (.seq (.reg [⟨some 2, .mv (.c (.int .i64 (-1))) true, none⟩, ⟨some 3, .mv (.c (.int .i64 11)) true, none⟩])
  (.ret))
  (.seq (.reg [⟨some 25, .fa 3 (.t 1), none⟩, ⟨some 26, .load 1 false (.t 25) false, none⟩, ⟨some 27, .len (.t 26), none⟩, ⟨some 28, .bin .eql (.t 27) (.c (.int .i64 0)), none⟩, ⟨some 24, .mv (.t 28) true, none⟩])
  (.cond (.t 24) (.seq (.reg [⟨some 2, .mv (.c (.int .i64 (-1))) true, none⟩, ⟨some 3, .mv (.c (.int .i64 14)) true, none⟩])
  (.ret))
  (.skip))))))))))
  (.seq (.seq (.reg [⟨some 4, .mv (.c (.int .i64 0)) true, none⟩])
  (.block 1 (L53_1)))
  (.seq (.reg [⟨some 2, .mv (.c (.int .i64 (-1))) true, none⟩, ⟨some 3, .mv (.c (.int .i64 0)) true, none⟩])
  (.ret)))), [.t 2, .t 3]⟩
theorem row53 : RowOk Try.prog 53 C53 := ⟨Try.f53, ⟨[], [], [], []⟩, lvOf [(1, [1, 4], 1)], Try.func53, by kernel_rfl, by kernel_rfl⟩
/-- swingbridge/task.between -/
def C54 : CFun := ⟨15, 3, .seq (.reg [⟨some 6, .mv (.c (.bool false)) true, none⟩])
  (.seq (.reg [⟨some 7, .mv (.t 0) false, none⟩, ⟨some 8, .mv (.t 1) false, none⟩, ⟨some 9, .bin .geq (.t 7) (.t 8), none⟩, ⟨some 10, .mv (.t 9) false, none⟩, ⟨some 11, .mv (.t 0) false, some (10, true)⟩, ⟨some 12, .mv (.t 2) false, some (10, true)⟩, ⟨some 13, .bin .leq (.t 11) (.t 12), some (10, true)⟩, ⟨some 14, .pick (.t 10) (.t 13) (.c (.bool false)), none⟩, ⟨some 6, .mv (.t 14) true, none⟩])
  (.ret)), [.t 6]⟩
theorem row54 : RowOk Try.prog 54 C54 := ⟨Try.f54, ⟨[], [], [], []⟩, lvOf [], Try.func54, by kernel_rfl, by kernel_rfl⟩
/-- swingbridge/task.placed -/
def C55 : CFun := ⟨32, 1, .seq (.reg [⟨some 1, .box (.t 0), none⟩, ⟨some 2, .mv (.c (.bool false)) true, none⟩])
  (.seq (.reg [⟨some 6, .fa 1 (.t 1), none⟩, ⟨some 7, .load 1 false (.t 6) false, none⟩, ⟨some 8, .len (.t 7), none⟩, ⟨some 9, .call 54 [(.t 8), (.c (.int .i64 1)), (.c (.int .i64 3))] false, none⟩, ⟨some 10, .mv (.t 9) false, none⟩, ⟨some 11, .fa 2 (.t 1), some (10, true)⟩, ⟨some 12, .load 1 false (.t 11) false, some (10, true)⟩, ⟨some 13, .len (.t 12), some (10, true)⟩, ⟨some 14, .bin .leq (.t 13) (.c (.int .i64 4)), some (10, true)⟩, ⟨some 15, .pick (.t 10) (.t 14) (.c (.bool false)), none⟩, ⟨some 3, .mv (.t 15) true, none⟩])
  (.seq (.reg [⟨some 4, .mv (.f 79) true, none⟩])
  (.seq (.reg [⟨some 16, .mkf 80 [(.t 1)], none⟩, ⟨some 5, .mv (.t 16) true, none⟩])
  (.seq (.reg [⟨some 17, .mv (.t 3) false, none⟩, ⟨some 18, .mv (.t 17) false, none⟩, ⟨some 19, .fa 1 (.t 1), some (18, true)⟩, ⟨some 20, .load 1 false (.t 19) false, some (18, true)⟩, ⟨some 21, .mv (.t 4) false, some (18, true)⟩, ⟨some 22, .calli 81 [(.t 20), (.t 21)], some (18, true)⟩, ⟨some 23, .un .not (.t 22), some (18, true)⟩, ⟨some 24, .pick (.t 18) (.t 23) (.c (.bool false)), none⟩, ⟨some 25, .mv (.t 24) false, none⟩, ⟨some 26, .fa 2 (.t 1), some (25, true)⟩, ⟨some 27, .load 1 false (.t 26) false, some (25, true)⟩, ⟨some 28, .mv (.t 5) false, some (25, true)⟩, ⟨some 29, .calli 81 [(.t 27), (.t 28)], some (25, true)⟩, ⟨some 30, .un .not (.t 29), some (25, true)⟩, ⟨some 31, .pick (.t 25) (.t 30) (.c (.bool false)), none⟩, ⟨some 2, .mv (.t 31) true, none⟩])
  (.ret))))), [.t 2]⟩
theorem row55 : RowOk Try.prog 55 C55 := ⟨Try.f55, ⟨[], [], [], []⟩, lvOf [], Try.func55, by kernel_rfl, by kernel_rfl⟩
/-- swingbridge/task.one -/
def C56 : CFun := ⟨60, 2, .seq (.reg [⟨some 2, .box (.t 0), none⟩, ⟨some 4, .mv (.c (.int .i64 0)) true, none⟩])
  (.seq (.reg [⟨some 7, .fa 3 (.t 2), none⟩, ⟨some 8, .load 1 false (.t 7) false, none⟩, ⟨some 9, .mv (.t 1) false, none⟩, ⟨some 10, .ia 6 (.t 8) (.t 9), none⟩, ⟨some 11, .load 6 true (.t 10) false, none⟩, ⟨some 5, .alloc [(.string ⟨#[]⟩), (.int .i64 0), (.int .i64 0), (.int .i64 0), (.int .i64 0), (.slice none 0 0)], none⟩, ⟨none, .store 6 (.t 5) (.t 11), none⟩])
  (.seq (.reg [⟨some 12, .mkf 82 [(.t 5)], none⟩, ⟨some 6, .mv (.t 12) true, none⟩])
  (.seq (.block 0 (.seq (.reg [⟨some 14, .fa 0 (.t 5), none⟩, ⟨some 15, .load 1 false (.t 14) false, none⟩, ⟨some 16, .call 83 [(.t 15)] false, none⟩, ⟨some 17, .un .not (.t 16), none⟩, ⟨some 18, .mv (.t 17) false, none⟩, ⟨some 19, .fa 1 (.t 5), some (18, false)⟩, ⟨some 20, .load 1 false (.t 19) false, some (18, false)⟩, ⟨some 21, .call 54 [(.t 20), (.c (.int .i64 1)), (.c (.int .i64 3000))] false, some (18, false)⟩, ⟨some 22, .un .not (.t 21), some (18, false)⟩, ⟨some 23, .pick (.t 18) (.c (.bool true)) (.t 22), none⟩, ⟨some 24, .mv (.t 23) false, none⟩, ⟨some 25, .fa 2 (.t 5), some (24, false)⟩, ⟨some 26, .load 1 false (.t 25) false, some (24, false)⟩, ⟨some 27, .fa 1 (.t 5), some (24, false)⟩, ⟨some 28, .load 1 false (.t 27) false, some (24, false)⟩, ⟨some 29, .call 54 [(.t 26), (.c (.int .i64 1)), (.t 28)] false, some (24, false)⟩, ⟨some 30, .un .not (.t 29), some (24, false)⟩, ⟨some 31, .pick (.t 24) (.c (.bool true)) (.t 30), none⟩, ⟨some 32, .mv (.t 31) false, none⟩, ⟨some 33, .fa 3 (.t 5), some (32, false)⟩, ⟨some 34, .load 1 false (.t 33) false, some (32, false)⟩, ⟨some 35, .call 54 [(.t 34), (.c (.int .i64 1)), (.c (.int .i64 1000))] false, some (32, false)⟩, ⟨some 36, .un .not (.t 35), some (32, false)⟩, ⟨some 37, .pick (.t 32) (.c (.bool true)) (.t 36), none⟩, ⟨some 13, .mv (.t 37) true, none⟩])
  (.cond (.t 13) (.seq (.reg [⟨some 4, .mv (.c (.int .i64 10)) true, none⟩])
  (.ret))
  (.seq (.reg [⟨some 39, .fa 4 (.t 5), none⟩, ⟨some 40, .load 1 false (.t 39) false, none⟩, ⟨some 41, .fa 1 (.t 2), none⟩, ⟨some 42, .load 1 false (.t 41) false, none⟩, ⟨some 43, .len (.t 42), none⟩, ⟨some 44, .bin .sub (.t 43) (.c (.int .i64 1)), none⟩, ⟨some 45, .call 54 [(.t 40), (.c (.int .i64 0)), (.t 44)] false, none⟩, ⟨some 46, .un .not (.t 45), none⟩, ⟨some 38, .mv (.t 46) true, none⟩])
  (.cond (.t 38) (.seq (.reg [⟨some 4, .mv (.c (.int .i64 16)) true, none⟩])
  (.ret))
  (.seq (.reg [⟨some 48, .fa 3 (.t 2), none⟩, ⟨some 49, .load 1 false (.t 48) false, none⟩, ⟨some 50, .mv (.t 1) false, none⟩, ⟨some 51, .slc 6 (.t 49) none (some (.t 50)) none, none⟩, ⟨some 52, .mv (.t 6) false, none⟩, ⟨some 53, .calli 84 [(.t 51), (.t 52)], none⟩, ⟨some 47, .mv (.t 53) true, none⟩])
  (.cond (.t 47) (.seq (.reg [⟨some 4, .mv (.c (.int .i64 17)) true, none⟩])
  (.ret))
  (.seq (.reg [⟨some 55, .load 4 true (.t 2) false, none⟩, ⟨some 56, .fa 5 (.t 5), none⟩, ⟨some 57, .load 1 false (.t 56) false, none⟩, ⟨some 58, .call 85 [(.t 55), (.t 57)] false, none⟩, ⟨some 59, .un .not (.t 58), none⟩, ⟨some 54, .mv (.t 59) true, none⟩])
  (.cond (.t 54) (.seq (.reg [⟨some 4, .mv (.c (.int .i64 15)) true, none⟩])
  (.ret))
  (.skip))))))))))
  (.seq (.reg [⟨some 4, .mv (.c (.int .i64 0)) true, none⟩])
  (.ret))))), [.t 4]⟩
theorem row56 : RowOk Try.prog 56 C56 := ⟨Try.f56, ⟨[], [], [], []⟩, lvOf [], Try.func56, by kernel_rfl, by kernel_rfl⟩
/-- swingbridge/fair.locked -/
def C57 : CFun := ⟨58, 3, .seq (.reg [⟨some 3, .box (.t 0), none⟩, ⟨some 6, .alloc [(.int .i64 0), (.int .i64 0), (.int .i64 0)], none⟩, ⟨some 7, .mv (.c (.bool false)) true, none⟩])
  (.seq (.seq (.reg [⟨some 12, .load 4 true (.t 3) false, none⟩, ⟨some 13, .call 42 [(.t 12)] false, none⟩, ⟨some 11, .mv (.t 13) false, none⟩, ⟨some 14, .ext (.t 11) 0, none⟩, ⟨some 15, .ext (.t 11) 1, none⟩, ⟨some 8, .mv (.t 14) true, none⟩, ⟨some 9, .mv (.t 15) true, none⟩])
  (.seq (.reg [⟨some 16, .mv (.t 9) false, none⟩, ⟨some 17, .bin .neq (.t 16) (.c (.int .i64 0)), none⟩, ⟨some 18, .mv (.t 17) false, none⟩, ⟨some 19, .mv (.t 1) false, some (18, false)⟩, ⟨some 20, .bin .lss (.t 19) (.c (.int .i64 0)), some (18, false)⟩, ⟨some 21, .pick (.t 18) (.c (.bool true)) (.t 20), none⟩, ⟨some 22, .mv (.t 21) false, none⟩, ⟨some 23, .mv (.t 1) false, some (22, false)⟩, ⟨some 24, .fa 3 (.t 3), some (22, false)⟩, ⟨some 25, .load 1 false (.t 24) false, some (22, false)⟩, ⟨some 26, .len (.t 25), some (22, false)⟩, ⟨some 27, .bin .geq (.t 23) (.t 26), some (22, false)⟩, ⟨some 28, .pick (.t 22) (.c (.bool true)) (.t 27), none⟩, ⟨some 29, .mv (.t 28) false, none⟩, ⟨some 30, .mv (.t 2) false, some (29, false)⟩, ⟨some 31, .bin .lss (.t 30) (.c (.int .i64 0)), some (29, false)⟩, ⟨some 32, .pick (.t 29) (.c (.bool true)) (.t 31), none⟩, ⟨some 33, .mv (.t 32) false, none⟩, ⟨some 34, .mv (.t 2) false, some (33, false)⟩, ⟨some 35, .fa 3 (.t 3), some (33, false)⟩, ⟨some 36, .load 1 false (.t 35) false, some (33, false)⟩, ⟨some 37, .mv (.t 1) false, some (33, false)⟩, ⟨some 38, .ia 6 (.t 36) (.t 37), some (33, false)⟩, ⟨some 39, .fa 5 (.t 38), some (33, false)⟩, ⟨some 40, .load 1 false (.t 39) false, some (33, false)⟩, ⟨some 41, .len (.t 40), some (33, false)⟩, ⟨some 42, .bin .geq (.t 34) (.t 41), some (33, false)⟩, ⟨some 43, .pick (.t 33) (.c (.bool true)) (.t 42), none⟩])
  (.cond (.t 43) (.seq (.reg [⟨some 44, .build [(.int .i64 0), (.int .i64 0), (.int .i64 0)] [], none⟩, ⟨none, .store 3 (.t 6) (.t 44), none⟩, ⟨some 7, .mv (.c (.bool false)) true, none⟩])
  (.ret))
  (.skip))))
  (.seq (.reg [⟨some 45, .fa 3 (.t 3), none⟩, ⟨some 46, .load 1 false (.t 45) false, none⟩, ⟨some 47, .mv (.t 1) false, none⟩, ⟨some 48, .ia 6 (.t 46) (.t 47), none⟩, ⟨some 49, .fa 5 (.t 48), none⟩, ⟨some 50, .load 1 false (.t 49) false, none⟩, ⟨some 51, .mv (.t 2) false, none⟩, ⟨some 52, .ia 3 (.t 50) (.t 51), none⟩, ⟨some 53, .load 3 true (.t 52) false, none⟩, ⟨some 10, .alloc [(.int .i64 0), (.int .i64 0), (.int .i64 0)], none⟩, ⟨none, .store 3 (.t 10) (.t 53), none⟩])
  (.seq (.dreg [(55, 10)] [(6, 10)] [⟨some 54, .load 3 true (.t 10) false, none⟩, ⟨some 55, .fa 0 (.t 10), none⟩, ⟨some 56, .load 1 false (.t 55) false, none⟩, ⟨some 57, .bin .eql (.t 56) (.c (.int .i64 3)), none⟩, ⟨none, .store 3 (.t 6) (.t 54), none⟩, ⟨some 7, .mv (.t 57) true, none⟩])
  (.ret)))), [.cell 6 3, .t 7]⟩
theorem row57 : RowOk Try.prog 57 C57 := ⟨Try.f57, ⟨[], [], [], []⟩, lvOf [], Try.func57, by kernel_rfl, by kernel_rfl⟩
def B58_0 : C := .seq (.reg [⟨some 32, .bin .lss (.t 31) (.t 30), none⟩])
  (.seq (.cond (.t 32) (.skip)
  (.exit 0))
  (.seq (.block 1 (.seq (.reg [⟨some 33, .mv (.t 31) false, none⟩, ⟨some 34, .ia 6 (.t 29) (.t 31), none⟩, ⟨some 35, .load 6 true (.t 34) false, none⟩, ⟨some 9, .alloc [(.string ⟨#[]⟩), (.int .i64 0), (.int .i64 0), (.int .i64 0), (.int .i64 0), (.slice none 0 0)], none⟩, ⟨some 8, .mv (.t 33) true, none⟩, ⟨none, .store 6 (.t 9) (.t 35), none⟩])
  (.seq (.seq (.reg [⟨some 36, .mv (.t 8) false, none⟩, ⟨some 37, .mv (.t 1) false, none⟩, ⟨some 38, .bin .eql (.t 36) (.t 37), none⟩, ⟨some 39, .mv (.t 38) false, none⟩, ⟨some 40, .load 6 true (.t 9) false, some (39, false)⟩, ⟨some 41, .call 86 [(.t 40)] false, some (39, false)⟩, ⟨some 42, .bin .eql (.t 41) (.c (.int .i64 0)), some (39, false)⟩, ⟨some 43, .pick (.t 39) (.c (.bool true)) (.t 42), none⟩])
  (.cond (.t 43) (.exit 1)
  (.skip)))
  (.reg [⟨some 44, .mv (.t 5) true, none⟩, ⟨some 45, .load 6 true (.t 9) false, none⟩, ⟨some 46, .call 86 [(.t 45)] false, none⟩, ⟨some 47, .bsl 1 1 [(.int .i64 0)] [(0, 1, (.t 46))] false, none⟩, ⟨some 48, .app 1 8 (.t 44) (.t 47) false, none⟩, ⟨some 5, .mv (.t 48) true, none⟩]))))
  (.reg [⟨some 49, .bin .add (.t 31) (.c (.int .i64 1)), none⟩, ⟨some 31, .mv (.t 49) false, none⟩])))
def L58_0 : C := .loop [1, 5, 29, 30, 31] 1 B58_0
theorem go58_0 (s : Env × Bx) (nb) : evL tab ext nb L58_0 s = (loopIn nb [1, 5, 29, 30, 31] 1 s).bind fun s0 => (evL tab ext nb B58_0 s0).bind (seqG tab ext nb L58_0) := eL_loop _ _ _
/-- swingbridge/fair.others -/
def C58 : CFun := ⟨51, 2, .seq (.reg [⟨some 2, .box (.t 0), none⟩, ⟨some 4, .mv (.c (.slice none 0 0)) true, none⟩])
  (.scope (.seq (.reg [⟨some 5, .mv (.c (.slice none 0 0)) true, none⟩])
  (.seq (.seq (.reg [⟨some 11, .load 4 true (.t 2) false, none⟩, ⟨some 12, .call 42 [(.t 11)] false, none⟩, ⟨some 10, .mv (.t 12) false, none⟩, ⟨some 13, .ext (.t 10) 0, none⟩, ⟨some 14, .ext (.t 10) 1, none⟩, ⟨some 6, .mv (.t 13) true, none⟩, ⟨some 7, .mv (.t 14) true, none⟩])
  (.seq (.reg [⟨some 15, .mv (.t 7) false, none⟩, ⟨some 16, .bin .neq (.t 15) (.c (.int .i64 0)), none⟩, ⟨some 17, .mv (.t 16) false, none⟩, ⟨some 18, .mv (.t 1) false, some (17, false)⟩, ⟨some 19, .bin .lss (.t 18) (.c (.int .i64 0)), some (17, false)⟩, ⟨some 20, .pick (.t 17) (.c (.bool true)) (.t 19), none⟩, ⟨some 21, .mv (.t 20) false, none⟩, ⟨some 22, .mv (.t 1) false, some (21, false)⟩, ⟨some 23, .fa 3 (.t 2), some (21, false)⟩, ⟨some 24, .load 1 false (.t 23) false, some (21, false)⟩, ⟨some 25, .len (.t 24), some (21, false)⟩, ⟨some 26, .bin .geq (.t 22) (.t 25), some (21, false)⟩, ⟨some 27, .pick (.t 21) (.c (.bool true)) (.t 26), none⟩])
  (.cond (.t 27) (.seq (.reg [⟨some 4, .mv (.c (.slice none 0 0)) true, none⟩])
  (.ret))
  (.skip))))
  (.seq (.skip)
  (.seq (.seq (.reg [⟨some 28, .fa 3 (.t 2), none⟩, ⟨some 29, .load 1 false (.t 28) false, none⟩, ⟨some 30, .len (.t 29), none⟩, ⟨some 31, .mv (.c (.int .i64 0)) false, none⟩])
  (.block 0 (L58_0)))
  (.seq (.reg [⟨some 50, .mv (.t 5) false, none⟩, ⟨some 4, .mv (.t 50) true, none⟩])
  (.ret))))))), [.t 4]⟩
theorem row58 : RowOk Try.prog 58 C58 := ⟨Try.f58, ⟨[], [], [], []⟩, lvOf [(0, [1, 5, 29, 30, 31], 1)], Try.func58, by kernel_rfl, by kernel_rfl⟩
/-- swingbridge/agent.there -/
def C59 : CFun := ⟨25, 2, .seq (.reg [⟨some 2, .box (.t 0), none⟩, ⟨some 4, .mv (.c (.bool false)) true, none⟩])
  (.seq (.reg [⟨some 8, .load 4 true (.t 2) false, none⟩, ⟨some 9, .call 42 [(.t 8)] false, none⟩, ⟨some 7, .mv (.t 9) false, none⟩, ⟨some 10, .ext (.t 7) 0, none⟩, ⟨some 11, .ext (.t 7) 1, none⟩, ⟨some 5, .mv (.t 10) true, none⟩, ⟨some 6, .mv (.t 11) true, none⟩])
  (.seq (.reg [⟨some 12, .mv (.t 6) false, none⟩, ⟨some 13, .bin .eql (.t 12) (.c (.int .i64 0)), none⟩, ⟨some 14, .mv (.t 13) false, none⟩, ⟨some 15, .mv (.t 1) false, some (14, true)⟩, ⟨some 16, .bin .geq (.t 15) (.c (.int .i64 0)), some (14, true)⟩, ⟨some 17, .pick (.t 14) (.t 16) (.c (.bool false)), none⟩, ⟨some 18, .mv (.t 17) false, none⟩, ⟨some 19, .mv (.t 1) false, some (18, true)⟩, ⟨some 20, .fa 3 (.t 2), some (18, true)⟩, ⟨some 21, .load 1 false (.t 20) false, some (18, true)⟩, ⟨some 22, .len (.t 21), some (18, true)⟩, ⟨some 23, .bin .lss (.t 19) (.t 22), some (18, true)⟩, ⟨some 24, .pick (.t 18) (.t 23) (.c (.bool false)), none⟩, ⟨some 4, .mv (.t 24) true, none⟩])
  (.ret))), [.t 4]⟩
theorem row59 : RowOk Try.prog 59 C59 := ⟨Try.f59, ⟨[], [], [], []⟩, lvOf [], Try.func59, by kernel_rfl, by kernel_rfl⟩
def B60_0 : C := .seq (.reg [⟨some 18, .bin .lss (.t 17) (.t 16), none⟩])
  (.seq (.cond (.t 18) (.skip)
  (.exit 0))
  (.seq (.block 1 (.seq (.reg [⟨some 19, .mv (.t 17) false, none⟩, ⟨some 20, .ia 6 (.t 15) (.t 17), none⟩, ⟨some 21, .load 6 true (.t 20) false, none⟩, ⟨some 9, .alloc [(.string ⟨#[]⟩), (.int .i64 0), (.int .i64 0), (.int .i64 0), (.int .i64 0), (.slice none 0 0)], none⟩, ⟨some 8, .mv (.t 19) true, none⟩, ⟨none, .store 6 (.t 9) (.t 21), none⟩])
  (.seq (.seq (.reg [⟨some 22, .fa 3 (.t 9), none⟩, ⟨some 23, .load 1 false (.t 22) false, none⟩, ⟨some 24, .fa 3 (.t 3), none⟩, ⟨some 25, .load 1 false (.t 24) false, none⟩, ⟨some 26, .mv (.t 1) false, none⟩, ⟨some 27, .ia 6 (.t 25) (.t 26), none⟩, ⟨some 28, .fa 3 (.t 27), none⟩, ⟨some 29, .load 1 false (.t 28) false, none⟩, ⟨some 30, .bin .leq (.t 23) (.t 29), none⟩])
  (.cond (.t 30) (.exit 1)
  (.skip)))
  (.reg [⟨some 31, .mv (.t 7) false, none⟩, ⟨some 32, .load 4 true (.t 3) false, none⟩, ⟨some 33, .mv (.t 8) false, none⟩, ⟨some 34, .mv (.t 2) false, none⟩, ⟨some 35, .call 87 [(.t 32), (.t 33), (.t 34)] false, none⟩, ⟨some 36, .mxn true [(.t 31), (.t 35)], none⟩, ⟨some 7, .mv (.t 36) true, none⟩]))))
  (.reg [⟨some 37, .bin .add (.t 17) (.c (.int .i64 1)), none⟩, ⟨some 17, .mv (.t 37) false, none⟩])))
def L60_0 : C := .loop [1, 2, 3, 7, 15, 16, 17] 1 B60_0
theorem go60_0 (s : Env × Bx) (nb) : evL tab ext nb L60_0 s = (loopIn nb [1, 2, 3, 7, 15, 16, 17] 1 s).bind fun s0 => (evL tab ext nb B60_0 s0).bind (seqG tab ext nb L60_0) := eL_loop _ _ _
/-- swingbridge/agent.Lower -/
def C60 : CFun := ⟨39, 3, .seq (.reg [⟨some 3, .box (.t 0), none⟩, ⟨some 6, .mv (.c (.int .i64 0)) true, none⟩])
  (.scope (.seq (.reg [⟨some 7, .mv (.c (.int .i64 0)) true, none⟩])
  (.seq (.seq (.reg [⟨some 10, .load 4 true (.t 3) false, none⟩, ⟨some 11, .mv (.t 1) false, none⟩, ⟨some 12, .call 59 [(.t 10), (.t 11)] false, none⟩, ⟨some 13, .un .not (.t 12), none⟩])
  (.cond (.t 13) (.seq (.reg [⟨some 6, .mv (.c (.int .i64 0)) true, none⟩])
  (.ret))
  (.skip)))
  (.seq (.skip)
  (.seq (.seq (.reg [⟨some 14, .fa 3 (.t 3), none⟩, ⟨some 15, .load 1 false (.t 14) false, none⟩, ⟨some 16, .len (.t 15), none⟩, ⟨some 17, .mv (.c (.int .i64 0)) false, none⟩])
  (.block 0 (L60_0)))
  (.seq (.reg [⟨some 38, .mv (.t 7) false, none⟩, ⟨some 6, .mv (.t 38) true, none⟩])
  (.ret))))))), [.t 6]⟩
theorem row60 : RowOk Try.prog 60 C60 := ⟨Try.f60, ⟨[], [], [], []⟩, lvOf [(0, [1, 2, 3, 7, 15, 16, 17], 1)], Try.func60, by kernel_rfl, by kernel_rfl⟩
def B61_0 : C := .seq (.reg [⟨some 30, .bin .lss (.t 29) (.t 28), none⟩])
  (.seq (.cond (.t 30) (.skip)
  (.exit 0))
  (.seq (.block 1 (.seq (.reg [⟨some 31, .mv (.t 29) false, none⟩, ⟨some 32, .ia 6 (.t 27) (.t 29), none⟩, ⟨some 33, .load 6 true (.t 32) false, none⟩, ⟨some 13, .alloc [(.string ⟨#[]⟩), (.int .i64 0), (.int .i64 0), (.int .i64 0), (.int .i64 0), (.slice none 0 0)], none⟩, ⟨some 12, .mv (.t 31) true, none⟩, ⟨none, .store 6 (.t 13) (.t 33), none⟩])
  (.seq (.reg [⟨some 34, .fa 3 (.t 13), none⟩, ⟨some 35, .load 1 false (.t 34) false, none⟩, ⟨some 36, .fa 3 (.t 5), none⟩, ⟨some 37, .load 1 false (.t 36) false, none⟩, ⟨some 38, .mv (.t 2) false, none⟩, ⟨some 39, .ia 6 (.t 37) (.t 38), none⟩, ⟨some 40, .fa 3 (.t 39), none⟩, ⟨some 41, .load 1 false (.t 40) false, none⟩, ⟨some 42, .bin .lss (.t 35) (.t 41), none⟩])
  (.cond (.t 42) (.reg [⟨some 43, .mv (.t 11) false, none⟩, ⟨some 44, .mv (.t 4) false, none⟩, ⟨some 45, .mv (.t 1) false, none⟩, ⟨some 46, .mv (.t 12) false, none⟩, ⟨some 47, .ia 1 (.t 45) (.t 46), none⟩, ⟨some 48, .load 1 false (.t 47) false, none⟩, ⟨some 49, .fa 1 (.t 13), none⟩, ⟨some 50, .load 1 false (.t 49) false, none⟩, ⟨some 51, .load 4 true (.t 5) false, none⟩, ⟨some 52, .mv (.t 12) false, none⟩, ⟨some 53, .mv (.t 3) false, none⟩, ⟨some 54, .call 89 [(.t 51), (.t 52), (.t 53)] false, none⟩, ⟨some 55, .call 88 [(.t 44), (.t 48), (.t 50), (.t 54)] false, none⟩, ⟨some 56, .bin .add (.t 43) (.t 55), none⟩, ⟨some 11, .mv (.t 56) true, none⟩])
  (.skip)))))
  (.reg [⟨some 57, .bin .add (.t 29) (.c (.int .i64 1)), none⟩, ⟨some 29, .mv (.t 57) false, none⟩])))
def L61_0 : C := .loop [1, 2, 3, 4, 5, 11, 27, 28, 29] 1 B61_0
theorem go61_0 (s : Env × Bx) (nb) : evL tab ext nb L61_0 s = (loopIn nb [1, 2, 3, 4, 5, 11, 27, 28, 29] 1 s).bind fun s0 => (evL tab ext nb B61_0 s0).bind (seqG tab ext nb L61_0) := eL_loop _ _ _
/-- swingbridge/agent.Higher -/
def C61 : CFun := ⟨60, 5, .seq (.reg [⟨some 5, .box (.t 0), none⟩, ⟨some 10, .mv (.c (.int .i64 0)) true, none⟩])
  (.seq (.reg [⟨some 11, .mv (.c (.int .i64 0)) true, none⟩])
  (.seq (.seq (.reg [⟨some 14, .load 4 true (.t 5) false, none⟩, ⟨some 15, .mv (.t 2) false, none⟩, ⟨some 16, .call 59 [(.t 14), (.t 15)] false, none⟩, ⟨some 17, .un .not (.t 16), none⟩, ⟨some 18, .mv (.t 17) false, none⟩, ⟨some 19, .mv (.t 1) false, some (18, false)⟩, ⟨some 20, .len (.t 19), some (18, false)⟩, ⟨some 21, .fa 3 (.t 5), some (18, false)⟩, ⟨some 22, .load 1 false (.t 21) false, some (18, false)⟩, ⟨some 23, .len (.t 22), some (18, false)⟩, ⟨some 24, .bin .neq (.t 20) (.t 23), some (18, false)⟩, ⟨some 25, .pick (.t 18) (.c (.bool true)) (.t 24), none⟩])
  (.cond (.t 25) (.seq (.reg [⟨some 10, .mv (.c (.int .i64 0)) true, none⟩])
  (.ret))
  (.skip)))
  (.seq (.seq (.reg [⟨some 26, .fa 3 (.t 5), none⟩, ⟨some 27, .load 1 false (.t 26) false, none⟩, ⟨some 28, .len (.t 27), none⟩, ⟨some 29, .mv (.c (.int .i64 0)) false, none⟩])
  (.block 0 (L61_0)))
  (.seq (.reg [⟨some 58, .mv (.t 11) false, none⟩, ⟨some 59, .mxn false [(.t 58), (.c (.int .i64 1000000))], none⟩, ⟨some 10, .mv (.t 59) true, none⟩])
  (.ret))))), [.t 10]⟩
theorem row61 : RowOk Try.prog 61 C61 := ⟨Try.f61, ⟨[], [], [], []⟩, lvOf [(0, [1, 2, 3, 4, 5, 11, 27, 28, 29], 1)], Try.func61, by kernel_rfl, by kernel_rfl⟩
/-- swingbridge/token.Inside -/
def C62 : CFun := ⟨46, 3, .seq (.reg [⟨some 3, .box (.t 0), none⟩, ⟨some 6, .mv (.c (.int .i64 0)) true, none⟩, ⟨some 7, .mv (.c (.bool false)) true, none⟩])
  (.seq (.seq (.reg [⟨some 9, .load 4 true (.t 3) false, none⟩, ⟨some 10, .mv (.t 1) false, none⟩, ⟨some 11, .call 90 [(.t 9), (.t 10)] false, none⟩, ⟨some 12, .un .not (.t 11), none⟩, ⟨some 13, .mv (.t 12) false, none⟩, ⟨some 14, .mv (.t 2) false, some (13, false)⟩, ⟨some 15, .bin .lss (.t 14) (.c (.int .i64 0)), some (13, false)⟩, ⟨some 16, .pick (.t 13) (.c (.bool true)) (.t 15), none⟩, ⟨some 17, .mv (.t 16) false, none⟩, ⟨some 18, .mv (.t 2) false, some (17, false)⟩, ⟨some 19, .fa 3 (.t 3), some (17, false)⟩, ⟨some 20, .load 1 false (.t 19) false, some (17, false)⟩, ⟨some 21, .mv (.t 1) false, some (17, false)⟩, ⟨some 22, .ia 6 (.t 20) (.t 21), some (17, false)⟩, ⟨some 23, .fa 5 (.t 22), some (17, false)⟩, ⟨some 24, .load 1 false (.t 23) false, some (17, false)⟩, ⟨some 25, .len (.t 24), some (17, false)⟩, ⟨some 26, .bin .geq (.t 18) (.t 25), some (17, false)⟩, ⟨some 27, .pick (.t 17) (.c (.bool true)) (.t 26), none⟩])
  (.cond (.t 27) (.seq (.reg [⟨some 6, .mv (.c (.int .i64 0)) true, none⟩, ⟨some 7, .mv (.c (.bool false)) true, none⟩])
  (.ret))
  (.skip)))
  (.seq (.reg [⟨some 28, .fa 3 (.t 3), none⟩, ⟨some 29, .load 1 false (.t 28) false, none⟩, ⟨some 30, .mv (.t 1) false, none⟩, ⟨some 31, .ia 6 (.t 29) (.t 30), none⟩, ⟨some 32, .fa 5 (.t 31), none⟩, ⟨some 33, .load 1 false (.t 32) false, none⟩, ⟨some 34, .mv (.t 2) false, none⟩, ⟨some 35, .ia 3 (.t 33) (.t 34), none⟩, ⟨some 36, .load 3 true (.t 35) false, none⟩, ⟨some 8, .alloc [(.int .i64 0), (.int .i64 0), (.int .i64 0)], none⟩, ⟨none, .store 3 (.t 8) (.t 36), none⟩])
  (.seq (.seq (.reg [⟨some 37, .fa 0 (.t 8), none⟩, ⟨some 38, .load 1 false (.t 37) false, none⟩, ⟨some 39, .bin .neq (.t 38) (.c (.int .i64 3)), none⟩])
  (.cond (.t 39) (.seq (.reg [⟨some 6, .mv (.c (.int .i64 0)) true, none⟩, ⟨some 7, .mv (.c (.bool false)) true, none⟩])
  (.ret))
  (.skip)))
  (.seq (.reg [⟨some 40, .fa 1 (.t 8), none⟩, ⟨some 41, .load 1 false (.t 40) false, none⟩, ⟨some 42, .load 4 true (.t 3) false, none⟩, ⟨some 43, .mv (.t 1) false, none⟩, ⟨some 44, .call 91 [(.t 42), (.t 43)] false, none⟩, ⟨some 45, .bin .add (.t 41) (.t 44), none⟩, ⟨some 6, .mv (.t 45) true, none⟩, ⟨some 7, .mv (.c (.bool true)) true, none⟩])
  (.ret))))), [.t 6, .t 7]⟩
theorem row62 : RowOk Try.prog 62 C62 := ⟨Try.f62, ⟨[], [], [], []⟩, lvOf [], Try.func62, by kernel_rfl, by kernel_rfl⟩
def B63_0 : C := .seq (.reg [⟨some 40, .bin .lss (.t 39) (.t 38), none⟩])
  (.seq (.cond (.t 40) (.skip)
  (.exit 0))
  (.seq (.block 1 (.seq (.reg [⟨some 41, .mv (.t 39) false, none⟩, ⟨some 42, .ia 6 (.t 37) (.t 39), none⟩, ⟨some 43, .load 6 true (.t 42) false, none⟩, ⟨some 9, .alloc [(.string ⟨#[]⟩), (.int .i64 0), (.int .i64 0), (.int .i64 0), (.int .i64 0), (.slice none 0 0)], none⟩, ⟨some 8, .mv (.t 41) true, none⟩, ⟨none, .store 6 (.t 9) (.t 43), none⟩])
  (.seq (.reg [⟨some 44, .fa 4 (.t 9), none⟩, ⟨some 45, .load 1 false (.t 44) false, none⟩, ⟨some 46, .mv (.t 5) false, none⟩, ⟨some 47, .bin .eql (.t 45) (.t 46), none⟩, ⟨some 48, .mv (.t 47) false, none⟩, ⟨some 49, .load 6 true (.t 9) false, some (48, true)⟩, ⟨some 50, .call 86 [(.t 49)] false, some (48, true)⟩, ⟨some 51, .bin .gtr (.t 50) (.c (.int .i64 0)), some (48, true)⟩, ⟨some 52, .pick (.t 48) (.t 51) (.c (.bool false)), none⟩])
  (.cond (.t 52) (.reg [⟨some 53, .mv (.t 7) false, none⟩, ⟨some 54, .load 6 true (.t 9) false, none⟩, ⟨some 55, .call 86 [(.t 54)] false, none⟩, ⟨some 56, .load 4 true (.t 2) false, none⟩, ⟨some 57, .mv (.t 8) false, none⟩, ⟨some 58, .call 91 [(.t 56), (.t 57)] false, none⟩, ⟨some 59, .bin .add (.t 55) (.t 58), none⟩, ⟨some 60, .mxn true [(.t 53), (.t 59)], none⟩, ⟨some 7, .mv (.t 60) true, none⟩])
  (.skip)))))
  (.reg [⟨some 61, .bin .add (.t 39) (.c (.int .i64 1)), none⟩, ⟨some 39, .mv (.t 61) false, none⟩])))
def L63_0 : C := .loop [2, 5, 6, 7, 37, 38, 39] 1 B63_0
theorem go63_0 (s : Env × Bx) (nb) : evL tab ext nb L63_0 s = (loopIn nb [2, 5, 6, 7, 37, 38, 39] 1 s).bind fun s0 => (evL tab ext nb B63_0 s0).bind (seqG tab ext nb L63_0) := eL_loop _ _ _
/-- swingbridge/token.Outside -/
def C63 : CFun := ⟨76, 2, .seq (.reg [⟨some 2, .box (.t 0), none⟩, ⟨some 4, .mv (.c (.int .i64 0)) true, none⟩])
  (.seq (.seq (.reg [⟨some 12, .load 4 true (.t 2) false, none⟩, ⟨some 13, .mv (.t 1) false, none⟩, ⟨some 14, .call 90 [(.t 12), (.t 13)] false, none⟩, ⟨some 15, .un .not (.t 14), none⟩, ⟨some 16, .mv (.t 15) false, none⟩, ⟨some 17, .fa 3 (.t 2), some (16, false)⟩, ⟨some 18, .load 1 false (.t 17) false, some (16, false)⟩, ⟨some 19, .mv (.t 1) false, some (16, false)⟩, ⟨some 20, .ia 6 (.t 18) (.t 19), some (16, false)⟩, ⟨some 21, .load 6 true (.t 20) false, some (16, false)⟩, ⟨some 22, .call 86 [(.t 21)] false, some (16, false)⟩, ⟨some 23, .bin .eql (.t 22) (.c (.int .i64 0)), some (16, false)⟩, ⟨some 24, .pick (.t 16) (.c (.bool true)) (.t 23), none⟩])
  (.cond (.t 24) (.seq (.reg [⟨some 4, .mv (.c (.int .i64 0)) true, none⟩])
  (.ret))
  (.skip)))
  (.seq (.reg [⟨some 25, .fa 3 (.t 2), none⟩, ⟨some 26, .load 1 false (.t 25) false, none⟩, ⟨some 27, .mv (.t 1) false, none⟩, ⟨some 28, .ia 6 (.t 26) (.t 27), none⟩, ⟨some 29, .fa 4 (.t 28), none⟩, ⟨some 30, .load 1 false (.t 29) false, none⟩, ⟨some 5, .mv (.t 30) true, none⟩])
  (.seq (.reg [⟨some 31, .fa 1 (.t 2), none⟩, ⟨some 32, .load 1 false (.t 31) false, none⟩, ⟨some 33, .mv (.t 5) false, none⟩, ⟨some 34, .ia 1 (.t 32) (.t 33), none⟩, ⟨some 35, .load 1 false (.t 34) false, none⟩, ⟨some 6, .mv (.t 35) true, none⟩])
  (.seq (.reg [⟨some 7, .mv (.c (.int .i64 0)) true, none⟩])
  (.seq (.seq (.reg [⟨some 36, .fa 3 (.t 2), none⟩, ⟨some 37, .load 1 false (.t 36) false, none⟩, ⟨some 38, .len (.t 37), none⟩, ⟨some 39, .mv (.c (.int .i64 0)) false, none⟩])
  (.block 0 (L63_0)))
  (.seq (.reg [⟨some 63, .load 4 true (.t 2) false, none⟩, ⟨some 64, .mv (.t 5) false, none⟩, ⟨some 65, .call 93 [(.t 63), (.t 64)] false, none⟩, ⟨some 66, .mv (.t 6) false, none⟩, ⟨some 67, .bin .sub (.t 65) (.t 66), none⟩, ⟨some 68, .mxn true [(.t 67), (.c (.int .i64 0))], none⟩, ⟨some 69, .mv (.t 6) false, none⟩, ⟨some 70, .call 92 [(.t 68), (.t 69)] false, none⟩, ⟨some 62, .mv (.t 70) false, none⟩, ⟨some 71, .ext (.t 62) 0, none⟩, ⟨some 72, .ext (.t 62) 1, none⟩, ⟨some 10, .mv (.t 71) true, none⟩, ⟨some 11, .mv (.t 72) true, none⟩])
  (.seq (.reg [⟨some 73, .mv (.t 10) false, none⟩, ⟨some 74, .mv (.t 7) false, none⟩, ⟨some 75, .bin .mul (.t 73) (.t 74), none⟩, ⟨some 4, .mv (.t 75) true, none⟩])
  (.ret)))))))), [.t 4]⟩
theorem row63 : RowOk Try.prog 63 C63 := ⟨Try.f63, ⟨[], [], [], []⟩, lvOf [(0, [2, 5, 6, 7, 37, 38, 39], 1)], Try.func63, by kernel_rfl, by kernel_rfl⟩
def B64_2 : C := .seq (.seq (.reg [⟨some 18, .mv (.t 9) false, none⟩, ⟨some 19, .mv (.t 1) false, none⟩, ⟨some 20, .bin .gtr (.t 18) (.t 19), none⟩, ⟨some 21, .mv (.t 20) false, none⟩, ⟨some 22, .mv (.t 3) false, some (21, true)⟩, ⟨some 23, .mv (.t 0) false, some (21, true)⟩, ⟨some 24, .mv (.t 9) false, some (21, true)⟩, ⟨some 25, .ia 2 (.t 23) (.t 24), some (21, true)⟩, ⟨some 26, .load 2 true (.t 25) false, some (21, true)⟩, ⟨some 27, .mv (.t 0) false, some (21, true)⟩, ⟨some 28, .mv (.t 9) false, some (21, true)⟩, ⟨some 29, .bin .sub (.t 28) (.c (.int .i64 1)), some (21, true)⟩, ⟨some 30, .ia 2 (.t 27) (.t 29), some (21, true)⟩, ⟨some 31, .load 2 true (.t 30) false, some (21, true)⟩, ⟨some 32, .callv (.t 22) [(.t 26), (.t 31)], some (21, true)⟩, ⟨some 33, .bin .lss (.t 32) (.c (.int .i64 0)), some (21, true)⟩, ⟨some 34, .pick (.t 21) (.t 33) (.c (.bool false)), none⟩])
  (.cond (.t 34) (.skip)
  (.exit 2)))
  (.seq (.block 3 (.reg [⟨some 37, .mv (.t 0) false, none⟩, ⟨some 38, .mv (.t 9) false, none⟩, ⟨some 39, .mv (.t 0) false, none⟩, ⟨some 40, .mv (.t 9) false, none⟩, ⟨some 41, .bin .sub (.t 40) (.c (.int .i64 1)), none⟩, ⟨some 42, .mv (.t 0) false, none⟩, ⟨some 43, .mv (.t 9) false, none⟩, ⟨some 44, .bin .sub (.t 43) (.c (.int .i64 1)), none⟩, ⟨some 45, .ia 2 (.t 42) (.t 44), none⟩, ⟨some 46, .load 2 true (.t 45) false, none⟩, ⟨some 47, .mv (.t 0) false, none⟩, ⟨some 48, .mv (.t 9) false, none⟩, ⟨some 49, .ia 2 (.t 47) (.t 48), none⟩, ⟨some 50, .load 2 true (.t 49) false, none⟩, ⟨some 51, .ia 2 (.t 37) (.t 38), none⟩, ⟨none, .store 2 (.t 51) (.t 46), none⟩, ⟨some 52, .ia 2 (.t 39) (.t 41), none⟩, ⟨none, .store 2 (.t 52) (.t 50), none⟩]))
  (.reg [⟨some 35, .mv (.t 9) false, none⟩, ⟨some 36, .bin .sub (.t 35) (.c (.int .i64 1)), none⟩, ⟨some 9, .mv (.t 36) true, none⟩]))
def L64_2 : C := .loop [0, 1, 2, 3, 8, 9] 0 B64_2
theorem go64_2 (s : Env × Bx) (nb) : evL tab ext nb L64_2 s = (loopIn nb [0, 1, 2, 3, 8, 9] 0 s).bind fun s0 => (evL tab ext nb B64_2 s0).bind (seqG tab ext nb L64_2) := eL_loop _ _ _
def B64_0 : C := .seq (.seq (.reg [⟨some 12, .mv (.t 8) false, none⟩, ⟨some 13, .mv (.t 2) false, none⟩, ⟨some 14, .bin .lss (.t 12) (.t 13), none⟩])
  (.cond (.t 14) (.skip)
  (.exit 0)))
  (.seq (.block 1 (.seq (.reg [⟨some 17, .mv (.t 8) false, none⟩, ⟨some 9, .mv (.t 17) true, none⟩])
  (.block 2 (L64_2))))
  (.reg [⟨some 15, .mv (.t 8) false, none⟩, ⟨some 16, .bin .add (.t 15) (.c (.int .i64 1)), none⟩, ⟨some 8, .mv (.t 16) true, none⟩]))
def L64_0 : C := .loop [0, 1, 2, 3, 8] 0 B64_0
theorem go64_0 (s : Env × Bx) (nb) : evL tab ext nb L64_0 s = (loopIn nb [0, 1, 2, 3, 8] 0 s).bind fun s0 => (evL tab ext nb B64_0 s0).bind (seqG tab ext nb L64_0) := eL_loop _ _ _
/-- slices.insertionSortCmpFunc[swingbridge/api.Item] -/
def C64 : CFun := ⟨53, 4, .seq (.reg [⟨some 10, .mv (.t 1) false, none⟩, ⟨some 11, .bin .add (.t 10) (.c (.int .i64 1)), none⟩, ⟨some 8, .mv (.t 11) true, none⟩])
  (.block 0 (L64_0)), []⟩
theorem row64 : RowOk Try.prog 64 C64 := ⟨Try.f64, ⟨[], [], [], []⟩, lvOf [(0, [0, 1, 2, 3, 8], 0), (2, [0, 1, 2, 3, 8, 9], 0)], Try.func64, by kernel_rfl, by kernel_rfl⟩
def B65_0 : C := .seq (.seq (.reg [⟨some 31, .mv (.t 10) false, none⟩, ⟨some 32, .mv (.t 11) false, none⟩, ⟨some 33, .bin .lss (.t 31) (.t 32), none⟩])
  (.cond (.t 33) (.skip)
  (.exit 0)))
  (.block 1 (.seq (.reg [⟨some 34, .mv (.t 10) false, none⟩, ⟨some 35, .mv (.t 11) false, none⟩, ⟨some 36, .bin .add (.t 34) (.t 35), none⟩, ⟨some 37, .conv .u64 (.t 36), none⟩, ⟨some 38, .bin .shr (.t 37) (.c (.int .u64 1)), none⟩, ⟨some 39, .conv .i64 (.t 38), none⟩, ⟨some 12, .mv (.t 39) true, none⟩])
  (.seq (.reg [⟨some 40, .mv (.t 4) false, none⟩, ⟨some 41, .mv (.t 0) false, none⟩, ⟨some 42, .mv (.t 12) false, none⟩, ⟨some 43, .ia 2 (.t 41) (.t 42), none⟩, ⟨some 44, .load 2 true (.t 43) false, none⟩, ⟨some 45, .mv (.t 0) false, none⟩, ⟨some 46, .mv (.t 1) false, none⟩, ⟨some 47, .ia 2 (.t 45) (.t 46), none⟩, ⟨some 48, .load 2 true (.t 47) false, none⟩, ⟨some 49, .callv (.t 40) [(.t 44), (.t 48)], none⟩, ⟨some 50, .bin .lss (.t 49) (.c (.int .i64 0)), none⟩])
  (.cond (.t 50) (.reg [⟨some 51, .mv (.t 12) false, none⟩, ⟨some 52, .bin .add (.t 51) (.c (.int .i64 1)), none⟩, ⟨some 10, .mv (.t 52) true, none⟩])
  (.reg [⟨some 53, .mv (.t 12) false, none⟩, ⟨some 11, .mv (.t 53) true, none⟩])))))
def L65_0 : C := .loop [0, 1, 4, 10, 11] 0 B65_0
theorem go65_0 (s : Env × Bx) (nb) : evL tab ext nb L65_0 s = (loopIn nb [0, 1, 4, 10, 11] 0 s).bind fun s0 => (evL tab ext nb B65_0 s0).bind (seqG tab ext nb L65_0) := eL_loop _ _ _
def B65_2 : C := .seq (.seq (.reg [⟨some 55, .mv (.t 13) false, none⟩, ⟨some 56, .mv (.t 10) false, none⟩, ⟨some 57, .bin .sub (.t 56) (.c (.int .i64 1)), none⟩, ⟨some 58, .bin .lss (.t 55) (.t 57), none⟩])
  (.cond (.t 58) (.skip)
  (.exit 2)))
  (.seq (.block 3 (.reg [⟨some 61, .mv (.t 0) false, none⟩, ⟨some 62, .mv (.t 13) false, none⟩, ⟨some 63, .mv (.t 0) false, none⟩, ⟨some 64, .mv (.t 13) false, none⟩, ⟨some 65, .bin .add (.t 64) (.c (.int .i64 1)), none⟩, ⟨some 66, .mv (.t 0) false, none⟩, ⟨some 67, .mv (.t 13) false, none⟩, ⟨some 68, .bin .add (.t 67) (.c (.int .i64 1)), none⟩, ⟨some 69, .ia 2 (.t 66) (.t 68), none⟩, ⟨some 70, .load 2 true (.t 69) false, none⟩, ⟨some 71, .mv (.t 0) false, none⟩, ⟨some 72, .mv (.t 13) false, none⟩, ⟨some 73, .ia 2 (.t 71) (.t 72), none⟩, ⟨some 74, .load 2 true (.t 73) false, none⟩, ⟨some 75, .ia 2 (.t 61) (.t 62), none⟩, ⟨none, .store 2 (.t 75) (.t 70), none⟩, ⟨some 76, .ia 2 (.t 63) (.t 65), none⟩, ⟨none, .store 2 (.t 76) (.t 74), none⟩]))
  (.reg [⟨some 59, .mv (.t 13) false, none⟩, ⟨some 60, .bin .add (.t 59) (.c (.int .i64 1)), none⟩, ⟨some 13, .mv (.t 60) true, none⟩]))
def L65_2 : C := .loop [0, 10, 13] 0 B65_2
theorem go65_2 (s : Env × Bx) (nb) : evL tab ext nb L65_2 s = (loopIn nb [0, 10, 13] 0 s).bind fun s0 => (evL tab ext nb B65_2 s0).bind (seqG tab ext nb L65_2) := eL_loop _ _ _
def B65_4 : C := .seq (.seq (.reg [⟨some 83, .mv (.t 14) false, none⟩, ⟨some 84, .mv (.t 15) false, none⟩, ⟨some 85, .bin .lss (.t 83) (.t 84), none⟩])
  (.cond (.t 85) (.skip)
  (.exit 4)))
  (.block 5 (.seq (.reg [⟨some 86, .mv (.t 14) false, none⟩, ⟨some 87, .mv (.t 15) false, none⟩, ⟨some 88, .bin .add (.t 86) (.t 87), none⟩, ⟨some 89, .conv .u64 (.t 88), none⟩, ⟨some 90, .bin .shr (.t 89) (.c (.int .u64 1)), none⟩, ⟨some 91, .conv .i64 (.t 90), none⟩, ⟨some 16, .mv (.t 91) true, none⟩])
  (.seq (.reg [⟨some 92, .mv (.t 4) false, none⟩, ⟨some 93, .mv (.t 0) false, none⟩, ⟨some 94, .mv (.t 2) false, none⟩, ⟨some 95, .ia 2 (.t 93) (.t 94), none⟩, ⟨some 96, .load 2 true (.t 95) false, none⟩, ⟨some 97, .mv (.t 0) false, none⟩, ⟨some 98, .mv (.t 16) false, none⟩, ⟨some 99, .ia 2 (.t 97) (.t 98), none⟩, ⟨some 100, .load 2 true (.t 99) false, none⟩, ⟨some 101, .callv (.t 92) [(.t 96), (.t 100)], none⟩, ⟨some 102, .bin .lss (.t 101) (.c (.int .i64 0)), none⟩, ⟨some 103, .un .not (.t 102), none⟩])
  (.cond (.t 103) (.reg [⟨some 104, .mv (.t 16) false, none⟩, ⟨some 105, .bin .add (.t 104) (.c (.int .i64 1)), none⟩, ⟨some 14, .mv (.t 105) true, none⟩])
  (.reg [⟨some 106, .mv (.t 16) false, none⟩, ⟨some 15, .mv (.t 106) true, none⟩])))))
def L65_4 : C := .loop [0, 2, 4, 14, 15] 0 B65_4
theorem go65_4 (s : Env × Bx) (nb) : evL tab ext nb L65_4 s = (loopIn nb [0, 2, 4, 14, 15] 0 s).bind fun s0 => (evL tab ext nb B65_4 s0).bind (seqG tab ext nb L65_4) := eL_loop _ _ _
def B65_6 : C := .seq (.seq (.reg [⟨some 108, .mv (.t 17) false, none⟩, ⟨some 109, .mv (.t 14) false, none⟩, ⟨some 110, .bin .gtr (.t 108) (.t 109), none⟩])
  (.cond (.t 110) (.skip)
  (.exit 6)))
  (.seq (.block 7 (.reg [⟨some 113, .mv (.t 0) false, none⟩, ⟨some 114, .mv (.t 17) false, none⟩, ⟨some 115, .mv (.t 0) false, none⟩, ⟨some 116, .mv (.t 17) false, none⟩, ⟨some 117, .bin .sub (.t 116) (.c (.int .i64 1)), none⟩, ⟨some 118, .mv (.t 0) false, none⟩, ⟨some 119, .mv (.t 17) false, none⟩, ⟨some 120, .bin .sub (.t 119) (.c (.int .i64 1)), none⟩, ⟨some 121, .ia 2 (.t 118) (.t 120), none⟩, ⟨some 122, .load 2 true (.t 121) false, none⟩, ⟨some 123, .mv (.t 0) false, none⟩, ⟨some 124, .mv (.t 17) false, none⟩, ⟨some 125, .ia 2 (.t 123) (.t 124), none⟩, ⟨some 126, .load 2 true (.t 125) false, none⟩, ⟨some 127, .ia 2 (.t 113) (.t 114), none⟩, ⟨none, .store 2 (.t 127) (.t 122), none⟩, ⟨some 128, .ia 2 (.t 115) (.t 117), none⟩, ⟨none, .store 2 (.t 128) (.t 126), none⟩]))
  (.reg [⟨some 111, .mv (.t 17) false, none⟩, ⟨some 112, .bin .sub (.t 111) (.c (.int .i64 1)), none⟩, ⟨some 17, .mv (.t 112) true, none⟩]))
def L65_6 : C := .loop [0, 14, 17] 0 B65_6
theorem go65_6 (s : Env × Bx) (nb) : evL tab ext nb L65_6 s = (loopIn nb [0, 14, 17] 0 s).bind fun s0 => (evL tab ext nb B65_6 s0).bind (seqG tab ext nb L65_6) := eL_loop _ _ _
def B65_8 : C := .seq (.seq (.reg [⟨some 149, .mv (.t 20) false, none⟩, ⟨some 150, .mv (.t 21) false, none⟩, ⟨some 151, .bin .lss (.t 149) (.t 150), none⟩])
  (.cond (.t 151) (.skip)
  (.exit 8)))
  (.block 9 (.seq (.reg [⟨some 152, .mv (.t 20) false, none⟩, ⟨some 153, .mv (.t 21) false, none⟩, ⟨some 154, .bin .add (.t 152) (.t 153), none⟩, ⟨some 155, .conv .u64 (.t 154), none⟩, ⟨some 156, .bin .shr (.t 155) (.c (.int .u64 1)), none⟩, ⟨some 157, .conv .i64 (.t 156), none⟩, ⟨some 23, .mv (.t 157) true, none⟩])
  (.seq (.reg [⟨some 158, .mv (.t 4) false, none⟩, ⟨some 159, .mv (.t 0) false, none⟩, ⟨some 160, .mv (.t 22) false, none⟩, ⟨some 161, .mv (.t 23) false, none⟩, ⟨some 162, .bin .sub (.t 160) (.t 161), none⟩, ⟨some 163, .ia 2 (.t 159) (.t 162), none⟩, ⟨some 164, .load 2 true (.t 163) false, none⟩, ⟨some 165, .mv (.t 0) false, none⟩, ⟨some 166, .mv (.t 23) false, none⟩, ⟨some 167, .ia 2 (.t 165) (.t 166), none⟩, ⟨some 168, .load 2 true (.t 167) false, none⟩, ⟨some 169, .callv (.t 158) [(.t 164), (.t 168)], none⟩, ⟨some 170, .bin .lss (.t 169) (.c (.int .i64 0)), none⟩, ⟨some 171, .un .not (.t 170), none⟩])
  (.cond (.t 171) (.reg [⟨some 172, .mv (.t 23) false, none⟩, ⟨some 173, .bin .add (.t 172) (.c (.int .i64 1)), none⟩, ⟨some 20, .mv (.t 173) true, none⟩])
  (.reg [⟨some 174, .mv (.t 23) false, none⟩, ⟨some 21, .mv (.t 174) true, none⟩])))))
def L65_8 : C := .loop [0, 1, 2, 3, 4, 18, 19, 20, 21, 22] 0 B65_8
theorem go65_8 (s : Env × Bx) (nb) : evL tab ext nb L65_8 s = (loopIn nb [0, 1, 2, 3, 4, 18, 19, 20, 21, 22] 0 s).bind fun s0 => (evL tab ext nb B65_8 s0).bind (seqG tab ext nb L65_8) := eL_loop _ _ _
/-- slices.symMergeCmpFunc[swingbridge/api.Item] -/
def C65 : CFun := ⟨220, 5, .seq (.seq (.reg [⟨some 25, .mv (.t 2) false, none⟩, ⟨some 26, .mv (.t 1) false, none⟩, ⟨some 27, .bin .sub (.t 25) (.t 26), none⟩, ⟨some 28, .bin .eql (.t 27) (.c (.int .i64 1)), none⟩])
  (.cond (.t 28) (.seq (.reg [⟨some 29, .mv (.t 2) false, none⟩, ⟨some 10, .mv (.t 29) true, none⟩])
  (.seq (.reg [⟨some 30, .mv (.t 3) false, none⟩, ⟨some 11, .mv (.t 30) true, none⟩])
  (.seq (.block 0 (L65_0))
  (.seq (.seq (.reg [⟨some 54, .mv (.t 1) false, none⟩, ⟨some 13, .mv (.t 54) true, none⟩])
  (.block 2 (L65_2)))
  (.ret)))))
  (.skip)))
  (.seq (.seq (.reg [⟨some 77, .mv (.t 3) false, none⟩, ⟨some 78, .mv (.t 2) false, none⟩, ⟨some 79, .bin .sub (.t 77) (.t 78), none⟩, ⟨some 80, .bin .eql (.t 79) (.c (.int .i64 1)), none⟩])
  (.cond (.t 80) (.seq (.reg [⟨some 81, .mv (.t 1) false, none⟩, ⟨some 14, .mv (.t 81) true, none⟩])
  (.seq (.reg [⟨some 82, .mv (.t 2) false, none⟩, ⟨some 15, .mv (.t 82) true, none⟩])
  (.seq (.block 4 (L65_4))
  (.seq (.seq (.reg [⟨some 107, .mv (.t 2) false, none⟩, ⟨some 17, .mv (.t 107) true, none⟩])
  (.block 6 (L65_6)))
  (.ret)))))
  (.skip)))
  (.seq (.reg [⟨some 129, .mv (.t 1) false, none⟩, ⟨some 130, .mv (.t 3) false, none⟩, ⟨some 131, .bin .add (.t 129) (.t 130), none⟩, ⟨some 132, .conv .u64 (.t 131), none⟩, ⟨some 133, .bin .shr (.t 132) (.c (.int .u64 1)), none⟩, ⟨some 134, .conv .i64 (.t 133), none⟩, ⟨some 18, .mv (.t 134) true, none⟩])
  (.seq (.reg [⟨some 135, .mv (.t 18) false, none⟩, ⟨some 136, .mv (.t 2) false, none⟩, ⟨some 137, .bin .add (.t 135) (.t 136), none⟩, ⟨some 19, .mv (.t 137) true, none⟩])
  (.seq (.reg [⟨some 20, .mv (.c (.int .i64 0)) true, none⟩, ⟨some 21, .mv (.c (.int .i64 0)) true, none⟩])
  (.seq (.seq (.reg [⟨some 138, .mv (.t 2) false, none⟩, ⟨some 139, .mv (.t 18) false, none⟩, ⟨some 140, .bin .gtr (.t 138) (.t 139), none⟩])
  (.cond (.t 140) (.seq (.reg [⟨some 141, .mv (.t 19) false, none⟩, ⟨some 142, .mv (.t 3) false, none⟩, ⟨some 143, .bin .sub (.t 141) (.t 142), none⟩, ⟨some 20, .mv (.t 143) true, none⟩])
  (.reg [⟨some 144, .mv (.t 18) false, none⟩, ⟨some 21, .mv (.t 144) true, none⟩]))
  (.seq (.reg [⟨some 145, .mv (.t 1) false, none⟩, ⟨some 20, .mv (.t 145) true, none⟩])
  (.reg [⟨some 146, .mv (.t 2) false, none⟩, ⟨some 21, .mv (.t 146) true, none⟩]))))
  (.seq (.reg [⟨some 147, .mv (.t 19) false, none⟩, ⟨some 148, .bin .sub (.t 147) (.c (.int .i64 1)), none⟩, ⟨some 22, .mv (.t 148) true, none⟩])
  (.seq (.block 8 (L65_8))
  (.seq (.reg [⟨some 175, .mv (.t 19) false, none⟩, ⟨some 176, .mv (.t 20) false, none⟩, ⟨some 177, .bin .sub (.t 175) (.t 176), none⟩, ⟨some 24, .mv (.t 177) true, none⟩])
  (.seq (.seq (.reg [⟨some 178, .mv (.t 20) false, none⟩, ⟨some 179, .mv (.t 2) false, none⟩, ⟨some 180, .bin .lss (.t 178) (.t 179), none⟩, ⟨some 181, .mv (.t 180) false, none⟩, ⟨some 182, .mv (.t 2) false, some (181, true)⟩, ⟨some 183, .mv (.t 24) false, some (181, true)⟩, ⟨some 184, .bin .lss (.t 182) (.t 183), some (181, true)⟩, ⟨some 185, .pick (.t 181) (.t 184) (.c (.bool false)), none⟩])
  (.cond (.t 185) (.reg [⟨some 186, .mv (.t 0) false, none⟩, ⟨some 187, .mv (.t 20) false, none⟩, ⟨some 188, .mv (.t 2) false, none⟩, ⟨some 189, .mv (.t 24) false, none⟩, ⟨some 190, .mv (.t 4) false, none⟩, ⟨some 191, .calli 94 [(.t 186), (.t 187), (.t 188), (.t 189), (.t 190)], none⟩])
  (.skip)))
  (.seq (.seq (.reg [⟨some 192, .mv (.t 1) false, none⟩, ⟨some 193, .mv (.t 20) false, none⟩, ⟨some 194, .bin .lss (.t 192) (.t 193), none⟩, ⟨some 195, .mv (.t 194) false, none⟩, ⟨some 196, .mv (.t 20) false, some (195, true)⟩, ⟨some 197, .mv (.t 18) false, some (195, true)⟩, ⟨some 198, .bin .lss (.t 196) (.t 197), some (195, true)⟩, ⟨some 199, .pick (.t 195) (.t 198) (.c (.bool false)), none⟩])
  (.cond (.t 199) (.reg [⟨some 200, .mv (.t 0) false, none⟩, ⟨some 201, .mv (.t 1) false, none⟩, ⟨some 202, .mv (.t 20) false, none⟩, ⟨some 203, .mv (.t 18) false, none⟩, ⟨some 204, .mv (.t 4) false, none⟩, ⟨some 205, .calli 65 [(.t 200), (.t 201), (.t 202), (.t 203), (.t 204)], none⟩])
  (.skip)))
  (.seq (.reg [⟨some 206, .mv (.t 18) false, none⟩, ⟨some 207, .mv (.t 24) false, none⟩, ⟨some 208, .bin .lss (.t 206) (.t 207), none⟩, ⟨some 209, .mv (.t 208) false, none⟩, ⟨some 210, .mv (.t 24) false, some (209, true)⟩, ⟨some 211, .mv (.t 3) false, some (209, true)⟩, ⟨some 212, .bin .lss (.t 210) (.t 211), some (209, true)⟩, ⟨some 213, .pick (.t 209) (.t 212) (.c (.bool false)), none⟩])
  (.cond (.t 213) (.reg [⟨some 214, .mv (.t 0) false, none⟩, ⟨some 215, .mv (.t 18) false, none⟩, ⟨some 216, .mv (.t 24) false, none⟩, ⟨some 217, .mv (.t 3) false, none⟩, ⟨some 218, .mv (.t 4) false, none⟩, ⟨some 219, .calli 65 [(.t 214), (.t 215), (.t 216), (.t 217), (.t 218)], none⟩])
  (.skip))))))))))))), []⟩
theorem row65 : RowOk Try.prog 65 C65 := ⟨Try.f65, ⟨[], [], [], []⟩, lvOf [(0, [0, 1, 4, 10, 11], 0), (2, [0, 10, 13], 0), (4, [0, 2, 4, 14, 15], 0), (6, [0, 14, 17], 0), (8, [0, 1, 2, 3, 4, 18, 19, 20, 21, 22], 0)], Try.func65, by kernel_rfl, by kernel_rfl⟩
/-- slices.rotateLeft[swingbridge/api.Item] -/
def C66 : CFun := ⟨14, 2, .seq (.reg [⟨some 4, .mv (.t 0) false, none⟩, ⟨some 5, .mv (.t 1) false, none⟩, ⟨some 6, .slc 2 (.t 4) none (some (.t 5)) none, none⟩, ⟨some 7, .call 95 [(.t 6)] false, none⟩])
  (.seq (.reg [⟨some 8, .mv (.t 0) false, none⟩, ⟨some 9, .mv (.t 1) false, none⟩, ⟨some 10, .slc 2 (.t 8) (some (.t 9)) none none, none⟩, ⟨some 11, .call 95 [(.t 10)] false, none⟩])
  (.reg [⟨some 12, .mv (.t 0) false, none⟩, ⟨some 13, .call 95 [(.t 12)] false, none⟩])), []⟩
theorem row66 : RowOk Try.prog 66 C66 := ⟨Try.f66, ⟨[], [], [], []⟩, lvOf [], Try.func66, by kernel_rfl, by kernel_rfl⟩
def B67_2 : C := .seq (.seq (.reg [⟨some 18, .mv (.t 9) false, none⟩, ⟨some 19, .mv (.t 1) false, none⟩, ⟨some 20, .bin .gtr (.t 18) (.t 19), none⟩, ⟨some 21, .mv (.t 20) false, none⟩, ⟨some 22, .mv (.t 3) false, some (21, true)⟩, ⟨some 23, .mv (.t 0) false, some (21, true)⟩, ⟨some 24, .mv (.t 9) false, some (21, true)⟩, ⟨some 25, .ia 1 (.t 23) (.t 24), some (21, true)⟩, ⟨some 26, .load 1 false (.t 25) false, some (21, true)⟩, ⟨some 27, .mv (.t 0) false, some (21, true)⟩, ⟨some 28, .mv (.t 9) false, some (21, true)⟩, ⟨some 29, .bin .sub (.t 28) (.c (.int .i64 1)), some (21, true)⟩, ⟨some 30, .ia 1 (.t 27) (.t 29), some (21, true)⟩, ⟨some 31, .load 1 false (.t 30) false, some (21, true)⟩, ⟨some 32, .callv (.t 22) [(.t 26), (.t 31)], some (21, true)⟩, ⟨some 33, .bin .lss (.t 32) (.c (.int .i64 0)), some (21, true)⟩, ⟨some 34, .pick (.t 21) (.t 33) (.c (.bool false)), none⟩])
  (.cond (.t 34) (.skip)
  (.exit 2)))
  (.seq (.block 3 (.reg [⟨some 37, .mv (.t 0) false, none⟩, ⟨some 38, .mv (.t 9) false, none⟩, ⟨some 39, .mv (.t 0) false, none⟩, ⟨some 40, .mv (.t 9) false, none⟩, ⟨some 41, .bin .sub (.t 40) (.c (.int .i64 1)), none⟩, ⟨some 42, .mv (.t 0) false, none⟩, ⟨some 43, .mv (.t 9) false, none⟩, ⟨some 44, .bin .sub (.t 43) (.c (.int .i64 1)), none⟩, ⟨some 45, .ia 1 (.t 42) (.t 44), none⟩, ⟨some 46, .load 1 false (.t 45) false, none⟩, ⟨some 47, .mv (.t 0) false, none⟩, ⟨some 48, .mv (.t 9) false, none⟩, ⟨some 49, .ia 1 (.t 47) (.t 48), none⟩, ⟨some 50, .load 1 false (.t 49) false, none⟩, ⟨some 51, .ia 1 (.t 37) (.t 38), none⟩, ⟨none, .store 1 (.t 51) (.t 46), none⟩, ⟨some 52, .ia 1 (.t 39) (.t 41), none⟩, ⟨none, .store 1 (.t 52) (.t 50), none⟩]))
  (.reg [⟨some 35, .mv (.t 9) false, none⟩, ⟨some 36, .bin .sub (.t 35) (.c (.int .i64 1)), none⟩, ⟨some 9, .mv (.t 36) true, none⟩]))
def L67_2 : C := .loop [0, 1, 2, 3, 8, 9] 0 B67_2
theorem go67_2 (s : Env × Bx) (nb) : evL tab ext nb L67_2 s = (loopIn nb [0, 1, 2, 3, 8, 9] 0 s).bind fun s0 => (evL tab ext nb B67_2 s0).bind (seqG tab ext nb L67_2) := eL_loop _ _ _
def B67_0 : C := .seq (.seq (.reg [⟨some 12, .mv (.t 8) false, none⟩, ⟨some 13, .mv (.t 2) false, none⟩, ⟨some 14, .bin .lss (.t 12) (.t 13), none⟩])
  (.cond (.t 14) (.skip)
  (.exit 0)))
  (.seq (.block 1 (.seq (.reg [⟨some 17, .mv (.t 8) false, none⟩, ⟨some 9, .mv (.t 17) true, none⟩])
  (.block 2 (L67_2))))
  (.reg [⟨some 15, .mv (.t 8) false, none⟩, ⟨some 16, .bin .add (.t 15) (.c (.int .i64 1)), none⟩, ⟨some 8, .mv (.t 16) true, none⟩]))
def L67_0 : C := .loop [0, 1, 2, 3, 8] 0 B67_0
theorem go67_0 (s : Env × Bx) (nb) : evL tab ext nb L67_0 s = (loopIn nb [0, 1, 2, 3, 8] 0 s).bind fun s0 => (evL tab ext nb B67_0 s0).bind (seqG tab ext nb L67_0) := eL_loop _ _ _
/-- slices.insertionSortCmpFunc[int] -/
def C67 : CFun := ⟨53, 4, .seq (.reg [⟨some 10, .mv (.t 1) false, none⟩, ⟨some 11, .bin .add (.t 10) (.c (.int .i64 1)), none⟩, ⟨some 8, .mv (.t 11) true, none⟩])
  (.block 0 (L67_0)), []⟩
theorem row67 : RowOk Try.prog 67 C67 := ⟨Try.f67, ⟨[], [], [], []⟩, lvOf [(0, [0, 1, 2, 3, 8], 0), (2, [0, 1, 2, 3, 8, 9], 0)], Try.func67, by kernel_rfl, by kernel_rfl⟩
def B68_0 : C := .seq (.seq (.reg [⟨some 20, .mv (.t 11) false, none⟩, ⟨some 21, .bin .geq (.t 20) (.c (.int .i64 0)), none⟩])
  (.cond (.t 21) (.skip)
  (.exit 0)))
  (.seq (.block 1 (.reg [⟨some 24, .mv (.t 0) false, none⟩, ⟨some 25, .mv (.t 11) false, none⟩, ⟨some 26, .mv (.t 10) false, none⟩, ⟨some 27, .mv (.t 8) false, none⟩, ⟨some 28, .mv (.t 3) false, none⟩, ⟨some 29, .calli 96 [(.t 24), (.t 25), (.t 26), (.t 27), (.t 28)], none⟩]))
  (.reg [⟨some 22, .mv (.t 11) false, none⟩, ⟨some 23, .bin .sub (.t 22) (.c (.int .i64 1)), none⟩, ⟨some 11, .mv (.t 23) true, none⟩]))
def L68_0 : C := .loop [0, 3, 8, 9, 10, 11] 0 B68_0
theorem go68_0 (s : Env × Bx) (nb) : evL tab ext nb L68_0 s = (loopIn nb [0, 3, 8, 9, 10, 11] 0 s).bind fun s0 => (evL tab ext nb B68_0 s0).bind (seqG tab ext nb L68_0) := eL_loop _ _ _
def B68_2 : C := .seq (.seq (.reg [⟨some 32, .mv (.t 12) false, none⟩, ⟨some 33, .bin .geq (.t 32) (.c (.int .i64 0)), none⟩])
  (.cond (.t 33) (.skip)
  (.exit 2)))
  (.seq (.block 3 (.seq (.reg [⟨some 36, .mv (.t 0) false, none⟩, ⟨some 37, .mv (.t 8) false, none⟩, ⟨some 38, .mv (.t 0) false, none⟩, ⟨some 39, .mv (.t 8) false, none⟩, ⟨some 40, .mv (.t 12) false, none⟩, ⟨some 41, .bin .add (.t 39) (.t 40), none⟩, ⟨some 42, .mv (.t 0) false, none⟩, ⟨some 43, .mv (.t 8) false, none⟩, ⟨some 44, .mv (.t 12) false, none⟩, ⟨some 45, .bin .add (.t 43) (.t 44), none⟩, ⟨some 46, .ia 1 (.t 42) (.t 45), none⟩, ⟨some 47, .load 1 false (.t 46) false, none⟩, ⟨some 48, .mv (.t 0) false, none⟩, ⟨some 49, .mv (.t 8) false, none⟩, ⟨some 50, .ia 1 (.t 48) (.t 49), none⟩, ⟨some 51, .load 1 false (.t 50) false, none⟩, ⟨some 52, .ia 1 (.t 36) (.t 37), none⟩, ⟨none, .store 1 (.t 52) (.t 47), none⟩, ⟨some 53, .ia 1 (.t 38) (.t 41), none⟩, ⟨none, .store 1 (.t 53) (.t 51), none⟩])
  (.reg [⟨some 54, .mv (.t 0) false, none⟩, ⟨some 55, .mv (.t 9) false, none⟩, ⟨some 56, .mv (.t 12) false, none⟩, ⟨some 57, .mv (.t 8) false, none⟩, ⟨some 58, .mv (.t 3) false, none⟩, ⟨some 59, .calli 96 [(.t 54), (.t 55), (.t 56), (.t 57), (.t 58)], none⟩])))
  (.reg [⟨some 34, .mv (.t 12) false, none⟩, ⟨some 35, .bin .sub (.t 34) (.c (.int .i64 1)), none⟩, ⟨some 12, .mv (.t 35) true, none⟩]))
def L68_2 : C := .loop [0, 3, 8, 9, 12] 0 B68_2
theorem go68_2 (s : Env × Bx) (nb) : evL tab ext nb L68_2 s = (loopIn nb [0, 3, 8, 9, 12] 0 s).bind fun s0 => (evL tab ext nb B68_2 s0).bind (seqG tab ext nb L68_2) := eL_loop _ _ _
/-- slices.heapSortCmpFunc[int] -/
def C68 : CFun := ⟨60, 4, .seq (.reg [⟨some 13, .mv (.t 1) false, none⟩, ⟨some 8, .mv (.t 13) true, none⟩])
  (.seq (.reg [⟨some 9, .mv (.c (.int .i64 0)) true, none⟩])
  (.seq (.reg [⟨some 14, .mv (.t 2) false, none⟩, ⟨some 15, .mv (.t 1) false, none⟩, ⟨some 16, .bin .sub (.t 14) (.t 15), none⟩, ⟨some 10, .mv (.t 16) true, none⟩])
  (.seq (.seq (.reg [⟨some 17, .mv (.t 10) false, none⟩, ⟨some 18, .bin .sub (.t 17) (.c (.int .i64 1)), none⟩, ⟨some 19, .bin .quo (.t 18) (.c (.int .i64 2)), none⟩, ⟨some 11, .mv (.t 19) true, none⟩])
  (.block 0 (L68_0)))
  (.seq (.reg [⟨some 30, .mv (.t 10) false, none⟩, ⟨some 31, .bin .sub (.t 30) (.c (.int .i64 1)), none⟩, ⟨some 12, .mv (.t 31) true, none⟩])
  (.block 2 (L68_2)))))), []⟩
theorem row68 : RowOk Try.prog 68 C68 := ⟨Try.f68, ⟨[], [], [], []⟩, lvOf [(0, [0, 3, 8, 9, 10, 11], 0), (2, [0, 3, 8, 9, 12], 0)], Try.func68, by kernel_rfl, by kernel_rfl⟩
def B69_0 : C := .seq (.seq (.reg [⟨some 28, .mv (.t 11) false, none⟩, ⟨some 29, .mv (.t 1) false, none⟩, ⟨some 30, .mv (.t 8) false, none⟩, ⟨some 31, .bin .quo (.t 30) (.c (.int .i64 4)), none⟩, ⟨some 32, .bin .mul (.t 31) (.c (.int .i64 2)), none⟩, ⟨some 33, .bin .add (.t 29) (.t 32), none⟩, ⟨some 34, .bin .add (.t 33) (.c (.int .i64 1)), none⟩, ⟨some 35, .bin .leq (.t 28) (.t 34), none⟩])
  (.cond (.t 35) (.skip)
  (.exit 0)))
  (.seq (.block 1 (.seq (.reg [⟨some 38, .call 98 [(.t 9)] false, none⟩, ⟨some 39, .mv (.t 10) false, none⟩, ⟨some 40, .bin .sub (.t 39) (.c (.int .u64 1)), none⟩, ⟨some 41, .bin .and (.t 38) (.t 40), none⟩, ⟨some 42, .conv .i64 (.t 41), none⟩, ⟨some 12, .mv (.t 42) true, none⟩])
  (.seq (.seq (.reg [⟨some 43, .mv (.t 12) false, none⟩, ⟨some 44, .mv (.t 8) false, none⟩, ⟨some 45, .bin .geq (.t 43) (.t 44), none⟩])
  (.cond (.t 45) (.reg [⟨some 46, .mv (.t 12) false, none⟩, ⟨some 47, .mv (.t 8) false, none⟩, ⟨some 48, .bin .sub (.t 46) (.t 47), none⟩, ⟨some 12, .mv (.t 48) true, none⟩])
  (.skip)))
  (.reg [⟨some 49, .mv (.t 0) false, none⟩, ⟨some 50, .mv (.t 11) false, none⟩, ⟨some 51, .mv (.t 0) false, none⟩, ⟨some 52, .mv (.t 1) false, none⟩, ⟨some 53, .mv (.t 12) false, none⟩, ⟨some 54, .bin .add (.t 52) (.t 53), none⟩, ⟨some 55, .mv (.t 0) false, none⟩, ⟨some 56, .mv (.t 1) false, none⟩, ⟨some 57, .mv (.t 12) false, none⟩, ⟨some 58, .bin .add (.t 56) (.t 57), none⟩, ⟨some 59, .ia 1 (.t 55) (.t 58), none⟩, ⟨some 60, .load 1 false (.t 59) false, none⟩, ⟨some 61, .mv (.t 0) false, none⟩, ⟨some 62, .mv (.t 11) false, none⟩, ⟨some 63, .ia 1 (.t 61) (.t 62), none⟩, ⟨some 64, .load 1 false (.t 63) false, none⟩, ⟨some 65, .ia 1 (.t 49) (.t 50), none⟩, ⟨none, .store 1 (.t 65) (.t 60), none⟩, ⟨some 66, .ia 1 (.t 51) (.t 54), none⟩, ⟨none, .store 1 (.t 66) (.t 64), none⟩]))))
  (.reg [⟨some 36, .mv (.t 11) false, none⟩, ⟨some 37, .bin .add (.t 36) (.c (.int .i64 1)), none⟩, ⟨some 11, .mv (.t 37) true, none⟩]))
def L69_0 : C := .loop [0, 1, 8, 9, 10, 11] 1 B69_0
theorem go69_0 (s : Env × Bx) (nb) : evL tab ext nb L69_0 s = (loopIn nb [0, 1, 8, 9, 10, 11] 1 s).bind fun s0 => (evL tab ext nb B69_0 s0).bind (seqG tab ext nb L69_0) := eL_loop _ _ _
/-- slices.breakPatternsCmpFunc[int] -/
def C69 : CFun := ⟨67, 4, .seq (.reg [⟨some 13, .mv (.t 2) false, none⟩, ⟨some 14, .mv (.t 1) false, none⟩, ⟨some 15, .bin .sub (.t 13) (.t 14), none⟩, ⟨some 8, .mv (.t 15) true, none⟩])
  (.seq (.reg [⟨some 16, .mv (.t 8) false, none⟩, ⟨some 17, .bin .geq (.t 16) (.c (.int .i64 8)), none⟩])
  (.cond (.t 17) (.seq (.reg [⟨some 18, .mv (.t 8) false, none⟩, ⟨some 19, .conv .u64 (.t 18), none⟩, ⟨some 9, .alloc [(.int .u64 0)], none⟩, ⟨none, .store 1 (.t 9) (.t 19), none⟩])
  (.seq (.reg [⟨some 20, .mv (.t 8) false, none⟩, ⟨some 21, .call 97 [(.t 20)] false, none⟩, ⟨some 10, .mv (.t 21) true, none⟩])
  (.seq (.reg [⟨some 22, .mv (.t 1) false, none⟩, ⟨some 23, .mv (.t 8) false, none⟩, ⟨some 24, .bin .quo (.t 23) (.c (.int .i64 4)), none⟩, ⟨some 25, .bin .mul (.t 24) (.c (.int .i64 2)), none⟩, ⟨some 26, .bin .add (.t 22) (.t 25), none⟩, ⟨some 27, .bin .sub (.t 26) (.c (.int .i64 1)), none⟩, ⟨some 11, .mv (.t 27) true, none⟩])
  (.block 0 (L69_0)))))
  (.skip))), []⟩
theorem row69 : RowOk Try.prog 69 C69 := ⟨Try.f69, ⟨[], [], [], []⟩, lvOf [(0, [0, 1, 8, 9, 10, 11], 1)], Try.func69, by kernel_rfl, by kernel_rfl⟩
end Go.Proofs.YtgndbkeiickihaaEv
