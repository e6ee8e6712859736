/- The seat's functions in compact code; each row is checked against the program. -/
import Derived.Test.YtgndbkeiickihaaEv4
import Derived.Test.YtgndbkeiickihaaProg
import Derived.KernelRfl
namespace Go.Proofs.YtgndbkeiickihaaEv
open Go
set_option maxRecDepth 100000
variable {tab : Nat → Option CFun} {ext : CallF}
/-- slices.choosePivotCmpFunc[int] -/
def C70 : CFun := ⟨63, 4, .seq (.reg [⟨some 8, .mv (.c (.int .i64 0)) true, none⟩, ⟨some 9, .mv (.c (.int .i64 0)) true, none⟩])
  (.seq (.reg [⟨some 15, .mv (.t 2) false, none⟩, ⟨some 16, .mv (.t 1) false, none⟩, ⟨some 17, .bin .sub (.t 15) (.t 16), none⟩, ⟨some 10, .mv (.t 17) true, none⟩])
  (.seq (.reg [⟨some 11, .alloc [(.int .i64 0)], none⟩])
  (.seq (.reg [⟨some 18, .mv (.t 1) false, none⟩, ⟨some 19, .mv (.t 10) false, none⟩, ⟨some 20, .bin .quo (.t 19) (.c (.int .i64 4)), none⟩, ⟨some 21, .bin .mul (.t 20) (.c (.int .i64 1)), none⟩, ⟨some 22, .bin .add (.t 18) (.t 21), none⟩, ⟨some 12, .mv (.t 22) true, none⟩])
  (.seq (.reg [⟨some 23, .mv (.t 1) false, none⟩, ⟨some 24, .mv (.t 10) false, none⟩, ⟨some 25, .bin .quo (.t 24) (.c (.int .i64 4)), none⟩, ⟨some 26, .bin .mul (.t 25) (.c (.int .i64 2)), none⟩, ⟨some 27, .bin .add (.t 23) (.t 26), none⟩, ⟨some 13, .mv (.t 27) true, none⟩])
  (.seq (.reg [⟨some 28, .mv (.t 1) false, none⟩, ⟨some 29, .mv (.t 10) false, none⟩, ⟨some 30, .bin .quo (.t 29) (.c (.int .i64 4)), none⟩, ⟨some 31, .bin .mul (.t 30) (.c (.int .i64 3)), none⟩, ⟨some 32, .bin .add (.t 28) (.t 31), none⟩, ⟨some 14, .mv (.t 32) true, none⟩])
  (.seq (.seq (.reg [⟨some 33, .mv (.t 10) false, none⟩, ⟨some 34, .bin .geq (.t 33) (.c (.int .i64 8)), none⟩])
  (.cond (.t 34) (.seq (.seq (.reg [⟨some 35, .mv (.t 10) false, none⟩, ⟨some 36, .bin .geq (.t 35) (.c (.int .i64 50)), none⟩])
  (.cond (.t 36) (.seq (.reg [⟨some 37, .mv (.t 0) false, none⟩, ⟨some 38, .mv (.t 12) false, none⟩, ⟨some 39, .mv (.t 3) false, none⟩, ⟨some 40, .calli 99 [(.t 37), (.t 38), (.t 11), (.t 39)], none⟩, ⟨some 12, .mv (.t 40) true, none⟩])
  (.seq (.reg [⟨some 41, .mv (.t 0) false, none⟩, ⟨some 42, .mv (.t 13) false, none⟩, ⟨some 43, .mv (.t 3) false, none⟩, ⟨some 44, .calli 99 [(.t 41), (.t 42), (.t 11), (.t 43)], none⟩, ⟨some 13, .mv (.t 44) true, none⟩])
  (.reg [⟨some 45, .mv (.t 0) false, none⟩, ⟨some 46, .mv (.t 14) false, none⟩, ⟨some 47, .mv (.t 3) false, none⟩, ⟨some 48, .calli 99 [(.t 45), (.t 46), (.t 11), (.t 47)], none⟩, ⟨some 14, .mv (.t 48) true, none⟩])))
  (.skip)))
  (.reg [⟨some 49, .mv (.t 0) false, none⟩, ⟨some 50, .mv (.t 12) false, none⟩, ⟨some 51, .mv (.t 13) false, none⟩, ⟨some 52, .mv (.t 14) false, none⟩, ⟨some 53, .mv (.t 3) false, none⟩, ⟨some 54, .calli 100 [(.t 49), (.t 50), (.t 51), (.t 52), (.t 11), (.t 53)], none⟩, ⟨some 13, .mv (.t 54) true, none⟩]))
  (.skip)))
  (.seq (.reg [⟨some 55, .load 1 false (.t 11) false, none⟩])
  (.block 0 (.seq (.reg [⟨some 58, .bin .eql (.t 55) (.c (.int .i64 0)), none⟩, ⟨some 57, .mv (.t 58) true, none⟩])
  (.cond (.t 57) (.seq (.reg [⟨some 59, .mv (.t 13) false, none⟩, ⟨some 8, .mv (.t 59) true, none⟩, ⟨some 9, .mv (.c (.int .i64 1)) true, none⟩])
  (.ret))
  (.seq (.reg [⟨some 61, .bin .eql (.t 55) (.c (.int .i64 12)), none⟩, ⟨some 60, .mv (.t 61) true, none⟩])
  (.cond (.t 60) (.seq (.reg [⟨some 62, .mv (.t 13) false, none⟩, ⟨some 8, .mv (.t 62) true, none⟩, ⟨some 9, .mv (.c (.int .i64 2)) true, none⟩])
  (.ret))
  (.seq (.reg [⟨some 56, .mv (.t 13) false, none⟩, ⟨some 8, .mv (.t 56) true, none⟩, ⟨some 9, .mv (.c (.int .i64 0)) true, none⟩])
  (.ret)))))))))))))), [.t 8, .t 9]⟩
theorem row70 : RowOk Try.prog 70 C70 := ⟨Try.f70, ⟨[], [], [], []⟩, lvOf [], Try.func70, by kernel_rfl, by kernel_rfl⟩
def B71_0 : C := .seq (.seq (.reg [⟨some 13, .mv (.t 8) false, none⟩, ⟨some 14, .mv (.t 9) false, none⟩, ⟨some 15, .bin .lss (.t 13) (.t 14), none⟩])
  (.cond (.t 15) (.skip)
  (.exit 0)))
  (.block 1 (.seq (.reg [⟨some 16, .mv (.t 0) false, none⟩, ⟨some 17, .mv (.t 8) false, none⟩, ⟨some 18, .mv (.t 0) false, none⟩, ⟨some 19, .mv (.t 9) false, none⟩, ⟨some 20, .mv (.t 0) false, none⟩, ⟨some 21, .mv (.t 9) false, none⟩, ⟨some 22, .ia 1 (.t 20) (.t 21), none⟩, ⟨some 23, .load 1 false (.t 22) false, none⟩, ⟨some 24, .mv (.t 0) false, none⟩, ⟨some 25, .mv (.t 8) false, none⟩, ⟨some 26, .ia 1 (.t 24) (.t 25), none⟩, ⟨some 27, .load 1 false (.t 26) false, none⟩, ⟨some 28, .ia 1 (.t 16) (.t 17), none⟩, ⟨none, .store 1 (.t 28) (.t 23), none⟩, ⟨some 29, .ia 1 (.t 18) (.t 19), none⟩, ⟨none, .store 1 (.t 29) (.t 27), none⟩])
  (.seq (.reg [⟨some 30, .mv (.t 8) false, none⟩, ⟨some 31, .bin .add (.t 30) (.c (.int .i64 1)), none⟩, ⟨some 8, .mv (.t 31) true, none⟩])
  (.reg [⟨some 32, .mv (.t 9) false, none⟩, ⟨some 33, .bin .sub (.t 32) (.c (.int .i64 1)), none⟩, ⟨some 9, .mv (.t 33) true, none⟩]))))
def L71_0 : C := .loop [0, 8, 9] 0 B71_0
theorem go71_0 (s : Env × Bx) (nb) : evL tab ext nb L71_0 s = (loopIn nb [0, 8, 9] 0 s).bind fun s0 => (evL tab ext nb B71_0 s0).bind (seqG tab ext nb L71_0) := eL_loop _ _ _
/-- slices.reverseRangeCmpFunc[int] -/
def C71 : CFun := ⟨34, 4, .seq (.reg [⟨some 10, .mv (.t 1) false, none⟩, ⟨some 8, .mv (.t 10) true, none⟩])
  (.seq (.reg [⟨some 11, .mv (.t 2) false, none⟩, ⟨some 12, .bin .sub (.t 11) (.c (.int .i64 1)), none⟩, ⟨some 9, .mv (.t 12) true, none⟩])
  (.block 0 (L71_0))), []⟩
theorem row71 : RowOk Try.prog 71 C71 := ⟨Try.f71, ⟨[], [], [], []⟩, lvOf [(0, [0, 8, 9], 0)], Try.func71, by kernel_rfl, by kernel_rfl⟩
def B72_2 : C := .seq (.seq (.reg [⟨some 19, .mv (.t 9) false, none⟩, ⟨some 20, .mv (.t 2) false, none⟩, ⟨some 21, .bin .lss (.t 19) (.t 20), none⟩, ⟨some 22, .mv (.t 21) false, none⟩, ⟨some 23, .mv (.t 3) false, some (22, true)⟩, ⟨some 24, .mv (.t 0) false, some (22, true)⟩, ⟨some 25, .mv (.t 9) false, some (22, true)⟩, ⟨some 26, .ia 1 (.t 24) (.t 25), some (22, true)⟩, ⟨some 27, .load 1 false (.t 26) false, some (22, true)⟩, ⟨some 28, .mv (.t 0) false, some (22, true)⟩, ⟨some 29, .mv (.t 9) false, some (22, true)⟩, ⟨some 30, .bin .sub (.t 29) (.c (.int .i64 1)), some (22, true)⟩, ⟨some 31, .ia 1 (.t 28) (.t 30), some (22, true)⟩, ⟨some 32, .load 1 false (.t 31) false, some (22, true)⟩, ⟨some 33, .callv (.t 23) [(.t 27), (.t 32)], some (22, true)⟩, ⟨some 34, .bin .lss (.t 33) (.c (.int .i64 0)), some (22, true)⟩, ⟨some 35, .un .not (.t 34), some (22, true)⟩, ⟨some 36, .pick (.t 22) (.t 35) (.c (.bool false)), none⟩])
  (.cond (.t 36) (.skip)
  (.exit 2)))
  (.block 3 (.reg [⟨some 37, .mv (.t 9) false, none⟩, ⟨some 38, .bin .add (.t 37) (.c (.int .i64 1)), none⟩, ⟨some 9, .mv (.t 38) true, none⟩]))
def L72_2 : C := .loop [0, 1, 2, 3, 9, 10] 0 B72_2
theorem go72_2 (s : Env × Bx) (nb) : evL tab ext nb L72_2 s = (loopIn nb [0, 1, 2, 3, 9, 10] 0 s).bind fun s0 => (evL tab ext nb B72_2 s0).bind (seqG tab ext nb L72_2) := eL_loop _ _ _
def B72_4 : C := .seq (.seq (.reg [⟨some 68, .mv (.t 11) false, none⟩, ⟨some 69, .bin .geq (.t 68) (.c (.int .i64 1)), none⟩])
  (.cond (.t 69) (.skip)
  (.exit 4)))
  (.seq (.block 5 (.seq (.seq (.reg [⟨some 72, .mv (.t 3) false, none⟩, ⟨some 73, .mv (.t 0) false, none⟩, ⟨some 74, .mv (.t 11) false, none⟩, ⟨some 75, .ia 1 (.t 73) (.t 74), none⟩, ⟨some 76, .load 1 false (.t 75) false, none⟩, ⟨some 77, .mv (.t 0) false, none⟩, ⟨some 78, .mv (.t 11) false, none⟩, ⟨some 79, .bin .sub (.t 78) (.c (.int .i64 1)), none⟩, ⟨some 80, .ia 1 (.t 77) (.t 79), none⟩, ⟨some 81, .load 1 false (.t 80) false, none⟩, ⟨some 82, .callv (.t 72) [(.t 76), (.t 81)], none⟩, ⟨some 83, .bin .lss (.t 82) (.c (.int .i64 0)), none⟩, ⟨some 84, .un .not (.t 83), none⟩])
  (.cond (.t 84) (.exit 4)
  (.skip)))
  (.reg [⟨some 85, .mv (.t 0) false, none⟩, ⟨some 86, .mv (.t 11) false, none⟩, ⟨some 87, .mv (.t 0) false, none⟩, ⟨some 88, .mv (.t 11) false, none⟩, ⟨some 89, .bin .sub (.t 88) (.c (.int .i64 1)), none⟩, ⟨some 90, .mv (.t 0) false, none⟩, ⟨some 91, .mv (.t 11) false, none⟩, ⟨some 92, .bin .sub (.t 91) (.c (.int .i64 1)), none⟩, ⟨some 93, .ia 1 (.t 90) (.t 92), none⟩, ⟨some 94, .load 1 false (.t 93) false, none⟩, ⟨some 95, .mv (.t 0) false, none⟩, ⟨some 96, .mv (.t 11) false, none⟩, ⟨some 97, .ia 1 (.t 95) (.t 96), none⟩, ⟨some 98, .load 1 false (.t 97) false, none⟩, ⟨some 99, .ia 1 (.t 85) (.t 86), none⟩, ⟨none, .store 1 (.t 99) (.t 94), none⟩, ⟨some 100, .ia 1 (.t 87) (.t 89), none⟩, ⟨none, .store 1 (.t 100) (.t 98), none⟩])))
  (.reg [⟨some 70, .mv (.t 11) false, none⟩, ⟨some 71, .bin .sub (.t 70) (.c (.int .i64 1)), none⟩, ⟨some 11, .mv (.t 71) true, none⟩]))
def L72_4 : C := .loop [0, 1, 2, 3, 9, 10, 11] 0 B72_4
theorem go72_4 (s : Env × Bx) (nb) : evL tab ext nb L72_4 s = (loopIn nb [0, 1, 2, 3, 9, 10, 11] 0 s).bind fun s0 => (evL tab ext nb B72_4 s0).bind (seqG tab ext nb L72_4) := eL_loop _ _ _
def B72_6 : C := .seq (.seq (.reg [⟨some 107, .mv (.t 12) false, none⟩, ⟨some 108, .mv (.t 2) false, none⟩, ⟨some 109, .bin .lss (.t 107) (.t 108), none⟩])
  (.cond (.t 109) (.skip)
  (.exit 6)))
  (.seq (.block 7 (.seq (.seq (.reg [⟨some 112, .mv (.t 3) false, none⟩, ⟨some 113, .mv (.t 0) false, none⟩, ⟨some 114, .mv (.t 12) false, none⟩, ⟨some 115, .ia 1 (.t 113) (.t 114), none⟩, ⟨some 116, .load 1 false (.t 115) false, none⟩, ⟨some 117, .mv (.t 0) false, none⟩, ⟨some 118, .mv (.t 12) false, none⟩, ⟨some 119, .bin .sub (.t 118) (.c (.int .i64 1)), none⟩, ⟨some 120, .ia 1 (.t 117) (.t 119), none⟩, ⟨some 121, .load 1 false (.t 120) false, none⟩, ⟨some 122, .callv (.t 112) [(.t 116), (.t 121)], none⟩, ⟨some 123, .bin .lss (.t 122) (.c (.int .i64 0)), none⟩, ⟨some 124, .un .not (.t 123), none⟩])
  (.cond (.t 124) (.exit 6)
  (.skip)))
  (.reg [⟨some 125, .mv (.t 0) false, none⟩, ⟨some 126, .mv (.t 12) false, none⟩, ⟨some 127, .mv (.t 0) false, none⟩, ⟨some 128, .mv (.t 12) false, none⟩, ⟨some 129, .bin .sub (.t 128) (.c (.int .i64 1)), none⟩, ⟨some 130, .mv (.t 0) false, none⟩, ⟨some 131, .mv (.t 12) false, none⟩, ⟨some 132, .bin .sub (.t 131) (.c (.int .i64 1)), none⟩, ⟨some 133, .ia 1 (.t 130) (.t 132), none⟩, ⟨some 134, .load 1 false (.t 133) false, none⟩, ⟨some 135, .mv (.t 0) false, none⟩, ⟨some 136, .mv (.t 12) false, none⟩, ⟨some 137, .ia 1 (.t 135) (.t 136), none⟩, ⟨some 138, .load 1 false (.t 137) false, none⟩, ⟨some 139, .ia 1 (.t 125) (.t 126), none⟩, ⟨none, .store 1 (.t 139) (.t 134), none⟩, ⟨some 140, .ia 1 (.t 127) (.t 129), none⟩, ⟨none, .store 1 (.t 140) (.t 138), none⟩])))
  (.reg [⟨some 110, .mv (.t 12) false, none⟩, ⟨some 111, .bin .add (.t 110) (.c (.int .i64 1)), none⟩, ⟨some 12, .mv (.t 111) true, none⟩]))
def L72_6 : C := .loop [0, 1, 2, 3, 9, 10, 12] 0 B72_6
theorem go72_6 (s : Env × Bx) (nb) : evL tab ext nb L72_6 s = (loopIn nb [0, 1, 2, 3, 9, 10, 12] 0 s).bind fun s0 => (evL tab ext nb B72_6 s0).bind (seqG tab ext nb L72_6) := eL_loop _ _ _
def B72_0 : C := .seq (.seq (.reg [⟨some 15, .mv (.t 10) false, none⟩, ⟨some 16, .bin .lss (.t 15) (.c (.int .i64 5)), none⟩])
  (.cond (.t 16) (.skip)
  (.exit 0)))
  (.seq (.block 1 (.seq (.block 2 (L72_2))
  (.seq (.seq (.reg [⟨some 39, .mv (.t 9) false, none⟩, ⟨some 40, .mv (.t 2) false, none⟩, ⟨some 41, .bin .eql (.t 39) (.t 40), none⟩])
  (.cond (.t 41) (.seq (.reg [⟨some 8, .mv (.c (.bool true)) true, none⟩])
  (.ret))
  (.skip)))
  (.seq (.seq (.reg [⟨some 42, .mv (.t 2) false, none⟩, ⟨some 43, .mv (.t 1) false, none⟩, ⟨some 44, .bin .sub (.t 42) (.t 43), none⟩, ⟨some 45, .bin .lss (.t 44) (.c (.int .i64 50)), none⟩])
  (.cond (.t 45) (.seq (.reg [⟨some 8, .mv (.c (.bool false)) true, none⟩])
  (.ret))
  (.skip)))
  (.seq (.reg [⟨some 46, .mv (.t 0) false, none⟩, ⟨some 47, .mv (.t 9) false, none⟩, ⟨some 48, .mv (.t 0) false, none⟩, ⟨some 49, .mv (.t 9) false, none⟩, ⟨some 50, .bin .sub (.t 49) (.c (.int .i64 1)), none⟩, ⟨some 51, .mv (.t 0) false, none⟩, ⟨some 52, .mv (.t 9) false, none⟩, ⟨some 53, .bin .sub (.t 52) (.c (.int .i64 1)), none⟩, ⟨some 54, .ia 1 (.t 51) (.t 53), none⟩, ⟨some 55, .load 1 false (.t 54) false, none⟩, ⟨some 56, .mv (.t 0) false, none⟩, ⟨some 57, .mv (.t 9) false, none⟩, ⟨some 58, .ia 1 (.t 56) (.t 57), none⟩, ⟨some 59, .load 1 false (.t 58) false, none⟩, ⟨some 60, .ia 1 (.t 46) (.t 47), none⟩, ⟨none, .store 1 (.t 60) (.t 55), none⟩, ⟨some 61, .ia 1 (.t 48) (.t 50), none⟩, ⟨none, .store 1 (.t 61) (.t 59), none⟩])
  (.seq (.seq (.reg [⟨some 62, .mv (.t 9) false, none⟩, ⟨some 63, .mv (.t 1) false, none⟩, ⟨some 64, .bin .sub (.t 62) (.t 63), none⟩, ⟨some 65, .bin .geq (.t 64) (.c (.int .i64 2)), none⟩])
  (.cond (.t 65) (.seq (.reg [⟨some 66, .mv (.t 9) false, none⟩, ⟨some 67, .bin .sub (.t 66) (.c (.int .i64 1)), none⟩, ⟨some 11, .mv (.t 67) true, none⟩])
  (.block 4 (L72_4)))
  (.skip)))
  (.seq (.reg [⟨some 101, .mv (.t 2) false, none⟩, ⟨some 102, .mv (.t 9) false, none⟩, ⟨some 103, .bin .sub (.t 101) (.t 102), none⟩, ⟨some 104, .bin .geq (.t 103) (.c (.int .i64 2)), none⟩])
  (.cond (.t 104) (.seq (.reg [⟨some 105, .mv (.t 9) false, none⟩, ⟨some 106, .bin .add (.t 105) (.c (.int .i64 1)), none⟩, ⟨some 12, .mv (.t 106) true, none⟩])
  (.block 6 (L72_6)))
  (.skip)))))))))
  (.reg [⟨some 17, .mv (.t 10) false, none⟩, ⟨some 18, .bin .add (.t 17) (.c (.int .i64 1)), none⟩, ⟨some 10, .mv (.t 18) true, none⟩]))
def L72_0 : C := .loop [0, 1, 2, 3, 9, 10] 0 B72_0
theorem go72_0 (s : Env × Bx) (nb) : evL tab ext nb L72_0 s = (loopIn nb [0, 1, 2, 3, 9, 10] 0 s).bind fun s0 => (evL tab ext nb B72_0 s0).bind (seqG tab ext nb L72_0) := eL_loop _ _ _
/-- slices.partialInsertionSortCmpFunc[int] -/
def C72 : CFun := ⟨141, 4, .seq (.reg [⟨some 8, .mv (.c (.bool false)) true, none⟩])
  (.seq (.reg [⟨some 13, .mv (.t 1) false, none⟩, ⟨some 14, .bin .add (.t 13) (.c (.int .i64 1)), none⟩, ⟨some 9, .mv (.t 14) true, none⟩])
  (.seq (.seq (.reg [⟨some 10, .mv (.c (.int .i64 0)) true, none⟩])
  (.block 0 (L72_0)))
  (.seq (.reg [⟨some 8, .mv (.c (.bool false)) true, none⟩])
  (.ret)))), [.t 8]⟩
theorem row72 : RowOk Try.prog 72 C72 := ⟨Try.f72, ⟨[], [], [], []⟩, lvOf [(0, [0, 1, 2, 3, 9, 10], 0), (2, [0, 1, 2, 3, 9, 10], 0), (4, [0, 1, 2, 3, 9, 10, 11], 0), (6, [0, 1, 2, 3, 9, 10, 12], 0)], Try.func72, by kernel_rfl, by kernel_rfl⟩
def B73_2 : C := .seq (.seq (.reg [⟨some 31, .mv (.t 11) false, none⟩, ⟨some 32, .mv (.t 12) false, none⟩, ⟨some 33, .bin .leq (.t 31) (.t 32), none⟩, ⟨some 34, .mv (.t 33) false, none⟩, ⟨some 35, .mv (.t 4) false, some (34, true)⟩, ⟨some 36, .mv (.t 0) false, some (34, true)⟩, ⟨some 37, .mv (.t 1) false, some (34, true)⟩, ⟨some 38, .ia 1 (.t 36) (.t 37), some (34, true)⟩, ⟨some 39, .load 1 false (.t 38) false, some (34, true)⟩, ⟨some 40, .mv (.t 0) false, some (34, true)⟩, ⟨some 41, .mv (.t 11) false, some (34, true)⟩, ⟨some 42, .ia 1 (.t 40) (.t 41), some (34, true)⟩, ⟨some 43, .load 1 false (.t 42) false, some (34, true)⟩, ⟨some 44, .callv (.t 35) [(.t 39), (.t 43)], some (34, true)⟩, ⟨some 45, .bin .lss (.t 44) (.c (.int .i64 0)), some (34, true)⟩, ⟨some 46, .un .not (.t 45), some (34, true)⟩, ⟨some 47, .pick (.t 34) (.t 46) (.c (.bool false)), none⟩])
  (.cond (.t 47) (.skip)
  (.exit 2)))
  (.block 3 (.reg [⟨some 48, .mv (.t 11) false, none⟩, ⟨some 49, .bin .add (.t 48) (.c (.int .i64 1)), none⟩, ⟨some 11, .mv (.t 49) true, none⟩]))
def L73_2 : C := .loop [0, 1, 4, 11, 12] 0 B73_2
theorem go73_2 (s : Env × Bx) (nb) : evL tab ext nb L73_2 s = (loopIn nb [0, 1, 4, 11, 12] 0 s).bind fun s0 => (evL tab ext nb B73_2 s0).bind (seqG tab ext nb L73_2) := eL_loop _ _ _
def B73_4 : C := .seq (.seq (.reg [⟨some 50, .mv (.t 11) false, none⟩, ⟨some 51, .mv (.t 12) false, none⟩, ⟨some 52, .bin .leq (.t 50) (.t 51), none⟩, ⟨some 53, .mv (.t 52) false, none⟩, ⟨some 54, .mv (.t 4) false, some (53, true)⟩, ⟨some 55, .mv (.t 0) false, some (53, true)⟩, ⟨some 56, .mv (.t 1) false, some (53, true)⟩, ⟨some 57, .ia 1 (.t 55) (.t 56), some (53, true)⟩, ⟨some 58, .load 1 false (.t 57) false, some (53, true)⟩, ⟨some 59, .mv (.t 0) false, some (53, true)⟩, ⟨some 60, .mv (.t 12) false, some (53, true)⟩, ⟨some 61, .ia 1 (.t 59) (.t 60), some (53, true)⟩, ⟨some 62, .load 1 false (.t 61) false, some (53, true)⟩, ⟨some 63, .callv (.t 54) [(.t 58), (.t 62)], some (53, true)⟩, ⟨some 64, .bin .lss (.t 63) (.c (.int .i64 0)), some (53, true)⟩, ⟨some 65, .pick (.t 53) (.t 64) (.c (.bool false)), none⟩])
  (.cond (.t 65) (.skip)
  (.exit 4)))
  (.block 5 (.reg [⟨some 66, .mv (.t 12) false, none⟩, ⟨some 67, .bin .sub (.t 66) (.c (.int .i64 1)), none⟩, ⟨some 12, .mv (.t 67) true, none⟩]))
def L73_4 : C := .loop [0, 1, 4, 11, 12] 0 B73_4
theorem go73_4 (s : Env × Bx) (nb) : evL tab ext nb L73_4 s = (loopIn nb [0, 1, 4, 11, 12] 0 s).bind fun s0 => (evL tab ext nb B73_4 s0).bind (seqG tab ext nb L73_4) := eL_loop _ _ _
def B73_0 : C := .block 1 (.seq (.block 2 (L73_2))
  (.seq (.block 4 (L73_4))
  (.seq (.seq (.reg [⟨some 68, .mv (.t 11) false, none⟩, ⟨some 69, .mv (.t 12) false, none⟩, ⟨some 70, .bin .gtr (.t 68) (.t 69), none⟩])
  (.cond (.t 70) (.exit 0)
  (.skip)))
  (.seq (.reg [⟨some 71, .mv (.t 0) false, none⟩, ⟨some 72, .mv (.t 11) false, none⟩, ⟨some 73, .mv (.t 0) false, none⟩, ⟨some 74, .mv (.t 12) false, none⟩, ⟨some 75, .mv (.t 0) false, none⟩, ⟨some 76, .mv (.t 12) false, none⟩, ⟨some 77, .ia 1 (.t 75) (.t 76), none⟩, ⟨some 78, .load 1 false (.t 77) false, none⟩, ⟨some 79, .mv (.t 0) false, none⟩, ⟨some 80, .mv (.t 11) false, none⟩, ⟨some 81, .ia 1 (.t 79) (.t 80), none⟩, ⟨some 82, .load 1 false (.t 81) false, none⟩, ⟨some 83, .ia 1 (.t 71) (.t 72), none⟩, ⟨none, .store 1 (.t 83) (.t 78), none⟩, ⟨some 84, .ia 1 (.t 73) (.t 74), none⟩, ⟨none, .store 1 (.t 84) (.t 82), none⟩])
  (.seq (.reg [⟨some 85, .mv (.t 11) false, none⟩, ⟨some 86, .bin .add (.t 85) (.c (.int .i64 1)), none⟩, ⟨some 11, .mv (.t 86) true, none⟩])
  (.reg [⟨some 87, .mv (.t 12) false, none⟩, ⟨some 88, .bin .sub (.t 87) (.c (.int .i64 1)), none⟩, ⟨some 12, .mv (.t 88) true, none⟩]))))))
def L73_0 : C := .loop [0, 1, 4, 11, 12] 0 B73_0
theorem go73_0 (s : Env × Bx) (nb) : evL tab ext nb L73_0 s = (loopIn nb [0, 1, 4, 11, 12] 0 s).bind fun s0 => (evL tab ext nb B73_0 s0).bind (seqG tab ext nb L73_0) := eL_loop _ _ _
/-- slices.partitionEqualCmpFunc[int] -/
def C73 : CFun := ⟨90, 5, .seq (.reg [⟨some 10, .mv (.c (.int .i64 0)) true, none⟩])
  (.seq (.reg [⟨some 13, .mv (.t 0) false, none⟩, ⟨some 14, .mv (.t 1) false, none⟩, ⟨some 15, .mv (.t 0) false, none⟩, ⟨some 16, .mv (.t 3) false, none⟩, ⟨some 17, .mv (.t 0) false, none⟩, ⟨some 18, .mv (.t 3) false, none⟩, ⟨some 19, .ia 1 (.t 17) (.t 18), none⟩, ⟨some 20, .load 1 false (.t 19) false, none⟩, ⟨some 21, .mv (.t 0) false, none⟩, ⟨some 22, .mv (.t 1) false, none⟩, ⟨some 23, .ia 1 (.t 21) (.t 22), none⟩, ⟨some 24, .load 1 false (.t 23) false, none⟩, ⟨some 25, .ia 1 (.t 13) (.t 14), none⟩, ⟨none, .store 1 (.t 25) (.t 20), none⟩, ⟨some 26, .ia 1 (.t 15) (.t 16), none⟩, ⟨none, .store 1 (.t 26) (.t 24), none⟩])
  (.seq (.reg [⟨some 27, .mv (.t 1) false, none⟩, ⟨some 28, .bin .add (.t 27) (.c (.int .i64 1)), none⟩, ⟨some 29, .mv (.t 2) false, none⟩, ⟨some 30, .bin .sub (.t 29) (.c (.int .i64 1)), none⟩, ⟨some 11, .mv (.t 28) true, none⟩, ⟨some 12, .mv (.t 30) true, none⟩])
  (.seq (.block 0 (L73_0))
  (.seq (.reg [⟨some 89, .mv (.t 11) false, none⟩, ⟨some 10, .mv (.t 89) true, none⟩])
  (.ret))))), [.t 10]⟩
theorem row73 : RowOk Try.prog 73 C73 := ⟨Try.f73, ⟨[], [], [], []⟩, lvOf [(0, [0, 1, 4, 11, 12], 0), (2, [0, 1, 4, 11, 12], 0), (4, [0, 1, 4, 11, 12], 0)], Try.func73, by kernel_rfl, by kernel_rfl⟩
def B74_0 : C := .seq (.seq (.reg [⟨some 32, .mv (.t 12) false, none⟩, ⟨some 33, .mv (.t 13) false, none⟩, ⟨some 34, .bin .leq (.t 32) (.t 33), none⟩, ⟨some 35, .mv (.t 34) false, none⟩, ⟨some 36, .mv (.t 4) false, some (35, true)⟩, ⟨some 37, .mv (.t 0) false, some (35, true)⟩, ⟨some 38, .mv (.t 12) false, some (35, true)⟩, ⟨some 39, .ia 1 (.t 37) (.t 38), some (35, true)⟩, ⟨some 40, .load 1 false (.t 39) false, some (35, true)⟩, ⟨some 41, .mv (.t 0) false, some (35, true)⟩, ⟨some 42, .mv (.t 1) false, some (35, true)⟩, ⟨some 43, .ia 1 (.t 41) (.t 42), some (35, true)⟩, ⟨some 44, .load 1 false (.t 43) false, some (35, true)⟩, ⟨some 45, .callv (.t 36) [(.t 40), (.t 44)], some (35, true)⟩, ⟨some 46, .bin .lss (.t 45) (.c (.int .i64 0)), some (35, true)⟩, ⟨some 47, .pick (.t 35) (.t 46) (.c (.bool false)), none⟩])
  (.cond (.t 47) (.skip)
  (.exit 0)))
  (.block 1 (.reg [⟨some 48, .mv (.t 12) false, none⟩, ⟨some 49, .bin .add (.t 48) (.c (.int .i64 1)), none⟩, ⟨some 12, .mv (.t 49) true, none⟩]))
def L74_0 : C := .loop [0, 1, 4, 12, 13] 0 B74_0
theorem go74_0 (s : Env × Bx) (nb) : evL tab ext nb L74_0 s = (loopIn nb [0, 1, 4, 12, 13] 0 s).bind fun s0 => (evL tab ext nb B74_0 s0).bind (seqG tab ext nb L74_0) := eL_loop _ _ _
def B74_2 : C := .seq (.seq (.reg [⟨some 50, .mv (.t 12) false, none⟩, ⟨some 51, .mv (.t 13) false, none⟩, ⟨some 52, .bin .leq (.t 50) (.t 51), none⟩, ⟨some 53, .mv (.t 52) false, none⟩, ⟨some 54, .mv (.t 4) false, some (53, true)⟩, ⟨some 55, .mv (.t 0) false, some (53, true)⟩, ⟨some 56, .mv (.t 13) false, some (53, true)⟩, ⟨some 57, .ia 1 (.t 55) (.t 56), some (53, true)⟩, ⟨some 58, .load 1 false (.t 57) false, some (53, true)⟩, ⟨some 59, .mv (.t 0) false, some (53, true)⟩, ⟨some 60, .mv (.t 1) false, some (53, true)⟩, ⟨some 61, .ia 1 (.t 59) (.t 60), some (53, true)⟩, ⟨some 62, .load 1 false (.t 61) false, some (53, true)⟩, ⟨some 63, .callv (.t 54) [(.t 58), (.t 62)], some (53, true)⟩, ⟨some 64, .bin .lss (.t 63) (.c (.int .i64 0)), some (53, true)⟩, ⟨some 65, .un .not (.t 64), some (53, true)⟩, ⟨some 66, .pick (.t 53) (.t 65) (.c (.bool false)), none⟩])
  (.cond (.t 66) (.skip)
  (.exit 2)))
  (.block 3 (.reg [⟨some 67, .mv (.t 13) false, none⟩, ⟨some 68, .bin .sub (.t 67) (.c (.int .i64 1)), none⟩, ⟨some 13, .mv (.t 68) true, none⟩]))
def L74_2 : C := .loop [0, 1, 4, 12, 13] 0 B74_2
theorem go74_2 (s : Env × Bx) (nb) : evL tab ext nb L74_2 s = (loopIn nb [0, 1, 4, 12, 13] 0 s).bind fun s0 => (evL tab ext nb B74_2 s0).bind (seqG tab ext nb L74_2) := eL_loop _ _ _
def B74_6 : C := .seq (.seq (.reg [⟨some 105, .mv (.t 12) false, none⟩, ⟨some 106, .mv (.t 13) false, none⟩, ⟨some 107, .bin .leq (.t 105) (.t 106), none⟩, ⟨some 108, .mv (.t 107) false, none⟩, ⟨some 109, .mv (.t 4) false, some (108, true)⟩, ⟨some 110, .mv (.t 0) false, some (108, true)⟩, ⟨some 111, .mv (.t 12) false, some (108, true)⟩, ⟨some 112, .ia 1 (.t 110) (.t 111), some (108, true)⟩, ⟨some 113, .load 1 false (.t 112) false, some (108, true)⟩, ⟨some 114, .mv (.t 0) false, some (108, true)⟩, ⟨some 115, .mv (.t 1) false, some (108, true)⟩, ⟨some 116, .ia 1 (.t 114) (.t 115), some (108, true)⟩, ⟨some 117, .load 1 false (.t 116) false, some (108, true)⟩, ⟨some 118, .callv (.t 109) [(.t 113), (.t 117)], some (108, true)⟩, ⟨some 119, .bin .lss (.t 118) (.c (.int .i64 0)), some (108, true)⟩, ⟨some 120, .pick (.t 108) (.t 119) (.c (.bool false)), none⟩])
  (.cond (.t 120) (.skip)
  (.exit 6)))
  (.block 7 (.reg [⟨some 121, .mv (.t 12) false, none⟩, ⟨some 122, .bin .add (.t 121) (.c (.int .i64 1)), none⟩, ⟨some 12, .mv (.t 122) true, none⟩]))
def L74_6 : C := .loop [0, 1, 4, 12, 13] 0 B74_6
theorem go74_6 (s : Env × Bx) (nb) : evL tab ext nb L74_6 s = (loopIn nb [0, 1, 4, 12, 13] 0 s).bind fun s0 => (evL tab ext nb B74_6 s0).bind (seqG tab ext nb L74_6) := eL_loop _ _ _
def B74_8 : C := .seq (.seq (.reg [⟨some 123, .mv (.t 12) false, none⟩, ⟨some 124, .mv (.t 13) false, none⟩, ⟨some 125, .bin .leq (.t 123) (.t 124), none⟩, ⟨some 126, .mv (.t 125) false, none⟩, ⟨some 127, .mv (.t 4) false, some (126, true)⟩, ⟨some 128, .mv (.t 0) false, some (126, true)⟩, ⟨some 129, .mv (.t 13) false, some (126, true)⟩, ⟨some 130, .ia 1 (.t 128) (.t 129), some (126, true)⟩, ⟨some 131, .load 1 false (.t 130) false, some (126, true)⟩, ⟨some 132, .mv (.t 0) false, some (126, true)⟩, ⟨some 133, .mv (.t 1) false, some (126, true)⟩, ⟨some 134, .ia 1 (.t 132) (.t 133), some (126, true)⟩, ⟨some 135, .load 1 false (.t 134) false, some (126, true)⟩, ⟨some 136, .callv (.t 127) [(.t 131), (.t 135)], some (126, true)⟩, ⟨some 137, .bin .lss (.t 136) (.c (.int .i64 0)), some (126, true)⟩, ⟨some 138, .un .not (.t 137), some (126, true)⟩, ⟨some 139, .pick (.t 126) (.t 138) (.c (.bool false)), none⟩])
  (.cond (.t 139) (.skip)
  (.exit 8)))
  (.block 9 (.reg [⟨some 140, .mv (.t 13) false, none⟩, ⟨some 141, .bin .sub (.t 140) (.c (.int .i64 1)), none⟩, ⟨some 13, .mv (.t 141) true, none⟩]))
def L74_8 : C := .loop [0, 1, 4, 12, 13] 0 B74_8
theorem go74_8 (s : Env × Bx) (nb) : evL tab ext nb L74_8 s = (loopIn nb [0, 1, 4, 12, 13] 0 s).bind fun s0 => (evL tab ext nb B74_8 s0).bind (seqG tab ext nb L74_8) := eL_loop _ _ _
def B74_4 : C := .block 5 (.seq (.block 6 (L74_6))
  (.seq (.block 8 (L74_8))
  (.seq (.seq (.reg [⟨some 142, .mv (.t 12) false, none⟩, ⟨some 143, .mv (.t 13) false, none⟩, ⟨some 144, .bin .gtr (.t 142) (.t 143), none⟩])
  (.cond (.t 144) (.exit 4)
  (.skip)))
  (.seq (.reg [⟨some 145, .mv (.t 0) false, none⟩, ⟨some 146, .mv (.t 12) false, none⟩, ⟨some 147, .mv (.t 0) false, none⟩, ⟨some 148, .mv (.t 13) false, none⟩, ⟨some 149, .mv (.t 0) false, none⟩, ⟨some 150, .mv (.t 13) false, none⟩, ⟨some 151, .ia 1 (.t 149) (.t 150), none⟩, ⟨some 152, .load 1 false (.t 151) false, none⟩, ⟨some 153, .mv (.t 0) false, none⟩, ⟨some 154, .mv (.t 12) false, none⟩, ⟨some 155, .ia 1 (.t 153) (.t 154), none⟩, ⟨some 156, .load 1 false (.t 155) false, none⟩, ⟨some 157, .ia 1 (.t 145) (.t 146), none⟩, ⟨none, .store 1 (.t 157) (.t 152), none⟩, ⟨some 158, .ia 1 (.t 147) (.t 148), none⟩, ⟨none, .store 1 (.t 158) (.t 156), none⟩])
  (.seq (.reg [⟨some 159, .mv (.t 12) false, none⟩, ⟨some 160, .bin .add (.t 159) (.c (.int .i64 1)), none⟩, ⟨some 12, .mv (.t 160) true, none⟩])
  (.reg [⟨some 161, .mv (.t 13) false, none⟩, ⟨some 162, .bin .sub (.t 161) (.c (.int .i64 1)), none⟩, ⟨some 13, .mv (.t 162) true, none⟩]))))))
def L74_4 : C := .loop [0, 1, 4, 12, 13] 0 B74_4
theorem go74_4 (s : Env × Bx) (nb) : evL tab ext nb L74_4 s = (loopIn nb [0, 1, 4, 12, 13] 0 s).bind fun s0 => (evL tab ext nb B74_4 s0).bind (seqG tab ext nb L74_4) := eL_loop _ _ _
/-- slices.partitionCmpFunc[int] -/
def C74 : CFun := ⟨178, 5, .seq (.reg [⟨some 10, .mv (.c (.int .i64 0)) true, none⟩, ⟨some 11, .mv (.c (.bool false)) true, none⟩])
  (.seq (.reg [⟨some 14, .mv (.t 0) false, none⟩, ⟨some 15, .mv (.t 1) false, none⟩, ⟨some 16, .mv (.t 0) false, none⟩, ⟨some 17, .mv (.t 3) false, none⟩, ⟨some 18, .mv (.t 0) false, none⟩, ⟨some 19, .mv (.t 3) false, none⟩, ⟨some 20, .ia 1 (.t 18) (.t 19), none⟩, ⟨some 21, .load 1 false (.t 20) false, none⟩, ⟨some 22, .mv (.t 0) false, none⟩, ⟨some 23, .mv (.t 1) false, none⟩, ⟨some 24, .ia 1 (.t 22) (.t 23), none⟩, ⟨some 25, .load 1 false (.t 24) false, none⟩, ⟨some 26, .ia 1 (.t 14) (.t 15), none⟩, ⟨none, .store 1 (.t 26) (.t 21), none⟩, ⟨some 27, .ia 1 (.t 16) (.t 17), none⟩, ⟨none, .store 1 (.t 27) (.t 25), none⟩])
  (.seq (.reg [⟨some 28, .mv (.t 1) false, none⟩, ⟨some 29, .bin .add (.t 28) (.c (.int .i64 1)), none⟩, ⟨some 30, .mv (.t 2) false, none⟩, ⟨some 31, .bin .sub (.t 30) (.c (.int .i64 1)), none⟩, ⟨some 12, .mv (.t 29) true, none⟩, ⟨some 13, .mv (.t 31) true, none⟩])
  (.seq (.block 0 (L74_0))
  (.seq (.block 2 (L74_2))
  (.seq (.seq (.reg [⟨some 69, .mv (.t 12) false, none⟩, ⟨some 70, .mv (.t 13) false, none⟩, ⟨some 71, .bin .gtr (.t 69) (.t 70), none⟩])
  (.cond (.t 71) (.seq (.reg [⟨some 72, .mv (.t 0) false, none⟩, ⟨some 73, .mv (.t 13) false, none⟩, ⟨some 74, .mv (.t 0) false, none⟩, ⟨some 75, .mv (.t 1) false, none⟩, ⟨some 76, .mv (.t 0) false, none⟩, ⟨some 77, .mv (.t 1) false, none⟩, ⟨some 78, .ia 1 (.t 76) (.t 77), none⟩, ⟨some 79, .load 1 false (.t 78) false, none⟩, ⟨some 80, .mv (.t 0) false, none⟩, ⟨some 81, .mv (.t 13) false, none⟩, ⟨some 82, .ia 1 (.t 80) (.t 81), none⟩, ⟨some 83, .load 1 false (.t 82) false, none⟩, ⟨some 84, .ia 1 (.t 72) (.t 73), none⟩, ⟨none, .store 1 (.t 84) (.t 79), none⟩, ⟨some 85, .ia 1 (.t 74) (.t 75), none⟩, ⟨none, .store 1 (.t 85) (.t 83), none⟩])
  (.seq (.reg [⟨some 86, .mv (.t 13) false, none⟩, ⟨some 10, .mv (.t 86) true, none⟩, ⟨some 11, .mv (.c (.bool true)) true, none⟩])
  (.ret)))
  (.skip)))
  (.seq (.reg [⟨some 87, .mv (.t 0) false, none⟩, ⟨some 88, .mv (.t 12) false, none⟩, ⟨some 89, .mv (.t 0) false, none⟩, ⟨some 90, .mv (.t 13) false, none⟩, ⟨some 91, .mv (.t 0) false, none⟩, ⟨some 92, .mv (.t 13) false, none⟩, ⟨some 93, .ia 1 (.t 91) (.t 92), none⟩, ⟨some 94, .load 1 false (.t 93) false, none⟩, ⟨some 95, .mv (.t 0) false, none⟩, ⟨some 96, .mv (.t 12) false, none⟩, ⟨some 97, .ia 1 (.t 95) (.t 96), none⟩, ⟨some 98, .load 1 false (.t 97) false, none⟩, ⟨some 99, .ia 1 (.t 87) (.t 88), none⟩, ⟨none, .store 1 (.t 99) (.t 94), none⟩, ⟨some 100, .ia 1 (.t 89) (.t 90), none⟩, ⟨none, .store 1 (.t 100) (.t 98), none⟩])
  (.seq (.reg [⟨some 101, .mv (.t 12) false, none⟩, ⟨some 102, .bin .add (.t 101) (.c (.int .i64 1)), none⟩, ⟨some 12, .mv (.t 102) true, none⟩])
  (.seq (.reg [⟨some 103, .mv (.t 13) false, none⟩, ⟨some 104, .bin .sub (.t 103) (.c (.int .i64 1)), none⟩, ⟨some 13, .mv (.t 104) true, none⟩])
  (.seq (.block 4 (L74_4))
  (.seq (.reg [⟨some 163, .mv (.t 0) false, none⟩, ⟨some 164, .mv (.t 13) false, none⟩, ⟨some 165, .mv (.t 0) false, none⟩, ⟨some 166, .mv (.t 1) false, none⟩, ⟨some 167, .mv (.t 0) false, none⟩, ⟨some 168, .mv (.t 1) false, none⟩, ⟨some 169, .ia 1 (.t 167) (.t 168), none⟩, ⟨some 170, .load 1 false (.t 169) false, none⟩, ⟨some 171, .mv (.t 0) false, none⟩, ⟨some 172, .mv (.t 13) false, none⟩, ⟨some 173, .ia 1 (.t 171) (.t 172), none⟩, ⟨some 174, .load 1 false (.t 173) false, none⟩, ⟨some 175, .ia 1 (.t 163) (.t 164), none⟩, ⟨none, .store 1 (.t 175) (.t 170), none⟩, ⟨some 176, .ia 1 (.t 165) (.t 166), none⟩, ⟨none, .store 1 (.t 176) (.t 174), none⟩])
  (.seq (.reg [⟨some 177, .mv (.t 13) false, none⟩, ⟨some 10, .mv (.t 177) true, none⟩, ⟨some 11, .mv (.c (.bool false)) true, none⟩])
  (.ret)))))))))))), [.t 10, .t 11]⟩
theorem row74 : RowOk Try.prog 74 C74 := ⟨Try.f74, ⟨[], [], [], []⟩, lvOf [(0, [0, 1, 4, 12, 13], 0), (2, [0, 1, 4, 12, 13], 0), (4, [0, 1, 4, 12, 13], 0), (6, [0, 1, 4, 12, 13], 0), (8, [0, 1, 4, 12, 13], 0)], Try.func74, by kernel_rfl, by kernel_rfl⟩
/-- math/bits.Len32 -/
def C75 : CFun := ⟨19, 1, .seq (.reg [⟨some 2, .mv (.c (.int .i64 0)) true, none⟩])
  (.seq (.seq (.reg [⟨some 3, .mv (.t 0) false, none⟩, ⟨some 4, .bin .geq (.t 3) (.c (.int .u32 65536)), none⟩])
  (.cond (.t 4) (.seq (.reg [⟨some 5, .mv (.t 0) false, none⟩, ⟨some 6, .bin .shr (.t 5) (.c (.int .u64 16)), none⟩, ⟨some 0, .mv (.t 6) true, none⟩])
  (.reg [⟨some 2, .mv (.c (.int .i64 16)) true, none⟩]))
  (.skip)))
  (.seq (.seq (.reg [⟨some 7, .mv (.t 0) false, none⟩, ⟨some 8, .bin .geq (.t 7) (.c (.int .u32 256)), none⟩])
  (.cond (.t 8) (.seq (.reg [⟨some 9, .mv (.t 0) false, none⟩, ⟨some 10, .bin .shr (.t 9) (.c (.int .u64 8)), none⟩, ⟨some 0, .mv (.t 10) true, none⟩])
  (.reg [⟨some 11, .mv (.t 2) false, none⟩, ⟨some 12, .bin .add (.t 11) (.c (.int .i64 8)), none⟩, ⟨some 2, .mv (.t 12) true, none⟩]))
  (.skip)))
  (.seq (.reg [⟨some 13, .mv (.t 2) false, none⟩, ⟨some 14, .mv (.t 0) false, none⟩, ⟨some 15, .conv .u8 (.t 14), none⟩, ⟨some 16, .ix (.c (.string ⟨#[0, 1, 2, 2, 3, 3, 3, 3, 4, 4, 4, 4, 4, 4, 4, 4, 5, 5, 5, 5, 5, 5, 5, 5, 5, 5, 5, 5, 5, 5, 5, 5, 6, 6, 6, 6, 6, 6, 6, 6, 6, 6, 6, 6, 6, 6, 6, 6, 6, 6, 6, 6, 6, 6, 6, 6, 6, 6, 6, 6, 6, 6, 6, 6, 7, 7, 7, 7, 7, 7, 7, 7, 7, 7, 7, 7, 7, 7, 7, 7, 7, 7, 7, 7, 7, 7, 7, 7, 7, 7, 7, 7, 7, 7, 7, 7, 7, 7, 7, 7, 7, 7, 7, 7, 7, 7, 7, 7, 7, 7, 7, 7, 7, 7, 7, 7, 7, 7, 7, 7, 7, 7, 7, 7, 7, 7, 7, 7, 8, 8, 8, 8, 8, 8, 8, 8, 8, 8, 8, 8, 8, 8, 8, 8, 8, 8, 8, 8, 8, 8, 8, 8, 8, 8, 8, 8, 8, 8, 8, 8, 8, 8, 8, 8, 8, 8, 8, 8, 8, 8, 8, 8, 8, 8, 8, 8, 8, 8, 8, 8, 8, 8, 8, 8, 8, 8, 8, 8, 8, 8, 8, 8, 8, 8, 8, 8, 8, 8, 8, 8, 8, 8, 8, 8, 8, 8, 8, 8, 8, 8, 8, 8, 8, 8, 8, 8, 8, 8, 8, 8, 8, 8, 8, 8, 8, 8, 8, 8, 8, 8, 8, 8, 8, 8, 8, 8, 8, 8, 8, 8, 8, 8, 8, 8, 8, 8, 8, 8, 8, 8, 8, 8, 8, 8, 8, 8]⟩)) (.t 15), none⟩, ⟨some 17, .conv .i64 (.t 16), none⟩, ⟨some 18, .bin .add (.t 13) (.t 17), none⟩, ⟨some 2, .mv (.t 18) true, none⟩])
  (.ret)))), [.t 2]⟩
theorem row75 : RowOk Try.prog 75 C75 := ⟨Try.f75, ⟨[], [], [], []⟩, lvOf [], Try.func75, by kernel_rfl, by kernel_rfl⟩
/-- math/bits.Len64 -/
def C76 : CFun := ⟨25, 1, .seq (.reg [⟨some 2, .mv (.c (.int .i64 0)) true, none⟩])
  (.seq (.seq (.reg [⟨some 3, .mv (.t 0) false, none⟩, ⟨some 4, .bin .geq (.t 3) (.c (.int .u64 4294967296)), none⟩])
  (.cond (.t 4) (.seq (.reg [⟨some 5, .mv (.t 0) false, none⟩, ⟨some 6, .bin .shr (.t 5) (.c (.int .u64 32)), none⟩, ⟨some 0, .mv (.t 6) true, none⟩])
  (.reg [⟨some 2, .mv (.c (.int .i64 32)) true, none⟩]))
  (.skip)))
  (.seq (.seq (.reg [⟨some 7, .mv (.t 0) false, none⟩, ⟨some 8, .bin .geq (.t 7) (.c (.int .u64 65536)), none⟩])
  (.cond (.t 8) (.seq (.reg [⟨some 9, .mv (.t 0) false, none⟩, ⟨some 10, .bin .shr (.t 9) (.c (.int .u64 16)), none⟩, ⟨some 0, .mv (.t 10) true, none⟩])
  (.reg [⟨some 11, .mv (.t 2) false, none⟩, ⟨some 12, .bin .add (.t 11) (.c (.int .i64 16)), none⟩, ⟨some 2, .mv (.t 12) true, none⟩]))
  (.skip)))
  (.seq (.seq (.reg [⟨some 13, .mv (.t 0) false, none⟩, ⟨some 14, .bin .geq (.t 13) (.c (.int .u64 256)), none⟩])
  (.cond (.t 14) (.seq (.reg [⟨some 15, .mv (.t 0) false, none⟩, ⟨some 16, .bin .shr (.t 15) (.c (.int .u64 8)), none⟩, ⟨some 0, .mv (.t 16) true, none⟩])
  (.reg [⟨some 17, .mv (.t 2) false, none⟩, ⟨some 18, .bin .add (.t 17) (.c (.int .i64 8)), none⟩, ⟨some 2, .mv (.t 18) true, none⟩]))
  (.skip)))
  (.seq (.reg [⟨some 19, .mv (.t 2) false, none⟩, ⟨some 20, .mv (.t 0) false, none⟩, ⟨some 21, .conv .u8 (.t 20), none⟩, ⟨some 22, .ix (.c (.string ⟨#[0, 1, 2, 2, 3, 3, 3, 3, 4, 4, 4, 4, 4, 4, 4, 4, 5, 5, 5, 5, 5, 5, 5, 5, 5, 5, 5, 5, 5, 5, 5, 5, 6, 6, 6, 6, 6, 6, 6, 6, 6, 6, 6, 6, 6, 6, 6, 6, 6, 6, 6, 6, 6, 6, 6, 6, 6, 6, 6, 6, 6, 6, 6, 6, 7, 7, 7, 7, 7, 7, 7, 7, 7, 7, 7, 7, 7, 7, 7, 7, 7, 7, 7, 7, 7, 7, 7, 7, 7, 7, 7, 7, 7, 7, 7, 7, 7, 7, 7, 7, 7, 7, 7, 7, 7, 7, 7, 7, 7, 7, 7, 7, 7, 7, 7, 7, 7, 7, 7, 7, 7, 7, 7, 7, 7, 7, 7, 7, 8, 8, 8, 8, 8, 8, 8, 8, 8, 8, 8, 8, 8, 8, 8, 8, 8, 8, 8, 8, 8, 8, 8, 8, 8, 8, 8, 8, 8, 8, 8, 8, 8, 8, 8, 8, 8, 8, 8, 8, 8, 8, 8, 8, 8, 8, 8, 8, 8, 8, 8, 8, 8, 8, 8, 8, 8, 8, 8, 8, 8, 8, 8, 8, 8, 8, 8, 8, 8, 8, 8, 8, 8, 8, 8, 8, 8, 8, 8, 8, 8, 8, 8, 8, 8, 8, 8, 8, 8, 8, 8, 8, 8, 8, 8, 8, 8, 8, 8, 8, 8, 8, 8, 8, 8, 8, 8, 8, 8, 8, 8, 8, 8, 8, 8, 8, 8, 8, 8, 8, 8, 8, 8, 8, 8, 8, 8, 8]⟩)) (.t 21), none⟩, ⟨some 23, .conv .i64 (.t 22), none⟩, ⟨some 24, .bin .add (.t 19) (.t 23), none⟩, ⟨some 2, .mv (.t 24) true, none⟩])
  (.ret))))), [.t 2]⟩
theorem row76 : RowOk Try.prog 76 C76 := ⟨Try.f76, ⟨[], [], [], []⟩, lvOf [], Try.func76, by kernel_rfl, by kernel_rfl⟩
def B77_0 : C := .seq (.seq (.reg [⟨some 21, .mv (.t 3) false, none⟩, ⟨some 22, .fa 1 (.t 1), none⟩, ⟨some 23, .load 1 false (.t 22) false, none⟩, ⟨some 24, .len (.t 23), none⟩, ⟨some 25, .bin .lss (.t 21) (.t 24), none⟩])
  (.cond (.t 25) (.skip)
  (.exit 0)))
  (.seq (.block 1 (.seq (.reg [⟨some 28, .fa 1 (.t 1), none⟩, ⟨some 29, .load 1 false (.t 28) false, none⟩, ⟨some 30, .mv (.t 3) false, none⟩, ⟨some 31, .ia 1 (.t 29) (.t 30), none⟩, ⟨some 32, .load 1 false (.t 31) false, none⟩, ⟨some 33, .bin .lss (.t 32) (.c (.int .i64 1)), none⟩, ⟨some 34, .mv (.t 33) false, none⟩, ⟨some 35, .fa 1 (.t 1), some (34, false)⟩, ⟨some 36, .load 1 false (.t 35) false, some (34, false)⟩, ⟨some 37, .mv (.t 3) false, some (34, false)⟩, ⟨some 38, .ia 1 (.t 36) (.t 37), some (34, false)⟩, ⟨some 39, .load 1 false (.t 38) false, some (34, false)⟩, ⟨some 40, .bin .gtr (.t 39) (.c (.int .i64 3)), some (34, false)⟩, ⟨some 41, .pick (.t 34) (.c (.bool true)) (.t 40), none⟩])
  (.cond (.t 41) (.seq (.reg [⟨some 2, .mv (.c (.bool false)) true, none⟩])
  (.ret))
  (.skip))))
  (.reg [⟨some 26, .mv (.t 3) false, none⟩, ⟨some 27, .bin .add (.t 26) (.c (.int .i64 1)), none⟩, ⟨some 3, .mv (.t 27) true, none⟩]))
def L77_0 : C := .loop [1, 3] 1 B77_0
theorem go77_0 (s : Env × Bx) (nb) : evL tab ext nb L77_0 s = (loopIn nb [1, 3] 1 s).bind fun s0 => (evL tab ext nb B77_0 s0).bind (seqG tab ext nb L77_0) := eL_loop _ _ _
def B77_2 : C := .seq (.seq (.reg [⟨some 42, .mv (.t 4) false, none⟩, ⟨some 43, .fa 2 (.t 1), none⟩, ⟨some 44, .load 1 false (.t 43) false, none⟩, ⟨some 45, .len (.t 44), none⟩, ⟨some 46, .bin .lss (.t 42) (.t 45), none⟩])
  (.cond (.t 46) (.skip)
  (.exit 2)))
  (.seq (.block 3 (.seq (.reg [⟨some 49, .fa 2 (.t 1), none⟩, ⟨some 50, .load 1 false (.t 49) false, none⟩, ⟨some 51, .mv (.t 4) false, none⟩, ⟨some 52, .ia 1 (.t 50) (.t 51), none⟩, ⟨some 53, .load 1 false (.t 52) false, none⟩, ⟨some 54, .bin .lss (.t 53) (.c (.int .i64 0)), none⟩, ⟨some 55, .mv (.t 54) false, none⟩, ⟨some 56, .fa 2 (.t 1), some (55, false)⟩, ⟨some 57, .load 1 false (.t 56) false, some (55, false)⟩, ⟨some 58, .mv (.t 4) false, some (55, false)⟩, ⟨some 59, .ia 1 (.t 57) (.t 58), some (55, false)⟩, ⟨some 60, .load 1 false (.t 59) false, some (55, false)⟩, ⟨some 61, .fa 1 (.t 1), some (55, false)⟩, ⟨some 62, .load 1 false (.t 61) false, some (55, false)⟩, ⟨some 63, .len (.t 62), some (55, false)⟩, ⟨some 64, .bin .geq (.t 60) (.t 63), some (55, false)⟩, ⟨some 65, .pick (.t 55) (.c (.bool true)) (.t 64), none⟩])
  (.cond (.t 65) (.seq (.reg [⟨some 2, .mv (.c (.bool false)) true, none⟩])
  (.ret))
  (.skip))))
  (.reg [⟨some 47, .mv (.t 4) false, none⟩, ⟨some 48, .bin .add (.t 47) (.c (.int .i64 1)), none⟩, ⟨some 4, .mv (.t 48) true, none⟩]))
def L77_2 : C := .loop [1, 4] 1 B77_2
theorem go77_2 (s : Env × Bx) (nb) : evL tab ext nb L77_2 s = (loopIn nb [1, 4] 1 s).bind fun s0 => (evL tab ext nb B77_2 s0).bind (seqG tab ext nb L77_2) := eL_loop _ _ _
/-- swingbridge/swingbridgeref7.places -/
def C77 : CFun := ⟨66, 1, .seq (.reg [⟨some 1, .box (.t 0), none⟩, ⟨some 2, .mv (.c (.bool false)) true, none⟩])
  (.seq (.seq (.reg [⟨some 5, .fa 1 (.t 1), none⟩, ⟨some 6, .load 1 false (.t 5) false, none⟩, ⟨some 7, .len (.t 6), none⟩, ⟨some 8, .bin .lss (.t 7) (.c (.int .i64 1)), none⟩, ⟨some 9, .mv (.t 8) false, none⟩, ⟨some 10, .fa 1 (.t 1), some (9, false)⟩, ⟨some 11, .load 1 false (.t 10) false, some (9, false)⟩, ⟨some 12, .len (.t 11), some (9, false)⟩, ⟨some 13, .bin .gtr (.t 12) (.c (.int .i64 3)), some (9, false)⟩, ⟨some 14, .pick (.t 9) (.c (.bool true)) (.t 13), none⟩, ⟨some 15, .mv (.t 14) false, none⟩, ⟨some 16, .fa 2 (.t 1), some (15, false)⟩, ⟨some 17, .load 1 false (.t 16) false, some (15, false)⟩, ⟨some 18, .len (.t 17), some (15, false)⟩, ⟨some 19, .bin .gtr (.t 18) (.c (.int .i64 4)), some (15, false)⟩, ⟨some 20, .pick (.t 15) (.c (.bool true)) (.t 19), none⟩])
  (.cond (.t 20) (.seq (.reg [⟨some 2, .mv (.c (.bool false)) true, none⟩])
  (.ret))
  (.skip)))
  (.seq (.seq (.reg [⟨some 3, .mv (.c (.int .i64 0)) true, none⟩])
  (.block 0 (L77_0)))
  (.seq (.seq (.reg [⟨some 4, .mv (.c (.int .i64 0)) true, none⟩])
  (.block 2 (L77_2)))
  (.seq (.reg [⟨some 2, .mv (.c (.bool true)) true, none⟩])
  (.ret))))), [.t 2]⟩
theorem row77 : RowOk Try.prog 77 C77 := ⟨Try.f77, ⟨[], [], [], []⟩, lvOf [(0, [1, 3], 1), (2, [1, 4], 1)], Try.func77, by kernel_rfl, by kernel_rfl⟩
def B78_0 : C := .seq (.seq (.reg [⟨some 60, .mv (.t 6) false, none⟩, ⟨some 61, .mv (.t 1) false, none⟩, ⟨some 62, .bin .lss (.t 60) (.t 61), none⟩])
  (.cond (.t 62) (.skip)
  (.exit 0)))
  (.seq (.block 1 (.seq (.reg [⟨some 65, .fa 3 (.t 2), none⟩, ⟨some 66, .load 1 false (.t 65) false, none⟩, ⟨some 67, .mv (.t 6) false, none⟩, ⟨some 68, .ia 6 (.t 66) (.t 67), none⟩, ⟨some 69, .fa 0 (.t 68), none⟩, ⟨some 70, .load 1 false (.t 69) false, none⟩, ⟨some 71, .fa 0 (.t 5), none⟩, ⟨some 72, .load 1 false (.t 71) false, none⟩, ⟨some 73, .bin .eql (.t 70) (.t 72), none⟩, ⟨some 74, .mv (.t 73) false, none⟩, ⟨some 75, .fa 3 (.t 2), some (74, false)⟩, ⟨some 76, .load 1 false (.t 75) false, some (74, false)⟩, ⟨some 77, .mv (.t 6) false, some (74, false)⟩, ⟨some 78, .ia 6 (.t 76) (.t 77), some (74, false)⟩, ⟨some 79, .fa 3 (.t 78), some (74, false)⟩, ⟨some 80, .load 1 false (.t 79) false, some (74, false)⟩, ⟨some 81, .fa 3 (.t 5), some (74, false)⟩, ⟨some 82, .load 1 false (.t 81) false, some (74, false)⟩, ⟨some 83, .bin .eql (.t 80) (.t 82), some (74, false)⟩, ⟨some 84, .pick (.t 74) (.c (.bool true)) (.t 83), none⟩])
  (.cond (.t 84) (.seq (.reg [⟨some 4, .mv (.c (.int .i64 17)) true, none⟩])
  (.ret))
  (.skip))))
  (.reg [⟨some 63, .mv (.t 6) false, none⟩, ⟨some 64, .bin .add (.t 63) (.c (.int .i64 1)), none⟩, ⟨some 6, .mv (.t 64) true, none⟩]))
def L78_0 : C := .loop [1, 2, 5, 6] 2 B78_0
theorem go78_0 (s : Env × Bx) (nb) : evL tab ext nb L78_0 s = (loopIn nb [1, 2, 5, 6] 2 s).bind fun s0 => (evL tab ext nb B78_0 s0).bind (seqG tab ext nb L78_0) := eL_loop _ _ _
def B78_2 : C := .seq (.seq (.reg [⟨some 95, .mv (.t 7) false, none⟩, ⟨some 96, .fa 5 (.t 5), none⟩, ⟨some 97, .load 1 false (.t 96) false, none⟩, ⟨some 98, .len (.t 97), none⟩, ⟨some 99, .bin .lss (.t 95) (.t 98), none⟩])
  (.cond (.t 99) (.skip)
  (.exit 2)))
  (.seq (.block 3 (.seq (.reg [⟨some 102, .load 4 true (.t 2) false, none⟩, ⟨some 103, .fa 5 (.t 5), none⟩, ⟨some 104, .load 1 false (.t 103) false, none⟩, ⟨some 105, .mv (.t 7) false, none⟩, ⟨some 106, .ia 3 (.t 104) (.t 105), none⟩, ⟨some 107, .load 3 true (.t 106) false, none⟩, ⟨some 108, .call 102 [(.t 102), (.t 107)] false, none⟩, ⟨some 109, .un .not (.t 108), none⟩])
  (.cond (.t 109) (.seq (.reg [⟨some 4, .mv (.c (.int .i64 15)) true, none⟩])
  (.ret))
  (.skip))))
  (.reg [⟨some 100, .mv (.t 7) false, none⟩, ⟨some 101, .bin .add (.t 100) (.c (.int .i64 1)), none⟩, ⟨some 7, .mv (.t 101) true, none⟩]))
def L78_2 : C := .loop [2, 5, 7] 2 B78_2
theorem go78_2 (s : Env × Bx) (nb) : evL tab ext nb L78_2 s = (loopIn nb [2, 5, 7] 2 s).bind fun s0 => (evL tab ext nb B78_2 s0).bind (seqG tab ext nb L78_2) := eL_loop _ _ _
/-- swingbridge/swingbridgeref7.task -/
def C78 : CFun := ⟨110, 2, .seq (.reg [⟨some 2, .box (.t 0), none⟩, ⟨some 4, .mv (.c (.int .i64 0)) true, none⟩])
  (.seq (.reg [⟨some 8, .fa 3 (.t 2), none⟩, ⟨some 9, .load 1 false (.t 8) false, none⟩, ⟨some 10, .mv (.t 1) false, none⟩, ⟨some 11, .ia 6 (.t 9) (.t 10), none⟩, ⟨some 12, .load 6 true (.t 11) false, none⟩, ⟨some 5, .alloc [(.string ⟨#[]⟩), (.int .i64 0), (.int .i64 0), (.int .i64 0), (.int .i64 0), (.slice none 0 0)], none⟩, ⟨none, .store 6 (.t 5) (.t 12), none⟩])
  (.seq (.seq (.reg [⟨some 13, .fa 0 (.t 5), none⟩, ⟨some 14, .load 1 false (.t 13) false, none⟩, ⟨some 15, .call 101 [(.t 14)] false, none⟩, ⟨some 16, .un .not (.t 15), none⟩, ⟨some 17, .mv (.t 16) false, none⟩, ⟨some 18, .fa 1 (.t 5), some (17, false)⟩, ⟨some 19, .load 1 false (.t 18) false, some (17, false)⟩, ⟨some 20, .bin .lss (.t 19) (.c (.int .i64 1)), some (17, false)⟩, ⟨some 21, .pick (.t 17) (.c (.bool true)) (.t 20), none⟩, ⟨some 22, .mv (.t 21) false, none⟩, ⟨some 23, .fa 1 (.t 5), some (22, false)⟩, ⟨some 24, .load 1 false (.t 23) false, some (22, false)⟩, ⟨some 25, .bin .gtr (.t 24) (.c (.int .i64 3000)), some (22, false)⟩, ⟨some 26, .pick (.t 22) (.c (.bool true)) (.t 25), none⟩, ⟨some 27, .mv (.t 26) false, none⟩, ⟨some 28, .fa 2 (.t 5), some (27, false)⟩, ⟨some 29, .load 1 false (.t 28) false, some (27, false)⟩, ⟨some 30, .bin .lss (.t 29) (.c (.int .i64 1)), some (27, false)⟩, ⟨some 31, .pick (.t 27) (.c (.bool true)) (.t 30), none⟩, ⟨some 32, .mv (.t 31) false, none⟩, ⟨some 33, .fa 2 (.t 5), some (32, false)⟩, ⟨some 34, .load 1 false (.t 33) false, some (32, false)⟩, ⟨some 35, .fa 1 (.t 5), some (32, false)⟩, ⟨some 36, .load 1 false (.t 35) false, some (32, false)⟩, ⟨some 37, .bin .gtr (.t 34) (.t 36), some (32, false)⟩, ⟨some 38, .pick (.t 32) (.c (.bool true)) (.t 37), none⟩, ⟨some 39, .mv (.t 38) false, none⟩, ⟨some 40, .fa 3 (.t 5), some (39, false)⟩, ⟨some 41, .load 1 false (.t 40) false, some (39, false)⟩, ⟨some 42, .bin .lss (.t 41) (.c (.int .i64 1)), some (39, false)⟩, ⟨some 43, .pick (.t 39) (.c (.bool true)) (.t 42), none⟩, ⟨some 44, .mv (.t 43) false, none⟩, ⟨some 45, .fa 3 (.t 5), some (44, false)⟩, ⟨some 46, .load 1 false (.t 45) false, some (44, false)⟩, ⟨some 47, .bin .gtr (.t 46) (.c (.int .i64 1000)), some (44, false)⟩, ⟨some 48, .pick (.t 44) (.c (.bool true)) (.t 47), none⟩])
  (.cond (.t 48) (.seq (.reg [⟨some 4, .mv (.c (.int .i64 10)) true, none⟩])
  (.ret))
  (.skip)))
  (.seq (.seq (.reg [⟨some 49, .fa 4 (.t 5), none⟩, ⟨some 50, .load 1 false (.t 49) false, none⟩, ⟨some 51, .bin .lss (.t 50) (.c (.int .i64 0)), none⟩, ⟨some 52, .mv (.t 51) false, none⟩, ⟨some 53, .fa 4 (.t 5), some (52, false)⟩, ⟨some 54, .load 1 false (.t 53) false, some (52, false)⟩, ⟨some 55, .fa 1 (.t 2), some (52, false)⟩, ⟨some 56, .load 1 false (.t 55) false, some (52, false)⟩, ⟨some 57, .len (.t 56), some (52, false)⟩, ⟨some 58, .bin .geq (.t 54) (.t 57), some (52, false)⟩, ⟨some 59, .pick (.t 52) (.c (.bool true)) (.t 58), none⟩])
  (.cond (.t 59) (.seq (.reg [⟨some 4, .mv (.c (.int .i64 16)) true, none⟩])
  (.ret))
  (.skip)))
  (.seq (.seq (.reg [⟨some 6, .mv (.c (.int .i64 0)) true, none⟩])
  (.block 0 (L78_0)))
  (.seq (.seq (.reg [⟨some 85, .fa 5 (.t 5), none⟩, ⟨some 86, .load 1 false (.t 85) false, none⟩, ⟨some 87, .len (.t 86), none⟩, ⟨some 88, .bin .lss (.t 87) (.c (.int .i64 1)), none⟩, ⟨some 89, .mv (.t 88) false, none⟩, ⟨some 90, .fa 5 (.t 5), some (89, false)⟩, ⟨some 91, .load 1 false (.t 90) false, some (89, false)⟩, ⟨some 92, .len (.t 91), some (89, false)⟩, ⟨some 93, .bin .gtr (.t 92) (.c (.int .i64 6)), some (89, false)⟩, ⟨some 94, .pick (.t 89) (.c (.bool true)) (.t 93), none⟩])
  (.cond (.t 94) (.seq (.reg [⟨some 4, .mv (.c (.int .i64 15)) true, none⟩])
  (.ret))
  (.skip)))
  (.seq (.seq (.reg [⟨some 7, .mv (.c (.int .i64 0)) true, none⟩])
  (.block 2 (L78_2)))
  (.seq (.reg [⟨some 4, .mv (.c (.int .i64 0)) true, none⟩])
  (.ret)))))))), [.t 4]⟩
theorem row78 : RowOk Try.prog 78 C78 := ⟨Try.f78, ⟨[], [], [], []⟩, lvOf [(0, [1, 2, 5, 6], 2), (2, [2, 5, 7], 2)], Try.func78, by kernel_rfl, by kernel_rfl⟩
/-- swingbridge/task.placed$1 -/
def C79 : CFun := ⟨6, 1, .seq (.reg [⟨some 2, .mv (.c (.bool false)) true, none⟩])
  (.seq (.reg [⟨some 3, .mv (.t 0) false, none⟩, ⟨some 4, .call 54 [(.t 3), (.c (.int .i64 1)), (.c (.int .i64 3))] false, none⟩, ⟨some 5, .un .not (.t 4), none⟩, ⟨some 2, .mv (.t 5) true, none⟩])
  (.ret)), [.t 2]⟩
theorem row79 : RowOk Try.prog 79 C79 := ⟨Try.f79, ⟨[], [], [], []⟩, lvOf [], Try.func79, by kernel_rfl, by kernel_rfl⟩
/-- swingbridge/task.placed$2 -/
def C80 : CFun := ⟨11, 2, .seq (.reg [⟨some 3, .mv (.c (.bool false)) true, none⟩])
  (.seq (.reg [⟨some 4, .mv (.t 0) false, none⟩, ⟨some 5, .fa 1 (.t 1), none⟩, ⟨some 6, .load 1 false (.t 5) false, none⟩, ⟨some 7, .len (.t 6), none⟩, ⟨some 8, .bin .sub (.t 7) (.c (.int .i64 1)), none⟩, ⟨some 9, .call 54 [(.t 4), (.c (.int .i64 0)), (.t 8)] false, none⟩, ⟨some 10, .un .not (.t 9), none⟩, ⟨some 3, .mv (.t 10) true, none⟩])
  (.ret)), [.t 3]⟩
theorem row80 : RowOk Try.prog 80 C80 := ⟨Try.f80, ⟨[], [], [], []⟩, lvOf [], Try.func80, by kernel_rfl, by kernel_rfl⟩
/-- slices.ContainsFunc[[]int,int] -/
def C81 : CFun := ⟨9, 2, .seq (.reg [⟨some 4, .mv (.c (.bool false)) true, none⟩])
  (.seq (.reg [⟨some 5, .mv (.t 0) false, none⟩, ⟨some 6, .mv (.t 1) false, none⟩, ⟨some 7, .calli 103 [(.t 5), (.t 6)], none⟩, ⟨some 8, .bin .geq (.t 7) (.c (.int .i64 0)), none⟩, ⟨some 4, .mv (.t 8) true, none⟩])
  (.ret)), [.t 4]⟩
theorem row81 : RowOk Try.prog 81 C81 := ⟨Try.f81, ⟨[], [], [], []⟩, lvOf [], Try.func81, by kernel_rfl, by kernel_rfl⟩
/-- swingbridge/task.one$1 -/
def C82 : CFun := ⟨16, 2, .seq (.reg [⟨some 2, .box (.t 0), none⟩, ⟨some 3, .mv (.c (.bool false)) true, none⟩])
  (.seq (.reg [⟨some 4, .fa 0 (.t 2), none⟩, ⟨some 5, .load 1 false (.t 4) false, none⟩, ⟨some 6, .fa 0 (.t 1), none⟩, ⟨some 7, .load 1 false (.t 6) false, none⟩, ⟨some 8, .bin .eql (.t 5) (.t 7), none⟩, ⟨some 9, .mv (.t 8) false, none⟩, ⟨some 10, .fa 3 (.t 2), some (9, false)⟩, ⟨some 11, .load 1 false (.t 10) false, some (9, false)⟩, ⟨some 12, .fa 3 (.t 1), some (9, false)⟩, ⟨some 13, .load 1 false (.t 12) false, some (9, false)⟩, ⟨some 14, .bin .eql (.t 11) (.t 13), some (9, false)⟩, ⟨some 15, .pick (.t 9) (.c (.bool true)) (.t 14), none⟩, ⟨some 3, .mv (.t 15) true, none⟩])
  (.ret)), [.t 3]⟩
theorem row82 : RowOk Try.prog 82 C82 := ⟨Try.f82, ⟨[], [], [], []⟩, lvOf [], Try.func82, by kernel_rfl, by kernel_rfl⟩
def B83_0 : C := .seq (.reg [⟨some 9, .bin .lss (.t 8) (.t 7), none⟩])
  (.seq (.cond (.t 9) (.skip)
  (.exit 0))
  (.seq (.block 1 (.seq (.reg [⟨some 10, .mv (.t 8) false, none⟩, ⟨some 3, .mv (.t 10) true, none⟩])
  (.seq (.reg [⟨some 11, .mv (.t 0) false, none⟩, ⟨some 12, .mv (.t 3) false, none⟩, ⟨some 13, .ix (.t 11) (.t 12), none⟩, ⟨some 4, .mv (.t 13) true, none⟩])
  (.seq (.reg [⟨some 14, .mv (.t 4) false, none⟩, ⟨some 15, .bin .geq (.t 14) (.c (.int .u8 48)), none⟩, ⟨some 16, .mv (.t 15) false, none⟩, ⟨some 17, .mv (.t 4) false, some (16, true)⟩, ⟨some 18, .bin .leq (.t 17) (.c (.int .u8 57)), some (16, true)⟩, ⟨some 19, .pick (.t 16) (.t 18) (.c (.bool false)), none⟩, ⟨some 5, .mv (.t 19) true, none⟩])
  (.seq (.reg [⟨some 20, .mv (.t 4) false, none⟩, ⟨some 21, .bin .lss (.t 20) (.c (.int .u8 97)), none⟩, ⟨some 22, .mv (.t 21) false, none⟩, ⟨some 23, .mv (.t 4) false, some (22, false)⟩, ⟨some 24, .bin .gtr (.t 23) (.c (.int .u8 122)), some (22, false)⟩, ⟨some 25, .pick (.t 22) (.c (.bool true)) (.t 24), none⟩, ⟨some 26, .mv (.t 25) false, none⟩, ⟨some 27, .mv (.t 3) false, some (26, true)⟩, ⟨some 28, .bin .eql (.t 27) (.c (.int .i64 0)), some (26, true)⟩, ⟨some 29, .mv (.t 28) false, some (26, true)⟩, ⟨some 30, .mv (.t 5) false, some (29, false)⟩, ⟨some 31, .un .not (.t 30), some (29, false)⟩, ⟨some 32, .pick (.t 29) (.c (.bool true)) (.t 31), some (26, true)⟩, ⟨some 33, .pick (.t 26) (.t 32) (.c (.bool false)), none⟩])
  (.cond (.t 33) (.seq (.reg [⟨some 2, .mv (.c (.bool false)) true, none⟩])
  (.ret))
  (.skip)))))))
  (.reg [⟨some 34, .bin .add (.t 8) (.c (.int .i64 1)), none⟩, ⟨some 8, .mv (.t 34) false, none⟩])))
def L83_0 : C := .loop [0, 7, 8] 0 B83_0
theorem go83_0 (s : Env × Bx) (nb) : evL tab ext nb L83_0 s = (loopIn nb [0, 7, 8] 0 s).bind fun s0 => (evL tab ext nb B83_0 s0).bind (seqG tab ext nb L83_0) := eL_loop _ _ _
/-- swingbridge/words.Name -/
def C83 : CFun := ⟨42, 1, .seq (.reg [⟨some 2, .mv (.c (.bool false)) true, none⟩])
  (.seq (.seq (.reg [⟨some 6, .mv (.t 0) false, none⟩, ⟨some 7, .slen (.t 6), none⟩, ⟨some 8, .mv (.c (.int .i64 0)) false, none⟩])
  (.block 0 (L83_0)))
  (.seq (.reg [⟨some 35, .mv (.t 0) false, none⟩, ⟨some 36, .bin .neq (.t 35) (.c (.string ⟨#[]⟩)), none⟩, ⟨some 37, .mv (.t 36) false, none⟩, ⟨some 38, .mv (.t 0) false, some (37, true)⟩, ⟨some 39, .slen (.t 38), some (37, true)⟩, ⟨some 40, .bin .leq (.t 39) (.c (.int .i64 8)), some (37, true)⟩, ⟨some 41, .pick (.t 37) (.t 40) (.c (.bool false)), none⟩, ⟨some 2, .mv (.t 41) true, none⟩])
  (.ret))), [.t 2]⟩
theorem row83 : RowOk Try.prog 83 C83 := ⟨Try.f83, ⟨[], [], [], []⟩, lvOf [(0, [0, 7, 8], 0)], Try.func83, by kernel_rfl, by kernel_rfl⟩
/-- slices.ContainsFunc[[]swingbridge/api.Task,swingbridge/api.Task] -/
def C84 : CFun := ⟨9, 2, .seq (.reg [⟨some 4, .mv (.c (.bool false)) true, none⟩])
  (.seq (.reg [⟨some 5, .mv (.t 0) false, none⟩, ⟨some 6, .mv (.t 1) false, none⟩, ⟨some 7, .calli 104 [(.t 5), (.t 6)], none⟩, ⟨some 8, .bin .geq (.t 7) (.c (.int .i64 0)), none⟩, ⟨some 4, .mv (.t 8) true, none⟩])
  (.ret)), [.t 4]⟩
theorem row84 : RowOk Try.prog 84 C84 := ⟨Try.f84, ⟨[], [], [], []⟩, lvOf [], Try.func84, by kernel_rfl, by kernel_rfl⟩
def B85_0 : C := .seq (.reg [⟨some 10, .bin .lss (.t 9) (.t 8), none⟩])
  (.seq (.cond (.t 10) (.skip)
  (.exit 0))
  (.seq (.block 1 (.seq (.reg [⟨some 11, .ia 3 (.t 7) (.t 9), none⟩, ⟨some 12, .load 3 true (.t 11) false, none⟩, ⟨some 6, .alloc [(.int .i64 0), (.int .i64 0), (.int .i64 0)], none⟩, ⟨none, .store 3 (.t 6) (.t 12), none⟩])
  (.seq (.block 2 (.seq (.reg [⟨some 14, .fa 0 (.t 6), none⟩, ⟨some 15, .load 1 false (.t 14) false, none⟩, ⟨some 16, .call 54 [(.t 15), (.c (.int .i64 1)), (.c (.int .i64 3))] false, none⟩, ⟨some 17, .un .not (.t 16), none⟩, ⟨some 18, .mv (.t 17) false, none⟩, ⟨some 19, .fa 1 (.t 6), some (18, false)⟩, ⟨some 20, .load 1 false (.t 19) false, some (18, false)⟩, ⟨some 21, .call 54 [(.t 20), (.c (.int .i64 1)), (.c (.int .i64 60))] false, some (18, false)⟩, ⟨some 22, .un .not (.t 21), some (18, false)⟩, ⟨some 23, .pick (.t 18) (.c (.bool true)) (.t 22), none⟩, ⟨some 13, .mv (.t 23) true, none⟩])
  (.cond (.t 13) (.seq (.reg [⟨some 4, .mv (.c (.bool false)) true, none⟩])
  (.ret))
  (.seq (.reg [⟨some 25, .fa 0 (.t 6), none⟩, ⟨some 26, .load 1 false (.t 25) false, none⟩, ⟨some 27, .bin .eql (.t 26) (.c (.int .i64 3)), none⟩, ⟨some 28, .mv (.t 27) false, none⟩, ⟨some 29, .fa 2 (.t 6), some (28, true)⟩, ⟨some 30, .load 1 false (.t 29) false, some (28, true)⟩, ⟨some 31, .fa 2 (.t 2), some (28, true)⟩, ⟨some 32, .load 1 false (.t 31) false, some (28, true)⟩, ⟨some 33, .len (.t 32), some (28, true)⟩, ⟨some 34, .bin .sub (.t 33) (.c (.int .i64 1)), some (28, true)⟩, ⟨some 35, .call 54 [(.t 30), (.c (.int .i64 0)), (.t 34)] false, some (28, true)⟩, ⟨some 36, .pick (.t 28) (.t 35) (.c (.bool false)), none⟩, ⟨some 24, .mv (.t 36) true, none⟩])
  (.cond (.t 24) (.exit 1)
  (.seq (.reg [⟨some 38, .fa 0 (.t 6), none⟩, ⟨some 39, .load 1 false (.t 38) false, none⟩, ⟨some 40, .bin .neq (.t 39) (.c (.int .i64 3)), none⟩, ⟨some 41, .mv (.t 40) false, none⟩, ⟨some 42, .fa 2 (.t 6), some (41, true)⟩, ⟨some 43, .load 1 false (.t 42) false, some (41, true)⟩, ⟨some 44, .bin .eql (.t 43) (.c (.int .i64 0)), some (41, true)⟩, ⟨some 45, .pick (.t 41) (.t 44) (.c (.bool false)), none⟩, ⟨some 37, .mv (.t 45) true, none⟩])
  (.cond (.t 37) (.exit 1)
  (.skip))))))))
  (.seq (.reg [⟨some 4, .mv (.c (.bool false)) true, none⟩])
  (.ret)))))
  (.reg [⟨some 46, .bin .add (.t 9) (.c (.int .i64 1)), none⟩, ⟨some 9, .mv (.t 46) false, none⟩])))
def L85_0 : C := .loop [1, 2, 7, 8, 9] 1 B85_0
theorem go85_0 (s : Env × Bx) (nb) : evL tab ext nb L85_0 s = (loopIn nb [1, 2, 7, 8, 9] 1 s).bind fun s0 => (evL tab ext nb B85_0 s0).bind (seqG tab ext nb L85_0) := eL_loop _ _ _
/-- swingbridge/task.parted -/
def C85 : CFun := ⟨50, 2, .seq (.reg [⟨some 2, .box (.t 0), none⟩, ⟨some 4, .mv (.c (.bool false)) true, none⟩])
  (.scope (.seq (.skip)
  (.seq (.seq (.reg [⟨some 7, .mv (.t 1) false, none⟩, ⟨some 8, .len (.t 7), none⟩, ⟨some 9, .mv (.c (.int .i64 0)) false, none⟩])
  (.block 0 (L85_0)))
  (.seq (.reg [⟨some 47, .mv (.t 1) false, none⟩, ⟨some 48, .len (.t 47), none⟩, ⟨some 49, .call 54 [(.t 48), (.c (.int .i64 1)), (.c (.int .i64 6))] false, none⟩, ⟨some 4, .mv (.t 49) true, none⟩])
  (.ret))))), [.t 4]⟩
theorem row85 : RowOk Try.prog 85 C85 := ⟨Try.f85, ⟨[], [], [], []⟩, lvOf [(0, [1, 2, 7, 8, 9], 1)], Try.func85, by kernel_rfl, by kernel_rfl⟩
def B86_0 : C := .seq (.reg [⟨some 10, .bin .lss (.t 9) (.t 8), none⟩])
  (.seq (.cond (.t 10) (.skip)
  (.exit 0))
  (.seq (.block 1 (.seq (.reg [⟨some 11, .ia 3 (.t 7) (.t 9), none⟩, ⟨some 12, .load 3 true (.t 11) false, none⟩, ⟨some 5, .alloc [(.int .i64 0), (.int .i64 0), (.int .i64 0)], none⟩, ⟨none, .store 3 (.t 5) (.t 12), none⟩])
  (.seq (.reg [⟨some 13, .fa 0 (.t 5), none⟩, ⟨some 14, .load 1 false (.t 13) false, none⟩, ⟨some 15, .bin .eql (.t 14) (.c (.int .i64 3)), none⟩])
  (.cond (.t 15) (.reg [⟨some 16, .mv (.t 3) false, none⟩, ⟨some 17, .fa 1 (.t 5), none⟩, ⟨some 18, .load 1 false (.t 17) false, none⟩, ⟨some 19, .mxn true [(.t 16), (.t 18)], none⟩, ⟨some 3, .mv (.t 19) true, none⟩])
  (.skip)))))
  (.reg [⟨some 20, .bin .add (.t 9) (.c (.int .i64 1)), none⟩, ⟨some 9, .mv (.t 20) false, none⟩])))
def L86_0 : C := .loop [3, 7, 8, 9] 1 B86_0
theorem go86_0 (s : Env × Bx) (nb) : evL tab ext nb L86_0 s = (loopIn nb [3, 7, 8, 9] 1 s).bind fun s0 => (evL tab ext nb B86_0 s0).bind (seqG tab ext nb L86_0) := eL_loop _ _ _
/-- swingbridge/demand.Longest -/
def C86 : CFun := ⟨22, 1, .seq (.reg [⟨some 1, .box (.t 0), none⟩, ⟨some 2, .mv (.c (.int .i64 0)) true, none⟩])
  (.seq (.reg [⟨some 3, .mv (.c (.int .i64 0)) true, none⟩])
  (.seq (.seq (.reg [⟨some 6, .fa 5 (.t 1), none⟩, ⟨some 7, .load 1 false (.t 6) false, none⟩, ⟨some 8, .len (.t 7), none⟩, ⟨some 9, .mv (.c (.int .i64 0)) false, none⟩])
  (.block 0 (L86_0)))
  (.seq (.reg [⟨some 21, .mv (.t 3) false, none⟩, ⟨some 2, .mv (.t 21) true, none⟩])
  (.ret)))), [.t 2]⟩
theorem row86 : RowOk Try.prog 86 C86 := ⟨Try.f86, ⟨[], [], [], []⟩, lvOf [(0, [3, 7, 8, 9], 1)], Try.func86, by kernel_rfl, by kernel_rfl⟩
def B87_0 : C := .seq (.reg [⟨some 16, .bin .lss (.t 15) (.t 14), none⟩])
  (.seq (.cond (.t 16) (.skip)
  (.exit 0))
  (.seq (.block 1 (.seq (.reg [⟨some 17, .ia 1 (.t 13) (.t 15), none⟩, ⟨some 18, .load 1 false (.t 17) false, none⟩, ⟨some 9, .mv (.t 18) true, none⟩])
  (.reg [⟨some 19, .mv (.t 7) false, none⟩, ⟨some 20, .mv (.t 9) false, none⟩, ⟨some 21, .mxn true [(.t 19), (.t 20)], none⟩, ⟨some 7, .mv (.t 21) true, none⟩])))
  (.reg [⟨some 22, .bin .add (.t 15) (.c (.int .i64 1)), none⟩, ⟨some 15, .mv (.t 22) false, none⟩])))
def L87_0 : C := .loop [7, 13, 14, 15] 1 B87_0
theorem go87_0 (s : Env × Bx) (nb) : evL tab ext nb L87_0 s = (loopIn nb [7, 13, 14, 15] 1 s).bind fun s0 => (evL tab ext nb B87_0 s0).bind (seqG tab ext nb L87_0) := eL_loop _ _ _
/-- swingbridge/demand.Most -/
def C87 : CFun := ⟨24, 3, .seq (.reg [⟨some 3, .box (.t 0), none⟩, ⟨some 6, .mv (.c (.int .i64 0)) true, none⟩])
  (.seq (.reg [⟨some 7, .mv (.c (.int .i64 0)) true, none⟩])
  (.seq (.seq (.reg [⟨some 10, .load 4 true (.t 3) false, none⟩, ⟨some 11, .mv (.t 1) false, none⟩, ⟨some 12, .mv (.t 2) false, none⟩, ⟨some 13, .call 105 [(.t 10), (.t 11), (.t 12)] false, none⟩, ⟨some 14, .len (.t 13), none⟩, ⟨some 15, .mv (.c (.int .i64 0)) false, none⟩])
  (.block 0 (L87_0)))
  (.seq (.reg [⟨some 23, .mv (.t 7) false, none⟩, ⟨some 6, .mv (.t 23) true, none⟩])
  (.ret)))), [.t 6]⟩
theorem row87 : RowOk Try.prog 87 C87 := ⟨Try.f87, ⟨[], [], [], []⟩, lvOf [(0, [7, 13, 14, 15], 1)], Try.func87, by kernel_rfl, by kernel_rfl⟩
/-- swingbridge/count.Work -/
def C88 : CFun := ⟨19, 4, .seq (.reg [⟨some 8, .mv (.c (.int .i64 0)) true, none⟩])
  (.seq (.reg [⟨some 9, .mv (.t 0) false, none⟩, ⟨some 10, .mv (.t 1) false, none⟩, ⟨some 11, .mv (.t 2) false, none⟩, ⟨some 12, .call 108 [(.t 9), (.t 10), (.t 11)] false, none⟩, ⟨some 13, .mv (.t 3) false, none⟩, ⟨some 14, .mxn true [(.t 13), (.c (.int .i64 0))], none⟩, ⟨some 15, .call 107 [(.t 12), (.t 14)] false, none⟩, ⟨some 16, .ext (.t 15) 0, none⟩, ⟨some 17, .ext (.t 15) 1, none⟩, ⟨some 18, .call 106 [(.t 16), (.t 17)] false, none⟩, ⟨some 8, .mv (.t 18) true, none⟩])
  (.ret)), [.t 8]⟩
theorem row88 : RowOk Try.prog 88 C88 := ⟨Try.f88, ⟨[], [], [], []⟩, lvOf [], Try.func88, by kernel_rfl, by kernel_rfl⟩
def B89_0 : C := .seq (.reg [⟨some 16, .bin .lss (.t 15) (.t 14), none⟩])
  (.seq (.cond (.t 16) (.skip)
  (.exit 0))
  (.seq (.block 1 (.seq (.reg [⟨some 17, .ia 1 (.t 13) (.t 15), none⟩, ⟨some 18, .load 1 false (.t 17) false, none⟩, ⟨some 9, .mv (.t 18) true, none⟩])
  (.reg [⟨some 19, .mv (.t 7) false, none⟩, ⟨some 20, .mv (.t 9) false, none⟩, ⟨some 21, .bin .add (.t 19) (.t 20), none⟩, ⟨some 7, .mv (.t 21) true, none⟩])))
  (.reg [⟨some 22, .bin .add (.t 15) (.c (.int .i64 1)), none⟩, ⟨some 15, .mv (.t 22) false, none⟩])))
def L89_0 : C := .loop [7, 13, 14, 15] 1 B89_0
theorem go89_0 (s : Env × Bx) (nb) : evL tab ext nb L89_0 s = (loopIn nb [7, 13, 14, 15] 1 s).bind fun s0 => (evL tab ext nb B89_0 s0).bind (seqG tab ext nb L89_0) := eL_loop _ _ _
/-- swingbridge/demand.At -/
def C89 : CFun := ⟨24, 3, .seq (.reg [⟨some 3, .box (.t 0), none⟩, ⟨some 6, .mv (.c (.int .i64 0)) true, none⟩])
  (.seq (.reg [⟨some 7, .mv (.c (.int .i64 0)) true, none⟩])
  (.seq (.seq (.reg [⟨some 10, .load 4 true (.t 3) false, none⟩, ⟨some 11, .mv (.t 1) false, none⟩, ⟨some 12, .mv (.t 2) false, none⟩, ⟨some 13, .call 105 [(.t 10), (.t 11), (.t 12)] false, none⟩, ⟨some 14, .len (.t 13), none⟩, ⟨some 15, .mv (.c (.int .i64 0)) false, none⟩])
  (.block 0 (L89_0)))
  (.seq (.reg [⟨some 23, .mv (.t 7) false, none⟩, ⟨some 6, .mv (.t 23) true, none⟩])
  (.ret)))), [.t 6]⟩
theorem row89 : RowOk Try.prog 89 C89 := ⟨Try.f89, ⟨[], [], [], []⟩, lvOf [(0, [7, 13, 14, 15], 1)], Try.func89, by kernel_rfl, by kernel_rfl⟩
/-- swingbridge/token.there -/
def C90 : CFun := ⟨25, 2, .seq (.reg [⟨some 2, .box (.t 0), none⟩, ⟨some 4, .mv (.c (.bool false)) true, none⟩])
  (.seq (.reg [⟨some 8, .load 4 true (.t 2) false, none⟩, ⟨some 9, .call 42 [(.t 8)] false, none⟩, ⟨some 7, .mv (.t 9) false, none⟩, ⟨some 10, .ext (.t 7) 0, none⟩, ⟨some 11, .ext (.t 7) 1, none⟩, ⟨some 5, .mv (.t 10) true, none⟩, ⟨some 6, .mv (.t 11) true, none⟩])
  (.seq (.reg [⟨some 12, .mv (.t 6) false, none⟩, ⟨some 13, .bin .eql (.t 12) (.c (.int .i64 0)), none⟩, ⟨some 14, .mv (.t 13) false, none⟩, ⟨some 15, .mv (.t 1) false, some (14, true)⟩, ⟨some 16, .bin .geq (.t 15) (.c (.int .i64 0)), some (14, true)⟩, ⟨some 17, .pick (.t 14) (.t 16) (.c (.bool false)), none⟩, ⟨some 18, .mv (.t 17) false, none⟩, ⟨some 19, .mv (.t 1) false, some (18, true)⟩, ⟨some 20, .fa 3 (.t 2), some (18, true)⟩, ⟨some 21, .load 1 false (.t 20) false, some (18, true)⟩, ⟨some 22, .len (.t 21), some (18, true)⟩, ⟨some 23, .bin .lss (.t 19) (.t 22), some (18, true)⟩, ⟨some 24, .pick (.t 18) (.t 23) (.c (.bool false)), none⟩, ⟨some 4, .mv (.t 24) true, none⟩])
  (.ret))), [.t 4]⟩
theorem row90 : RowOk Try.prog 90 C90 := ⟨Try.f90, ⟨[], [], [], []⟩, lvOf [], Try.func90, by kernel_rfl, by kernel_rfl⟩
def B91_0 : C := .seq (.reg [⟨some 12, .bin .lss (.t 11) (.t 10), none⟩])
  (.seq (.cond (.t 12) (.skip)
  (.exit 0))
  (.seq (.block 1 (.seq (.reg [⟨some 13, .mv (.t 11) false, none⟩, ⟨some 14, .ia 6 (.t 9) (.t 11), none⟩, ⟨some 15, .load 6 true (.t 14) false, none⟩, ⟨some 7, .alloc [(.string ⟨#[]⟩), (.int .i64 0), (.int .i64 0), (.int .i64 0), (.int .i64 0), (.slice none 0 0)], none⟩, ⟨some 6, .mv (.t 13) true, none⟩, ⟨none, .store 6 (.t 7) (.t 15), none⟩])
  (.seq (.seq (.reg [⟨some 16, .mv (.t 6) false, none⟩, ⟨some 17, .mv (.t 1) false, none⟩, ⟨some 18, .bin .eql (.t 16) (.t 17), none⟩])
  (.cond (.t 18) (.exit 1)
  (.skip)))
  (.reg [⟨some 19, .mv (.t 5) true, none⟩, ⟨some 20, .load 6 true (.t 7) false, none⟩, ⟨some 21, .call 86 [(.t 20)] false, none⟩, ⟨some 22, .bsl 1 1 [(.int .i64 0)] [(0, 1, (.t 21))] false, none⟩, ⟨some 23, .app 1 8 (.t 19) (.t 22) false, none⟩, ⟨some 5, .mv (.t 23) true, none⟩]))))
  (.reg [⟨some 24, .bin .add (.t 11) (.c (.int .i64 1)), none⟩, ⟨some 11, .mv (.t 24) false, none⟩])))
def L91_0 : C := .loop [1, 2, 5, 9, 10, 11] 1 B91_0
theorem go91_0 (s : Env × Bx) (nb) : evL tab ext nb L91_0 s = (loopIn nb [1, 2, 5, 9, 10, 11] 1 s).bind fun s0 => (evL tab ext nb B91_0 s0).bind (seqG tab ext nb L91_0) := eL_loop _ _ _
/-- swingbridge/token.others -/
def C91 : CFun := ⟨30, 2, .seq (.reg [⟨some 2, .box (.t 0), none⟩, ⟨some 4, .mv (.c (.int .i64 0)) true, none⟩])
  (.scope (.seq (.reg [⟨some 5, .mv (.c (.slice none 0 0)) true, none⟩])
  (.seq (.skip)
  (.seq (.seq (.reg [⟨some 8, .fa 3 (.t 2), none⟩, ⟨some 9, .load 1 false (.t 8) false, none⟩, ⟨some 10, .len (.t 9), none⟩, ⟨some 11, .mv (.c (.int .i64 0)) false, none⟩])
  (.block 0 (L91_0)))
  (.seq (.reg [⟨some 25, .mv (.t 5) false, none⟩, ⟨some 26, .load 4 true (.t 2) false, none⟩, ⟨some 27, .call 109 [(.t 26)] false, none⟩, ⟨some 28, .bin .sub (.t 27) (.c (.int .i64 1)), none⟩, ⟨some 29, .call 21 [(.t 25), (.t 28)] false, none⟩, ⟨some 4, .mv (.t 29) true, none⟩])
  (.ret)))))), [.t 4]⟩
theorem row91 : RowOk Try.prog 91 C91 := ⟨Try.f91, ⟨[], [], [], []⟩, lvOf [(0, [1, 2, 5, 9, 10, 11], 1)], Try.func91, by kernel_rfl, by kernel_rfl⟩
/-- swingbridge/calc.Up -/
def C92 : CFun := ⟨39, 2, .seq (.reg [⟨some 4, .mv (.c (.int .i64 0)) true, none⟩, ⟨some 5, .mv (.c (.bool false)) true, none⟩])
  (.seq (.seq (.reg [⟨some 9, .mv (.t 1) false, none⟩, ⟨some 10, .bin .eql (.t 9) (.c (.int .i64 0)), none⟩])
  (.cond (.t 10) (.seq (.reg [⟨some 4, .mv (.c (.int .i64 0)) true, none⟩, ⟨some 5, .mv (.c (.bool false)) true, none⟩])
  (.ret))
  (.skip)))
  (.seq (.reg [⟨some 11, .mv (.t 0) false, none⟩, ⟨some 12, .bin .lss (.t 11) (.c (.int .i64 0)), none⟩, ⟨some 13, .mv (.t 1) false, none⟩, ⟨some 14, .bin .lss (.t 13) (.c (.int .i64 0)), none⟩, ⟨some 15, .eqb true (.t 12) (.t 14), none⟩, ⟨some 6, .mv (.t 15) true, none⟩])
  (.seq (.reg [⟨some 16, .mv (.t 0) false, none⟩, ⟨some 17, .call 110 [(.t 16)] false, none⟩, ⟨some 18, .mv (.t 1) false, none⟩, ⟨some 19, .call 110 [(.t 18)] false, none⟩, ⟨some 20, .bin .quo (.t 17) (.t 19), none⟩, ⟨some 21, .mv (.t 0) false, none⟩, ⟨some 22, .call 110 [(.t 21)] false, none⟩, ⟨some 23, .mv (.t 1) false, none⟩, ⟨some 24, .call 110 [(.t 23)] false, none⟩, ⟨some 25, .bin .rem (.t 22) (.t 24), none⟩, ⟨some 7, .mv (.t 20) true, none⟩, ⟨some 8, .mv (.t 25) true, none⟩])
  (.seq (.seq (.reg [⟨some 26, .mv (.t 8) false, none⟩, ⟨some 27, .bin .gtr (.t 26) (.c (.int .u64 0)), none⟩, ⟨some 28, .mv (.t 27) false, none⟩, ⟨some 29, .mv (.t 6) false, some (28, true)⟩, ⟨some 30, .un .not (.t 29), some (28, true)⟩, ⟨some 31, .pick (.t 28) (.t 30) (.c (.bool false)), none⟩])
  (.cond (.t 31) (.reg [⟨some 32, .mv (.t 7) false, none⟩, ⟨some 33, .bin .add (.t 32) (.c (.int .u64 1)), none⟩, ⟨some 7, .mv (.t 33) true, none⟩])
  (.skip)))
  (.seq (.reg [⟨some 34, .mv (.t 7) false, none⟩, ⟨some 35, .mv (.t 6) false, none⟩, ⟨some 36, .call 111 [(.t 34), (.t 35)] false, none⟩, ⟨some 37, .ext (.t 36) 0, none⟩, ⟨some 38, .ext (.t 36) 1, none⟩, ⟨some 4, .mv (.t 37) true, none⟩, ⟨some 5, .mv (.t 38) true, none⟩])
  (.ret)))))), [.t 4, .t 5]⟩
theorem row92 : RowOk Try.prog 92 C92 := ⟨Try.f92, ⟨[], [], [], []⟩, lvOf [], Try.func92, by kernel_rfl, by kernel_rfl⟩
def B93_0 : C := .seq (.reg [⟨some 12, .bin .lss (.t 11) (.t 10), none⟩])
  (.seq (.cond (.t 12) (.skip)
  (.exit 0))
  (.seq (.block 1 (.seq (.reg [⟨some 13, .mv (.t 11) false, none⟩, ⟨some 14, .ia 6 (.t 9) (.t 11), none⟩, ⟨some 15, .load 6 true (.t 14) false, none⟩, ⟨some 7, .alloc [(.string ⟨#[]⟩), (.int .i64 0), (.int .i64 0), (.int .i64 0), (.int .i64 0), (.slice none 0 0)], none⟩, ⟨some 6, .mv (.t 13) true, none⟩, ⟨none, .store 6 (.t 7) (.t 15), none⟩])
  (.seq (.reg [⟨some 16, .load 4 true (.t 2) false, none⟩, ⟨some 17, .mv (.t 6) false, none⟩, ⟨some 18, .call 112 [(.t 16), (.t 17)] false, none⟩, ⟨some 19, .mv (.t 18) false, none⟩, ⟨some 20, .fa 4 (.t 7), some (19, true)⟩, ⟨some 21, .load 1 false (.t 20) false, some (19, true)⟩, ⟨some 22, .mv (.t 1) false, some (19, true)⟩, ⟨some 23, .bin .eql (.t 21) (.t 22), some (19, true)⟩, ⟨some 24, .pick (.t 19) (.t 23) (.c (.bool false)), none⟩, ⟨some 25, .mv (.t 24) false, none⟩, ⟨some 26, .load 6 true (.t 7) false, some (25, true)⟩, ⟨some 27, .call 86 [(.t 26)] false, some (25, true)⟩, ⟨some 28, .bin .gtr (.t 27) (.c (.int .i64 0)), some (25, true)⟩, ⟨some 29, .pick (.t 25) (.t 28) (.c (.bool false)), none⟩])
  (.cond (.t 29) (.reg [⟨some 30, .mv (.t 5) false, none⟩, ⟨some 31, .bin .add (.t 30) (.c (.int .i64 1)), none⟩, ⟨some 5, .mv (.t 31) true, none⟩])
  (.skip)))))
  (.reg [⟨some 32, .bin .add (.t 11) (.c (.int .i64 1)), none⟩, ⟨some 11, .mv (.t 32) false, none⟩])))
def L93_0 : C := .loop [1, 2, 5, 9, 10, 11] 1 B93_0
theorem go93_0 (s : Env × Bx) (nb) : evL tab ext nb L93_0 s = (loopIn nb [1, 2, 5, 9, 10, 11] 1 s).bind fun s0 => (evL tab ext nb B93_0 s0).bind (seqG tab ext nb L93_0) := eL_loop _ _ _
/-- swingbridge/demand.Askers -/
def C93 : CFun := ⟨34, 2, .seq (.reg [⟨some 2, .box (.t 0), none⟩, ⟨some 4, .mv (.c (.int .i64 0)) true, none⟩])
  (.seq (.reg [⟨some 5, .mv (.c (.int .i64 0)) true, none⟩])
  (.seq (.seq (.reg [⟨some 8, .fa 3 (.t 2), none⟩, ⟨some 9, .load 1 false (.t 8) false, none⟩, ⟨some 10, .len (.t 9), none⟩, ⟨some 11, .mv (.c (.int .i64 0)) false, none⟩])
  (.block 0 (L93_0)))
  (.seq (.reg [⟨some 33, .mv (.t 5) false, none⟩, ⟨some 4, .mv (.t 33) true, none⟩])
  (.ret)))), [.t 4]⟩
theorem row93 : RowOk Try.prog 93 C93 := ⟨Try.f93, ⟨[], [], [], []⟩, lvOf [(0, [1, 2, 5, 9, 10, 11], 1)], Try.func93, by kernel_rfl, by kernel_rfl⟩
def B94_0 : C := .seq (.seq (.reg [⟨some 18, .mv (.t 10) false, none⟩, ⟨some 19, .mv (.t 11) false, none⟩, ⟨some 20, .bin .neq (.t 18) (.t 19), none⟩])
  (.cond (.t 20) (.skip)
  (.exit 0)))
  (.block 1 (.seq (.reg [⟨some 21, .mv (.t 10) false, none⟩, ⟨some 22, .mv (.t 11) false, none⟩, ⟨some 23, .bin .gtr (.t 21) (.t 22), none⟩])
  (.cond (.t 23) (.seq (.reg [⟨some 24, .mv (.t 0) false, none⟩, ⟨some 25, .mv (.t 2) false, none⟩, ⟨some 26, .mv (.t 10) false, none⟩, ⟨some 27, .bin .sub (.t 25) (.t 26), none⟩, ⟨some 28, .mv (.t 2) false, none⟩, ⟨some 29, .mv (.t 11) false, none⟩, ⟨some 30, .mv (.t 4) false, none⟩, ⟨some 31, .calli 113 [(.t 24), (.t 27), (.t 28), (.t 29), (.t 30)], none⟩])
  (.reg [⟨some 32, .mv (.t 10) false, none⟩, ⟨some 33, .mv (.t 11) false, none⟩, ⟨some 34, .bin .sub (.t 32) (.t 33), none⟩, ⟨some 10, .mv (.t 34) true, none⟩]))
  (.seq (.reg [⟨some 35, .mv (.t 0) false, none⟩, ⟨some 36, .mv (.t 2) false, none⟩, ⟨some 37, .mv (.t 10) false, none⟩, ⟨some 38, .bin .sub (.t 36) (.t 37), none⟩, ⟨some 39, .mv (.t 2) false, none⟩, ⟨some 40, .mv (.t 11) false, none⟩, ⟨some 41, .bin .add (.t 39) (.t 40), none⟩, ⟨some 42, .mv (.t 10) false, none⟩, ⟨some 43, .bin .sub (.t 41) (.t 42), none⟩, ⟨some 44, .mv (.t 10) false, none⟩, ⟨some 45, .mv (.t 4) false, none⟩, ⟨some 46, .calli 113 [(.t 35), (.t 38), (.t 43), (.t 44), (.t 45)], none⟩])
  (.reg [⟨some 47, .mv (.t 11) false, none⟩, ⟨some 48, .mv (.t 10) false, none⟩, ⟨some 49, .bin .sub (.t 47) (.t 48), none⟩, ⟨some 11, .mv (.t 49) true, none⟩])))))
def L94_0 : C := .loop [0, 2, 4, 10, 11] 0 B94_0
theorem go94_0 (s : Env × Bx) (nb) : evL tab ext nb L94_0 s = (loopIn nb [0, 2, 4, 10, 11] 0 s).bind fun s0 => (evL tab ext nb B94_0 s0).bind (seqG tab ext nb L94_0) := eL_loop _ _ _
/-- slices.rotateCmpFunc[swingbridge/api.Item] -/
def C94 : CFun := ⟨58, 5, .seq (.reg [⟨some 12, .mv (.t 2) false, none⟩, ⟨some 13, .mv (.t 1) false, none⟩, ⟨some 14, .bin .sub (.t 12) (.t 13), none⟩, ⟨some 10, .mv (.t 14) true, none⟩])
  (.seq (.reg [⟨some 15, .mv (.t 3) false, none⟩, ⟨some 16, .mv (.t 2) false, none⟩, ⟨some 17, .bin .sub (.t 15) (.t 16), none⟩, ⟨some 11, .mv (.t 17) true, none⟩])
  (.seq (.block 0 (L94_0))
  (.reg [⟨some 50, .mv (.t 0) false, none⟩, ⟨some 51, .mv (.t 2) false, none⟩, ⟨some 52, .mv (.t 10) false, none⟩, ⟨some 53, .bin .sub (.t 51) (.t 52), none⟩, ⟨some 54, .mv (.t 2) false, none⟩, ⟨some 55, .mv (.t 10) false, none⟩, ⟨some 56, .mv (.t 4) false, none⟩, ⟨some 57, .calli 113 [(.t 50), (.t 53), (.t 54), (.t 55), (.t 56)], none⟩]))), []⟩
theorem row94 : RowOk Try.prog 94 C94 := ⟨Try.f94, ⟨[], [], [], []⟩, lvOf [(0, [0, 2, 4, 10, 11], 0)], Try.func94, by kernel_rfl, by kernel_rfl⟩
def B95_0 : C := .seq (.seq (.reg [⟨some 7, .mv (.t 2) false, none⟩, ⟨some 8, .mv (.t 3) false, none⟩, ⟨some 9, .bin .lss (.t 7) (.t 8), none⟩])
  (.cond (.t 9) (.skip)
  (.exit 0)))
  (.seq (.block 1 (.reg [⟨some 14, .mv (.t 0) false, none⟩, ⟨some 15, .mv (.t 2) false, none⟩, ⟨some 16, .mv (.t 0) false, none⟩, ⟨some 17, .mv (.t 3) false, none⟩, ⟨some 18, .mv (.t 0) false, none⟩, ⟨some 19, .mv (.t 3) false, none⟩, ⟨some 20, .ia 2 (.t 18) (.t 19), none⟩, ⟨some 21, .load 2 true (.t 20) false, none⟩, ⟨some 22, .mv (.t 0) false, none⟩, ⟨some 23, .mv (.t 2) false, none⟩, ⟨some 24, .ia 2 (.t 22) (.t 23), none⟩, ⟨some 25, .load 2 true (.t 24) false, none⟩, ⟨some 26, .ia 2 (.t 14) (.t 15), none⟩, ⟨none, .store 2 (.t 26) (.t 21), none⟩, ⟨some 27, .ia 2 (.t 16) (.t 17), none⟩, ⟨none, .store 2 (.t 27) (.t 25), none⟩]))
  (.reg [⟨some 10, .mv (.t 2) false, none⟩, ⟨some 11, .bin .add (.t 10) (.c (.int .i64 1)), none⟩, ⟨some 12, .mv (.t 3) false, none⟩, ⟨some 13, .bin .sub (.t 12) (.c (.int .i64 1)), none⟩, ⟨some 2, .mv (.t 11) true, none⟩, ⟨some 3, .mv (.t 13) true, none⟩]))
def L95_0 : C := .loop [0, 2, 3] 0 B95_0
theorem go95_0 (s : Env × Bx) (nb) : evL tab ext nb L95_0 s = (loopIn nb [0, 2, 3] 0 s).bind fun s0 => (evL tab ext nb B95_0 s0).bind (seqG tab ext nb L95_0) := eL_loop _ _ _
/-- slices.Reverse[[]swingbridge/api.Item,swingbridge/api.Item] -/
def C95 : CFun := ⟨28, 1, .seq (.reg [⟨some 4, .mv (.t 0) false, none⟩, ⟨some 5, .len (.t 4), none⟩, ⟨some 6, .bin .sub (.t 5) (.c (.int .i64 1)), none⟩, ⟨some 2, .mv (.c (.int .i64 0)) true, none⟩, ⟨some 3, .mv (.t 6) true, none⟩])
  (.block 0 (L95_0)), []⟩
theorem row95 : RowOk Try.prog 95 C95 := ⟨Try.f95, ⟨[], [], [], []⟩, lvOf [(0, [0, 2, 3], 0)], Try.func95, by kernel_rfl, by kernel_rfl⟩
def B96_0 : C := .block 1 (.seq (.reg [⟨some 13, .mv (.t 10) false, none⟩, ⟨some 14, .bin .mul (.c (.int .i64 2)) (.t 13), none⟩, ⟨some 15, .bin .add (.t 14) (.c (.int .i64 1)), none⟩, ⟨some 11, .mv (.t 15) true, none⟩])
  (.seq (.seq (.reg [⟨some 16, .mv (.t 11) false, none⟩, ⟨some 17, .mv (.t 2) false, none⟩, ⟨some 18, .bin .geq (.t 16) (.t 17), none⟩])
  (.cond (.t 18) (.exit 0)
  (.skip)))
  (.seq (.seq (.reg [⟨some 19, .mv (.t 11) false, none⟩, ⟨some 20, .bin .add (.t 19) (.c (.int .i64 1)), none⟩, ⟨some 21, .mv (.t 2) false, none⟩, ⟨some 22, .bin .lss (.t 20) (.t 21), none⟩, ⟨some 23, .mv (.t 22) false, none⟩, ⟨some 24, .mv (.t 4) false, some (23, true)⟩, ⟨some 25, .mv (.t 0) false, some (23, true)⟩, ⟨some 26, .mv (.t 3) false, some (23, true)⟩, ⟨some 27, .mv (.t 11) false, some (23, true)⟩, ⟨some 28, .bin .add (.t 26) (.t 27), some (23, true)⟩, ⟨some 29, .ia 1 (.t 25) (.t 28), some (23, true)⟩, ⟨some 30, .load 1 false (.t 29) false, some (23, true)⟩, ⟨some 31, .mv (.t 0) false, some (23, true)⟩, ⟨some 32, .mv (.t 3) false, some (23, true)⟩, ⟨some 33, .mv (.t 11) false, some (23, true)⟩, ⟨some 34, .bin .add (.t 32) (.t 33), some (23, true)⟩, ⟨some 35, .bin .add (.t 34) (.c (.int .i64 1)), some (23, true)⟩, ⟨some 36, .ia 1 (.t 31) (.t 35), some (23, true)⟩, ⟨some 37, .load 1 false (.t 36) false, some (23, true)⟩, ⟨some 38, .callv (.t 24) [(.t 30), (.t 37)], some (23, true)⟩, ⟨some 39, .bin .lss (.t 38) (.c (.int .i64 0)), some (23, true)⟩, ⟨some 40, .pick (.t 23) (.t 39) (.c (.bool false)), none⟩])
  (.cond (.t 40) (.reg [⟨some 41, .mv (.t 11) false, none⟩, ⟨some 42, .bin .add (.t 41) (.c (.int .i64 1)), none⟩, ⟨some 11, .mv (.t 42) true, none⟩])
  (.skip)))
  (.seq (.seq (.reg [⟨some 43, .mv (.t 4) false, none⟩, ⟨some 44, .mv (.t 0) false, none⟩, ⟨some 45, .mv (.t 3) false, none⟩, ⟨some 46, .mv (.t 10) false, none⟩, ⟨some 47, .bin .add (.t 45) (.t 46), none⟩, ⟨some 48, .ia 1 (.t 44) (.t 47), none⟩, ⟨some 49, .load 1 false (.t 48) false, none⟩, ⟨some 50, .mv (.t 0) false, none⟩, ⟨some 51, .mv (.t 3) false, none⟩, ⟨some 52, .mv (.t 11) false, none⟩, ⟨some 53, .bin .add (.t 51) (.t 52), none⟩, ⟨some 54, .ia 1 (.t 50) (.t 53), none⟩, ⟨some 55, .load 1 false (.t 54) false, none⟩, ⟨some 56, .callv (.t 43) [(.t 49), (.t 55)], none⟩, ⟨some 57, .bin .lss (.t 56) (.c (.int .i64 0)), none⟩, ⟨some 58, .un .not (.t 57), none⟩])
  (.cond (.t 58) (.ret)
  (.skip)))
  (.seq (.reg [⟨some 59, .mv (.t 0) false, none⟩, ⟨some 60, .mv (.t 3) false, none⟩, ⟨some 61, .mv (.t 10) false, none⟩, ⟨some 62, .bin .add (.t 60) (.t 61), none⟩, ⟨some 63, .mv (.t 0) false, none⟩, ⟨some 64, .mv (.t 3) false, none⟩, ⟨some 65, .mv (.t 11) false, none⟩, ⟨some 66, .bin .add (.t 64) (.t 65), none⟩, ⟨some 67, .mv (.t 0) false, none⟩, ⟨some 68, .mv (.t 3) false, none⟩, ⟨some 69, .mv (.t 11) false, none⟩, ⟨some 70, .bin .add (.t 68) (.t 69), none⟩, ⟨some 71, .ia 1 (.t 67) (.t 70), none⟩, ⟨some 72, .load 1 false (.t 71) false, none⟩, ⟨some 73, .mv (.t 0) false, none⟩, ⟨some 74, .mv (.t 3) false, none⟩, ⟨some 75, .mv (.t 10) false, none⟩, ⟨some 76, .bin .add (.t 74) (.t 75), none⟩, ⟨some 77, .ia 1 (.t 73) (.t 76), none⟩, ⟨some 78, .load 1 false (.t 77) false, none⟩, ⟨some 79, .ia 1 (.t 59) (.t 62), none⟩, ⟨none, .store 1 (.t 79) (.t 72), none⟩, ⟨some 80, .ia 1 (.t 63) (.t 66), none⟩, ⟨none, .store 1 (.t 80) (.t 78), none⟩])
  (.reg [⟨some 81, .mv (.t 11) false, none⟩, ⟨some 10, .mv (.t 81) true, none⟩]))))))
def L96_0 : C := .loop [0, 2, 3, 4, 10] 0 B96_0
theorem go96_0 (s : Env × Bx) (nb) : evL tab ext nb L96_0 s = (loopIn nb [0, 2, 3, 4, 10] 0 s).bind fun s0 => (evL tab ext nb B96_0 s0).bind (seqG tab ext nb L96_0) := eL_loop _ _ _
/-- slices.siftDownCmpFunc[int] -/
def C96 : CFun := ⟨82, 5, .seq (.reg [⟨some 12, .mv (.t 1) false, none⟩, ⟨some 10, .mv (.t 12) true, none⟩])
  (.block 0 (L96_0)), []⟩
theorem row96 : RowOk Try.prog 96 C96 := ⟨Try.f96, ⟨[], [], [], []⟩, lvOf [(0, [0, 2, 3, 4, 10], 0)], Try.func96, by kernel_rfl, by kernel_rfl⟩
/-- slices.nextPowerOfTwo -/
def C97 : CFun := ⟨7, 1, .seq (.reg [⟨some 2, .mv (.c (.int .u64 0)) true, none⟩])
  (.seq (.reg [⟨some 3, .mv (.t 0) false, none⟩, ⟨some 4, .conv .u64 (.t 3), none⟩, ⟨some 5, .call 51 [(.t 4)] false, none⟩, ⟨some 6, .bin .shl (.c (.int .u64 1)) (.t 5), none⟩, ⟨some 2, .mv (.t 6) true, none⟩])
  (.ret)), [.t 2]⟩
theorem row97 : RowOk Try.prog 97 C97 := ⟨Try.f97, ⟨[], [], [], []⟩, lvOf [], Try.func97, by kernel_rfl, by kernel_rfl⟩
/-- slices.medianAdjacentCmpFunc[int] -/
def C99 : CFun := ⟨18, 4, .seq (.reg [⟨some 8, .mv (.c (.int .i64 0)) true, none⟩])
  (.seq (.reg [⟨some 9, .mv (.t 0) false, none⟩, ⟨some 10, .mv (.t 1) false, none⟩, ⟨some 11, .bin .sub (.t 10) (.c (.int .i64 1)), none⟩, ⟨some 12, .mv (.t 1) false, none⟩, ⟨some 13, .mv (.t 1) false, none⟩, ⟨some 14, .bin .add (.t 13) (.c (.int .i64 1)), none⟩, ⟨some 15, .mv (.t 2) false, none⟩, ⟨some 16, .mv (.t 3) false, none⟩, ⟨some 17, .calli 100 [(.t 9), (.t 11), (.t 12), (.t 14), (.t 15), (.t 16)], none⟩, ⟨some 8, .mv (.t 17) true, none⟩])
  (.ret)), [.t 8]⟩
theorem row99 : RowOk Try.prog 99 C99 := ⟨Try.f99, ⟨[], [], [], []⟩, lvOf [], Try.func99, by kernel_rfl, by kernel_rfl⟩
/-- slices.medianCmpFunc[int] -/
def C100 : CFun := ⟨41, 6, .seq (.reg [⟨some 12, .mv (.c (.int .i64 0)) true, none⟩])
  (.seq (.reg [⟨some 14, .mv (.t 0) false, none⟩, ⟨some 15, .mv (.t 1) false, none⟩, ⟨some 16, .mv (.t 2) false, none⟩, ⟨some 17, .mv (.t 4) false, none⟩, ⟨some 18, .mv (.t 5) false, none⟩, ⟨some 19, .calli 114 [(.t 14), (.t 15), (.t 16), (.t 17), (.t 18)], none⟩, ⟨some 13, .mv (.t 19) false, none⟩, ⟨some 20, .ext (.t 13) 0, none⟩, ⟨some 21, .ext (.t 13) 1, none⟩, ⟨some 1, .mv (.t 20) true, none⟩, ⟨some 2, .mv (.t 21) true, none⟩])
  (.seq (.reg [⟨some 23, .mv (.t 0) false, none⟩, ⟨some 24, .mv (.t 2) false, none⟩, ⟨some 25, .mv (.t 3) false, none⟩, ⟨some 26, .mv (.t 4) false, none⟩, ⟨some 27, .mv (.t 5) false, none⟩, ⟨some 28, .calli 114 [(.t 23), (.t 24), (.t 25), (.t 26), (.t 27)], none⟩, ⟨some 22, .mv (.t 28) false, none⟩, ⟨some 29, .ext (.t 22) 0, none⟩, ⟨some 30, .ext (.t 22) 1, none⟩, ⟨some 2, .mv (.t 29) true, none⟩, ⟨some 3, .mv (.t 30) true, none⟩])
  (.seq (.reg [⟨some 32, .mv (.t 0) false, none⟩, ⟨some 33, .mv (.t 1) false, none⟩, ⟨some 34, .mv (.t 2) false, none⟩, ⟨some 35, .mv (.t 4) false, none⟩, ⟨some 36, .mv (.t 5) false, none⟩, ⟨some 37, .calli 114 [(.t 32), (.t 33), (.t 34), (.t 35), (.t 36)], none⟩, ⟨some 31, .mv (.t 37) false, none⟩, ⟨some 38, .ext (.t 31) 0, none⟩, ⟨some 39, .ext (.t 31) 1, none⟩, ⟨some 1, .mv (.t 38) true, none⟩, ⟨some 2, .mv (.t 39) true, none⟩])
  (.seq (.reg [⟨some 40, .mv (.t 2) false, none⟩, ⟨some 12, .mv (.t 40) true, none⟩])
  (.ret))))), [.t 12]⟩
theorem row100 : RowOk Try.prog 100 C100 := ⟨Try.f100, ⟨[], [], [], []⟩, lvOf [], Try.func100, by kernel_rfl, by kernel_rfl⟩
def B101_0 : C := .seq (.seq (.reg [⟨some 5, .mv (.t 3) false, none⟩, ⟨some 6, .mv (.t 0) false, none⟩, ⟨some 7, .slen (.t 6), none⟩, ⟨some 8, .bin .lss (.t 5) (.t 7), none⟩])
  (.cond (.t 8) (.skip)
  (.exit 0)))
  (.seq (.block 1 (.seq (.reg [⟨some 11, .mv (.t 0) false, none⟩, ⟨some 12, .mv (.t 3) false, none⟩, ⟨some 13, .ix (.t 11) (.t 12), none⟩, ⟨some 4, .mv (.t 13) true, none⟩])
  (.seq (.reg [⟨some 14, .mv (.t 4) false, none⟩, ⟨some 15, .bin .lss (.t 14) (.c (.int .u8 97)), none⟩, ⟨some 16, .mv (.t 15) false, none⟩, ⟨some 17, .mv (.t 4) false, some (16, false)⟩, ⟨some 18, .bin .gtr (.t 17) (.c (.int .u8 122)), some (16, false)⟩, ⟨some 19, .pick (.t 16) (.c (.bool true)) (.t 18), none⟩, ⟨some 20, .mv (.t 19) false, none⟩, ⟨some 21, .mv (.t 4) false, some (20, true)⟩, ⟨some 22, .bin .lss (.t 21) (.c (.int .u8 48)), some (20, true)⟩, ⟨some 23, .mv (.t 22) false, some (20, true)⟩, ⟨some 24, .mv (.t 4) false, some (23, false)⟩, ⟨some 25, .bin .gtr (.t 24) (.c (.int .u8 57)), some (23, false)⟩, ⟨some 26, .pick (.t 23) (.c (.bool true)) (.t 25), some (20, true)⟩, ⟨some 27, .mv (.t 26) false, some (20, true)⟩, ⟨some 28, .mv (.t 3) false, some (27, false)⟩, ⟨some 29, .bin .eql (.t 28) (.c (.int .i64 0)), some (27, false)⟩, ⟨some 30, .pick (.t 27) (.c (.bool true)) (.t 29), some (20, true)⟩, ⟨some 31, .pick (.t 20) (.t 30) (.c (.bool false)), none⟩])
  (.cond (.t 31) (.seq (.reg [⟨some 2, .mv (.c (.bool false)) true, none⟩])
  (.ret))
  (.skip)))))
  (.reg [⟨some 9, .mv (.t 3) false, none⟩, ⟨some 10, .bin .add (.t 9) (.c (.int .i64 1)), none⟩, ⟨some 3, .mv (.t 10) true, none⟩]))
def L101_0 : C := .loop [0, 3] 0 B101_0
theorem go101_0 (s : Env × Bx) (nb) : evL tab ext nb L101_0 s = (loopIn nb [0, 3] 0 s).bind fun s0 => (evL tab ext nb B101_0 s0).bind (seqG tab ext nb L101_0) := eL_loop _ _ _
/-- swingbridge/swingbridgeref7.Name -/
def C101 : CFun := ⟨40, 1, .seq (.reg [⟨some 2, .mv (.c (.bool false)) true, none⟩])
  (.seq (.seq (.reg [⟨some 3, .mv (.c (.int .i64 0)) true, none⟩])
  (.block 0 (L101_0)))
  (.seq (.reg [⟨some 32, .mv (.t 0) false, none⟩, ⟨some 33, .slen (.t 32), none⟩, ⟨some 34, .bin .geq (.t 33) (.c (.int .i64 1)), none⟩, ⟨some 35, .mv (.t 34) false, none⟩, ⟨some 36, .mv (.t 0) false, some (35, true)⟩, ⟨some 37, .slen (.t 36), some (35, true)⟩, ⟨some 38, .bin .leq (.t 37) (.c (.int .i64 8)), some (35, true)⟩, ⟨some 39, .pick (.t 35) (.t 38) (.c (.bool false)), none⟩, ⟨some 2, .mv (.t 39) true, none⟩])
  (.ret))), [.t 2]⟩
theorem row101 : RowOk Try.prog 101 C101 := ⟨Try.f101, ⟨[], [], [], []⟩, lvOf [(0, [0, 3], 0)], Try.func101, by kernel_rfl, by kernel_rfl⟩
/-- swingbridge/swingbridgeref7.part -/
def C102 : CFun := ⟨49, 2, .seq (.reg [⟨some 2, .box (.t 0), none⟩, ⟨some 3, .box (.t 1), none⟩, ⟨some 4, .mv (.c (.bool false)) true, none⟩])
  (.seq (.seq (.reg [⟨some 5, .fa 0 (.t 3), none⟩, ⟨some 6, .load 1 false (.t 5) false, none⟩, ⟨some 7, .bin .lss (.t 6) (.c (.int .i64 1)), none⟩, ⟨some 8, .mv (.t 7) false, none⟩, ⟨some 9, .fa 0 (.t 3), some (8, false)⟩, ⟨some 10, .load 1 false (.t 9) false, some (8, false)⟩, ⟨some 11, .bin .gtr (.t 10) (.c (.int .i64 3)), some (8, false)⟩, ⟨some 12, .pick (.t 8) (.c (.bool true)) (.t 11), none⟩, ⟨some 13, .mv (.t 12) false, none⟩, ⟨some 14, .fa 1 (.t 3), some (13, false)⟩, ⟨some 15, .load 1 false (.t 14) false, some (13, false)⟩, ⟨some 16, .bin .lss (.t 15) (.c (.int .i64 1)), some (13, false)⟩, ⟨some 17, .pick (.t 13) (.c (.bool true)) (.t 16), none⟩, ⟨some 18, .mv (.t 17) false, none⟩, ⟨some 19, .fa 1 (.t 3), some (18, false)⟩, ⟨some 20, .load 1 false (.t 19) false, some (18, false)⟩, ⟨some 21, .bin .gtr (.t 20) (.c (.int .i64 60)), some (18, false)⟩, ⟨some 22, .pick (.t 18) (.c (.bool true)) (.t 21), none⟩])
  (.cond (.t 22) (.seq (.reg [⟨some 4, .mv (.c (.bool false)) true, none⟩])
  (.ret))
  (.skip)))
  (.seq (.reg [⟨some 23, .fa 0 (.t 3), none⟩, ⟨some 24, .load 1 false (.t 23) false, none⟩, ⟨some 25, .bin .eql (.t 24) (.c (.int .i64 3)), none⟩, ⟨some 26, .mv (.t 25) false, none⟩, ⟨some 27, .fa 2 (.t 3), some (26, true)⟩, ⟨some 28, .load 1 false (.t 27) false, some (26, true)⟩, ⟨some 29, .bin .geq (.t 28) (.c (.int .i64 0)), some (26, true)⟩, ⟨some 30, .pick (.t 26) (.t 29) (.c (.bool false)), none⟩, ⟨some 31, .mv (.t 30) false, none⟩, ⟨some 32, .fa 2 (.t 3), some (31, true)⟩, ⟨some 33, .load 1 false (.t 32) false, some (31, true)⟩, ⟨some 34, .fa 2 (.t 2), some (31, true)⟩, ⟨some 35, .load 1 false (.t 34) false, some (31, true)⟩, ⟨some 36, .len (.t 35), some (31, true)⟩, ⟨some 37, .bin .lss (.t 33) (.t 36), some (31, true)⟩, ⟨some 38, .pick (.t 31) (.t 37) (.c (.bool false)), none⟩, ⟨some 39, .mv (.t 38) false, none⟩, ⟨some 40, .fa 0 (.t 3), some (39, false)⟩, ⟨some 41, .load 1 false (.t 40) false, some (39, false)⟩, ⟨some 42, .bin .neq (.t 41) (.c (.int .i64 3)), some (39, false)⟩, ⟨some 43, .mv (.t 42) false, some (39, false)⟩, ⟨some 44, .fa 2 (.t 3), some (43, true)⟩, ⟨some 45, .load 1 false (.t 44) false, some (43, true)⟩, ⟨some 46, .bin .eql (.t 45) (.c (.int .i64 0)), some (43, true)⟩, ⟨some 47, .pick (.t 43) (.t 46) (.c (.bool false)), some (39, false)⟩, ⟨some 48, .pick (.t 39) (.c (.bool true)) (.t 47), none⟩, ⟨some 4, .mv (.t 48) true, none⟩])
  (.ret))), [.t 4]⟩
theorem row102 : RowOk Try.prog 102 C102 := ⟨Try.f102, ⟨[], [], [], []⟩, lvOf [], Try.func102, by kernel_rfl, by kernel_rfl⟩
def B103_0 : C := .seq (.reg [⟨some 9, .bin .lss (.t 8) (.t 7), none⟩])
  (.seq (.cond (.t 9) (.skip)
  (.exit 0))
  (.seq (.block 1 (.seq (.reg [⟨some 10, .mv (.t 8) false, none⟩, ⟨some 5, .mv (.t 10) true, none⟩])
  (.seq (.reg [⟨some 11, .mv (.t 1) false, none⟩, ⟨some 12, .mv (.t 0) false, none⟩, ⟨some 13, .mv (.t 5) false, none⟩, ⟨some 14, .ia 1 (.t 12) (.t 13), none⟩, ⟨some 15, .load 1 false (.t 14) false, none⟩, ⟨some 16, .callv (.t 11) [(.t 15)], none⟩])
  (.cond (.t 16) (.seq (.reg [⟨some 17, .mv (.t 5) false, none⟩, ⟨some 4, .mv (.t 17) true, none⟩])
  (.ret))
  (.skip)))))
  (.reg [⟨some 18, .bin .add (.t 8) (.c (.int .i64 1)), none⟩, ⟨some 8, .mv (.t 18) false, none⟩])))
def L103_0 : C := .loop [0, 1, 7, 8] 0 B103_0
theorem go103_0 (s : Env × Bx) (nb) : evL tab ext nb L103_0 s = (loopIn nb [0, 1, 7, 8] 0 s).bind fun s0 => (evL tab ext nb B103_0 s0).bind (seqG tab ext nb L103_0) := eL_loop _ _ _
/-- slices.IndexFunc[[]int,int] -/
def C103 : CFun := ⟨19, 2, .seq (.reg [⟨some 4, .mv (.c (.int .i64 0)) true, none⟩])
  (.seq (.seq (.reg [⟨some 6, .mv (.t 0) false, none⟩, ⟨some 7, .len (.t 6), none⟩, ⟨some 8, .mv (.c (.int .i64 0)) false, none⟩])
  (.block 0 (L103_0)))
  (.seq (.reg [⟨some 4, .mv (.c (.int .i64 (-1))) true, none⟩])
  (.ret))), [.t 4]⟩
theorem row103 : RowOk Try.prog 103 C103 := ⟨Try.f103, ⟨[], [], [], []⟩, lvOf [(0, [0, 1, 7, 8], 0)], Try.func103, by kernel_rfl, by kernel_rfl⟩
def B104_0 : C := .seq (.reg [⟨some 9, .bin .lss (.t 8) (.t 7), none⟩])
  (.seq (.cond (.t 9) (.skip)
  (.exit 0))
  (.seq (.block 1 (.seq (.reg [⟨some 10, .mv (.t 8) false, none⟩, ⟨some 5, .mv (.t 10) true, none⟩])
  (.seq (.reg [⟨some 11, .mv (.t 1) false, none⟩, ⟨some 12, .mv (.t 0) false, none⟩, ⟨some 13, .mv (.t 5) false, none⟩, ⟨some 14, .ia 6 (.t 12) (.t 13), none⟩, ⟨some 15, .load 6 true (.t 14) false, none⟩, ⟨some 16, .callv (.t 11) [(.t 15)], none⟩])
  (.cond (.t 16) (.seq (.reg [⟨some 17, .mv (.t 5) false, none⟩, ⟨some 4, .mv (.t 17) true, none⟩])
  (.ret))
  (.skip)))))
  (.reg [⟨some 18, .bin .add (.t 8) (.c (.int .i64 1)), none⟩, ⟨some 8, .mv (.t 18) false, none⟩])))
def L104_0 : C := .loop [0, 1, 7, 8] 0 B104_0
theorem go104_0 (s : Env × Bx) (nb) : evL tab ext nb L104_0 s = (loopIn nb [0, 1, 7, 8] 0 s).bind fun s0 => (evL tab ext nb B104_0 s0).bind (seqG tab ext nb L104_0) := eL_loop _ _ _
/-- slices.IndexFunc[[]swingbridge/api.Task,swingbridge/api.Task] -/
def C104 : CFun := ⟨19, 2, .seq (.reg [⟨some 4, .mv (.c (.int .i64 0)) true, none⟩])
  (.seq (.seq (.reg [⟨some 6, .mv (.t 0) false, none⟩, ⟨some 7, .len (.t 6), none⟩, ⟨some 8, .mv (.c (.int .i64 0)) false, none⟩])
  (.block 0 (L104_0)))
  (.seq (.reg [⟨some 4, .mv (.c (.int .i64 (-1))) true, none⟩])
  (.ret))), [.t 4]⟩
theorem row104 : RowOk Try.prog 104 C104 := ⟨Try.f104, ⟨[], [], [], []⟩, lvOf [(0, [0, 1, 7, 8], 0)], Try.func104, by kernel_rfl, by kernel_rfl⟩
def B105_0 : C := .seq (.reg [⟨some 22, .bin .lss (.t 21) (.t 20), none⟩])
  (.seq (.cond (.t 22) (.skip)
  (.exit 0))
  (.seq (.block 1 (.seq (.reg [⟨some 23, .ia 3 (.t 19) (.t 21), none⟩, ⟨some 24, .load 3 true (.t 23) false, none⟩, ⟨some 9, .alloc [(.int .i64 0), (.int .i64 0), (.int .i64 0)], none⟩, ⟨none, .store 3 (.t 9) (.t 24), none⟩])
  (.seq (.reg [⟨some 25, .fa 0 (.t 9), none⟩, ⟨some 26, .load 1 false (.t 25) false, none⟩, ⟨some 27, .bin .eql (.t 26) (.c (.int .i64 3)), none⟩, ⟨some 28, .mv (.t 27) false, none⟩, ⟨some 29, .fa 2 (.t 3), some (28, true)⟩, ⟨some 30, .load 1 false (.t 29) false, some (28, true)⟩, ⟨some 31, .fa 2 (.t 9), some (28, true)⟩, ⟨some 32, .load 1 false (.t 31) false, some (28, true)⟩, ⟨some 33, .ia 1 (.t 30) (.t 32), some (28, true)⟩, ⟨some 34, .load 1 false (.t 33) false, some (28, true)⟩, ⟨some 35, .mv (.t 2) false, some (28, true)⟩, ⟨some 36, .bin .eql (.t 34) (.t 35), some (28, true)⟩, ⟨some 37, .pick (.t 28) (.t 36) (.c (.bool false)), none⟩])
  (.cond (.t 37) (.reg [⟨some 38, .mv (.t 7) true, none⟩, ⟨some 39, .fa 1 (.t 9), none⟩, ⟨some 40, .load 1 false (.t 39) false, none⟩, ⟨some 41, .bsl 1 1 [(.int .i64 0)] [(0, 1, (.t 40))] false, none⟩, ⟨some 42, .app 1 8 (.t 38) (.t 41) false, none⟩, ⟨some 7, .mv (.t 42) true, none⟩])
  (.skip)))))
  (.reg [⟨some 43, .bin .add (.t 21) (.c (.int .i64 1)), none⟩, ⟨some 21, .mv (.t 43) false, none⟩])))
def L105_0 : C := .loop [2, 3, 7, 19, 20, 21] 1 B105_0
theorem go105_0 (s : Env × Bx) (nb) : evL tab ext nb L105_0 s = (loopIn nb [2, 3, 7, 19, 20, 21] 1 s).bind fun s0 => (evL tab ext nb B105_0 s0).bind (seqG tab ext nb L105_0) := eL_loop _ _ _
/-- swingbridge/demand.homed -/
def C105 : CFun := ⟨45, 3, .seq (.reg [⟨some 3, .box (.t 0), none⟩, ⟨some 6, .mv (.c (.slice none 0 0)) true, none⟩])
  (.seq (.reg [⟨some 7, .mv (.c (.slice none 0 0)) true, none⟩])
  (.seq (.seq (.reg [⟨some 10, .load 4 true (.t 3) false, none⟩, ⟨some 11, .mv (.t 1) false, none⟩, ⟨some 12, .call 112 [(.t 10), (.t 11)] false, none⟩, ⟨some 13, .un .not (.t 12), none⟩])
  (.cond (.t 13) (.seq (.reg [⟨some 6, .mv (.c (.slice none 0 0)) true, none⟩])
  (.ret))
  (.skip)))
  (.seq (.seq (.reg [⟨some 14, .fa 3 (.t 3), none⟩, ⟨some 15, .load 1 false (.t 14) false, none⟩, ⟨some 16, .mv (.t 1) false, none⟩, ⟨some 17, .ia 6 (.t 15) (.t 16), none⟩, ⟨some 18, .fa 5 (.t 17), none⟩, ⟨some 19, .load 1 false (.t 18) false, none⟩, ⟨some 20, .len (.t 19), none⟩, ⟨some 21, .mv (.c (.int .i64 0)) false, none⟩])
  (.block 0 (L105_0)))
  (.seq (.reg [⟨some 44, .mv (.t 7) false, none⟩, ⟨some 6, .mv (.t 44) true, none⟩])
  (.ret))))), [.t 6]⟩
theorem row105 : RowOk Try.prog 105 C105 := ⟨Try.f105, ⟨[], [], [], []⟩, lvOf [(0, [2, 3, 7, 19, 20, 21], 1)], Try.func105, by kernel_rfl, by kernel_rfl⟩
/-- swingbridge/count.held -/
def C106 : CFun := ⟨9, 2, .seq (.reg [⟨some 4, .mv (.c (.int .i64 0)) true, none⟩])
  (.seq (.seq (.reg [⟨some 5, .mv (.t 1) false, none⟩, ⟨some 6, .un .not (.t 5), none⟩])
  (.cond (.t 6) (.seq (.reg [⟨some 4, .mv (.c (.int .i64 1000000)) true, none⟩])
  (.ret))
  (.skip)))
  (.seq (.reg [⟨some 7, .mv (.t 0) false, none⟩, ⟨some 8, .mxn false [(.t 7), (.c (.int .i64 1000000))], none⟩, ⟨some 4, .mv (.t 8) true, none⟩])
  (.ret))), [.t 4]⟩
theorem row106 : RowOk Try.prog 106 C106 := ⟨Try.f106, ⟨[], [], [], []⟩, lvOf [], Try.func106, by kernel_rfl, by kernel_rfl⟩
/-- swingbridge/calc.Mul -/
def C107 : CFun := ⟨27, 2, .seq (.reg [⟨some 4, .mv (.c (.int .i64 0)) true, none⟩, ⟨some 5, .mv (.c (.bool false)) true, none⟩])
  (.seq (.reg [⟨some 9, .mv (.t 0) false, none⟩, ⟨some 10, .call 110 [(.t 9)] false, none⟩, ⟨some 11, .mv (.t 1) false, none⟩, ⟨some 12, .call 110 [(.t 11)] false, none⟩, ⟨some 13, .call 115 [(.t 10), (.t 12)] false, none⟩, ⟨some 8, .mv (.t 13) false, none⟩, ⟨some 14, .ext (.t 8) 0, none⟩, ⟨some 15, .ext (.t 8) 1, none⟩, ⟨some 6, .mv (.t 14) true, none⟩, ⟨some 7, .mv (.t 15) true, none⟩])
  (.seq (.seq (.reg [⟨some 16, .mv (.t 6) false, none⟩, ⟨some 17, .bin .gtr (.t 16) (.c (.int .u64 0)), none⟩])
  (.cond (.t 17) (.seq (.reg [⟨some 4, .mv (.c (.int .i64 0)) true, none⟩, ⟨some 5, .mv (.c (.bool false)) true, none⟩])
  (.ret))
  (.skip)))
  (.seq (.reg [⟨some 18, .mv (.t 7) false, none⟩, ⟨some 19, .mv (.t 0) false, none⟩, ⟨some 20, .bin .lss (.t 19) (.c (.int .i64 0)), none⟩, ⟨some 21, .mv (.t 1) false, none⟩, ⟨some 22, .bin .lss (.t 21) (.c (.int .i64 0)), none⟩, ⟨some 23, .eqb true (.t 20) (.t 22), none⟩, ⟨some 24, .call 111 [(.t 18), (.t 23)] false, none⟩, ⟨some 25, .ext (.t 24) 0, none⟩, ⟨some 26, .ext (.t 24) 1, none⟩, ⟨some 4, .mv (.t 25) true, none⟩, ⟨some 5, .mv (.t 26) true, none⟩])
  (.ret)))), [.t 4, .t 5]⟩
theorem row107 : RowOk Try.prog 107 C107 := ⟨Try.f107, ⟨[], [], [], []⟩, lvOf [], Try.func107, by kernel_rfl, by kernel_rfl⟩
/-- swingbridge/count.Jobs -/
def C108 : CFun := ⟨36, 3, .seq (.reg [⟨some 6, .mv (.c (.int .i64 0)) true, none⟩])
  (.seq (.seq (.reg [⟨some 9, .mv (.t 0) false, none⟩, ⟨some 10, .bin .lss (.t 9) (.c (.int .i64 1)), none⟩, ⟨some 11, .mv (.t 10) false, none⟩, ⟨some 12, .mv (.t 1) false, some (11, false)⟩, ⟨some 13, .bin .lss (.t 12) (.c (.int .i64 0)), some (11, false)⟩, ⟨some 14, .pick (.t 11) (.c (.bool true)) (.t 13), none⟩, ⟨some 15, .mv (.t 14) false, none⟩, ⟨some 16, .mv (.t 2) false, some (15, false)⟩, ⟨some 17, .bin .lss (.t 16) (.c (.int .i64 1)), some (15, false)⟩, ⟨some 18, .pick (.t 15) (.c (.bool true)) (.t 17), none⟩])
  (.cond (.t 18) (.seq (.reg [⟨some 6, .mv (.c (.int .i64 0)) true, none⟩])
  (.ret))
  (.skip)))
  (.seq (.reg [⟨some 20, .mv (.t 0) false, none⟩, ⟨some 21, .mv (.t 1) false, none⟩, ⟨some 22, .call 116 [(.t 20), (.t 21)] false, none⟩, ⟨some 19, .mv (.t 22) false, none⟩, ⟨some 23, .ext (.t 19) 0, none⟩, ⟨some 24, .ext (.t 19) 1, none⟩, ⟨some 7, .mv (.t 23) true, none⟩, ⟨some 8, .mv (.t 24) true, none⟩])
  (.seq (.seq (.reg [⟨some 25, .mv (.t 8) false, none⟩])
  (.cond (.t 25) (.seq (.reg [⟨some 26, .mv (.t 7) false, none⟩, ⟨some 27, .mv (.t 2) false, none⟩, ⟨some 28, .call 92 [(.t 26), (.t 27)] false, none⟩, ⟨some 29, .ext (.t 28) 0, none⟩, ⟨some 30, .ext (.t 28) 1, none⟩, ⟨some 31, .call 106 [(.t 29), (.t 30)] false, none⟩, ⟨some 6, .mv (.t 31) true, none⟩])
  (.ret))
  (.skip)))
  (.seq (.reg [⟨some 32, .mv (.t 0) false, none⟩, ⟨some 33, .mv (.t 1) false, none⟩, ⟨some 34, .mv (.t 2) false, none⟩, ⟨some 35, .call 117 [(.t 32), (.t 33), (.t 34)] false, none⟩, ⟨some 6, .mv (.t 35) true, none⟩])
  (.ret))))), [.t 6]⟩
theorem row108 : RowOk Try.prog 108 C108 := ⟨Try.f108, ⟨[], [], [], []⟩, lvOf [], Try.func108, by kernel_rfl, by kernel_rfl⟩
def B109_0 : C := .seq (.reg [⟨some 12, .bin .lss (.t 11) (.t 10), none⟩])
  (.seq (.cond (.t 12) (.skip)
  (.exit 0))
  (.seq (.block 1 (.seq (.reg [⟨some 13, .ia 1 (.t 9) (.t 11), none⟩, ⟨some 14, .load 1 false (.t 13) false, none⟩, ⟨some 5, .mv (.t 14) true, none⟩])
  (.reg [⟨some 15, .mv (.t 3) false, none⟩, ⟨some 16, .mv (.t 5) false, none⟩, ⟨some 17, .bin .add (.t 15) (.t 16), none⟩, ⟨some 3, .mv (.t 17) true, none⟩])))
  (.reg [⟨some 18, .bin .add (.t 11) (.c (.int .i64 1)), none⟩, ⟨some 11, .mv (.t 18) false, none⟩])))
def L109_0 : C := .loop [3, 9, 10, 11] 1 B109_0
theorem go109_0 (s : Env × Bx) (nb) : evL tab ext nb L109_0 s = (loopIn nb [3, 9, 10, 11] 1 s).bind fun s0 => (evL tab ext nb B109_0 s0).bind (seqG tab ext nb L109_0) := eL_loop _ _ _
/-- swingbridge/demand.Cores -/
def C109 : CFun := ⟨20, 1, .seq (.reg [⟨some 1, .box (.t 0), none⟩, ⟨some 2, .mv (.c (.int .i64 0)) true, none⟩])
  (.seq (.reg [⟨some 3, .mv (.c (.int .i64 0)) true, none⟩])
  (.seq (.seq (.reg [⟨some 6, .load 4 true (.t 1) false, none⟩, ⟨some 7, .call 112 [(.t 6), (.c (.int .i64 0))] false, none⟩])
  (.cond (.t 7) (.seq (.reg [⟨some 8, .fa 1 (.t 1), none⟩, ⟨some 9, .load 1 false (.t 8) false, none⟩, ⟨some 10, .len (.t 9), none⟩, ⟨some 11, .mv (.c (.int .i64 0)) false, none⟩])
  (.block 0 (L109_0)))
  (.skip)))
  (.seq (.reg [⟨some 19, .mv (.t 3) false, none⟩, ⟨some 2, .mv (.t 19) true, none⟩])
  (.ret)))), [.t 2]⟩
theorem row109 : RowOk Try.prog 109 C109 := ⟨Try.f109, ⟨[], [], [], []⟩, lvOf [(0, [3, 9, 10, 11], 1)], Try.func109, by kernel_rfl, by kernel_rfl⟩
/-- swingbridge/calc.size -/
def C110 : CFun := ⟨10, 1, .seq (.reg [⟨some 2, .mv (.c (.int .u64 0)) true, none⟩])
  (.seq (.seq (.reg [⟨some 3, .mv (.t 0) false, none⟩, ⟨some 4, .bin .lss (.t 3) (.c (.int .i64 0)), none⟩])
  (.cond (.t 4) (.seq (.reg [⟨some 5, .mv (.t 0) false, none⟩, ⟨some 6, .conv .u64 (.t 5), none⟩, ⟨some 7, .un .neg (.t 6), none⟩, ⟨some 2, .mv (.t 7) true, none⟩])
  (.ret))
  (.skip)))
  (.seq (.reg [⟨some 8, .mv (.t 0) false, none⟩, ⟨some 9, .conv .u64 (.t 8), none⟩, ⟨some 2, .mv (.t 9) true, none⟩])
  (.ret))), [.t 2]⟩
theorem row110 : RowOk Try.prog 110 C110 := ⟨Try.f110, ⟨[], [], [], []⟩, lvOf [], Try.func110, by kernel_rfl, by kernel_rfl⟩
/-- swingbridge/calc.signed -/
def C111 : CFun := ⟨27, 2, .seq (.reg [⟨some 4, .mv (.c (.int .i64 0)) true, none⟩, ⟨some 5, .mv (.c (.bool false)) true, none⟩])
  (.seq (.block 0 (.seq (.reg [⟨some 7, .mv (.t 0) false, none⟩, ⟨some 8, .bin .eql (.t 7) (.c (.int .u64 0)), none⟩, ⟨some 6, .mv (.t 8) true, none⟩])
  (.cond (.t 6) (.seq (.reg [⟨some 4, .mv (.c (.int .i64 0)) true, none⟩, ⟨some 5, .mv (.c (.bool true)) true, none⟩])
  (.ret))
  (.seq (.reg [⟨some 10, .mv (.t 1) false, none⟩, ⟨some 11, .mv (.t 10) false, none⟩, ⟨some 12, .mv (.t 0) false, some (11, true)⟩, ⟨some 13, .bin .leq (.t 12) (.c (.int .u64 9223372036854775808)), some (11, true)⟩, ⟨some 14, .pick (.t 11) (.t 13) (.c (.bool false)), none⟩, ⟨some 9, .mv (.t 14) true, none⟩])
  (.cond (.t 9) (.seq (.reg [⟨some 15, .mv (.t 0) false, none⟩, ⟨some 16, .un .neg (.t 15), none⟩, ⟨some 17, .conv .i64 (.t 16), none⟩, ⟨some 4, .mv (.t 17) true, none⟩, ⟨some 5, .mv (.c (.bool true)) true, none⟩])
  (.ret))
  (.seq (.reg [⟨some 19, .mv (.t 1) false, none⟩, ⟨some 20, .un .not (.t 19), none⟩, ⟨some 21, .mv (.t 20) false, none⟩, ⟨some 22, .mv (.t 0) false, some (21, true)⟩, ⟨some 23, .bin .leq (.t 22) (.c (.int .u64 9223372036854775807)), some (21, true)⟩, ⟨some 24, .pick (.t 21) (.t 23) (.c (.bool false)), none⟩, ⟨some 18, .mv (.t 24) true, none⟩])
  (.cond (.t 18) (.seq (.reg [⟨some 25, .mv (.t 0) false, none⟩, ⟨some 26, .conv .i64 (.t 25), none⟩, ⟨some 4, .mv (.t 26) true, none⟩, ⟨some 5, .mv (.c (.bool true)) true, none⟩])
  (.ret))
  (.skip))))))))
  (.seq (.reg [⟨some 4, .mv (.c (.int .i64 0)) true, none⟩, ⟨some 5, .mv (.c (.bool false)) true, none⟩])
  (.ret))), [.t 4, .t 5]⟩
theorem row111 : RowOk Try.prog 111 C111 := ⟨Try.f111, ⟨[], [], [], []⟩, lvOf [], Try.func111, by kernel_rfl, by kernel_rfl⟩
/-- swingbridge/demand.there -/
def C112 : CFun := ⟨25, 2, .seq (.reg [⟨some 2, .box (.t 0), none⟩, ⟨some 4, .mv (.c (.bool false)) true, none⟩])
  (.seq (.reg [⟨some 8, .load 4 true (.t 2) false, none⟩, ⟨some 9, .call 42 [(.t 8)] false, none⟩, ⟨some 7, .mv (.t 9) false, none⟩, ⟨some 10, .ext (.t 7) 0, none⟩, ⟨some 11, .ext (.t 7) 1, none⟩, ⟨some 5, .mv (.t 10) true, none⟩, ⟨some 6, .mv (.t 11) true, none⟩])
  (.seq (.reg [⟨some 12, .mv (.t 6) false, none⟩, ⟨some 13, .bin .eql (.t 12) (.c (.int .i64 0)), none⟩, ⟨some 14, .mv (.t 13) false, none⟩, ⟨some 15, .mv (.t 1) false, some (14, true)⟩, ⟨some 16, .bin .geq (.t 15) (.c (.int .i64 0)), some (14, true)⟩, ⟨some 17, .pick (.t 14) (.t 16) (.c (.bool false)), none⟩, ⟨some 18, .mv (.t 17) false, none⟩, ⟨some 19, .mv (.t 1) false, some (18, true)⟩, ⟨some 20, .fa 3 (.t 2), some (18, true)⟩, ⟨some 21, .load 1 false (.t 20) false, some (18, true)⟩, ⟨some 22, .len (.t 21), some (18, true)⟩, ⟨some 23, .bin .lss (.t 19) (.t 22), some (18, true)⟩, ⟨some 24, .pick (.t 18) (.t 23) (.c (.bool false)), none⟩, ⟨some 4, .mv (.t 24) true, none⟩])
  (.ret))), [.t 4]⟩
theorem row112 : RowOk Try.prog 112 C112 := ⟨Try.f112, ⟨[], [], [], []⟩, lvOf [], Try.func112, by kernel_rfl, by kernel_rfl⟩
def B113_0 : C := .seq (.seq (.reg [⟨some 11, .mv (.t 10) false, none⟩, ⟨some 12, .mv (.t 3) false, none⟩, ⟨some 13, .bin .lss (.t 11) (.t 12), none⟩])
  (.cond (.t 13) (.skip)
  (.exit 0)))
  (.seq (.block 1 (.reg [⟨some 16, .mv (.t 0) false, none⟩, ⟨some 17, .mv (.t 1) false, none⟩, ⟨some 18, .mv (.t 10) false, none⟩, ⟨some 19, .bin .add (.t 17) (.t 18), none⟩, ⟨some 20, .mv (.t 0) false, none⟩, ⟨some 21, .mv (.t 2) false, none⟩, ⟨some 22, .mv (.t 10) false, none⟩, ⟨some 23, .bin .add (.t 21) (.t 22), none⟩, ⟨some 24, .mv (.t 0) false, none⟩, ⟨some 25, .mv (.t 2) false, none⟩, ⟨some 26, .mv (.t 10) false, none⟩, ⟨some 27, .bin .add (.t 25) (.t 26), none⟩, ⟨some 28, .ia 2 (.t 24) (.t 27), none⟩, ⟨some 29, .load 2 true (.t 28) false, none⟩, ⟨some 30, .mv (.t 0) false, none⟩, ⟨some 31, .mv (.t 1) false, none⟩, ⟨some 32, .mv (.t 10) false, none⟩, ⟨some 33, .bin .add (.t 31) (.t 32), none⟩, ⟨some 34, .ia 2 (.t 30) (.t 33), none⟩, ⟨some 35, .load 2 true (.t 34) false, none⟩, ⟨some 36, .ia 2 (.t 16) (.t 19), none⟩, ⟨none, .store 2 (.t 36) (.t 29), none⟩, ⟨some 37, .ia 2 (.t 20) (.t 23), none⟩, ⟨none, .store 2 (.t 37) (.t 35), none⟩]))
  (.reg [⟨some 14, .mv (.t 10) false, none⟩, ⟨some 15, .bin .add (.t 14) (.c (.int .i64 1)), none⟩, ⟨some 10, .mv (.t 15) true, none⟩]))
def L113_0 : C := .loop [0, 1, 2, 3, 10] 0 B113_0
theorem go113_0 (s : Env × Bx) (nb) : evL tab ext nb L113_0 s = (loopIn nb [0, 1, 2, 3, 10] 0 s).bind fun s0 => (evL tab ext nb B113_0 s0).bind (seqG tab ext nb L113_0) := eL_loop _ _ _
/-- slices.swapRangeCmpFunc[swingbridge/api.Item] -/
def C113 : CFun := ⟨38, 5, .seq (.reg [⟨some 10, .mv (.c (.int .i64 0)) true, none⟩])
  (.block 0 (L113_0)), []⟩
theorem row113 : RowOk Try.prog 113 C113 := ⟨Try.f113, ⟨[], [], [], []⟩, lvOf [(0, [0, 1, 2, 3, 10], 0)], Try.func113, by kernel_rfl, by kernel_rfl⟩
/-- math/bits.Mul64 -/
def C115 : CFun := ⟨51, 2, .seq (.reg [⟨some 4, .mv (.c (.int .u64 0)) true, none⟩, ⟨some 5, .mv (.c (.int .u64 0)) true, none⟩])
  (.seq (.reg [⟨some 14, .mv (.t 0) false, none⟩, ⟨some 15, .bin .and (.t 14) (.c (.int .u64 4294967295)), none⟩, ⟨some 6, .mv (.t 15) true, none⟩])
  (.seq (.reg [⟨some 16, .mv (.t 0) false, none⟩, ⟨some 17, .bin .shr (.t 16) (.c (.int .u64 32)), none⟩, ⟨some 7, .mv (.t 17) true, none⟩])
  (.seq (.reg [⟨some 18, .mv (.t 1) false, none⟩, ⟨some 19, .bin .and (.t 18) (.c (.int .u64 4294967295)), none⟩, ⟨some 8, .mv (.t 19) true, none⟩])
  (.seq (.reg [⟨some 20, .mv (.t 1) false, none⟩, ⟨some 21, .bin .shr (.t 20) (.c (.int .u64 32)), none⟩, ⟨some 9, .mv (.t 21) true, none⟩])
  (.seq (.reg [⟨some 22, .mv (.t 6) false, none⟩, ⟨some 23, .mv (.t 8) false, none⟩, ⟨some 24, .bin .mul (.t 22) (.t 23), none⟩, ⟨some 10, .mv (.t 24) true, none⟩])
  (.seq (.reg [⟨some 25, .mv (.t 7) false, none⟩, ⟨some 26, .mv (.t 8) false, none⟩, ⟨some 27, .bin .mul (.t 25) (.t 26), none⟩, ⟨some 28, .mv (.t 10) false, none⟩, ⟨some 29, .bin .shr (.t 28) (.c (.int .u64 32)), none⟩, ⟨some 30, .bin .add (.t 27) (.t 29), none⟩, ⟨some 11, .mv (.t 30) true, none⟩])
  (.seq (.reg [⟨some 31, .mv (.t 11) false, none⟩, ⟨some 32, .bin .and (.t 31) (.c (.int .u64 4294967295)), none⟩, ⟨some 12, .mv (.t 32) true, none⟩])
  (.seq (.reg [⟨some 33, .mv (.t 11) false, none⟩, ⟨some 34, .bin .shr (.t 33) (.c (.int .u64 32)), none⟩, ⟨some 13, .mv (.t 34) true, none⟩])
  (.seq (.reg [⟨some 35, .mv (.t 12) false, none⟩, ⟨some 36, .mv (.t 6) false, none⟩, ⟨some 37, .mv (.t 9) false, none⟩, ⟨some 38, .bin .mul (.t 36) (.t 37), none⟩, ⟨some 39, .bin .add (.t 35) (.t 38), none⟩, ⟨some 12, .mv (.t 39) true, none⟩])
  (.seq (.reg [⟨some 40, .mv (.t 7) false, none⟩, ⟨some 41, .mv (.t 9) false, none⟩, ⟨some 42, .bin .mul (.t 40) (.t 41), none⟩, ⟨some 43, .mv (.t 13) false, none⟩, ⟨some 44, .bin .add (.t 42) (.t 43), none⟩, ⟨some 45, .mv (.t 12) false, none⟩, ⟨some 46, .bin .shr (.t 45) (.c (.int .u64 32)), none⟩, ⟨some 47, .bin .add (.t 44) (.t 46), none⟩, ⟨some 4, .mv (.t 47) true, none⟩])
  (.seq (.reg [⟨some 48, .mv (.t 0) false, none⟩, ⟨some 49, .mv (.t 1) false, none⟩, ⟨some 50, .bin .mul (.t 48) (.t 49), none⟩, ⟨some 5, .mv (.t 50) true, none⟩])
  (.ret)))))))))))), [.t 4, .t 5]⟩
theorem row115 : RowOk Try.prog 115 C115 := ⟨Try.f115, ⟨[], [], [], []⟩, lvOf [], Try.func115, by kernel_rfl, by kernel_rfl⟩
/-- swingbridge/calc.Add -/
def C116 : CFun := ⟨23, 2, .seq (.reg [⟨some 4, .mv (.c (.int .i64 0)) true, none⟩, ⟨some 5, .mv (.c (.bool false)) true, none⟩])
  (.seq (.reg [⟨some 7, .mv (.t 0) false, none⟩, ⟨some 8, .mv (.t 1) false, none⟩, ⟨some 9, .bin .add (.t 7) (.t 8), none⟩, ⟨some 6, .mv (.t 9) true, none⟩])
  (.seq (.seq (.reg [⟨some 10, .mv (.t 0) false, none⟩, ⟨some 11, .bin .lss (.t 10) (.c (.int .i64 0)), none⟩, ⟨some 12, .mv (.t 1) false, none⟩, ⟨some 13, .bin .lss (.t 12) (.c (.int .i64 0)), none⟩, ⟨some 14, .eqb false (.t 11) (.t 13), none⟩, ⟨some 15, .mv (.t 14) false, none⟩, ⟨some 16, .mv (.t 6) false, some (15, true)⟩, ⟨some 17, .bin .lss (.t 16) (.c (.int .i64 0)), some (15, true)⟩, ⟨some 18, .mv (.t 0) false, some (15, true)⟩, ⟨some 19, .bin .lss (.t 18) (.c (.int .i64 0)), some (15, true)⟩, ⟨some 20, .eqb true (.t 17) (.t 19), some (15, true)⟩, ⟨some 21, .pick (.t 15) (.t 20) (.c (.bool false)), none⟩])
  (.cond (.t 21) (.seq (.reg [⟨some 4, .mv (.c (.int .i64 0)) true, none⟩, ⟨some 5, .mv (.c (.bool false)) true, none⟩])
  (.ret))
  (.skip)))
  (.seq (.reg [⟨some 22, .mv (.t 6) false, none⟩, ⟨some 4, .mv (.t 22) true, none⟩, ⟨some 5, .mv (.c (.bool true)) true, none⟩])
  (.ret)))), [.t 4, .t 5]⟩
theorem row116 : RowOk Try.prog 116 C116 := ⟨Try.f116, ⟨[], [], [], []⟩, lvOf [], Try.func116, by kernel_rfl, by kernel_rfl⟩
def B117_0 : C := .seq (.reg [⟨some 18, .bin .lss (.t 17) (.t 16), none⟩])
  (.seq (.cond (.t 18) (.skip)
  (.exit 0))
  (.seq (.block 1 (.seq (.reg [⟨some 19, .ia 1 (.t 15) (.t 17), none⟩, ⟨some 20, .load 1 false (.t 19) false, none⟩, ⟨some 11, .mv (.t 20) true, none⟩])
  (.seq (.reg [⟨some 21, .mv (.t 8) false, none⟩, ⟨some 22, .mv (.t 11) false, none⟩, ⟨some 23, .mv (.t 2) false, none⟩, ⟨some 24, .bin .quo (.t 22) (.t 23), none⟩, ⟨some 25, .mxn false [(.t 24), (.c (.int .i64 1000000))], none⟩, ⟨some 26, .bin .add (.t 21) (.t 25), none⟩, ⟨some 8, .mv (.t 26) true, none⟩])
  (.seq (.reg [⟨some 27, .mv (.t 9) false, none⟩, ⟨some 28, .mv (.t 11) false, none⟩, ⟨some 29, .mv (.t 2) false, none⟩, ⟨some 30, .bin .rem (.t 28) (.t 29), none⟩, ⟨some 31, .bin .add (.t 27) (.t 30), none⟩, ⟨some 9, .mv (.t 31) true, none⟩])
  (.seq (.seq (.reg [⟨some 32, .mv (.t 9) false, none⟩, ⟨some 33, .mv (.t 2) false, none⟩, ⟨some 34, .bin .lss (.t 32) (.t 33), none⟩])
  (.cond (.t 34) (.exit 1)
  (.skip)))
  (.seq (.reg [⟨some 35, .mv (.t 9) false, none⟩, ⟨some 36, .mv (.t 2) false, none⟩, ⟨some 37, .bin .sub (.t 35) (.t 36), none⟩, ⟨some 9, .mv (.t 37) true, none⟩])
  (.reg [⟨some 38, .mv (.t 8) false, none⟩, ⟨some 39, .bin .add (.t 38) (.c (.int .i64 1)), none⟩, ⟨some 8, .mv (.t 39) true, none⟩])))))))
  (.reg [⟨some 40, .bin .add (.t 17) (.c (.int .i64 1)), none⟩, ⟨some 17, .mv (.t 40) false, none⟩])))
def L117_0 : C := .loop [2, 8, 9, 15, 16, 17] 0 B117_0
theorem go117_0 (s : Env × Bx) (nb) : evL tab ext nb L117_0 s = (loopIn nb [2, 8, 9, 15, 16, 17] 0 s).bind fun s0 => (evL tab ext nb B117_0 s0).bind (seqG tab ext nb L117_0) := eL_loop _ _ _
/-- swingbridge/count.wide -/
def C117 : CFun := ⟨47, 3, .seq (.reg [⟨some 6, .mv (.c (.int .i64 0)) true, none⟩])
  (.scope (.seq (.reg [⟨some 12, .mv (.t 0) false, none⟩, ⟨some 13, .mv (.t 1) false, none⟩, ⟨some 14, .bsl 1 2 [(.int .i64 0), (.int .i64 0)] [(0, 1, (.t 12)), (1, 1, (.t 13))] false, none⟩, ⟨some 7, .mv (.t 14) true, none⟩])
  (.seq (.reg [⟨some 8, .mv (.c (.int .i64 0)) true, none⟩, ⟨some 9, .mv (.c (.int .i64 0)) true, none⟩])
  (.seq (.skip)
  (.seq (.seq (.reg [⟨some 15, .mv (.t 7) false, none⟩, ⟨some 16, .len (.t 15), none⟩, ⟨some 17, .mv (.c (.int .i64 0)) false, none⟩])
  (.block 0 (L117_0)))
  (.seq (.seq (.reg [⟨some 41, .mv (.t 9) false, none⟩, ⟨some 42, .bin .gtr (.t 41) (.c (.int .i64 0)), none⟩])
  (.cond (.t 42) (.reg [⟨some 43, .mv (.t 8) false, none⟩, ⟨some 44, .bin .add (.t 43) (.c (.int .i64 1)), none⟩, ⟨some 8, .mv (.t 44) true, none⟩])
  (.skip)))
  (.seq (.reg [⟨some 45, .mv (.t 8) false, none⟩, ⟨some 46, .mxn false [(.t 45), (.c (.int .i64 1000000))], none⟩, ⟨some 6, .mv (.t 46) true, none⟩])
  (.ret)))))))), [.t 6]⟩
theorem row117 : RowOk Try.prog 117 C117 := ⟨Try.f117, ⟨[], [], [], []⟩, lvOf [(0, [2, 8, 9, 15, 16, 17], 0)], Try.func117, by kernel_rfl, by kernel_rfl⟩
end Go.Proofs.YtgndbkeiickihaaEv
