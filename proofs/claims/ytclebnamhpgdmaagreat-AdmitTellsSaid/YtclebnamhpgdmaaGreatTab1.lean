/- The seat's functions in compact code; each row is checked against the program. -/
import Derived.Test.YtclebnamhpgdmaaGreatEv4
import Derived.Test.YtclebnamhpgdmaaGreatProg
import Derived.KernelRfl
namespace Go.Proofs.YtclebnamhpgdmaaGreatEv
open Go
set_option maxRecDepth 100000
variable {tab : Nat → Option CFun} {ext : CallF}
/-- swingbridge/swingbridgelaw17.BoundTells -/
def C3 : CFun := ⟨86, 4, .seq (.reg [⟨some 4, .box (.t 0), none⟩, ⟨some 8, .mv (.c (.bool false)) true, none⟩])
  (.seq (.seq (.reg [⟨some 17, .call 5 [] false, none⟩, ⟨some 18, .un .not (.t 17), none⟩])
  (.cond (.t 18) (.seq (.reg [⟨some 8, .mv (.c (.bool false)) true, none⟩])
  (.ret))
  (.skip)))
  (.seq (.seq (.reg [⟨some 19, .load 4 true (.t 4) false, none⟩, ⟨some 20, .call 6 [(.t 19)] false, none⟩, ⟨some 21, .un .not (.t 20), none⟩, ⟨some 22, .mv (.t 21) false, none⟩, ⟨some 23, .mv (.t 1) false, some (22, false)⟩, ⟨some 24, .len (.t 23), some (22, false)⟩, ⟨some 25, .bin .gtr (.t 24) (.c (.int .i64 10)), some (22, false)⟩, ⟨some 26, .pick (.t 22) (.c (.bool true)) (.t 25), none⟩])
  (.cond (.t 26) (.seq (.reg [⟨some 8, .mv (.c (.bool true)) true, none⟩])
  (.ret))
  (.skip)))
  (.seq (.reg [⟨some 28, .load 4 true (.t 4) false, none⟩, ⟨some 29, .mv (.t 1) false, none⟩, ⟨some 30, .mv (.t 2) false, none⟩, ⟨some 31, .call 7 [(.t 28), (.t 29), (.t 30)] false, none⟩, ⟨some 27, .mv (.t 31) false, none⟩, ⟨some 32, .ext (.t 27) 0, none⟩, ⟨some 33, .ext (.t 27) 1, none⟩, ⟨some 9, .mv (.t 32) true, none⟩, ⟨some 10, .mv (.t 33) true, none⟩])
  (.seq (.reg [⟨some 35, .load 4 true (.t 4) false, none⟩, ⟨some 36, .mv (.t 1) false, none⟩, ⟨some 37, .mv (.t 2) false, none⟩, ⟨some 38, .call 8 [(.t 35), (.t 36), (.t 37)] false, none⟩, ⟨some 34, .mv (.t 38) false, none⟩, ⟨some 39, .ext (.t 34) 0, none⟩, ⟨some 40, .ext (.t 34) 1, none⟩, ⟨some 11, .mv (.t 39) true, none⟩, ⟨some 12, .mv (.t 40) true, none⟩])
  (.seq (.reg [⟨some 42, .load 4 true (.t 4) false, none⟩, ⟨some 43, .mv (.t 1) false, none⟩, ⟨some 44, .mv (.t 2) false, none⟩, ⟨some 45, .call 9 [(.t 42), (.t 43), (.t 44)] false, none⟩, ⟨some 41, .mv (.t 45) false, none⟩, ⟨some 46, .ext (.t 41) 0, none⟩, ⟨some 47, .ext (.t 41) 1, none⟩, ⟨some 13, .mv (.t 46) true, none⟩, ⟨some 14, .mv (.t 47) true, none⟩])
  (.seq (.reg [⟨some 49, .load 4 true (.t 4) false, none⟩, ⟨some 50, .mv (.t 1) false, none⟩, ⟨some 51, .mv (.t 2) false, none⟩, ⟨some 52, .call 10 [(.t 49), (.t 50), (.t 51)] false, none⟩, ⟨some 48, .mv (.t 52) false, none⟩, ⟨some 53, .ext (.t 48) 0, none⟩, ⟨some 54, .ext (.t 48) 1, none⟩, ⟨some 15, .mv (.t 53) true, none⟩, ⟨some 16, .mv (.t 54) true, none⟩])
  (.seq (.reg [⟨some 55, .mv (.t 9) false, none⟩, ⟨some 56, .mv (.t 11) false, none⟩, ⟨some 57, .bin .eql (.t 55) (.t 56), none⟩, ⟨some 58, .mv (.t 57) false, none⟩, ⟨some 59, .mv (.t 10) false, some (58, true)⟩, ⟨some 60, .mv (.t 12) false, some (58, true)⟩, ⟨some 61, .eqb false (.t 59) (.t 60), some (58, true)⟩, ⟨some 62, .pick (.t 58) (.t 61) (.c (.bool false)), none⟩, ⟨some 63, .mv (.t 62) false, none⟩, ⟨some 64, .load 4 true (.t 4) false, some (63, true)⟩, ⟨some 65, .mv (.t 1) false, some (63, true)⟩, ⟨some 66, .mv (.t 2) false, some (63, true)⟩, ⟨some 67, .mv (.t 3) false, some (63, true)⟩, ⟨some 68, .call 11 [(.t 64), (.t 65), (.t 66), (.t 67)] false, some (63, true)⟩, ⟨some 69, .load 4 true (.t 4) false, some (63, true)⟩, ⟨some 70, .mv (.t 1) false, some (63, true)⟩, ⟨some 71, .mv (.t 2) false, some (63, true)⟩, ⟨some 72, .mv (.t 3) false, some (63, true)⟩, ⟨some 73, .call 12 [(.t 69), (.t 70), (.t 71), (.t 72)] false, some (63, true)⟩, ⟨some 74, .bin .eql (.t 68) (.t 73), some (63, true)⟩, ⟨some 75, .pick (.t 63) (.t 74) (.c (.bool false)), none⟩, ⟨some 76, .mv (.t 75) false, none⟩, ⟨some 77, .mv (.t 13) false, some (76, true)⟩, ⟨some 78, .mv (.t 15) false, some (76, true)⟩, ⟨some 79, .bin .eql (.t 77) (.t 78), some (76, true)⟩, ⟨some 80, .pick (.t 76) (.t 79) (.c (.bool false)), none⟩, ⟨some 81, .mv (.t 80) false, none⟩, ⟨some 82, .mv (.t 14) false, some (81, true)⟩, ⟨some 83, .mv (.t 16) false, some (81, true)⟩, ⟨some 84, .eqb false (.t 82) (.t 83), some (81, true)⟩, ⟨some 85, .pick (.t 81) (.t 84) (.c (.bool false)), none⟩, ⟨some 8, .mv (.t 85) true, none⟩])
  (.ret)))))))), [.t 8]⟩
theorem row3 : RowOk Tryz.prog 3 C3 := ⟨Tryz.f3, ⟨[], [], [], []⟩, lvOf [], Tryz.func3, by kernel_rfl, by kernel_rfl⟩
/-- swingbridge/swingbridgelaw18.AdmitTells -/
def C4 : CFun := ⟨46, 2, .seq (.reg [⟨some 2, .box (.t 0), none⟩, ⟨some 4, .mv (.c (.bool false)) true, none⟩])
  (.seq (.seq (.reg [⟨some 9, .call 13 [] false, none⟩, ⟨some 10, .un .not (.t 9), none⟩])
  (.cond (.t 10) (.seq (.reg [⟨some 4, .mv (.c (.bool false)) true, none⟩])
  (.ret))
  (.skip)))
  (.seq (.seq (.reg [⟨some 11, .load 4 true (.t 2) false, none⟩, ⟨some 12, .call 14 [(.t 11)] false, none⟩, ⟨some 13, .un .not (.t 12), none⟩, ⟨some 14, .mv (.t 13) false, none⟩, ⟨some 15, .mv (.t 1) false, some (14, false)⟩, ⟨some 16, .len (.t 15), some (14, false)⟩, ⟨some 17, .bin .gtr (.t 16) (.c (.int .i64 10)), some (14, false)⟩, ⟨some 18, .pick (.t 14) (.c (.bool true)) (.t 17), none⟩])
  (.cond (.t 18) (.seq (.reg [⟨some 4, .mv (.c (.bool true)) true, none⟩])
  (.ret))
  (.skip)))
  (.seq (.reg [⟨some 20, .load 4 true (.t 2) false, none⟩, ⟨some 21, .call 15 [(.t 20)] false, none⟩, ⟨some 19, .mv (.t 21) false, none⟩, ⟨some 22, .ext (.t 19) 0, none⟩, ⟨some 23, .ext (.t 19) 1, none⟩, ⟨some 5, .alloc [(.bool false), (.slice none 0 0), (.slice none 0 0)], none⟩, ⟨none, .store 3 (.t 5) (.t 22), none⟩, ⟨some 6, .mv (.t 23) true, none⟩])
  (.seq (.reg [⟨some 25, .load 4 true (.t 2) false, none⟩, ⟨some 26, .call 16 [(.t 25)] false, none⟩, ⟨some 24, .mv (.t 26) false, none⟩, ⟨some 27, .ext (.t 24) 0, none⟩, ⟨some 28, .ext (.t 24) 1, none⟩, ⟨some 7, .alloc [(.bool false), (.slice none 0 0), (.slice none 0 0)], none⟩, ⟨none, .store 3 (.t 7) (.t 27), none⟩, ⟨some 8, .mv (.t 28) true, none⟩])
  (.seq (.reg [⟨some 29, .load 3 true (.t 5) false, none⟩, ⟨some 30, .load 3 true (.t 7) false, none⟩, ⟨some 31, .call 17 [(.t 29), (.t 30)] false, none⟩, ⟨some 32, .mv (.t 31) false, none⟩, ⟨some 33, .mv (.t 6) false, some (32, true)⟩, ⟨some 34, .mv (.t 8) false, some (32, true)⟩, ⟨some 35, .bin .eql (.t 33) (.t 34), some (32, true)⟩, ⟨some 36, .pick (.t 32) (.t 35) (.c (.bool false)), none⟩, ⟨some 37, .mv (.t 36) false, none⟩, ⟨some 38, .load 4 true (.t 2) false, some (37, true)⟩, ⟨some 39, .mv (.t 1) false, some (37, true)⟩, ⟨some 40, .call 18 [(.t 38), (.t 39)] false, some (37, true)⟩, ⟨some 41, .load 4 true (.t 2) false, some (37, true)⟩, ⟨some 42, .mv (.t 1) false, some (37, true)⟩, ⟨some 43, .call 19 [(.t 41), (.t 42)] false, some (37, true)⟩, ⟨some 44, .eqb false (.t 40) (.t 43), some (37, true)⟩, ⟨some 45, .pick (.t 37) (.t 44) (.c (.bool false)), none⟩, ⟨some 4, .mv (.t 45) true, none⟩])
  (.ret)))))), [.t 4]⟩
theorem row4 : RowOk Tryz.prog 4 C4 := ⟨Tryz.f4, ⟨[], [], [], []⟩, lvOf [], Tryz.func4, by kernel_rfl, by kernel_rfl⟩
/-- swingbridge/swingbridgelaw17.known -/
def C5 : CFun := ⟨54, 0, .seq (.reg [⟨some 0, .mv (.c (.bool false)) true, none⟩])
  (.seq (.reg [⟨some 8, .call 20 [(.c (.int .i64 1)), (.c (.int .i64 1)), (.c (.int .i64 3)), (.c (.int .i64 5)), (.c (.int .i64 4))] false, none⟩, ⟨some 1, .alloc [(.int .i64 0), (.slice none 0 0), (.slice none 0 0), (.slice none 0 0)], none⟩, ⟨none, .store 4 (.t 1) (.t 8), none⟩])
  (.seq (.reg [⟨some 10, .load 4 true (.t 1) false, none⟩, ⟨some 11, .bsl 1 2 [(.int .i64 0), (.int .i64 0)] [(0, 1, (.c (.int .i64 20))), (1, 1, (.c (.int .i64 40)))] false, none⟩, ⟨some 12, .call 7 [(.t 10), (.t 11), (.c (.int .i64 0))] false, none⟩, ⟨some 9, .mv (.t 12) false, none⟩, ⟨some 13, .ext (.t 9) 0, none⟩, ⟨some 14, .ext (.t 9) 1, none⟩, ⟨some 2, .mv (.t 13) true, none⟩, ⟨some 3, .mv (.t 14) true, none⟩])
  (.seq (.reg [⟨some 16, .load 4 true (.t 1) false, none⟩, ⟨some 17, .bsl 1 2 [(.int .i64 0), (.int .i64 0)] [(0, 1, (.c (.int .i64 20))), (1, 1, (.c (.int .i64 40)))] false, none⟩, ⟨some 18, .call 9 [(.t 16), (.t 17), (.c (.int .i64 1))] false, none⟩, ⟨some 15, .mv (.t 18) false, none⟩, ⟨some 19, .ext (.t 15) 0, none⟩, ⟨some 20, .ext (.t 15) 1, none⟩, ⟨some 4, .mv (.t 19) true, none⟩, ⟨some 5, .mv (.t 20) true, none⟩])
  (.seq (.reg [⟨some 22, .load 4 true (.t 1) false, none⟩, ⟨some 23, .call 7 [(.t 22), (.c (.slice none 0 0)), (.c (.int .i64 0))] false, none⟩, ⟨some 21, .mv (.t 23) false, none⟩, ⟨some 24, .ext (.t 21) 0, none⟩, ⟨some 25, .ext (.t 21) 1, none⟩, ⟨some 6, .mv (.t 24) true, none⟩, ⟨some 7, .mv (.t 25) true, none⟩])
  (.seq (.reg [⟨some 26, .mv (.t 3) false, none⟩, ⟨some 27, .mv (.t 26) false, none⟩, ⟨some 28, .mv (.t 2) false, some (27, true)⟩, ⟨some 29, .bin .eql (.t 28) (.c (.int .i64 8)), some (27, true)⟩, ⟨some 30, .pick (.t 27) (.t 29) (.c (.bool false)), none⟩, ⟨some 31, .mv (.t 30) false, none⟩, ⟨some 32, .load 4 true (.t 1) false, some (31, true)⟩, ⟨some 33, .bsl 1 2 [(.int .i64 0), (.int .i64 0)] [(0, 1, (.c (.int .i64 20))), (1, 1, (.c (.int .i64 40)))] false, some (31, true)⟩, ⟨some 34, .call 11 [(.t 32), (.t 33), (.c (.int .i64 0)), (.c (.int .i64 20))] false, some (31, true)⟩, ⟨some 35, .bin .eql (.t 34) (.c (.int .i64 4)), some (31, true)⟩, ⟨some 36, .pick (.t 31) (.t 35) (.c (.bool false)), none⟩, ⟨some 37, .mv (.t 36) false, none⟩, ⟨some 38, .load 4 true (.t 1) false, some (37, true)⟩, ⟨some 39, .bsl 1 2 [(.int .i64 0), (.int .i64 0)] [(0, 1, (.c (.int .i64 20))), (1, 1, (.c (.int .i64 40)))] false, some (37, true)⟩, ⟨some 40, .call 11 [(.t 38), (.t 39), (.c (.int .i64 1)), (.c (.int .i64 40))] false, some (37, true)⟩, ⟨some 41, .bin .eql (.t 40) (.c (.int .i64 4)), some (37, true)⟩, ⟨some 42, .pick (.t 37) (.t 41) (.c (.bool false)), none⟩, ⟨some 43, .mv (.t 42) false, none⟩, ⟨some 44, .mv (.t 5) false, some (43, true)⟩, ⟨some 45, .pick (.t 43) (.t 44) (.c (.bool false)), none⟩, ⟨some 46, .mv (.t 45) false, none⟩, ⟨some 47, .mv (.t 4) false, some (46, true)⟩, ⟨some 48, .bin .eql (.t 47) (.c (.int .i64 16)), some (46, true)⟩, ⟨some 49, .pick (.t 46) (.t 48) (.c (.bool false)), none⟩, ⟨some 50, .mv (.t 49) false, none⟩, ⟨some 51, .mv (.t 7) false, some (50, true)⟩, ⟨some 52, .un .not (.t 51), some (50, true)⟩, ⟨some 53, .pick (.t 50) (.t 52) (.c (.bool false)), none⟩, ⟨some 0, .mv (.t 53) true, none⟩])
  (.ret)))))), [.t 0]⟩
theorem row5 : RowOk Tryz.prog 5 C5 := ⟨Tryz.f5, ⟨[], [], [], []⟩, lvOf [], Tryz.func5, by kernel_rfl, by kernel_rfl⟩
def B6_0 : C := .seq (.seq (.reg [⟨some 20, .mv (.t 3) false, none⟩, ⟨some 21, .fa 3 (.t 1), none⟩, ⟨some 22, .load 1 false (.t 21) false, none⟩, ⟨some 23, .len (.t 22), none⟩, ⟨some 24, .bin .lss (.t 20) (.t 23), none⟩])
  (.cond (.t 24) (.skip)
  (.exit 0)))
  (.seq (.block 1 (.seq (.reg [⟨some 27, .fa 3 (.t 1), none⟩, ⟨some 28, .load 1 false (.t 27) false, none⟩, ⟨some 29, .mv (.t 3) false, none⟩, ⟨some 30, .ia 6 (.t 28) (.t 29), none⟩, ⟨some 31, .fa 0 (.t 30), none⟩, ⟨some 32, .load 1 false (.t 31) false, none⟩, ⟨some 33, .slen (.t 32), none⟩, ⟨some 34, .bin .gtr (.t 33) (.c (.int .i64 20)), none⟩, ⟨some 35, .mv (.t 34) false, none⟩, ⟨some 36, .fa 3 (.t 1), some (35, false)⟩, ⟨some 37, .load 1 false (.t 36) false, some (35, false)⟩, ⟨some 38, .mv (.t 3) false, some (35, false)⟩, ⟨some 39, .ia 6 (.t 37) (.t 38), some (35, false)⟩, ⟨some 40, .fa 5 (.t 39), some (35, false)⟩, ⟨some 41, .load 1 false (.t 40) false, some (35, false)⟩, ⟨some 42, .len (.t 41), some (35, false)⟩, ⟨some 43, .bin .gtr (.t 42) (.c (.int .i64 10)), some (35, false)⟩, ⟨some 44, .pick (.t 35) (.c (.bool true)) (.t 43), none⟩])
  (.cond (.t 44) (.seq (.reg [⟨some 2, .mv (.c (.bool false)) true, none⟩])
  (.ret))
  (.skip))))
  (.reg [⟨some 25, .mv (.t 3) false, none⟩, ⟨some 26, .bin .add (.t 25) (.c (.int .i64 1)), none⟩, ⟨some 3, .mv (.t 26) true, none⟩]))
def L6_0 : C := .loop [1, 3] 1 B6_0
theorem go6_0 (s : Env × Bx) (nb) : evL tab ext nb L6_0 s = (loopIn nb [1, 3] 1 s).bind fun s0 => (evL tab ext nb B6_0 s0).bind (seqG tab ext nb L6_0) := eL_loop _ _ _
/-- swingbridge/swingbridgelaw17.few -/
def C6 : CFun := ⟨45, 1, .seq (.reg [⟨some 1, .box (.t 0), none⟩, ⟨some 2, .mv (.c (.bool false)) true, none⟩])
  (.seq (.seq (.reg [⟨some 4, .fa 1 (.t 1), none⟩, ⟨some 5, .load 1 false (.t 4) false, none⟩, ⟨some 6, .len (.t 5), none⟩, ⟨some 7, .bin .gtr (.t 6) (.c (.int .i64 8)), none⟩, ⟨some 8, .mv (.t 7) false, none⟩, ⟨some 9, .fa 2 (.t 1), some (8, false)⟩, ⟨some 10, .load 1 false (.t 9) false, some (8, false)⟩, ⟨some 11, .len (.t 10), some (8, false)⟩, ⟨some 12, .bin .gtr (.t 11) (.c (.int .i64 10)), some (8, false)⟩, ⟨some 13, .pick (.t 8) (.c (.bool true)) (.t 12), none⟩, ⟨some 14, .mv (.t 13) false, none⟩, ⟨some 15, .fa 3 (.t 1), some (14, false)⟩, ⟨some 16, .load 1 false (.t 15) false, some (14, false)⟩, ⟨some 17, .len (.t 16), some (14, false)⟩, ⟨some 18, .bin .gtr (.t 17) (.c (.int .i64 9)), some (14, false)⟩, ⟨some 19, .pick (.t 14) (.c (.bool true)) (.t 18), none⟩])
  (.cond (.t 19) (.seq (.reg [⟨some 2, .mv (.c (.bool false)) true, none⟩])
  (.ret))
  (.skip)))
  (.seq (.seq (.reg [⟨some 3, .mv (.c (.int .i64 0)) true, none⟩])
  (.block 0 (L6_0)))
  (.seq (.reg [⟨some 2, .mv (.c (.bool true)) true, none⟩])
  (.ret)))), [.t 2]⟩
theorem row6 : RowOk Tryz.prog 6 C6 := ⟨Tryz.f6, ⟨[], [], [], []⟩, lvOf [(0, [1, 3], 1)], Tryz.func6, by kernel_rfl, by kernel_rfl⟩
/-- swingbridge/bound.Own -/
def C7 : CFun := ⟨34, 3, .seq (.reg [⟨some 3, .box (.t 0), none⟩, ⟨some 6, .mv (.c (.int .i64 0)) true, none⟩, ⟨some 7, .mv (.c (.bool false)) true, none⟩])
  (.seq (.reg [⟨some 11, .load 4 true (.t 3) false, none⟩, ⟨some 12, .mv (.t 1) false, none⟩, ⟨some 13, .mv (.t 2) false, none⟩, ⟨some 14, .call 21 [(.t 11), (.t 12), (.t 13)] false, none⟩, ⟨some 10, .mv (.t 14) false, none⟩, ⟨some 15, .ext (.t 10) 0, none⟩, ⟨some 16, .ext (.t 10) 1, none⟩, ⟨some 8, .mv (.t 15) true, none⟩, ⟨some 9, .mv (.t 16) true, none⟩])
  (.seq (.seq (.reg [⟨some 17, .mv (.t 9) false, none⟩, ⟨some 18, .un .not (.t 17), none⟩])
  (.cond (.t 18) (.seq (.reg [⟨some 6, .mv (.c (.int .i64 0)) true, none⟩, ⟨some 7, .mv (.c (.bool false)) true, none⟩])
  (.ret))
  (.skip)))
  (.seq (.reg [⟨some 19, .fa 3 (.t 3), none⟩, ⟨some 20, .load 1 false (.t 19) false, none⟩, ⟨some 21, .mv (.t 2) false, none⟩, ⟨some 22, .ia 6 (.t 20) (.t 21), none⟩, ⟨some 23, .load 6 true (.t 22) false, none⟩, ⟨some 24, .call 22 [(.t 23)] false, none⟩, ⟨some 25, .fa 3 (.t 3), none⟩, ⟨some 26, .load 1 false (.t 25) false, none⟩, ⟨some 27, .mv (.t 2) false, none⟩, ⟨some 28, .ia 6 (.t 26) (.t 27), none⟩, ⟨some 29, .load 6 true (.t 28) false, none⟩, ⟨some 30, .call 23 [(.t 29)] false, none⟩, ⟨some 31, .bin .add (.t 24) (.t 30), none⟩, ⟨some 32, .mv (.t 8) false, none⟩, ⟨some 33, .bin .add (.t 31) (.t 32), none⟩, ⟨some 6, .mv (.t 33) true, none⟩, ⟨some 7, .mv (.c (.bool true)) true, none⟩])
  (.ret)))), [.t 6, .t 7]⟩
theorem row7 : RowOk Tryz.prog 7 C7 := ⟨Tryz.f7, ⟨[], [], [], []⟩, lvOf [], Tryz.func7, by kernel_rfl, by kernel_rfl⟩
/-- swingbridge/swingbridgeref11.Own -/
def C8 : CFun := ⟨32, 3, .seq (.reg [⟨some 3, .box (.t 0), none⟩, ⟨some 6, .mv (.c (.int .i64 0)) true, none⟩, ⟨some 7, .mv (.c (.bool false)) true, none⟩])
  (.seq (.reg [⟨some 12, .load 4 true (.t 3) false, none⟩, ⟨some 13, .mv (.t 1) false, none⟩, ⟨some 14, .mv (.t 2) false, none⟩, ⟨some 15, .call 24 [(.t 12), (.t 13), (.t 14)] false, none⟩, ⟨some 11, .mv (.t 15) false, none⟩, ⟨some 16, .ext (.t 11) 0, none⟩, ⟨some 17, .ext (.t 11) 1, none⟩, ⟨some 8, .mv (.t 16) true, none⟩, ⟨some 9, .mv (.t 17) true, none⟩])
  (.seq (.seq (.reg [⟨some 18, .mv (.t 9) false, none⟩, ⟨some 19, .un .not (.t 18), none⟩])
  (.cond (.t 19) (.seq (.reg [⟨some 6, .mv (.c (.int .i64 0)) true, none⟩, ⟨some 7, .mv (.c (.bool false)) true, none⟩])
  (.ret))
  (.skip)))
  (.seq (.reg [⟨some 20, .fa 3 (.t 3), none⟩, ⟨some 21, .load 1 false (.t 20) false, none⟩, ⟨some 22, .mv (.t 2) false, none⟩, ⟨some 23, .ia 6 (.t 21) (.t 22), none⟩, ⟨some 24, .load 6 true (.t 23) false, none⟩, ⟨some 10, .alloc [(.string ⟨#[]⟩), (.int .i64 0), (.int .i64 0), (.int .i64 0), (.int .i64 0), (.slice none 0 0)], none⟩, ⟨none, .store 6 (.t 10) (.t 24), none⟩])
  (.seq (.reg [⟨some 25, .mv (.t 8) false, none⟩, ⟨some 26, .load 6 true (.t 10) false, none⟩, ⟨some 27, .call 25 [(.t 26), (.c (.int .i64 1))] false, none⟩, ⟨some 28, .bin .add (.t 25) (.t 27), none⟩, ⟨some 29, .load 6 true (.t 10) false, none⟩, ⟨some 30, .call 25 [(.t 29), (.c (.int .i64 2))] false, none⟩, ⟨some 31, .bin .add (.t 28) (.t 30), none⟩, ⟨some 6, .mv (.t 31) true, none⟩, ⟨some 7, .mv (.c (.bool true)) true, none⟩])
  (.ret))))), [.t 6, .t 7]⟩
theorem row8 : RowOk Tryz.prog 8 C8 := ⟨Tryz.f8, ⟨[], [], [], []⟩, lvOf [], Tryz.func8, by kernel_rfl, by kernel_rfl⟩
/-- swingbridge/bound.Next -/
def C9 : CFun := ⟨37, 3, .seq (.reg [⟨some 3, .box (.t 0), none⟩, ⟨some 6, .mv (.c (.int .i64 0)) true, none⟩, ⟨some 7, .mv (.c (.bool false)) true, none⟩])
  (.seq (.reg [⟨some 11, .load 4 true (.t 3) false, none⟩, ⟨some 12, .mv (.t 1) false, none⟩, ⟨some 13, .mv (.t 2) false, none⟩, ⟨some 14, .call 7 [(.t 11), (.t 12), (.t 13)] false, none⟩, ⟨some 10, .mv (.t 14) false, none⟩, ⟨some 15, .ext (.t 10) 0, none⟩, ⟨some 16, .ext (.t 10) 1, none⟩, ⟨some 8, .mv (.t 15) true, none⟩, ⟨some 9, .mv (.t 16) true, none⟩])
  (.seq (.seq (.reg [⟨some 17, .mv (.t 9) false, none⟩, ⟨some 18, .un .not (.t 17), none⟩, ⟨some 19, .mv (.t 18) false, none⟩, ⟨some 20, .mv (.t 1) false, some (19, false)⟩, ⟨some 21, .len (.t 20), some (19, false)⟩, ⟨some 22, .fa 3 (.t 3), some (19, false)⟩, ⟨some 23, .load 1 false (.t 22) false, some (19, false)⟩, ⟨some 24, .len (.t 23), some (19, false)⟩, ⟨some 25, .bin .neq (.t 21) (.t 24), some (19, false)⟩, ⟨some 26, .pick (.t 19) (.c (.bool true)) (.t 25), none⟩])
  (.cond (.t 26) (.seq (.reg [⟨some 6, .mv (.c (.int .i64 0)) true, none⟩, ⟨some 7, .mv (.c (.bool false)) true, none⟩])
  (.ret))
  (.skip)))
  (.seq (.reg [⟨some 27, .mv (.t 8) false, none⟩, ⟨some 28, .load 4 true (.t 3) false, none⟩, ⟨some 29, .mv (.t 1) false, none⟩, ⟨some 30, .mv (.t 2) false, none⟩, ⟨some 31, .mv (.t 1) false, none⟩, ⟨some 32, .mv (.t 2) false, none⟩, ⟨some 33, .ia 1 (.t 31) (.t 32), none⟩, ⟨some 34, .load 1 false (.t 33) false, none⟩, ⟨some 35, .call 11 [(.t 28), (.t 29), (.t 30), (.t 34)] false, none⟩, ⟨some 36, .bin .add (.t 27) (.t 35), none⟩, ⟨some 6, .mv (.t 36) true, none⟩, ⟨some 7, .mv (.c (.bool true)) true, none⟩])
  (.ret)))), [.t 6, .t 7]⟩
theorem row9 : RowOk Tryz.prog 9 C9 := ⟨Tryz.f9, ⟨[], [], [], []⟩, lvOf [], Tryz.func9, by kernel_rfl, by kernel_rfl⟩
/-- swingbridge/swingbridgeref11.Next -/
def C10 : CFun := ⟨37, 3, .seq (.reg [⟨some 3, .box (.t 0), none⟩, ⟨some 6, .mv (.c (.int .i64 0)) true, none⟩, ⟨some 7, .mv (.c (.bool false)) true, none⟩])
  (.seq (.reg [⟨some 11, .load 4 true (.t 3) false, none⟩, ⟨some 12, .mv (.t 1) false, none⟩, ⟨some 13, .mv (.t 2) false, none⟩, ⟨some 14, .call 8 [(.t 11), (.t 12), (.t 13)] false, none⟩, ⟨some 10, .mv (.t 14) false, none⟩, ⟨some 15, .ext (.t 10) 0, none⟩, ⟨some 16, .ext (.t 10) 1, none⟩, ⟨some 8, .mv (.t 15) true, none⟩, ⟨some 9, .mv (.t 16) true, none⟩])
  (.seq (.seq (.reg [⟨some 17, .mv (.t 9) false, none⟩, ⟨some 18, .un .not (.t 17), none⟩, ⟨some 19, .mv (.t 18) false, none⟩, ⟨some 20, .mv (.t 1) false, some (19, false)⟩, ⟨some 21, .len (.t 20), some (19, false)⟩, ⟨some 22, .fa 3 (.t 3), some (19, false)⟩, ⟨some 23, .load 1 false (.t 22) false, some (19, false)⟩, ⟨some 24, .len (.t 23), some (19, false)⟩, ⟨some 25, .bin .neq (.t 21) (.t 24), some (19, false)⟩, ⟨some 26, .pick (.t 19) (.c (.bool true)) (.t 25), none⟩])
  (.cond (.t 26) (.seq (.reg [⟨some 6, .mv (.c (.int .i64 0)) true, none⟩, ⟨some 7, .mv (.c (.bool false)) true, none⟩])
  (.ret))
  (.skip)))
  (.seq (.reg [⟨some 27, .mv (.t 8) false, none⟩, ⟨some 28, .load 4 true (.t 3) false, none⟩, ⟨some 29, .mv (.t 1) false, none⟩, ⟨some 30, .mv (.t 2) false, none⟩, ⟨some 31, .mv (.t 1) false, none⟩, ⟨some 32, .mv (.t 2) false, none⟩, ⟨some 33, .ia 1 (.t 31) (.t 32), none⟩, ⟨some 34, .load 1 false (.t 33) false, none⟩, ⟨some 35, .call 12 [(.t 28), (.t 29), (.t 30), (.t 34)] false, none⟩, ⟨some 36, .bin .add (.t 27) (.t 35), none⟩, ⟨some 6, .mv (.t 36) true, none⟩, ⟨some 7, .mv (.c (.bool true)) true, none⟩])
  (.ret)))), [.t 6, .t 7]⟩
theorem row10 : RowOk Tryz.prog 10 C10 := ⟨Tryz.f10, ⟨[], [], [], []⟩, lvOf [], Tryz.func10, by kernel_rfl, by kernel_rfl⟩
def B11_0 : C := .seq (.reg [⟨some 50, .bin .lss (.t 49) (.t 48), none⟩])
  (.seq (.cond (.t 50) (.skip)
  (.exit 0))
  (.seq (.block 1 (.seq (.reg [⟨some 51, .mv (.t 49) false, none⟩, ⟨some 52, .ia 6 (.t 47) (.t 49), none⟩, ⟨some 53, .load 6 true (.t 52) false, none⟩, ⟨some 14, .alloc [(.string ⟨#[]⟩), (.int .i64 0), (.int .i64 0), (.int .i64 0), (.int .i64 0), (.slice none 0 0)], none⟩, ⟨some 13, .mv (.t 51) true, none⟩, ⟨none, .store 6 (.t 14) (.t 53), none⟩])
  (.seq (.seq (.reg [⟨some 54, .mv (.t 13) false, none⟩, ⟨some 55, .mv (.t 2) false, none⟩, ⟨some 56, .bin .eql (.t 54) (.t 55), none⟩])
  (.cond (.t 56) (.exit 1)
  (.skip)))
  (.reg [⟨some 57, .mv (.t 12) false, none⟩, ⟨some 58, .mv (.t 3) false, none⟩, ⟨some 59, .mv (.t 1) false, none⟩, ⟨some 60, .mv (.t 13) false, none⟩, ⟨some 61, .ia 1 (.t 59) (.t 60), none⟩, ⟨some 62, .load 1 false (.t 61) false, none⟩, ⟨some 63, .fa 1 (.t 14), none⟩, ⟨some 64, .load 1 false (.t 63) false, none⟩, ⟨some 65, .load 4 true (.t 4) false, none⟩, ⟨some 66, .mv (.t 2) false, none⟩, ⟨some 67, .mv (.t 13) false, none⟩, ⟨some 68, .call 30 [(.t 65), (.t 66), (.t 67)] false, none⟩, ⟨some 69, .call 29 [(.t 58), (.t 62), (.t 64), (.t 68)] false, none⟩, ⟨some 70, .bin .add (.t 57) (.t 69), none⟩, ⟨some 12, .mv (.t 70) true, none⟩]))))
  (.reg [⟨some 71, .bin .add (.t 49) (.c (.int .i64 1)), none⟩, ⟨some 49, .mv (.t 71) false, none⟩])))
def L11_0 : C := .loop [1, 2, 3, 4, 12, 47, 48, 49] 1 B11_0
theorem go11_0 (s : Env × Bx) (nb) : evL tab ext nb L11_0 s = (loopIn nb [1, 2, 3, 4, 12, 47, 48, 49] 1 s).bind fun s0 => (evL tab ext nb B11_0 s0).bind (seqG tab ext nb L11_0) := eL_loop _ _ _
/-- swingbridge/bound.Others -/
def C11 : CFun := ⟨84, 4, .seq (.reg [⟨some 4, .box (.t 0), none⟩, ⟨some 8, .mv (.c (.int .i64 0)) true, none⟩])
  (.scope (.seq (.reg [⟨some 16, .load 4 true (.t 4) false, none⟩, ⟨some 17, .call 26 [(.t 16)] false, none⟩, ⟨some 15, .mv (.t 17) false, none⟩, ⟨some 18, .ext (.t 15) 0, none⟩, ⟨some 19, .ext (.t 15) 1, none⟩, ⟨some 9, .mv (.t 18) true, none⟩, ⟨some 10, .mv (.t 19) true, none⟩])
  (.seq (.reg [⟨some 11, .mv (.f 27) true, none⟩])
  (.seq (.seq (.reg [⟨some 20, .mv (.t 10) false, none⟩, ⟨some 21, .bin .neq (.t 20) (.c (.int .i64 0)), none⟩, ⟨some 22, .mv (.t 21) false, none⟩, ⟨some 23, .mv (.t 2) false, some (22, false)⟩, ⟨some 24, .bin .lss (.t 23) (.c (.int .i64 0)), some (22, false)⟩, ⟨some 25, .pick (.t 22) (.c (.bool true)) (.t 24), none⟩, ⟨some 26, .mv (.t 25) false, none⟩, ⟨some 27, .mv (.t 2) false, some (26, false)⟩, ⟨some 28, .fa 3 (.t 4), some (26, false)⟩, ⟨some 29, .load 1 false (.t 28) false, some (26, false)⟩, ⟨some 30, .len (.t 29), some (26, false)⟩, ⟨some 31, .bin .geq (.t 27) (.t 30), some (26, false)⟩, ⟨some 32, .pick (.t 26) (.c (.bool true)) (.t 31), none⟩, ⟨some 33, .mv (.t 32) false, none⟩, ⟨some 34, .mv (.t 1) false, some (33, false)⟩, ⟨some 35, .len (.t 34), some (33, false)⟩, ⟨some 36, .fa 3 (.t 4), some (33, false)⟩, ⟨some 37, .load 1 false (.t 36) false, some (33, false)⟩, ⟨some 38, .len (.t 37), some (33, false)⟩, ⟨some 39, .bin .neq (.t 35) (.t 38), some (33, false)⟩, ⟨some 40, .pick (.t 33) (.c (.bool true)) (.t 39), none⟩, ⟨some 41, .mv (.t 40) false, none⟩, ⟨some 42, .mv (.t 1) false, some (41, false)⟩, ⟨some 43, .mv (.t 11) false, some (41, false)⟩, ⟨some 44, .calli 28 [(.t 42), (.t 43)], some (41, false)⟩, ⟨some 45, .pick (.t 41) (.c (.bool true)) (.t 44), none⟩])
  (.cond (.t 45) (.seq (.reg [⟨some 8, .mv (.c (.int .i64 0)) true, none⟩])
  (.ret))
  (.skip)))
  (.seq (.reg [⟨some 12, .mv (.c (.int .i64 0)) true, none⟩])
  (.seq (.skip)
  (.seq (.seq (.reg [⟨some 46, .fa 3 (.t 4), none⟩, ⟨some 47, .load 1 false (.t 46) false, none⟩, ⟨some 48, .len (.t 47), none⟩, ⟨some 49, .mv (.c (.int .i64 0)) false, none⟩])
  (.block 0 (L11_0)))
  (.seq (.reg [⟨some 72, .mv (.t 12) false, none⟩, ⟨some 73, .fa 1 (.t 4), none⟩, ⟨some 74, .load 1 false (.t 73) false, none⟩, ⟨some 75, .fa 3 (.t 4), none⟩, ⟨some 76, .load 1 false (.t 75) false, none⟩, ⟨some 77, .mv (.t 2) false, none⟩, ⟨some 78, .ia 6 (.t 76) (.t 77), none⟩, ⟨some 79, .fa 4 (.t 78), none⟩, ⟨some 80, .load 1 false (.t 79) false, none⟩, ⟨some 81, .ia 1 (.t 74) (.t 80), none⟩, ⟨some 82, .load 1 false (.t 81) false, none⟩, ⟨some 83, .bin .quo (.t 72) (.t 82), none⟩, ⟨some 8, .mv (.t 83) true, none⟩])
  (.ret))))))))), [.t 8]⟩
theorem row11 : RowOk Tryz.prog 11 C11 := ⟨Tryz.f11, ⟨[], [], [], []⟩, lvOf [(0, [1, 2, 3, 4, 12, 47, 48, 49], 1)], Tryz.func11, by kernel_rfl, by kernel_rfl⟩
def B12_0 : C := .seq (.seq (.reg [⟨some 23, .mv (.t 10) false, none⟩, ⟨some 24, .fa 3 (.t 4), none⟩, ⟨some 25, .load 1 false (.t 24) false, none⟩, ⟨some 26, .len (.t 25), none⟩, ⟨some 27, .bin .lss (.t 23) (.t 26), none⟩])
  (.cond (.t 27) (.skip)
  (.exit 0)))
  (.seq (.block 1 (.seq (.seq (.reg [⟨some 30, .mv (.t 1) false, none⟩, ⟨some 31, .mv (.t 10) false, none⟩, ⟨some 32, .ia 1 (.t 30) (.t 31), none⟩, ⟨some 33, .load 1 false (.t 32) false, none⟩, ⟨some 34, .bin .lss (.t 33) (.c (.int .i64 0)), none⟩])
  (.cond (.t 34) (.seq (.reg [⟨some 8, .mv (.c (.int .i64 0)) true, none⟩])
  (.ret))
  (.skip)))
  (.seq (.reg [⟨some 35, .mv (.t 10) false, none⟩, ⟨some 36, .mv (.t 2) false, none⟩, ⟨some 37, .bin .neq (.t 35) (.t 36), none⟩])
  (.cond (.t 37) (.reg [⟨some 38, .mv (.t 9) false, none⟩, ⟨some 39, .mv (.t 3) false, none⟩, ⟨some 40, .mv (.t 1) false, none⟩, ⟨some 41, .mv (.t 10) false, none⟩, ⟨some 42, .ia 1 (.t 40) (.t 41), none⟩, ⟨some 43, .load 1 false (.t 42) false, none⟩, ⟨some 44, .fa 3 (.t 4), none⟩, ⟨some 45, .load 1 false (.t 44) false, none⟩, ⟨some 46, .mv (.t 10) false, none⟩, ⟨some 47, .ia 6 (.t 45) (.t 46), none⟩, ⟨some 48, .fa 1 (.t 47), none⟩, ⟨some 49, .load 1 false (.t 48) false, none⟩, ⟨some 50, .load 4 true (.t 4) false, none⟩, ⟨some 51, .mv (.t 10) false, none⟩, ⟨some 52, .mv (.t 2) false, none⟩, ⟨some 53, .call 33 [(.t 50), (.t 51), (.t 52)] false, none⟩, ⟨some 54, .call 32 [(.t 39), (.t 43), (.t 49), (.t 53)] false, none⟩, ⟨some 55, .bin .add (.t 38) (.t 54), none⟩, ⟨some 9, .mv (.t 55) true, none⟩])
  (.skip)))))
  (.reg [⟨some 28, .mv (.t 10) false, none⟩, ⟨some 29, .bin .add (.t 28) (.c (.int .i64 1)), none⟩, ⟨some 10, .mv (.t 29) true, none⟩]))
def L12_0 : C := .loop [1, 2, 3, 4, 9, 10] 1 B12_0
theorem go12_0 (s : Env × Bx) (nb) : evL tab ext nb L12_0 s = (loopIn nb [1, 2, 3, 4, 9, 10] 1 s).bind fun s0 => (evL tab ext nb B12_0 s0).bind (seqG tab ext nb L12_0) := eL_loop _ _ _
/-- swingbridge/swingbridgeref11.Others -/
def C12 : CFun := ⟨68, 4, .seq (.reg [⟨some 4, .box (.t 0), none⟩, ⟨some 8, .mv (.c (.int .i64 0)) true, none⟩])
  (.seq (.seq (.reg [⟨some 11, .load 4 true (.t 4) false, none⟩, ⟨some 12, .mv (.t 2) false, none⟩, ⟨some 13, .call 31 [(.t 11), (.t 12)] false, none⟩, ⟨some 14, .un .not (.t 13), none⟩, ⟨some 15, .mv (.t 14) false, none⟩, ⟨some 16, .mv (.t 1) false, some (15, false)⟩, ⟨some 17, .len (.t 16), some (15, false)⟩, ⟨some 18, .fa 3 (.t 4), some (15, false)⟩, ⟨some 19, .load 1 false (.t 18) false, some (15, false)⟩, ⟨some 20, .len (.t 19), some (15, false)⟩, ⟨some 21, .bin .neq (.t 17) (.t 20), some (15, false)⟩, ⟨some 22, .pick (.t 15) (.c (.bool true)) (.t 21), none⟩])
  (.cond (.t 22) (.seq (.reg [⟨some 8, .mv (.c (.int .i64 0)) true, none⟩])
  (.ret))
  (.skip)))
  (.seq (.reg [⟨some 9, .mv (.c (.int .i64 0)) true, none⟩])
  (.seq (.seq (.reg [⟨some 10, .mv (.c (.int .i64 0)) true, none⟩])
  (.block 0 (L12_0)))
  (.seq (.reg [⟨some 56, .mv (.t 9) false, none⟩, ⟨some 57, .fa 1 (.t 4), none⟩, ⟨some 58, .load 1 false (.t 57) false, none⟩, ⟨some 59, .fa 3 (.t 4), none⟩, ⟨some 60, .load 1 false (.t 59) false, none⟩, ⟨some 61, .mv (.t 2) false, none⟩, ⟨some 62, .ia 6 (.t 60) (.t 61), none⟩, ⟨some 63, .fa 4 (.t 62), none⟩, ⟨some 64, .load 1 false (.t 63) false, none⟩, ⟨some 65, .ia 1 (.t 58) (.t 64), none⟩, ⟨some 66, .load 1 false (.t 65) false, none⟩, ⟨some 67, .bin .quo (.t 56) (.t 66), none⟩, ⟨some 8, .mv (.t 67) true, none⟩])
  (.ret))))), [.t 8]⟩
theorem row12 : RowOk Tryz.prog 12 C12 := ⟨Tryz.f12, ⟨[], [], [], []⟩, lvOf [(0, [1, 2, 3, 4, 9, 10], 1)], Tryz.func12, by kernel_rfl, by kernel_rfl⟩
def B14_0 : C := .seq (.seq (.reg [⟨some 20, .mv (.t 3) false, none⟩, ⟨some 21, .fa 3 (.t 1), none⟩, ⟨some 22, .load 1 false (.t 21) false, none⟩, ⟨some 23, .len (.t 22), none⟩, ⟨some 24, .bin .lss (.t 20) (.t 23), none⟩])
  (.cond (.t 24) (.skip)
  (.exit 0)))
  (.seq (.block 1 (.seq (.reg [⟨some 27, .fa 3 (.t 1), none⟩, ⟨some 28, .load 1 false (.t 27) false, none⟩, ⟨some 29, .mv (.t 3) false, none⟩, ⟨some 30, .ia 6 (.t 28) (.t 29), none⟩, ⟨some 31, .fa 0 (.t 30), none⟩, ⟨some 32, .load 1 false (.t 31) false, none⟩, ⟨some 33, .slen (.t 32), none⟩, ⟨some 34, .bin .gtr (.t 33) (.c (.int .i64 20)), none⟩, ⟨some 35, .mv (.t 34) false, none⟩, ⟨some 36, .fa 3 (.t 1), some (35, false)⟩, ⟨some 37, .load 1 false (.t 36) false, some (35, false)⟩, ⟨some 38, .mv (.t 3) false, some (35, false)⟩, ⟨some 39, .ia 6 (.t 37) (.t 38), some (35, false)⟩, ⟨some 40, .fa 5 (.t 39), some (35, false)⟩, ⟨some 41, .load 1 false (.t 40) false, some (35, false)⟩, ⟨some 42, .len (.t 41), some (35, false)⟩, ⟨some 43, .bin .gtr (.t 42) (.c (.int .i64 10)), some (35, false)⟩, ⟨some 44, .pick (.t 35) (.c (.bool true)) (.t 43), none⟩])
  (.cond (.t 44) (.seq (.reg [⟨some 2, .mv (.c (.bool false)) true, none⟩])
  (.ret))
  (.skip))))
  (.reg [⟨some 25, .mv (.t 3) false, none⟩, ⟨some 26, .bin .add (.t 25) (.c (.int .i64 1)), none⟩, ⟨some 3, .mv (.t 26) true, none⟩]))
def L14_0 : C := .loop [1, 3] 1 B14_0
theorem go14_0 (s : Env × Bx) (nb) : evL tab ext nb L14_0 s = (loopIn nb [1, 3] 1 s).bind fun s0 => (evL tab ext nb B14_0 s0).bind (seqG tab ext nb L14_0) := eL_loop _ _ _
/-- swingbridge/swingbridgelaw18.few -/
def C14 : CFun := ⟨45, 1, .seq (.reg [⟨some 1, .box (.t 0), none⟩, ⟨some 2, .mv (.c (.bool false)) true, none⟩])
  (.seq (.seq (.reg [⟨some 4, .fa 1 (.t 1), none⟩, ⟨some 5, .load 1 false (.t 4) false, none⟩, ⟨some 6, .len (.t 5), none⟩, ⟨some 7, .bin .gtr (.t 6) (.c (.int .i64 8)), none⟩, ⟨some 8, .mv (.t 7) false, none⟩, ⟨some 9, .fa 2 (.t 1), some (8, false)⟩, ⟨some 10, .load 1 false (.t 9) false, some (8, false)⟩, ⟨some 11, .len (.t 10), some (8, false)⟩, ⟨some 12, .bin .gtr (.t 11) (.c (.int .i64 10)), some (8, false)⟩, ⟨some 13, .pick (.t 8) (.c (.bool true)) (.t 12), none⟩, ⟨some 14, .mv (.t 13) false, none⟩, ⟨some 15, .fa 3 (.t 1), some (14, false)⟩, ⟨some 16, .load 1 false (.t 15) false, some (14, false)⟩, ⟨some 17, .len (.t 16), some (14, false)⟩, ⟨some 18, .bin .gtr (.t 17) (.c (.int .i64 9)), some (14, false)⟩, ⟨some 19, .pick (.t 14) (.c (.bool true)) (.t 18), none⟩])
  (.cond (.t 19) (.seq (.reg [⟨some 2, .mv (.c (.bool false)) true, none⟩])
  (.ret))
  (.skip)))
  (.seq (.seq (.reg [⟨some 3, .mv (.c (.int .i64 0)) true, none⟩])
  (.block 0 (L14_0)))
  (.seq (.reg [⟨some 2, .mv (.c (.bool true)) true, none⟩])
  (.ret)))), [.t 2]⟩
theorem row14 : RowOk Tryz.prog 14 C14 := ⟨Tryz.f14, ⟨[], [], [], []⟩, lvOf [(0, [1, 3], 1)], Tryz.func14, by kernel_rfl, by kernel_rfl⟩
def B15_0 : C := .seq (.reg [⟨some 36, .bin .lss (.t 35) (.t 34), none⟩])
  (.seq (.cond (.t 36) (.skip)
  (.exit 0))
  (.seq (.block 1 (.seq (.reg [⟨some 37, .mv (.t 35) false, none⟩, ⟨some 9, .mv (.t 37) true, none⟩])
  (.seq (.reg [⟨some 39, .load 4 true (.t 1) false, none⟩, ⟨some 40, .mv (.t 6) false, none⟩, ⟨some 41, .mv (.t 9) false, none⟩, ⟨some 42, .call 37 [(.t 39), (.t 40), (.t 41)] false, none⟩, ⟨some 38, .mv (.t 42) false, none⟩, ⟨some 43, .ext (.t 38) 0, none⟩, ⟨some 44, .ext (.t 38) 1, none⟩, ⟨some 10, .mv (.t 43) true, none⟩, ⟨some 11, .mv (.t 44) true, none⟩])
  (.reg [⟨some 45, .fa 2 (.t 8), none⟩, ⟨some 46, .load 1 false (.t 45) true, none⟩, ⟨some 47, .mv (.t 10) false, none⟩, ⟨some 48, .bsl 1 1 [(.slice none 0 0)] [(0, 1, (.t 47))] false, none⟩, ⟨some 49, .app 1 24 (.t 46) (.t 48) false, none⟩, ⟨some 50, .fa 2 (.t 8), none⟩, ⟨none, .store 1 (.t 50) (.t 49), none⟩]))))
  (.reg [⟨some 51, .bin .add (.t 35) (.c (.int .i64 1)), none⟩, ⟨some 35, .mv (.t 51) false, none⟩])))
def L15_0 : C := .loop [1, 2, 6, 8, 34, 35] 3 B15_0
theorem go15_0 (s : Env × Bx) (nb) : evL tab ext nb L15_0 s = (loopIn nb [1, 2, 6, 8, 34, 35] 3 s).bind fun s0 => (evL tab ext nb B15_0 s0).bind (seqG tab ext nb L15_0) := eL_loop _ _ _
/-- swingbridge/admit.Analyze -/
def C15 : CFun := ⟨53, 1, .seq (.reg [⟨some 1, .box (.t 0), none⟩, ⟨some 2, .alloc [(.bool false), (.slice none 0 0), (.slice none 0 0)], none⟩, ⟨some 3, .mv (.c (.int .i64 0)) true, none⟩])
  (.seq (.seq (.reg [⟨some 13, .load 4 true (.t 1) false, none⟩, ⟨some 14, .call 26 [(.t 13)] false, none⟩, ⟨some 12, .mv (.t 14) false, none⟩, ⟨some 15, .ext (.t 12) 0, none⟩, ⟨some 16, .ext (.t 12) 1, none⟩, ⟨some 4, .mv (.t 15) true, none⟩, ⟨some 5, .mv (.t 16) true, none⟩])
  (.seq (.reg [⟨some 17, .mv (.t 5) false, none⟩, ⟨some 18, .bin .neq (.t 17) (.c (.int .i64 0)), none⟩])
  (.cond (.t 18) (.seq (.reg [⟨some 19, .build [(.bool false), (.slice none 0 0), (.slice none 0 0)] [], none⟩, ⟨some 20, .mv (.t 5) false, none⟩, ⟨none, .store 3 (.t 2) (.t 19), none⟩, ⟨some 3, .mv (.t 20) true, none⟩])
  (.ret))
  (.skip))))
  (.seq (.reg [⟨some 22, .load 4 true (.t 1) false, none⟩, ⟨some 23, .call 36 [(.t 22)] false, none⟩, ⟨some 21, .mv (.t 23) false, none⟩, ⟨some 24, .ext (.t 21) 0, none⟩, ⟨some 25, .ext (.t 21) 1, none⟩, ⟨some 6, .mv (.t 24) true, none⟩, ⟨some 7, .mv (.t 25) true, none⟩])
  (.seq (.seq (.reg [⟨some 26, .mv (.t 7) false, none⟩, ⟨some 27, .bin .neq (.t 26) (.c (.int .i64 0)), none⟩])
  (.cond (.t 27) (.seq (.reg [⟨some 28, .build [(.bool false), (.slice none 0 0), (.slice none 0 0)] [], none⟩, ⟨some 29, .mv (.t 7) false, none⟩, ⟨none, .store 3 (.t 2) (.t 28), none⟩, ⟨some 3, .mv (.t 29) true, none⟩])
  (.ret))
  (.skip)))
  (.seq (.reg [⟨some 30, .mv (.t 6) false, none⟩, ⟨some 31, .build [(.bool false), (.slice none 0 0), (.slice none 0 0)] [(0, 1, (.c (.bool true))), (1, 1, (.t 30))], none⟩, ⟨some 8, .alloc [(.bool false), (.slice none 0 0), (.slice none 0 0)], none⟩, ⟨none, .store 3 (.t 8) (.t 31), none⟩])
  (.seq (.seq (.reg [⟨some 32, .fa 3 (.t 1), none⟩, ⟨some 33, .load 1 false (.t 32) false, none⟩, ⟨some 34, .len (.t 33), none⟩, ⟨some 35, .mv (.c (.int .i64 0)) false, none⟩])
  (.block 0 (L15_0)))
  (.seq (.reg [⟨some 52, .load 3 true (.t 8) false, none⟩, ⟨none, .store 3 (.t 2) (.t 52), none⟩, ⟨some 3, .mv (.c (.int .i64 0)) true, none⟩])
  (.ret))))))), [.cell 2 3, .t 3]⟩
theorem row15 : RowOk Tryz.prog 15 C15 := ⟨Tryz.f15, ⟨[], [], [], []⟩, lvOf [(0, [1, 2, 6, 8, 34, 35], 3)], Tryz.func15, by kernel_rfl, by kernel_rfl⟩
def B16_0 : C := .seq (.seq (.reg [⟨some 26, .mv (.t 7) false, none⟩, ⟨some 27, .fa 3 (.t 1), none⟩, ⟨some 28, .load 1 false (.t 27) false, none⟩, ⟨some 29, .len (.t 28), none⟩, ⟨some 30, .bin .lss (.t 26) (.t 29), none⟩])
  (.cond (.t 30) (.skip)
  (.exit 0)))
  (.seq (.block 1 (.seq (.reg [⟨some 33, .fa 3 (.t 1), none⟩, ⟨some 34, .load 1 false (.t 33) false, none⟩, ⟨some 35, .mv (.t 7) false, none⟩, ⟨some 36, .ia 6 (.t 34) (.t 35), none⟩, ⟨some 37, .load 6 true (.t 36) false, none⟩, ⟨some 8, .alloc [(.string ⟨#[]⟩), (.int .i64 0), (.int .i64 0), (.int .i64 0), (.int .i64 0), (.slice none 0 0)], none⟩, ⟨none, .store 6 (.t 8) (.t 37), none⟩])
  (.reg [⟨some 38, .mv (.t 6) true, none⟩, ⟨some 39, .load 6 true (.t 8) false, none⟩, ⟨some 40, .call 25 [(.t 39), (.c (.int .i64 1))] false, none⟩, ⟨some 41, .load 6 true (.t 8) false, none⟩, ⟨some 42, .call 25 [(.t 41), (.c (.int .i64 2))] false, none⟩, ⟨some 43, .bin .add (.t 40) (.t 42), none⟩, ⟨some 44, .load 6 true (.t 8) false, none⟩, ⟨some 45, .call 25 [(.t 44), (.c (.int .i64 3))] false, none⟩, ⟨some 46, .bin .add (.t 43) (.t 45), none⟩, ⟨some 47, .bsl 1 1 [(.int .i64 0)] [(0, 1, (.t 46))] false, none⟩, ⟨some 48, .app 1 8 (.t 38) (.t 47) false, none⟩, ⟨some 6, .mv (.t 48) true, none⟩])))
  (.reg [⟨some 31, .mv (.t 7) false, none⟩, ⟨some 32, .bin .add (.t 31) (.c (.int .i64 1)), none⟩, ⟨some 7, .mv (.t 32) true, none⟩]))
def L16_0 : C := .loop [1, 2, 6, 7] 2 B16_0
theorem go16_0 (s : Env × Bx) (nb) : evL tab ext nb L16_0 s = (loopIn nb [1, 2, 6, 7] 2 s).bind fun s0 => (evL tab ext nb B16_0 s0).bind (seqG tab ext nb L16_0) := eL_loop _ _ _
def B16_4 : C := .seq (.seq (.reg [⟨some 68, .mv (.t 14) false, none⟩, ⟨some 69, .mv (.t 6) false, none⟩, ⟨some 70, .len (.t 69), none⟩, ⟨some 71, .bin .lss (.t 68) (.t 70), none⟩])
  (.cond (.t 71) (.skip)
  (.exit 4)))
  (.seq (.block 5 (.seq (.reg [⟨some 75, .load 4 true (.t 1) false, none⟩, ⟨some 76, .mv (.t 6) false, none⟩, ⟨some 77, .mv (.t 14) false, none⟩, ⟨some 78, .call 40 [(.t 75), (.t 76), (.t 77)] false, none⟩, ⟨some 74, .mv (.t 78) false, none⟩, ⟨some 79, .ext (.t 74) 0, none⟩, ⟨some 80, .ext (.t 74) 1, none⟩, ⟨some 15, .mv (.t 79) true, none⟩, ⟨some 16, .mv (.t 80) true, none⟩])
  (.reg [⟨some 81, .fa 2 (.t 13), none⟩, ⟨some 82, .load 1 false (.t 81) true, none⟩, ⟨some 83, .mv (.t 15) false, none⟩, ⟨some 84, .bsl 1 1 [(.slice none 0 0)] [(0, 1, (.t 83))] false, none⟩, ⟨some 85, .app 1 24 (.t 82) (.t 84) false, none⟩, ⟨some 86, .fa 2 (.t 13), none⟩, ⟨none, .store 1 (.t 86) (.t 85), none⟩])))
  (.reg [⟨some 72, .mv (.t 14) false, none⟩, ⟨some 73, .bin .add (.t 72) (.c (.int .i64 1)), none⟩, ⟨some 14, .mv (.t 73) true, none⟩]))
def L16_4 : C := .loop [1, 2, 6, 13, 14] 3 B16_4
theorem go16_4 (s : Env × Bx) (nb) : evL tab ext nb L16_4 s = (loopIn nb [1, 2, 6, 13, 14] 3 s).bind fun s0 => (evL tab ext nb B16_4 s0).bind (seqG tab ext nb L16_4) := eL_loop _ _ _
def B16_2 : C := .seq (.seq (.reg [⟨some 49, .mv (.t 9) false, none⟩, ⟨some 50, .bin .lss (.t 49) (.c (.int .i64 200)), none⟩])
  (.cond (.t 50) (.skip)
  (.exit 2)))
  (.seq (.block 3 (.seq (.reg [⟨some 54, .load 4 true (.t 1) false, none⟩, ⟨some 55, .mv (.t 6) false, none⟩, ⟨some 56, .call 39 [(.t 54), (.t 55)] false, none⟩, ⟨some 53, .mv (.t 56) false, none⟩, ⟨some 57, .ext (.t 53) 0, none⟩, ⟨some 58, .ext (.t 53) 1, none⟩, ⟨some 59, .ext (.t 53) 2, none⟩, ⟨some 10, .mv (.t 57) true, none⟩, ⟨some 11, .mv (.t 58) true, none⟩, ⟨some 12, .mv (.t 59) true, none⟩])
  (.seq (.seq (.reg [⟨some 60, .mv (.t 12) false, none⟩, ⟨some 61, .bin .neq (.t 60) (.c (.int .i64 0)), none⟩])
  (.cond (.t 61) (.seq (.reg [⟨some 62, .build [(.bool false), (.slice none 0 0), (.slice none 0 0)] [], none⟩, ⟨some 63, .mv (.t 12) false, none⟩, ⟨none, .store 3 (.t 2) (.t 62), none⟩, ⟨some 3, .mv (.t 63) true, none⟩])
  (.ret))
  (.skip)))
  (.seq (.seq (.reg [⟨some 64, .mv (.t 11) false, none⟩, ⟨some 65, .un .not (.t 64), none⟩])
  (.cond (.t 65) (.seq (.reg [⟨some 66, .mv (.t 6) false, none⟩, ⟨some 67, .build [(.bool false), (.slice none 0 0), (.slice none 0 0)] [(0, 1, (.c (.bool true))), (1, 1, (.t 66))], none⟩, ⟨some 13, .alloc [(.bool false), (.slice none 0 0), (.slice none 0 0)], none⟩, ⟨none, .store 3 (.t 13) (.t 67), none⟩])
  (.seq (.seq (.reg [⟨some 14, .mv (.c (.int .i64 0)) true, none⟩])
  (.block 4 (L16_4)))
  (.seq (.reg [⟨some 87, .load 3 true (.t 13) false, none⟩, ⟨none, .store 3 (.t 2) (.t 87), none⟩, ⟨some 3, .mv (.c (.int .i64 0)) true, none⟩])
  (.ret))))
  (.skip)))
  (.reg [⟨some 88, .mv (.t 10) false, none⟩, ⟨some 6, .mv (.t 88) true, none⟩])))))
  (.reg [⟨some 51, .mv (.t 9) false, none⟩, ⟨some 52, .bin .add (.t 51) (.c (.int .i64 1)), none⟩, ⟨some 9, .mv (.t 52) true, none⟩]))
def L16_2 : C := .loop [1, 2, 6, 9] 2 B16_2
theorem go16_2 (s : Env × Bx) (nb) : evL tab ext nb L16_2 s = (loopIn nb [1, 2, 6, 9] 2 s).bind fun s0 => (evL tab ext nb B16_2 s0).bind (seqG tab ext nb L16_2) := eL_loop _ _ _
/-- swingbridge/swingbridgeref11.Analyze -/
def C16 : CFun := ⟨90, 1, .seq (.reg [⟨some 1, .box (.t 0), none⟩, ⟨some 2, .alloc [(.bool false), (.slice none 0 0), (.slice none 0 0)], none⟩, ⟨some 3, .mv (.c (.int .i64 0)) true, none⟩])
  (.seq (.seq (.reg [⟨some 18, .load 4 true (.t 1) false, none⟩, ⟨some 19, .call 38 [(.t 18)] false, none⟩, ⟨some 17, .mv (.t 19) false, none⟩, ⟨some 20, .ext (.t 17) 0, none⟩, ⟨some 21, .ext (.t 17) 1, none⟩, ⟨some 4, .mv (.t 20) true, none⟩, ⟨some 5, .mv (.t 21) true, none⟩])
  (.seq (.reg [⟨some 22, .mv (.t 5) false, none⟩, ⟨some 23, .bin .neq (.t 22) (.c (.int .i64 0)), none⟩])
  (.cond (.t 23) (.seq (.reg [⟨some 24, .build [(.bool false), (.slice none 0 0), (.slice none 0 0)] [], none⟩, ⟨some 25, .mv (.t 5) false, none⟩, ⟨none, .store 3 (.t 2) (.t 24), none⟩, ⟨some 3, .mv (.t 25) true, none⟩])
  (.ret))
  (.skip))))
  (.seq (.reg [⟨some 6, .mv (.c (.slice none 0 0)) true, none⟩])
  (.seq (.seq (.reg [⟨some 7, .mv (.c (.int .i64 0)) true, none⟩])
  (.block 0 (L16_0)))
  (.seq (.seq (.reg [⟨some 9, .mv (.c (.int .i64 0)) true, none⟩])
  (.block 2 (L16_2)))
  (.seq (.reg [⟨some 89, .build [(.bool false), (.slice none 0 0), (.slice none 0 0)] [], none⟩, ⟨none, .store 3 (.t 2) (.t 89), none⟩, ⟨some 3, .mv (.c (.int .i64 20)) true, none⟩])
  (.ret)))))), [.cell 2 3, .t 3]⟩
theorem row16 : RowOk Tryz.prog 16 C16 := ⟨Tryz.f16, ⟨[], [], [], []⟩, lvOf [(0, [1, 2, 6, 7], 2), (2, [1, 2, 6, 9], 2), (4, [1, 2, 6, 13, 14], 3)], Tryz.func16, by kernel_rfl, by kernel_rfl⟩
def B17_0 : C := .seq (.seq (.reg [⟨some 28, .mv (.t 5) false, none⟩, ⟨some 29, .fa 2 (.t 2), none⟩, ⟨some 30, .load 1 false (.t 29) false, none⟩, ⟨some 31, .len (.t 30), none⟩, ⟨some 32, .bin .lss (.t 28) (.t 31), none⟩])
  (.cond (.t 32) (.skip)
  (.exit 0)))
  (.seq (.block 1 (.seq (.reg [⟨some 35, .fa 2 (.t 2), none⟩, ⟨some 36, .load 1 false (.t 35) false, none⟩, ⟨some 37, .mv (.t 5) false, none⟩, ⟨some 38, .ia 1 (.t 36) (.t 37), none⟩, ⟨some 39, .load 1 false (.t 38) false, none⟩, ⟨some 40, .fa 2 (.t 3), none⟩, ⟨some 41, .load 1 false (.t 40) false, none⟩, ⟨some 42, .mv (.t 5) false, none⟩, ⟨some 43, .ia 1 (.t 41) (.t 42), none⟩, ⟨some 44, .load 1 false (.t 43) false, none⟩, ⟨some 45, .call 41 [(.t 39), (.t 44)] false, none⟩, ⟨some 46, .un .not (.t 45), none⟩])
  (.cond (.t 46) (.seq (.reg [⟨some 4, .mv (.c (.bool false)) true, none⟩])
  (.ret))
  (.skip))))
  (.reg [⟨some 33, .mv (.t 5) false, none⟩, ⟨some 34, .bin .add (.t 33) (.c (.int .i64 1)), none⟩, ⟨some 5, .mv (.t 34) true, none⟩]))
def L17_0 : C := .loop [2, 3, 5] 2 B17_0
theorem go17_0 (s : Env × Bx) (nb) : evL tab ext nb L17_0 s = (loopIn nb [2, 3, 5] 2 s).bind fun s0 => (evL tab ext nb B17_0 s0).bind (seqG tab ext nb L17_0) := eL_loop _ _ _
/-- swingbridge/swingbridgeref11.Same -/
def C17 : CFun := ⟨47, 2, .seq (.reg [⟨some 2, .box (.t 0), none⟩, ⟨some 3, .box (.t 1), none⟩, ⟨some 4, .mv (.c (.bool false)) true, none⟩])
  (.seq (.seq (.reg [⟨some 6, .fa 0 (.t 2), none⟩, ⟨some 7, .load 1 false (.t 6) false, none⟩, ⟨some 8, .fa 0 (.t 3), none⟩, ⟨some 9, .load 1 false (.t 8) false, none⟩, ⟨some 10, .eqb true (.t 7) (.t 9), none⟩, ⟨some 11, .mv (.t 10) false, none⟩, ⟨some 12, .fa 1 (.t 2), some (11, false)⟩, ⟨some 13, .load 1 false (.t 12) false, some (11, false)⟩, ⟨some 14, .fa 1 (.t 3), some (11, false)⟩, ⟨some 15, .load 1 false (.t 14) false, some (11, false)⟩, ⟨some 16, .call 41 [(.t 13), (.t 15)] false, some (11, false)⟩, ⟨some 17, .un .not (.t 16), some (11, false)⟩, ⟨some 18, .pick (.t 11) (.c (.bool true)) (.t 17), none⟩, ⟨some 19, .mv (.t 18) false, none⟩, ⟨some 20, .fa 2 (.t 2), some (19, false)⟩, ⟨some 21, .load 1 false (.t 20) false, some (19, false)⟩, ⟨some 22, .len (.t 21), some (19, false)⟩, ⟨some 23, .fa 2 (.t 3), some (19, false)⟩, ⟨some 24, .load 1 false (.t 23) false, some (19, false)⟩, ⟨some 25, .len (.t 24), some (19, false)⟩, ⟨some 26, .bin .neq (.t 22) (.t 25), some (19, false)⟩, ⟨some 27, .pick (.t 19) (.c (.bool true)) (.t 26), none⟩])
  (.cond (.t 27) (.seq (.reg [⟨some 4, .mv (.c (.bool false)) true, none⟩])
  (.ret))
  (.skip)))
  (.seq (.seq (.reg [⟨some 5, .mv (.c (.int .i64 0)) true, none⟩])
  (.block 0 (L17_0)))
  (.seq (.reg [⟨some 4, .mv (.c (.bool true)) true, none⟩])
  (.ret)))), [.t 4]⟩
theorem row17 : RowOk Tryz.prog 17 C17 := ⟨Tryz.f17, ⟨[], [], [], []⟩, lvOf [(0, [2, 3, 5], 2)], Tryz.func17, by kernel_rfl, by kernel_rfl⟩
def B18_0 : C := .seq (.reg [⟨some 32, .bin .lss (.t 31) (.t 30), none⟩])
  (.seq (.cond (.t 32) (.skip)
  (.exit 0))
  (.seq (.block 1 (.seq (.reg [⟨some 33, .mv (.t 31) false, none⟩, ⟨some 34, .ia 6 (.t 29) (.t 31), none⟩, ⟨some 35, .load 6 true (.t 34) false, none⟩, ⟨some 8, .alloc [(.string ⟨#[]⟩), (.int .i64 0), (.int .i64 0), (.int .i64 0), (.int .i64 0), (.slice none 0 0)], none⟩, ⟨some 7, .mv (.t 33) true, none⟩, ⟨none, .store 6 (.t 8) (.t 35), none⟩])
  (.seq (.reg [⟨some 36, .mv (.t 1) false, none⟩, ⟨some 37, .mv (.t 7) false, none⟩, ⟨some 38, .ia 1 (.t 36) (.t 37), none⟩, ⟨some 39, .load 1 false (.t 38) false, none⟩, ⟨some 40, .bin .lss (.t 39) (.c (.int .i64 1)), none⟩, ⟨some 41, .mv (.t 40) false, none⟩, ⟨some 42, .mv (.t 1) false, some (41, false)⟩, ⟨some 43, .mv (.t 7) false, some (41, false)⟩, ⟨some 44, .ia 1 (.t 42) (.t 43), some (41, false)⟩, ⟨some 45, .load 1 false (.t 44) false, some (41, false)⟩, ⟨some 46, .fa 2 (.t 8), some (41, false)⟩, ⟨some 47, .load 1 false (.t 46) false, some (41, false)⟩, ⟨some 48, .bin .gtr (.t 45) (.t 47), some (41, false)⟩, ⟨some 49, .pick (.t 41) (.c (.bool true)) (.t 48), none⟩])
  (.cond (.t 49) (.seq (.reg [⟨some 4, .mv (.c (.bool false)) true, none⟩])
  (.ret))
  (.skip)))))
  (.reg [⟨some 50, .bin .add (.t 31) (.c (.int .i64 1)), none⟩, ⟨some 31, .mv (.t 50) false, none⟩])))
def L18_0 : C := .loop [1, 2, 29, 30, 31] 1 B18_0
theorem go18_0 (s : Env × Bx) (nb) : evL tab ext nb L18_0 s = (loopIn nb [1, 2, 29, 30, 31] 1 s).bind fun s0 => (evL tab ext nb B18_0 s0).bind (seqG tab ext nb L18_0) := eL_loop _ _ _
def B18_2 : C := .seq (.reg [⟨some 54, .bin .lss (.t 53) (.t 52), none⟩])
  (.seq (.cond (.t 54) (.skip)
  (.exit 2))
  (.seq (.block 3 (.seq (.reg [⟨some 55, .mv (.t 53) false, none⟩, ⟨some 56, .ia 1 (.t 51) (.t 53), none⟩, ⟨some 57, .load 1 false (.t 56) false, none⟩, ⟨some 9, .mv (.t 55) true, none⟩, ⟨some 10, .mv (.t 57) true, none⟩])
  (.seq (.reg [⟨some 59, .load 4 true (.t 2) false, none⟩, ⟨some 60, .mv (.t 1) false, none⟩, ⟨some 61, .mv (.t 9) false, none⟩, ⟨some 62, .call 9 [(.t 59), (.t 60), (.t 61)] false, none⟩, ⟨some 58, .mv (.t 62) false, none⟩, ⟨some 63, .ext (.t 58) 0, none⟩, ⟨some 64, .ext (.t 58) 1, none⟩, ⟨some 11, .mv (.t 63) true, none⟩, ⟨some 12, .mv (.t 64) true, none⟩])
  (.seq (.reg [⟨some 65, .mv (.t 12) false, none⟩, ⟨some 66, .un .not (.t 65), none⟩, ⟨some 67, .mv (.t 66) false, none⟩, ⟨some 68, .mv (.t 11) false, some (67, false)⟩, ⟨some 69, .mv (.t 10) false, some (67, false)⟩, ⟨some 70, .bin .gtr (.t 68) (.t 69), some (67, false)⟩, ⟨some 71, .pick (.t 67) (.c (.bool true)) (.t 70), none⟩])
  (.cond (.t 71) (.seq (.reg [⟨some 4, .mv (.c (.bool false)) true, none⟩])
  (.ret))
  (.skip))))))
  (.reg [⟨some 72, .bin .add (.t 53) (.c (.int .i64 1)), none⟩, ⟨some 53, .mv (.t 72) false, none⟩])))
def L18_2 : C := .loop [1, 2, 51, 52, 53] 1 B18_2
theorem go18_2 (s : Env × Bx) (nb) : evL tab ext nb L18_2 s = (loopIn nb [1, 2, 51, 52, 53] 1 s).bind fun s0 => (evL tab ext nb B18_2 s0).bind (seqG tab ext nb L18_2) := eL_loop _ _ _
/-- swingbridge/admit.Holds -/
def C18 : CFun := ⟨73, 2, .seq (.reg [⟨some 2, .box (.t 0), none⟩, ⟨some 4, .mv (.c (.bool false)) true, none⟩])
  (.seq (.seq (.reg [⟨some 14, .load 4 true (.t 2) false, none⟩, ⟨some 15, .call 26 [(.t 14)] false, none⟩, ⟨some 13, .mv (.t 15) false, none⟩, ⟨some 16, .ext (.t 13) 0, none⟩, ⟨some 17, .ext (.t 13) 1, none⟩, ⟨some 5, .mv (.t 16) true, none⟩, ⟨some 6, .mv (.t 17) true, none⟩])
  (.seq (.reg [⟨some 18, .mv (.t 6) false, none⟩, ⟨some 19, .bin .neq (.t 18) (.c (.int .i64 0)), none⟩, ⟨some 20, .mv (.t 19) false, none⟩, ⟨some 21, .mv (.t 1) false, some (20, false)⟩, ⟨some 22, .len (.t 21), some (20, false)⟩, ⟨some 23, .fa 3 (.t 2), some (20, false)⟩, ⟨some 24, .load 1 false (.t 23) false, some (20, false)⟩, ⟨some 25, .len (.t 24), some (20, false)⟩, ⟨some 26, .bin .neq (.t 22) (.t 25), some (20, false)⟩, ⟨some 27, .pick (.t 20) (.c (.bool true)) (.t 26), none⟩])
  (.cond (.t 27) (.seq (.reg [⟨some 4, .mv (.c (.bool false)) true, none⟩])
  (.ret))
  (.skip))))
  (.seq (.seq (.reg [⟨some 28, .fa 3 (.t 2), none⟩, ⟨some 29, .load 1 false (.t 28) false, none⟩, ⟨some 30, .len (.t 29), none⟩, ⟨some 31, .mv (.c (.int .i64 0)) false, none⟩])
  (.block 0 (L18_0)))
  (.seq (.seq (.reg [⟨some 51, .mv (.t 1) false, none⟩, ⟨some 52, .len (.t 51), none⟩, ⟨some 53, .mv (.c (.int .i64 0)) false, none⟩])
  (.block 2 (L18_2)))
  (.seq (.reg [⟨some 4, .mv (.c (.bool true)) true, none⟩])
  (.ret))))), [.t 4]⟩
theorem row18 : RowOk Tryz.prog 18 C18 := ⟨Tryz.f18, ⟨[], [], [], []⟩, lvOf [(0, [1, 2, 29, 30, 31], 1), (2, [1, 2, 51, 52, 53], 1)], Tryz.func18, by kernel_rfl, by kernel_rfl⟩
def B19_0 : C := .seq (.seq (.reg [⟨some 20, .mv (.t 5) false, none⟩, ⟨some 21, .mv (.t 1) false, none⟩, ⟨some 22, .len (.t 21), none⟩, ⟨some 23, .bin .lss (.t 20) (.t 22), none⟩])
  (.cond (.t 23) (.skip)
  (.exit 0)))
  (.seq (.block 1 (.seq (.reg [⟨some 26, .mv (.t 1) false, none⟩, ⟨some 27, .mv (.t 5) false, none⟩, ⟨some 28, .ia 1 (.t 26) (.t 27), none⟩, ⟨some 29, .load 1 false (.t 28) false, none⟩, ⟨some 30, .bin .lss (.t 29) (.c (.int .i64 1)), none⟩, ⟨some 31, .mv (.t 30) false, none⟩, ⟨some 32, .mv (.t 1) false, some (31, false)⟩, ⟨some 33, .mv (.t 5) false, some (31, false)⟩, ⟨some 34, .ia 1 (.t 32) (.t 33), some (31, false)⟩, ⟨some 35, .load 1 false (.t 34) false, some (31, false)⟩, ⟨some 36, .fa 3 (.t 2), some (31, false)⟩, ⟨some 37, .load 1 false (.t 36) false, some (31, false)⟩, ⟨some 38, .mv (.t 5) false, some (31, false)⟩, ⟨some 39, .ia 6 (.t 37) (.t 38), some (31, false)⟩, ⟨some 40, .fa 2 (.t 39), some (31, false)⟩, ⟨some 41, .load 1 false (.t 40) false, some (31, false)⟩, ⟨some 42, .bin .gtr (.t 35) (.t 41), some (31, false)⟩, ⟨some 43, .pick (.t 31) (.c (.bool true)) (.t 42), none⟩])
  (.cond (.t 43) (.seq (.reg [⟨some 4, .mv (.c (.bool false)) true, none⟩])
  (.ret))
  (.skip))))
  (.reg [⟨some 24, .mv (.t 5) false, none⟩, ⟨some 25, .bin .add (.t 24) (.c (.int .i64 1)), none⟩, ⟨some 5, .mv (.t 25) true, none⟩]))
def L19_0 : C := .loop [1, 2, 5] 1 B19_0
theorem go19_0 (s : Env × Bx) (nb) : evL tab ext nb L19_0 s = (loopIn nb [1, 2, 5] 1 s).bind fun s0 => (evL tab ext nb B19_0 s0).bind (seqG tab ext nb L19_0) := eL_loop _ _ _
def B19_2 : C := .seq (.seq (.reg [⟨some 44, .mv (.t 6) false, none⟩, ⟨some 45, .mv (.t 1) false, none⟩, ⟨some 46, .len (.t 45), none⟩, ⟨some 47, .bin .lss (.t 44) (.t 46), none⟩])
  (.cond (.t 47) (.skip)
  (.exit 2)))
  (.seq (.block 3 (.seq (.reg [⟨some 51, .load 4 true (.t 2) false, none⟩, ⟨some 52, .mv (.t 1) false, none⟩, ⟨some 53, .mv (.t 6) false, none⟩, ⟨some 54, .call 10 [(.t 51), (.t 52), (.t 53)] false, none⟩, ⟨some 50, .mv (.t 54) false, none⟩, ⟨some 55, .ext (.t 50) 0, none⟩, ⟨some 56, .ext (.t 50) 1, none⟩, ⟨some 7, .mv (.t 55) true, none⟩, ⟨some 8, .mv (.t 56) true, none⟩])
  (.seq (.reg [⟨some 57, .mv (.t 8) false, none⟩, ⟨some 58, .un .not (.t 57), none⟩, ⟨some 59, .mv (.t 58) false, none⟩, ⟨some 60, .mv (.t 7) false, some (59, false)⟩, ⟨some 61, .mv (.t 1) false, some (59, false)⟩, ⟨some 62, .mv (.t 6) false, some (59, false)⟩, ⟨some 63, .ia 1 (.t 61) (.t 62), some (59, false)⟩, ⟨some 64, .load 1 false (.t 63) false, some (59, false)⟩, ⟨some 65, .bin .gtr (.t 60) (.t 64), some (59, false)⟩, ⟨some 66, .pick (.t 59) (.c (.bool true)) (.t 65), none⟩])
  (.cond (.t 66) (.seq (.reg [⟨some 4, .mv (.c (.bool false)) true, none⟩])
  (.ret))
  (.skip)))))
  (.reg [⟨some 48, .mv (.t 6) false, none⟩, ⟨some 49, .bin .add (.t 48) (.c (.int .i64 1)), none⟩, ⟨some 6, .mv (.t 49) true, none⟩]))
def L19_2 : C := .loop [1, 2, 6] 1 B19_2
theorem go19_2 (s : Env × Bx) (nb) : evL tab ext nb L19_2 s = (loopIn nb [1, 2, 6] 1 s).bind fun s0 => (evL tab ext nb B19_2 s0).bind (seqG tab ext nb L19_2) := eL_loop _ _ _
/-- swingbridge/swingbridgeref11.Holds -/
def C19 : CFun := ⟨67, 2, .seq (.reg [⟨some 2, .box (.t 0), none⟩, ⟨some 4, .mv (.c (.bool false)) true, none⟩])
  (.seq (.seq (.reg [⟨some 9, .load 4 true (.t 2) false, none⟩, ⟨some 10, .call 42 [(.t 9)] false, none⟩, ⟨some 11, .un .not (.t 10), none⟩, ⟨some 12, .mv (.t 11) false, none⟩, ⟨some 13, .mv (.t 1) false, some (12, false)⟩, ⟨some 14, .len (.t 13), some (12, false)⟩, ⟨some 15, .fa 3 (.t 2), some (12, false)⟩, ⟨some 16, .load 1 false (.t 15) false, some (12, false)⟩, ⟨some 17, .len (.t 16), some (12, false)⟩, ⟨some 18, .bin .neq (.t 14) (.t 17), some (12, false)⟩, ⟨some 19, .pick (.t 12) (.c (.bool true)) (.t 18), none⟩])
  (.cond (.t 19) (.seq (.reg [⟨some 4, .mv (.c (.bool false)) true, none⟩])
  (.ret))
  (.skip)))
  (.seq (.seq (.reg [⟨some 5, .mv (.c (.int .i64 0)) true, none⟩])
  (.block 0 (L19_0)))
  (.seq (.seq (.reg [⟨some 6, .mv (.c (.int .i64 0)) true, none⟩])
  (.block 2 (L19_2)))
  (.seq (.reg [⟨some 4, .mv (.c (.bool true)) true, none⟩])
  (.ret))))), [.t 4]⟩
theorem row19 : RowOk Tryz.prog 19 C19 := ⟨Tryz.f19, ⟨[], [], [], []⟩, lvOf [(0, [1, 2, 5], 1), (2, [1, 2, 6], 1)], Tryz.func19, by kernel_rfl, by kernel_rfl⟩
/-- swingbridge/swingbridgelaw17.two -/
def C20 : CFun := ⟨31, 5, .seq (.reg [⟨some 10, .alloc [(.int .i64 0), (.slice none 0 0), (.slice none 0 0), (.slice none 0 0)], none⟩])
  (.seq (.reg [⟨some 12, .mv (.t 0) false, none⟩, ⟨some 13, .mv (.t 1) false, none⟩, ⟨some 14, .build [(.int .i64 0), (.int .i64 0), (.int .i64 0)] [(0, 1, (.c (.int .i64 1))), (1, 1, (.t 13))], none⟩, ⟨some 15, .mv (.t 2) false, none⟩, ⟨some 16, .build [(.int .i64 0), (.int .i64 0), (.int .i64 0)] [(0, 1, (.c (.int .i64 3))), (1, 1, (.t 15))], none⟩, ⟨some 17, .bsl 3 2 [(.int .i64 0), (.int .i64 0), (.int .i64 0), (.int .i64 0), (.int .i64 0), (.int .i64 0)] [(0, 3, (.t 14)), (3, 3, (.t 16))] false, none⟩, ⟨some 18, .call 43 [(.t 12), (.t 17)] true, none⟩, ⟨some 11, .alloc [(.int .i64 0), (.slice none 0 0), (.slice none 0 0), (.slice none 0 0)], none⟩, ⟨none, .store 4 (.t 11) (.t 18), none⟩])
  (.seq (.reg [⟨some 19, .fa 3 (.t 11), none⟩, ⟨some 20, .load 1 false (.t 19) true, none⟩, ⟨some 21, .mv (.t 3) false, none⟩, ⟨some 22, .build [(.int .i64 0), (.int .i64 0), (.int .i64 0)] [(0, 1, (.c (.int .i64 1))), (1, 1, (.t 21))], none⟩, ⟨some 23, .mv (.t 4) false, none⟩, ⟨some 24, .build [(.int .i64 0), (.int .i64 0), (.int .i64 0)] [(0, 1, (.c (.int .i64 3))), (1, 1, (.t 23))], none⟩, ⟨some 25, .bsl 3 2 [(.int .i64 0), (.int .i64 0), (.int .i64 0), (.int .i64 0), (.int .i64 0), (.int .i64 0)] [(0, 3, (.t 22)), (3, 3, (.t 24))] false, none⟩, ⟨some 26, .build [(.string ⟨#[]⟩), (.int .i64 0), (.int .i64 0), (.int .i64 0), (.int .i64 0), (.slice none 0 0)] [(0, 1, (.c (.string ⟨#[98]⟩))), (1, 1, (.c (.int .i64 200))), (2, 1, (.c (.int .i64 200))), (3, 1, (.c (.int .i64 2))), (5, 1, (.t 25))], none⟩, ⟨some 27, .bsl 6 1 [(.string ⟨#[]⟩), (.int .i64 0), (.int .i64 0), (.int .i64 0), (.int .i64 0), (.slice none 0 0)] [(0, 6, (.t 26))] false, none⟩, ⟨some 28, .app 6 72 (.t 20) (.t 27) false, none⟩, ⟨some 29, .fa 3 (.t 11), none⟩, ⟨none, .store 1 (.t 29) (.t 28), none⟩])
  (.seq (.reg [⟨some 30, .load 4 true (.t 11) false, none⟩, ⟨none, .store 4 (.t 10) (.t 30), none⟩])
  (.ret)))), [.cell 10 4]⟩
theorem row20 : RowOk Tryz.prog 20 C20 := ⟨Tryz.f20, ⟨[], [], [43], []⟩, lvOf [], Tryz.func20, by kernel_rfl, by kernel_rfl⟩
def B21_0 : C := .seq (.reg [⟨some 23, .bin .lss (.t 22) (.t 21), none⟩])
  (.seq (.cond (.t 23) (.skip)
  (.exit 0))
  (.seq (.block 1 (.seq (.reg [⟨some 24, .ia 1 (.t 20) (.t 22), none⟩, ⟨some 25, .load 1 false (.t 24) false, none⟩, ⟨some 12, .mv (.t 25) true, none⟩])
  (.reg [⟨some 26, .mv (.t 10) false, none⟩, ⟨some 27, .mv (.t 12) false, none⟩, ⟨some 28, .bin .add (.t 26) (.t 27), none⟩, ⟨some 10, .mv (.t 28) true, none⟩])))
  (.reg [⟨some 29, .bin .add (.t 22) (.c (.int .i64 1)), none⟩, ⟨some 22, .mv (.t 29) false, none⟩])))
def L21_0 : C := .loop [9, 10, 20, 21, 22] 1 B21_0
theorem go21_0 (s : Env × Bx) (nb) : evL tab ext nb L21_0 s = (loopIn nb [9, 10, 20, 21, 22] 1 s).bind fun s0 => (evL tab ext nb B21_0 s0).bind (seqG tab ext nb L21_0) := eL_loop _ _ _
/-- swingbridge/wait.Sum -/
def C21 : CFun := ⟨32, 3, .seq (.reg [⟨some 3, .box (.t 0), none⟩, ⟨some 6, .mv (.c (.int .i64 0)) true, none⟩, ⟨some 7, .mv (.c (.bool false)) true, none⟩])
  (.seq (.reg [⟨some 14, .load 4 true (.t 3) false, none⟩, ⟨some 15, .mv (.t 1) false, none⟩, ⟨some 16, .mv (.t 2) false, none⟩, ⟨some 17, .call 37 [(.t 14), (.t 15), (.t 16)] false, none⟩, ⟨some 13, .mv (.t 17) false, none⟩, ⟨some 18, .ext (.t 13) 0, none⟩, ⟨some 19, .ext (.t 13) 1, none⟩, ⟨some 8, .mv (.t 18) true, none⟩, ⟨some 9, .mv (.t 19) true, none⟩])
  (.seq (.reg [⟨some 10, .mv (.c (.int .i64 0)) true, none⟩])
  (.seq (.seq (.reg [⟨some 20, .mv (.t 8) false, none⟩, ⟨some 21, .len (.t 20), none⟩, ⟨some 22, .mv (.c (.int .i64 0)) false, none⟩])
  (.block 0 (L21_0)))
  (.seq (.reg [⟨some 30, .mv (.t 10) false, none⟩, ⟨some 31, .mv (.t 9) false, none⟩, ⟨some 6, .mv (.t 30) true, none⟩, ⟨some 7, .mv (.t 31) true, none⟩])
  (.ret))))), [.t 6, .t 7]⟩
theorem row21 : RowOk Tryz.prog 21 C21 := ⟨Tryz.f21, ⟨[], [], [], []⟩, lvOf [(0, [9, 10, 20, 21, 22], 1)], Tryz.func21, by kernel_rfl, by kernel_rfl⟩
/-- swingbridge/demand.Runs -/
def C22 : CFun := ⟨5, 1, .seq (.reg [⟨some 1, .box (.t 0), none⟩, ⟨some 2, .mv (.c (.int .i64 0)) true, none⟩])
  (.seq (.reg [⟨some 3, .load 6 true (.t 1) false, none⟩, ⟨some 4, .call 44 [(.t 3), (.c (.int .i64 1))] false, none⟩, ⟨some 2, .mv (.t 4) true, none⟩])
  (.ret)), [.t 2]⟩
theorem row22 : RowOk Tryz.prog 22 C22 := ⟨Tryz.f22, ⟨[], [], [], []⟩, lvOf [], Tryz.func22, by kernel_rfl, by kernel_rfl⟩
/-- swingbridge/demand.Sleeps -/
def C23 : CFun := ⟨5, 1, .seq (.reg [⟨some 1, .box (.t 0), none⟩, ⟨some 2, .mv (.c (.int .i64 0)) true, none⟩])
  (.seq (.reg [⟨some 3, .load 6 true (.t 1) false, none⟩, ⟨some 4, .call 44 [(.t 3), (.c (.int .i64 2))] false, none⟩, ⟨some 2, .mv (.t 4) true, none⟩])
  (.ret)), [.t 2]⟩
theorem row23 : RowOk Tryz.prog 23 C23 := ⟨Tryz.f23, ⟨[], [], [], []⟩, lvOf [], Tryz.func23, by kernel_rfl, by kernel_rfl⟩
def B24_0 : C := .seq (.seq (.reg [⟨some 19, .mv (.t 11) false, none⟩, ⟨some 20, .mv (.t 8) false, none⟩, ⟨some 21, .len (.t 20), none⟩, ⟨some 22, .bin .lss (.t 19) (.t 21), none⟩])
  (.cond (.t 22) (.skip)
  (.exit 0)))
  (.seq (.block 1 (.reg [⟨some 25, .mv (.t 10) false, none⟩, ⟨some 26, .mv (.t 8) false, none⟩, ⟨some 27, .mv (.t 11) false, none⟩, ⟨some 28, .ia 1 (.t 26) (.t 27), none⟩, ⟨some 29, .load 1 false (.t 28) false, none⟩, ⟨some 30, .bin .add (.t 25) (.t 29), none⟩, ⟨some 10, .mv (.t 30) true, none⟩]))
  (.reg [⟨some 23, .mv (.t 11) false, none⟩, ⟨some 24, .bin .add (.t 23) (.c (.int .i64 1)), none⟩, ⟨some 11, .mv (.t 24) true, none⟩]))
def L24_0 : C := .loop [8, 9, 10, 11] 1 B24_0
theorem go24_0 (s : Env × Bx) (nb) : evL tab ext nb L24_0 s = (loopIn nb [8, 9, 10, 11] 1 s).bind fun s0 => (evL tab ext nb B24_0 s0).bind (seqG tab ext nb L24_0) := eL_loop _ _ _
/-- swingbridge/swingbridgeref11.WaitSum -/
def C24 : CFun := ⟨33, 3, .seq (.reg [⟨some 3, .box (.t 0), none⟩, ⟨some 6, .mv (.c (.int .i64 0)) true, none⟩, ⟨some 7, .mv (.c (.bool false)) true, none⟩])
  (.seq (.reg [⟨some 13, .load 4 true (.t 3) false, none⟩, ⟨some 14, .mv (.t 1) false, none⟩, ⟨some 15, .mv (.t 2) false, none⟩, ⟨some 16, .call 40 [(.t 13), (.t 14), (.t 15)] false, none⟩, ⟨some 12, .mv (.t 16) false, none⟩, ⟨some 17, .ext (.t 12) 0, none⟩, ⟨some 18, .ext (.t 12) 1, none⟩, ⟨some 8, .mv (.t 17) true, none⟩, ⟨some 9, .mv (.t 18) true, none⟩])
  (.seq (.reg [⟨some 10, .mv (.c (.int .i64 0)) true, none⟩])
  (.seq (.seq (.reg [⟨some 11, .mv (.c (.int .i64 0)) true, none⟩])
  (.block 0 (L24_0)))
  (.seq (.reg [⟨some 31, .mv (.t 10) false, none⟩, ⟨some 32, .mv (.t 9) false, none⟩, ⟨some 6, .mv (.t 31) true, none⟩, ⟨some 7, .mv (.t 32) true, none⟩])
  (.ret))))), [.t 6, .t 7]⟩
theorem row24 : RowOk Tryz.prog 24 C24 := ⟨Tryz.f24, ⟨[], [], [], []⟩, lvOf [(0, [8, 9, 10, 11], 1)], Tryz.func24, by kernel_rfl, by kernel_rfl⟩
def B25_0 : C := .seq (.seq (.reg [⟨some 7, .mv (.t 6) false, none⟩, ⟨some 8, .fa 5 (.t 2), none⟩, ⟨some 9, .load 1 false (.t 8) false, none⟩, ⟨some 10, .len (.t 9), none⟩, ⟨some 11, .bin .lss (.t 7) (.t 10), none⟩])
  (.cond (.t 11) (.skip)
  (.exit 0)))
  (.seq (.block 1 (.seq (.reg [⟨some 14, .fa 5 (.t 2), none⟩, ⟨some 15, .load 1 false (.t 14) false, none⟩, ⟨some 16, .mv (.t 6) false, none⟩, ⟨some 17, .ia 3 (.t 15) (.t 16), none⟩, ⟨some 18, .fa 0 (.t 17), none⟩, ⟨some 19, .load 1 false (.t 18) false, none⟩, ⟨some 20, .mv (.t 1) false, none⟩, ⟨some 21, .bin .eql (.t 19) (.t 20), none⟩])
  (.cond (.t 21) (.reg [⟨some 22, .mv (.t 5) false, none⟩, ⟨some 23, .fa 5 (.t 2), none⟩, ⟨some 24, .load 1 false (.t 23) false, none⟩, ⟨some 25, .mv (.t 6) false, none⟩, ⟨some 26, .ia 3 (.t 24) (.t 25), none⟩, ⟨some 27, .fa 1 (.t 26), none⟩, ⟨some 28, .load 1 false (.t 27) false, none⟩, ⟨some 29, .bin .add (.t 22) (.t 28), none⟩, ⟨some 5, .mv (.t 29) true, none⟩])
  (.skip))))
  (.reg [⟨some 12, .mv (.t 6) false, none⟩, ⟨some 13, .bin .add (.t 12) (.c (.int .i64 1)), none⟩, ⟨some 6, .mv (.t 13) true, none⟩]))
def L25_0 : C := .loop [1, 2, 5, 6] 1 B25_0
theorem go25_0 (s : Env × Bx) (nb) : evL tab ext nb L25_0 s = (loopIn nb [1, 2, 5, 6] 1 s).bind fun s0 => (evL tab ext nb B25_0 s0).bind (seqG tab ext nb L25_0) := eL_loop _ _ _
/-- swingbridge/swingbridgeref11.All -/
def C25 : CFun := ⟨31, 2, .seq (.reg [⟨some 2, .box (.t 0), none⟩, ⟨some 4, .mv (.c (.int .i64 0)) true, none⟩])
  (.seq (.reg [⟨some 5, .mv (.c (.int .i64 0)) true, none⟩])
  (.seq (.seq (.reg [⟨some 6, .mv (.c (.int .i64 0)) true, none⟩])
  (.block 0 (L25_0)))
  (.seq (.reg [⟨some 30, .mv (.t 5) false, none⟩, ⟨some 4, .mv (.t 30) true, none⟩])
  (.ret)))), [.t 4]⟩
theorem row25 : RowOk Tryz.prog 25 C25 := ⟨Tryz.f25, ⟨[], [], [], []⟩, lvOf [(0, [1, 2, 5, 6], 1)], Tryz.func25, by kernel_rfl, by kernel_rfl⟩
def B26_1 : C := .seq (.reg [⟨some 29, .bin .lss (.t 28) (.t 27), none⟩])
  (.seq (.cond (.t 29) (.skip)
  (.exit 1))
  (.seq (.block 2 (.seq (.reg [⟨some 30, .mv (.t 28) false, none⟩, ⟨some 4, .mv (.t 30) true, none⟩])
  (.seq (.reg [⟨some 31, .load 4 true (.t 1) false, none⟩, ⟨some 32, .mv (.t 4) false, none⟩, ⟨some 33, .call 47 [(.t 31), (.t 32)] false, none⟩, ⟨some 5, .mv (.t 33) true, none⟩])
  (.seq (.reg [⟨some 34, .mv (.t 5) false, none⟩, ⟨some 35, .bin .neq (.t 34) (.c (.int .i64 0)), none⟩])
  (.cond (.t 35) (.seq (.reg [⟨some 36, .mv (.t 4) false, none⟩, ⟨some 37, .mv (.t 5) false, none⟩, ⟨some 2, .mv (.t 36) true, none⟩, ⟨some 3, .mv (.t 37) true, none⟩])
  (.ret))
  (.skip))))))
  (.reg [⟨some 38, .bin .add (.t 28) (.c (.int .i64 1)), none⟩, ⟨some 28, .mv (.t 38) false, none⟩])))
def L26_1 : C := .loop [1, 27, 28] 1 B26_1
theorem go26_1 (s : Env × Bx) (nb) : evL tab ext nb L26_1 s = (loopIn nb [1, 27, 28] 1 s).bind fun s0 => (evL tab ext nb B26_1 s0).bind (seqG tab ext nb L26_1) := eL_loop _ _ _
/-- swingbridge/task.Check -/
def C26 : CFun := ⟨39, 1, .seq (.reg [⟨some 1, .box (.t 0), none⟩, ⟨some 2, .mv (.c (.int .i64 0)) true, none⟩, ⟨some 3, .mv (.c (.int .i64 0)) true, none⟩])
  (.seq (.block 0 (.seq (.reg [⟨some 7, .fa 0 (.t 1), none⟩, ⟨some 8, .load 1 false (.t 7) false, none⟩, ⟨some 9, .call 45 [(.t 8), (.c (.int .i64 1)), (.c (.int .i64 3))] false, none⟩, ⟨some 10, .un .not (.t 9), none⟩, ⟨some 6, .mv (.t 10) true, none⟩])
  (.cond (.t 6) (.seq (.reg [⟨some 2, .mv (.c (.int .i64 (-1))) true, none⟩, ⟨some 3, .mv (.c (.int .i64 10)) true, none⟩])
  (.ret))
  (.seq (.reg [⟨some 12, .load 4 true (.t 1) false, none⟩, ⟨some 13, .call 46 [(.t 12)] false, none⟩, ⟨some 14, .un .not (.t 13), none⟩, ⟨some 11, .mv (.t 14) true, none⟩])
  (.cond (.t 11) (.seq (.reg [⟨some 2, .mv (.c (.int .i64 (-1))) true, none⟩, ⟨some 3, .mv (.c (.int .i64 16)) true, none⟩])
  (.ret))
  (.seq (.reg [⟨some 16, .fa 3 (.t 1), none⟩, ⟨some 17, .load 1 false (.t 16) false, none⟩, ⟨some 18, .len (.t 17), none⟩, ⟨some 19, .bin .gtr (.t 18) (.c (.int .i64 6)), none⟩, ⟨some 15, .mv (.t 19) true, none⟩])
  (.cond (.t 15) (.seq (.reg [⟨some 2, .mv (.c (.int .i64 (-1))) true, none⟩, ⟨some 3, .mv (.c (.int .i64 11)) true, none⟩])
  (.ret))
  (.seq (.reg [⟨some 21, .fa 3 (.t 1), none⟩, ⟨some 22, .load 1 false (.t 21) false, none⟩, ⟨some 23, .len (.t 22), none⟩, ⟨some 24, .bin .eql (.t 23) (.c (.int .i64 0)), none⟩, ⟨some 20, .mv (.t 24) true, none⟩])
  (.cond (.t 20) (.seq (.reg [⟨some 2, .mv (.c (.int .i64 (-1))) true, none⟩, ⟨some 3, .mv (.c (.int .i64 14)) true, none⟩])
  (.ret))
  (.skip))))))))))
  (.seq (.seq (.reg [⟨some 25, .fa 3 (.t 1), none⟩, ⟨some 26, .load 1 false (.t 25) false, none⟩, ⟨some 27, .len (.t 26), none⟩, ⟨some 28, .mv (.c (.int .i64 0)) false, none⟩])
  (.block 1 (L26_1)))
  (.seq (.reg [⟨some 2, .mv (.c (.int .i64 (-1))) true, none⟩, ⟨some 3, .mv (.c (.int .i64 0)) true, none⟩])
  (.ret)))), [.t 2, .t 3]⟩
theorem row26 : RowOk Tryz.prog 26 C26 := ⟨Tryz.f26, ⟨[], [], [], []⟩, lvOf [(1, [1, 27, 28], 1)], Tryz.func26, by kernel_rfl, by kernel_rfl⟩
/-- swingbridge/bound.Others$1 -/
def C27 : CFun := ⟨5, 1, .seq (.reg [⟨some 2, .mv (.c (.bool false)) true, none⟩])
  (.seq (.reg [⟨some 3, .mv (.t 0) false, none⟩, ⟨some 4, .bin .lss (.t 3) (.c (.int .i64 0)), none⟩, ⟨some 2, .mv (.t 4) true, none⟩])
  (.ret)), [.t 2]⟩
theorem row27 : RowOk Tryz.prog 27 C27 := ⟨Tryz.f27, ⟨[], [], [], []⟩, lvOf [], Tryz.func27, by kernel_rfl, by kernel_rfl⟩
/-- slices.ContainsFunc[[]int,int] -/
def C28 : CFun := ⟨9, 2, .seq (.reg [⟨some 4, .mv (.c (.bool false)) true, none⟩])
  (.seq (.reg [⟨some 5, .mv (.t 0) false, none⟩, ⟨some 6, .mv (.t 1) false, none⟩, ⟨some 7, .calli 48 [(.t 5), (.t 6)], none⟩, ⟨some 8, .bin .geq (.t 7) (.c (.int .i64 0)), none⟩, ⟨some 4, .mv (.t 8) true, none⟩])
  (.ret)), [.t 4]⟩
theorem row28 : RowOk Tryz.prog 28 C28 := ⟨Tryz.f28, ⟨[], [], [], []⟩, lvOf [], Tryz.func28, by kernel_rfl, by kernel_rfl⟩
/-- swingbridge/count.Work -/
def C29 : CFun := ⟨19, 4, .seq (.reg [⟨some 8, .mv (.c (.int .i64 0)) true, none⟩])
  (.seq (.reg [⟨some 9, .mv (.t 0) false, none⟩, ⟨some 10, .mv (.t 1) false, none⟩, ⟨some 11, .mv (.t 2) false, none⟩, ⟨some 12, .call 51 [(.t 9), (.t 10), (.t 11)] false, none⟩, ⟨some 13, .mv (.t 3) false, none⟩, ⟨some 14, .mxn true [(.t 13), (.c (.int .i64 0))], none⟩, ⟨some 15, .call 50 [(.t 12), (.t 14)] false, none⟩, ⟨some 16, .ext (.t 15) 0, none⟩, ⟨some 17, .ext (.t 15) 1, none⟩, ⟨some 18, .call 49 [(.t 16), (.t 17)] false, none⟩, ⟨some 8, .mv (.t 18) true, none⟩])
  (.ret)), [.t 8]⟩
theorem row29 : RowOk Tryz.prog 29 C29 := ⟨Tryz.f29, ⟨[], [], [], []⟩, lvOf [], Tryz.func29, by kernel_rfl, by kernel_rfl⟩
/-- swingbridge/swingbridgeref11.There -/
def C31 : CFun := ⟨18, 2, .seq (.reg [⟨some 2, .box (.t 0), none⟩, ⟨some 4, .mv (.c (.bool false)) true, none⟩])
  (.seq (.reg [⟨some 5, .load 4 true (.t 2) false, none⟩, ⟨some 6, .call 42 [(.t 5)] false, none⟩, ⟨some 7, .mv (.t 6) false, none⟩, ⟨some 8, .mv (.t 1) false, some (7, true)⟩, ⟨some 9, .bin .geq (.t 8) (.c (.int .i64 0)), some (7, true)⟩, ⟨some 10, .pick (.t 7) (.t 9) (.c (.bool false)), none⟩, ⟨some 11, .mv (.t 10) false, none⟩, ⟨some 12, .mv (.t 1) false, some (11, true)⟩, ⟨some 13, .fa 3 (.t 2), some (11, true)⟩, ⟨some 14, .load 1 false (.t 13) false, some (11, true)⟩, ⟨some 15, .len (.t 14), some (11, true)⟩, ⟨some 16, .bin .lss (.t 12) (.t 15), some (11, true)⟩, ⟨some 17, .pick (.t 11) (.t 16) (.c (.bool false)), none⟩, ⟨some 4, .mv (.t 17) true, none⟩])
  (.ret)), [.t 4]⟩
theorem row31 : RowOk Tryz.prog 31 C31 := ⟨Tryz.f31, ⟨[], [], [], []⟩, lvOf [], Tryz.func31, by kernel_rfl, by kernel_rfl⟩
/-- swingbridge/swingbridgeref11.Work -/
def C32 : CFun := ⟨18, 4, .seq (.reg [⟨some 8, .mv (.c (.int .i64 0)) true, none⟩])
  (.seq (.reg [⟨some 9, .mv (.t 0) false, none⟩, ⟨some 10, .mv (.t 1) false, none⟩, ⟨some 11, .mv (.t 2) false, none⟩, ⟨some 12, .call 54 [(.t 9), (.t 10), (.t 11)] false, none⟩, ⟨some 13, .mv (.t 3) false, none⟩, ⟨some 14, .mxn false [(.t 13), (.c (.int .i64 1073741824))], none⟩, ⟨some 15, .mxn true [(.c (.int .i64 0)), (.t 14)], none⟩, ⟨some 16, .bin .mul (.t 12) (.t 15), none⟩, ⟨some 17, .mxn false [(.t 16), (.c (.int .i64 1000000))], none⟩, ⟨some 8, .mv (.t 17) true, none⟩])
  (.ret)), [.t 8]⟩
theorem row32 : RowOk Tryz.prog 32 C32 := ⟨Tryz.f32, ⟨[], [], [], []⟩, lvOf [], Tryz.func32, by kernel_rfl, by kernel_rfl⟩
/-- swingbridge/swingbridgelaw18.two -/
def C34 : CFun := ⟨31, 5, .seq (.reg [⟨some 10, .alloc [(.int .i64 0), (.slice none 0 0), (.slice none 0 0), (.slice none 0 0)], none⟩])
  (.seq (.reg [⟨some 12, .mv (.t 0) false, none⟩, ⟨some 13, .mv (.t 1) false, none⟩, ⟨some 14, .build [(.int .i64 0), (.int .i64 0), (.int .i64 0)] [(0, 1, (.c (.int .i64 1))), (1, 1, (.t 13))], none⟩, ⟨some 15, .mv (.t 2) false, none⟩, ⟨some 16, .build [(.int .i64 0), (.int .i64 0), (.int .i64 0)] [(0, 1, (.c (.int .i64 3))), (1, 1, (.t 15))], none⟩, ⟨some 17, .bsl 3 2 [(.int .i64 0), (.int .i64 0), (.int .i64 0), (.int .i64 0), (.int .i64 0), (.int .i64 0)] [(0, 3, (.t 14)), (3, 3, (.t 16))] false, none⟩, ⟨some 18, .call 35 [(.t 12), (.t 17)] true, none⟩, ⟨some 11, .alloc [(.int .i64 0), (.slice none 0 0), (.slice none 0 0), (.slice none 0 0)], none⟩, ⟨none, .store 4 (.t 11) (.t 18), none⟩])
  (.seq (.reg [⟨some 19, .fa 3 (.t 11), none⟩, ⟨some 20, .load 1 false (.t 19) true, none⟩, ⟨some 21, .mv (.t 3) false, none⟩, ⟨some 22, .build [(.int .i64 0), (.int .i64 0), (.int .i64 0)] [(0, 1, (.c (.int .i64 1))), (1, 1, (.t 21))], none⟩, ⟨some 23, .mv (.t 4) false, none⟩, ⟨some 24, .build [(.int .i64 0), (.int .i64 0), (.int .i64 0)] [(0, 1, (.c (.int .i64 3))), (1, 1, (.t 23))], none⟩, ⟨some 25, .bsl 3 2 [(.int .i64 0), (.int .i64 0), (.int .i64 0), (.int .i64 0), (.int .i64 0), (.int .i64 0)] [(0, 3, (.t 22)), (3, 3, (.t 24))] false, none⟩, ⟨some 26, .build [(.string ⟨#[]⟩), (.int .i64 0), (.int .i64 0), (.int .i64 0), (.int .i64 0), (.slice none 0 0)] [(0, 1, (.c (.string ⟨#[98]⟩))), (1, 1, (.c (.int .i64 200))), (2, 1, (.c (.int .i64 200))), (3, 1, (.c (.int .i64 2))), (5, 1, (.t 25))], none⟩, ⟨some 27, .bsl 6 1 [(.string ⟨#[]⟩), (.int .i64 0), (.int .i64 0), (.int .i64 0), (.int .i64 0), (.slice none 0 0)] [(0, 6, (.t 26))] false, none⟩, ⟨some 28, .app 6 72 (.t 20) (.t 27) false, none⟩, ⟨some 29, .fa 3 (.t 11), none⟩, ⟨none, .store 1 (.t 29) (.t 28), none⟩])
  (.seq (.reg [⟨some 30, .load 4 true (.t 11) false, none⟩, ⟨none, .store 4 (.t 10) (.t 30), none⟩])
  (.ret)))), [.cell 10 4]⟩
theorem row34 : RowOk Tryz.prog 34 C34 := ⟨Tryz.f34, ⟨[], [], [35], []⟩, lvOf [], Tryz.func34, by kernel_rfl, by kernel_rfl⟩
/-- swingbridge/swingbridgelaw18.one -/
def C35 : CFun := ⟨12, 2, .seq (.reg [⟨some 4, .alloc [(.int .i64 0), (.slice none 0 0), (.slice none 0 0), (.slice none 0 0)], none⟩])
  (.seq (.reg [⟨some 5, .mv (.t 0) false, none⟩, ⟨some 6, .bsl 1 1 [(.int .i64 0)] [(0, 1, (.c (.int .i64 1)))] false, none⟩, ⟨some 7, .bsl 1 1 [(.int .i64 0)] [(0, 1, (.c (.int .i64 0)))] false, none⟩, ⟨some 8, .mv (.t 1) false, none⟩, ⟨some 9, .build [(.string ⟨#[]⟩), (.int .i64 0), (.int .i64 0), (.int .i64 0), (.int .i64 0), (.slice none 0 0)] [(0, 1, (.c (.string ⟨#[97]⟩))), (1, 1, (.c (.int .i64 100))), (2, 1, (.c (.int .i64 100))), (3, 1, (.c (.int .i64 1))), (5, 1, (.t 8))], none⟩, ⟨some 10, .bsl 6 1 [(.string ⟨#[]⟩), (.int .i64 0), (.int .i64 0), (.int .i64 0), (.int .i64 0), (.slice none 0 0)] [(0, 6, (.t 9))] false, none⟩, ⟨some 11, .build [(.int .i64 0), (.slice none 0 0), (.slice none 0 0), (.slice none 0 0)] [(0, 1, (.t 5)), (1, 1, (.t 6)), (2, 1, (.t 7)), (3, 1, (.t 10))], none⟩, ⟨none, .store 4 (.t 4) (.t 11), none⟩])
  (.ret)), [.cell 4 4]⟩
theorem row35 : RowOk Tryz.prog 35 C35 := ⟨Tryz.f35, ⟨[], [], [], []⟩, lvOf [], Tryz.func35, by kernel_rfl, by kernel_rfl⟩
def B36_0 : C := .seq (.reg [⟨some 13, .bin .lss (.t 12) (.t 11), none⟩])
  (.seq (.cond (.t 13) (.skip)
  (.exit 0))
  (.seq (.block 1 (.seq (.reg [⟨some 14, .ia 6 (.t 10) (.t 12), none⟩, ⟨some 15, .load 6 true (.t 14) false, none⟩, ⟨some 6, .alloc [(.string ⟨#[]⟩), (.int .i64 0), (.int .i64 0), (.int .i64 0), (.int .i64 0), (.slice none 0 0)], none⟩, ⟨none, .store 6 (.t 6) (.t 15), none⟩])
  (.reg [⟨some 16, .mv (.t 4) true, none⟩, ⟨some 17, .load 6 true (.t 6) false, none⟩, ⟨some 18, .call 22 [(.t 17)] false, none⟩, ⟨some 19, .load 6 true (.t 6) false, none⟩, ⟨some 20, .call 23 [(.t 19)] false, none⟩, ⟨some 21, .bin .add (.t 18) (.t 20), none⟩, ⟨some 22, .load 6 true (.t 6) false, none⟩, ⟨some 23, .call 53 [(.t 22)] false, none⟩, ⟨some 24, .bin .add (.t 21) (.t 23), none⟩, ⟨some 25, .bsl 1 1 [(.int .i64 0)] [(0, 1, (.t 24))] false, none⟩, ⟨some 26, .app 1 8 (.t 16) (.t 25) false, none⟩, ⟨some 4, .mv (.t 26) true, none⟩])))
  (.reg [⟨some 27, .bin .add (.t 12) (.c (.int .i64 1)), none⟩, ⟨some 12, .mv (.t 27) false, none⟩])))
def L36_0 : C := .loop [1, 4, 10, 11, 12] 1 B36_0
theorem go36_0 (s : Env × Bx) (nb) : evL tab ext nb L36_0 s = (loopIn nb [1, 4, 10, 11, 12] 1 s).bind fun s0 => (evL tab ext nb B36_0 s0).bind (seqG tab ext nb L36_0) := eL_loop _ _ _
def B36_2 : C := .seq (.reg [⟨some 29, .bin .lss (.t 28) (.c (.int .i64 200)), none⟩])
  (.seq (.cond (.t 29) (.skip)
  (.exit 2))
  (.seq (.block 3 (.seq (.reg [⟨some 31, .load 4 true (.t 1) false, none⟩, ⟨some 32, .mv (.t 4) false, none⟩, ⟨some 33, .call 56 [(.t 31), (.t 32)] false, none⟩, ⟨some 30, .mv (.t 33) false, none⟩, ⟨some 34, .ext (.t 30) 0, none⟩, ⟨some 35, .ext (.t 30) 1, none⟩, ⟨some 7, .mv (.t 34) true, none⟩, ⟨some 8, .mv (.t 35) true, none⟩])
  (.seq (.block 4 (.seq (.reg [⟨some 37, .mv (.t 8) false, none⟩, ⟨some 38, .un .not (.t 37), none⟩, ⟨some 36, .mv (.t 38) true, none⟩])
  (.cond (.t 36) (.seq (.reg [⟨some 2, .mv (.c (.slice none 0 0)) true, none⟩, ⟨some 3, .mv (.c (.int .i64 19)) true, none⟩])
  (.ret))
  (.seq (.reg [⟨some 40, .mv (.t 7) false, none⟩, ⟨some 41, .mv (.t 4) false, none⟩, ⟨some 42, .call 57 [(.t 40), (.t 41)] false, none⟩, ⟨some 39, .mv (.t 42) true, none⟩])
  (.cond (.t 39) (.seq (.reg [⟨some 43, .mv (.t 4) false, none⟩, ⟨some 2, .mv (.t 43) true, none⟩, ⟨some 3, .mv (.c (.int .i64 0)) true, none⟩])
  (.ret))
  (.skip))))))
  (.seq (.reg [⟨some 44, .mv (.t 7) false, none⟩, ⟨some 4, .mv (.t 44) true, none⟩])
  (.exit 3)))))
  (.reg [⟨some 45, .bin .add (.t 28) (.c (.int .i64 1)), none⟩, ⟨some 28, .mv (.t 45) false, none⟩])))
def L36_2 : C := .loop [1, 4, 28] 1 B36_2
theorem go36_2 (s : Env × Bx) (nb) : evL tab ext nb L36_2 s = (loopIn nb [1, 4, 28] 1 s).bind fun s0 => (evL tab ext nb B36_2 s0).bind (seqG tab ext nb L36_2) := eL_loop _ _ _
/-- swingbridge/admit.least -/
def C36 : CFun := ⟨46, 1, .seq (.reg [⟨some 1, .box (.t 0), none⟩, ⟨some 2, .mv (.c (.slice none 0 0)) true, none⟩, ⟨some 3, .mv (.c (.int .i64 0)) true, none⟩])
  (.scope (.seq (.reg [⟨some 4, .mv (.c (.slice none 0 0)) true, none⟩])
  (.seq (.seq (.reg [⟨some 9, .fa 3 (.t 1), none⟩, ⟨some 10, .load 1 false (.t 9) false, none⟩, ⟨some 11, .len (.t 10), none⟩, ⟨some 12, .mv (.c (.int .i64 0)) false, none⟩])
  (.block 0 (L36_0)))
  (.seq (.skip)
  (.seq (.seq (.reg [⟨some 28, .mv (.c (.int .i64 0)) false, none⟩])
  (.block 2 (L36_2)))
  (.seq (.reg [⟨some 2, .mv (.c (.slice none 0 0)) true, none⟩, ⟨some 3, .mv (.c (.int .i64 20)) true, none⟩])
  (.ret))))))), [.t 2, .t 3]⟩
theorem row36 : RowOk Tryz.prog 36 C36 := ⟨Tryz.f36, ⟨[], [], [], []⟩, lvOf [(0, [1, 4, 10, 11, 12], 1), (2, [1, 4, 28], 1)], Tryz.func36, by kernel_rfl, by kernel_rfl⟩
def B37_0 : C := .seq (.reg [⟨some 49, .bin .lss (.t 48) (.t 47), none⟩])
  (.seq (.cond (.t 49) (.skip)
  (.exit 0))
  (.seq (.block 1 (.seq (.reg [⟨some 50, .mv (.t 48) false, none⟩, ⟨some 51, .ia 3 (.t 46) (.t 48), none⟩, ⟨some 52, .load 3 true (.t 51) false, none⟩, ⟨some 12, .alloc [(.int .i64 0), (.int .i64 0), (.int .i64 0)], none⟩, ⟨some 11, .mv (.t 50) true, none⟩, ⟨none, .store 3 (.t 12) (.t 52), none⟩])
  (.seq (.seq (.reg [⟨some 53, .fa 0 (.t 12), none⟩, ⟨some 54, .load 1 false (.t 53) false, none⟩, ⟨some 55, .bin .neq (.t 54) (.c (.int .i64 3)), none⟩])
  (.cond (.t 55) (.exit 1)
  (.skip)))
  (.seq (.reg [⟨some 57, .load 4 true (.t 3) false, none⟩, ⟨some 58, .mv (.t 1) false, none⟩, ⟨some 59, .mv (.t 2) false, none⟩, ⟨some 60, .mv (.t 11) false, none⟩, ⟨some 61, .call 58 [(.t 57), (.t 58), (.t 59), (.t 60)] false, none⟩, ⟨some 56, .mv (.t 61) false, none⟩, ⟨some 62, .ext (.t 56) 0, none⟩, ⟨some 63, .ext (.t 56) 1, none⟩, ⟨some 13, .mv (.t 62) true, none⟩, ⟨some 14, .mv (.t 63) true, none⟩])
  (.seq (.seq (.reg [⟨some 64, .mv (.t 14) false, none⟩, ⟨some 65, .un .not (.t 64), none⟩])
  (.cond (.t 65) (.seq (.reg [⟨some 6, .mv (.c (.slice none 0 0)) true, none⟩, ⟨some 7, .mv (.c (.bool false)) true, none⟩])
  (.ret))
  (.skip)))
  (.reg [⟨some 66, .mv (.t 10) false, none⟩, ⟨some 67, .mv (.t 11) false, none⟩, ⟨some 68, .mv (.t 13) false, none⟩, ⟨some 69, .ia 1 (.t 66) (.t 67), none⟩, ⟨none, .store 1 (.t 69) (.t 68), none⟩]))))))
  (.reg [⟨some 70, .bin .add (.t 48) (.c (.int .i64 1)), none⟩, ⟨some 48, .mv (.t 70) false, none⟩])))
def L37_0 : C := .loop [1, 2, 3, 10, 46, 47, 48] 2 B37_0
theorem go37_0 (s : Env × Bx) (nb) : evL tab ext nb L37_0 s = (loopIn nb [1, 2, 3, 10, 46, 47, 48] 2 s).bind fun s0 => (evL tab ext nb B37_0 s0).bind (seqG tab ext nb L37_0) := eL_loop _ _ _
/-- swingbridge/wait.All -/
def C37 : CFun := ⟨72, 3, .seq (.reg [⟨some 3, .box (.t 0), none⟩, ⟨some 6, .mv (.c (.slice none 0 0)) true, none⟩, ⟨some 7, .mv (.c (.bool false)) true, none⟩])
  (.scope (.seq (.seq (.reg [⟨some 16, .load 4 true (.t 3) false, none⟩, ⟨some 17, .call 26 [(.t 16)] false, none⟩, ⟨some 15, .mv (.t 17) false, none⟩, ⟨some 18, .ext (.t 15) 0, none⟩, ⟨some 19, .ext (.t 15) 1, none⟩, ⟨some 8, .mv (.t 18) true, none⟩, ⟨some 9, .mv (.t 19) true, none⟩])
  (.seq (.reg [⟨some 20, .mv (.t 9) false, none⟩, ⟨some 21, .bin .neq (.t 20) (.c (.int .i64 0)), none⟩, ⟨some 22, .mv (.t 21) false, none⟩, ⟨some 23, .mv (.t 2) false, some (22, false)⟩, ⟨some 24, .bin .lss (.t 23) (.c (.int .i64 0)), some (22, false)⟩, ⟨some 25, .pick (.t 22) (.c (.bool true)) (.t 24), none⟩, ⟨some 26, .mv (.t 25) false, none⟩, ⟨some 27, .mv (.t 2) false, some (26, false)⟩, ⟨some 28, .fa 3 (.t 3), some (26, false)⟩, ⟨some 29, .load 1 false (.t 28) false, some (26, false)⟩, ⟨some 30, .len (.t 29), some (26, false)⟩, ⟨some 31, .bin .geq (.t 27) (.t 30), some (26, false)⟩, ⟨some 32, .pick (.t 26) (.c (.bool true)) (.t 31), none⟩])
  (.cond (.t 32) (.seq (.reg [⟨some 6, .mv (.c (.slice none 0 0)) true, none⟩, ⟨some 7, .mv (.c (.bool false)) true, none⟩])
  (.ret))
  (.skip))))
  (.seq (.reg [⟨some 33, .fa 3 (.t 3), none⟩, ⟨some 34, .load 1 false (.t 33) false, none⟩, ⟨some 35, .mv (.t 2) false, none⟩, ⟨some 36, .ia 6 (.t 34) (.t 35), none⟩, ⟨some 37, .fa 5 (.t 36), none⟩, ⟨some 38, .load 1 false (.t 37) false, none⟩, ⟨some 39, .len (.t 38), none⟩, ⟨some 40, .mksl 1 8 [(.int .i64 0)] (.t 39) true, none⟩, ⟨some 10, .mv (.t 40) true, none⟩])
  (.seq (.skip)
  (.seq (.seq (.reg [⟨some 41, .fa 3 (.t 3), none⟩, ⟨some 42, .load 1 false (.t 41) false, none⟩, ⟨some 43, .mv (.t 2) false, none⟩, ⟨some 44, .ia 6 (.t 42) (.t 43), none⟩, ⟨some 45, .fa 5 (.t 44), none⟩, ⟨some 46, .load 1 false (.t 45) false, none⟩, ⟨some 47, .len (.t 46), none⟩, ⟨some 48, .mv (.c (.int .i64 0)) false, none⟩])
  (.block 0 (L37_0)))
  (.seq (.reg [⟨some 71, .mv (.t 10) false, none⟩, ⟨some 6, .mv (.t 71) true, none⟩, ⟨some 7, .mv (.c (.bool true)) true, none⟩])
  (.ret))))))), [.t 6, .t 7]⟩
theorem row37 : RowOk Tryz.prog 37 C37 := ⟨Tryz.f37, ⟨[], [40], [], []⟩, lvOf [(0, [1, 2, 3, 10, 46, 47, 48], 2)], Tryz.func37, by kernel_rfl, by kernel_rfl⟩
def B38_1 : C := .seq (.seq (.reg [⟨some 29, .mv (.t 4) false, none⟩, ⟨some 30, .fa 3 (.t 1), none⟩, ⟨some 31, .load 1 false (.t 30) false, none⟩, ⟨some 32, .len (.t 31), none⟩, ⟨some 33, .bin .lss (.t 29) (.t 32), none⟩])
  (.cond (.t 33) (.skip)
  (.exit 1)))
  (.seq (.block 2 (.seq (.reg [⟨some 36, .load 4 true (.t 1) false, none⟩, ⟨some 37, .mv (.t 4) false, none⟩, ⟨some 38, .call 60 [(.t 36), (.t 37)] false, none⟩, ⟨some 5, .mv (.t 38) true, none⟩])
  (.seq (.reg [⟨some 39, .mv (.t 5) false, none⟩, ⟨some 40, .bin .neq (.t 39) (.c (.int .i64 0)), none⟩])
  (.cond (.t 40) (.seq (.reg [⟨some 41, .mv (.t 4) false, none⟩, ⟨some 42, .mv (.t 5) false, none⟩, ⟨some 2, .mv (.t 41) true, none⟩, ⟨some 3, .mv (.t 42) true, none⟩])
  (.ret))
  (.skip)))))
  (.reg [⟨some 34, .mv (.t 4) false, none⟩, ⟨some 35, .bin .add (.t 34) (.c (.int .i64 1)), none⟩, ⟨some 4, .mv (.t 35) true, none⟩]))
def L38_1 : C := .loop [1, 4] 1 B38_1
theorem go38_1 (s : Env × Bx) (nb) : evL tab ext nb L38_1 s = (loopIn nb [1, 4] 1 s).bind fun s0 => (evL tab ext nb B38_1 s0).bind (seqG tab ext nb L38_1) := eL_loop _ _ _
/-- swingbridge/swingbridgeref7.Check -/
def C38 : CFun := ⟨43, 1, .seq (.reg [⟨some 1, .box (.t 0), none⟩, ⟨some 2, .mv (.c (.int .i64 0)) true, none⟩, ⟨some 3, .mv (.c (.int .i64 0)) true, none⟩])
  (.seq (.block 0 (.seq (.reg [⟨some 7, .fa 0 (.t 1), none⟩, ⟨some 8, .load 1 false (.t 7) false, none⟩, ⟨some 9, .bin .lss (.t 8) (.c (.int .i64 1)), none⟩, ⟨some 10, .mv (.t 9) false, none⟩, ⟨some 11, .fa 0 (.t 1), some (10, false)⟩, ⟨some 12, .load 1 false (.t 11) false, some (10, false)⟩, ⟨some 13, .bin .gtr (.t 12) (.c (.int .i64 3)), some (10, false)⟩, ⟨some 14, .pick (.t 10) (.c (.bool true)) (.t 13), none⟩, ⟨some 6, .mv (.t 14) true, none⟩])
  (.cond (.t 6) (.seq (.reg [⟨some 2, .mv (.c (.int .i64 (-1))) true, none⟩, ⟨some 3, .mv (.c (.int .i64 10)) true, none⟩])
  (.ret))
  (.seq (.reg [⟨some 16, .load 4 true (.t 1) false, none⟩, ⟨some 17, .call 59 [(.t 16)] false, none⟩, ⟨some 18, .un .not (.t 17), none⟩, ⟨some 15, .mv (.t 18) true, none⟩])
  (.cond (.t 15) (.seq (.reg [⟨some 2, .mv (.c (.int .i64 (-1))) true, none⟩, ⟨some 3, .mv (.c (.int .i64 16)) true, none⟩])
  (.ret))
  (.seq (.reg [⟨some 20, .fa 3 (.t 1), none⟩, ⟨some 21, .load 1 false (.t 20) false, none⟩, ⟨some 22, .len (.t 21), none⟩, ⟨some 23, .bin .gtr (.t 22) (.c (.int .i64 6)), none⟩, ⟨some 19, .mv (.t 23) true, none⟩])
  (.cond (.t 19) (.seq (.reg [⟨some 2, .mv (.c (.int .i64 (-1))) true, none⟩, ⟨some 3, .mv (.c (.int .i64 11)) true, none⟩])
  (.ret))
  (.seq (.reg [⟨some 25, .fa 3 (.t 1), none⟩, ⟨some 26, .load 1 false (.t 25) false, none⟩, ⟨some 27, .len (.t 26), none⟩, ⟨some 28, .bin .eql (.t 27) (.c (.int .i64 0)), none⟩, ⟨some 24, .mv (.t 28) true, none⟩])
  (.cond (.t 24) (.seq (.reg [⟨some 2, .mv (.c (.int .i64 (-1))) true, none⟩, ⟨some 3, .mv (.c (.int .i64 14)) true, none⟩])
  (.ret))
  (.skip))))))))))
  (.seq (.seq (.reg [⟨some 4, .mv (.c (.int .i64 0)) true, none⟩])
  (.block 1 (L38_1)))
  (.seq (.reg [⟨some 2, .mv (.c (.int .i64 (-1))) true, none⟩, ⟨some 3, .mv (.c (.int .i64 0)) true, none⟩])
  (.ret)))), [.t 2, .t 3]⟩
theorem row38 : RowOk Tryz.prog 38 C38 := ⟨Tryz.f38, ⟨[], [], [], []⟩, lvOf [(1, [1, 4], 1)], Tryz.func38, by kernel_rfl, by kernel_rfl⟩
def B39_0 : C := .seq (.seq (.reg [⟨some 12, .mv (.t 9) false, none⟩, ⟨some 13, .mv (.t 1) false, none⟩, ⟨some 14, .len (.t 13), none⟩, ⟨some 15, .bin .lss (.t 12) (.t 14), none⟩])
  (.cond (.t 15) (.skip)
  (.exit 0)))
  (.seq (.block 1 (.seq (.reg [⟨some 19, .load 4 true (.t 2) false, none⟩, ⟨some 20, .mv (.t 1) false, none⟩, ⟨some 21, .mv (.t 9) false, none⟩, ⟨some 22, .call 10 [(.t 19), (.t 20), (.t 21)] false, none⟩, ⟨some 18, .mv (.t 22) false, none⟩, ⟨some 23, .ext (.t 18) 0, none⟩, ⟨some 24, .ext (.t 18) 1, none⟩, ⟨some 10, .mv (.t 23) true, none⟩, ⟨some 11, .mv (.t 24) true, none⟩])
  (.seq (.seq (.reg [⟨some 25, .mv (.t 11) false, none⟩, ⟨some 26, .un .not (.t 25), none⟩, ⟨some 27, .mv (.t 26) false, none⟩, ⟨some 28, .mv (.t 10) false, some (27, false)⟩, ⟨some 29, .fa 3 (.t 2), some (27, false)⟩, ⟨some 30, .load 1 false (.t 29) false, some (27, false)⟩, ⟨some 31, .mv (.t 9) false, some (27, false)⟩, ⟨some 32, .ia 6 (.t 30) (.t 31), some (27, false)⟩, ⟨some 33, .fa 2 (.t 32), some (27, false)⟩, ⟨some 34, .load 1 false (.t 33) false, some (27, false)⟩, ⟨some 35, .bin .gtr (.t 28) (.t 34), some (27, false)⟩, ⟨some 36, .pick (.t 27) (.c (.bool true)) (.t 35), none⟩])
  (.cond (.t 36) (.seq (.reg [⟨some 4, .mv (.c (.slice none 0 0)) true, none⟩, ⟨some 5, .mv (.c (.bool false)) true, none⟩, ⟨some 6, .mv (.c (.int .i64 19)) true, none⟩])
  (.ret))
  (.skip)))
  (.seq (.reg [⟨some 37, .mv (.t 8) false, none⟩, ⟨some 38, .mv (.t 37) false, none⟩, ⟨some 39, .mv (.t 10) false, some (38, false)⟩, ⟨some 40, .mv (.t 1) false, some (38, false)⟩, ⟨some 41, .mv (.t 9) false, some (38, false)⟩, ⟨some 42, .ia 1 (.t 40) (.t 41), some (38, false)⟩, ⟨some 43, .load 1 false (.t 42) false, some (38, false)⟩, ⟨some 44, .bin .neq (.t 39) (.t 43), some (38, false)⟩, ⟨some 45, .pick (.t 38) (.c (.bool true)) (.t 44), none⟩, ⟨some 8, .mv (.t 45) true, none⟩])
  (.reg [⟨some 46, .mv (.t 7) true, none⟩, ⟨some 47, .mv (.t 10) false, none⟩, ⟨some 48, .bsl 1 1 [(.int .i64 0)] [(0, 1, (.t 47))] false, none⟩, ⟨some 49, .app 1 8 (.t 46) (.t 48) false, none⟩, ⟨some 7, .mv (.t 49) true, none⟩])))))
  (.reg [⟨some 16, .mv (.t 9) false, none⟩, ⟨some 17, .bin .add (.t 16) (.c (.int .i64 1)), none⟩, ⟨some 9, .mv (.t 17) true, none⟩]))
def L39_0 : C := .loop [1, 2, 7, 8, 9] 1 B39_0
theorem go39_0 (s : Env × Bx) (nb) : evL tab ext nb L39_0 s = (loopIn nb [1, 2, 7, 8, 9] 1 s).bind fun s0 => (evL tab ext nb B39_0 s0).bind (seqG tab ext nb L39_0) := eL_loop _ _ _
/-- swingbridge/swingbridgeref11.round -/
def C39 : CFun := ⟨52, 2, .seq (.reg [⟨some 2, .box (.t 0), none⟩, ⟨some 4, .mv (.c (.slice none 0 0)) true, none⟩, ⟨some 5, .mv (.c (.bool false)) true, none⟩, ⟨some 6, .mv (.c (.int .i64 0)) true, none⟩])
  (.seq (.reg [⟨some 7, .mv (.c (.slice none 0 0)) true, none⟩])
  (.seq (.reg [⟨some 8, .mv (.c (.bool false)) true, none⟩])
  (.seq (.seq (.reg [⟨some 9, .mv (.c (.int .i64 0)) true, none⟩])
  (.block 0 (L39_0)))
  (.seq (.reg [⟨some 50, .mv (.t 7) false, none⟩, ⟨some 51, .mv (.t 8) false, none⟩, ⟨some 4, .mv (.t 50) true, none⟩, ⟨some 5, .mv (.t 51) true, none⟩, ⟨some 6, .mv (.c (.int .i64 0)) true, none⟩])
  (.ret))))), [.t 4, .t 5, .t 6]⟩
theorem row39 : RowOk Tryz.prog 39 C39 := ⟨Tryz.f39, ⟨[], [], [], []⟩, lvOf [(0, [1, 2, 7, 8, 9], 1)], Tryz.func39, by kernel_rfl, by kernel_rfl⟩
def B40_0 : C := .seq (.seq (.reg [⟨some 40, .mv (.t 10) false, none⟩, ⟨some 41, .fa 5 (.t 9), none⟩, ⟨some 42, .load 1 false (.t 41) false, none⟩, ⟨some 43, .len (.t 42), none⟩, ⟨some 44, .bin .lss (.t 40) (.t 43), none⟩])
  (.cond (.t 44) (.skip)
  (.exit 0)))
  (.seq (.block 1 (.seq (.reg [⟨some 11, .mv (.c (.int .i64 0)) true, none⟩])
  (.seq (.seq (.reg [⟨some 47, .fa 5 (.t 9), none⟩, ⟨some 48, .load 1 false (.t 47) false, none⟩, ⟨some 49, .mv (.t 10) false, none⟩, ⟨some 50, .ia 3 (.t 48) (.t 49), none⟩, ⟨some 51, .fa 0 (.t 50), none⟩, ⟨some 52, .load 1 false (.t 51) false, none⟩, ⟨some 53, .bin .eql (.t 52) (.c (.int .i64 3)), none⟩])
  (.cond (.t 53) (.seq (.reg [⟨some 55, .load 4 true (.t 3) false, none⟩, ⟨some 56, .mv (.t 1) false, none⟩, ⟨some 57, .mv (.t 2) false, none⟩, ⟨some 58, .mv (.t 10) false, none⟩, ⟨some 59, .call 62 [(.t 55), (.t 56), (.t 57), (.t 58)] false, none⟩, ⟨some 54, .mv (.t 59) false, none⟩, ⟨some 60, .ext (.t 54) 0, none⟩, ⟨some 61, .ext (.t 54) 1, none⟩, ⟨some 12, .mv (.t 60) true, none⟩, ⟨some 13, .mv (.t 61) true, none⟩])
  (.seq (.seq (.reg [⟨some 62, .mv (.t 13) false, none⟩, ⟨some 63, .un .not (.t 62), none⟩])
  (.cond (.t 63) (.seq (.reg [⟨some 6, .mv (.c (.slice none 0 0)) true, none⟩, ⟨some 7, .mv (.c (.bool false)) true, none⟩])
  (.ret))
  (.skip)))
  (.reg [⟨some 64, .mv (.t 12) false, none⟩, ⟨some 11, .mv (.t 64) true, none⟩])))
  (.skip)))
  (.reg [⟨some 65, .mv (.t 8) true, none⟩, ⟨some 66, .mv (.t 11) false, none⟩, ⟨some 67, .bsl 1 1 [(.int .i64 0)] [(0, 1, (.t 66))] false, none⟩, ⟨some 68, .app 1 8 (.t 65) (.t 67) false, none⟩, ⟨some 8, .mv (.t 68) true, none⟩]))))
  (.reg [⟨some 45, .mv (.t 10) false, none⟩, ⟨some 46, .bin .add (.t 45) (.c (.int .i64 1)), none⟩, ⟨some 10, .mv (.t 46) true, none⟩]))
def L40_0 : C := .loop [1, 2, 3, 8, 9, 10] 2 B40_0
theorem go40_0 (s : Env × Bx) (nb) : evL tab ext nb L40_0 s = (loopIn nb [1, 2, 3, 8, 9, 10] 2 s).bind fun s0 => (evL tab ext nb B40_0 s0).bind (seqG tab ext nb L40_0) := eL_loop _ _ _
/-- swingbridge/swingbridgeref11.Waits -/
def C40 : CFun := ⟨70, 3, .seq (.reg [⟨some 3, .box (.t 0), none⟩, ⟨some 6, .mv (.c (.slice none 0 0)) true, none⟩, ⟨some 7, .mv (.c (.bool false)) true, none⟩])
  (.seq (.seq (.reg [⟨some 14, .load 4 true (.t 3) false, none⟩, ⟨some 15, .mv (.t 2) false, none⟩, ⟨some 16, .call 31 [(.t 14), (.t 15)] false, none⟩, ⟨some 17, .un .not (.t 16), none⟩, ⟨some 18, .mv (.t 17) false, none⟩, ⟨some 19, .mv (.t 1) false, some (18, false)⟩, ⟨some 20, .len (.t 19), some (18, false)⟩, ⟨some 21, .fa 3 (.t 3), some (18, false)⟩, ⟨some 22, .load 1 false (.t 21) false, some (18, false)⟩, ⟨some 23, .len (.t 22), some (18, false)⟩, ⟨some 24, .bin .neq (.t 20) (.t 23), some (18, false)⟩, ⟨some 25, .mv (.t 24) false, some (18, false)⟩, ⟨some 26, .fa 3 (.t 3), some (25, true)⟩, ⟨some 27, .load 1 false (.t 26) false, some (25, true)⟩, ⟨some 28, .mv (.t 2) false, some (25, true)⟩, ⟨some 29, .ia 6 (.t 27) (.t 28), some (25, true)⟩, ⟨some 30, .load 6 true (.t 29) false, some (25, true)⟩, ⟨some 31, .call 61 [(.t 30)] false, some (25, true)⟩, ⟨some 32, .bin .gtr (.t 31) (.c (.int .i64 0)), some (25, true)⟩, ⟨some 33, .pick (.t 25) (.t 32) (.c (.bool false)), some (18, false)⟩, ⟨some 34, .pick (.t 18) (.c (.bool true)) (.t 33), none⟩])
  (.cond (.t 34) (.seq (.reg [⟨some 6, .mv (.c (.slice none 0 0)) true, none⟩, ⟨some 7, .mv (.c (.bool false)) true, none⟩])
  (.ret))
  (.skip)))
  (.seq (.reg [⟨some 8, .mv (.c (.slice none 0 0)) true, none⟩])
  (.seq (.reg [⟨some 35, .fa 3 (.t 3), none⟩, ⟨some 36, .load 1 false (.t 35) false, none⟩, ⟨some 37, .mv (.t 2) false, none⟩, ⟨some 38, .ia 6 (.t 36) (.t 37), none⟩, ⟨some 39, .load 6 true (.t 38) false, none⟩, ⟨some 9, .alloc [(.string ⟨#[]⟩), (.int .i64 0), (.int .i64 0), (.int .i64 0), (.int .i64 0), (.slice none 0 0)], none⟩, ⟨none, .store 6 (.t 9) (.t 39), none⟩])
  (.seq (.seq (.reg [⟨some 10, .mv (.c (.int .i64 0)) true, none⟩])
  (.block 0 (L40_0)))
  (.seq (.reg [⟨some 69, .mv (.t 8) false, none⟩, ⟨some 6, .mv (.t 69) true, none⟩, ⟨some 7, .mv (.c (.bool true)) true, none⟩])
  (.ret)))))), [.t 6, .t 7]⟩
theorem row40 : RowOk Tryz.prog 40 C40 := ⟨Tryz.f40, ⟨[], [], [], []⟩, lvOf [(0, [1, 2, 3, 8, 9, 10], 2)], Tryz.func40, by kernel_rfl, by kernel_rfl⟩
def B41_0 : C := .seq (.seq (.reg [⟨some 11, .mv (.t 5) false, none⟩, ⟨some 12, .mv (.t 0) false, none⟩, ⟨some 13, .len (.t 12), none⟩, ⟨some 14, .bin .lss (.t 11) (.t 13), none⟩])
  (.cond (.t 14) (.skip)
  (.exit 0)))
  (.seq (.block 1 (.seq (.reg [⟨some 17, .mv (.t 0) false, none⟩, ⟨some 18, .mv (.t 5) false, none⟩, ⟨some 19, .ia 1 (.t 17) (.t 18), none⟩, ⟨some 20, .load 1 false (.t 19) false, none⟩, ⟨some 21, .mv (.t 1) false, none⟩, ⟨some 22, .mv (.t 5) false, none⟩, ⟨some 23, .ia 1 (.t 21) (.t 22), none⟩, ⟨some 24, .load 1 false (.t 23) false, none⟩, ⟨some 25, .bin .neq (.t 20) (.t 24), none⟩])
  (.cond (.t 25) (.seq (.reg [⟨some 4, .mv (.c (.bool false)) true, none⟩])
  (.ret))
  (.skip))))
  (.reg [⟨some 15, .mv (.t 5) false, none⟩, ⟨some 16, .bin .add (.t 15) (.c (.int .i64 1)), none⟩, ⟨some 5, .mv (.t 16) true, none⟩]))
def L41_0 : C := .loop [0, 1, 5] 0 B41_0
theorem go41_0 (s : Env × Bx) (nb) : evL tab ext nb L41_0 s = (loopIn nb [0, 1, 5] 0 s).bind fun s0 => (evL tab ext nb B41_0 s0).bind (seqG tab ext nb L41_0) := eL_loop _ _ _
/-- swingbridge/swingbridgeref2.SameInts -/
def C41 : CFun := ⟨26, 2, .seq (.reg [⟨some 4, .mv (.c (.bool false)) true, none⟩])
  (.seq (.seq (.reg [⟨some 6, .mv (.t 0) false, none⟩, ⟨some 7, .len (.t 6), none⟩, ⟨some 8, .mv (.t 1) false, none⟩, ⟨some 9, .len (.t 8), none⟩, ⟨some 10, .bin .neq (.t 7) (.t 9), none⟩])
  (.cond (.t 10) (.seq (.reg [⟨some 4, .mv (.c (.bool false)) true, none⟩])
  (.ret))
  (.skip)))
  (.seq (.seq (.reg [⟨some 5, .mv (.c (.int .i64 0)) true, none⟩])
  (.block 0 (L41_0)))
  (.seq (.reg [⟨some 4, .mv (.c (.bool true)) true, none⟩])
  (.ret)))), [.t 4]⟩
theorem row41 : RowOk Tryz.prog 41 C41 := ⟨Tryz.f41, ⟨[], [], [], []⟩, lvOf [(0, [0, 1, 5], 0)], Tryz.func41, by kernel_rfl, by kernel_rfl⟩
/-- swingbridge/swingbridgeref7.OK -/
def C42 : CFun := ⟨12, 1, .seq (.reg [⟨some 1, .box (.t 0), none⟩, ⟨some 2, .mv (.c (.bool false)) true, none⟩])
  (.seq (.reg [⟨some 6, .load 4 true (.t 1) false, none⟩, ⟨some 7, .call 38 [(.t 6)] false, none⟩, ⟨some 5, .mv (.t 7) false, none⟩, ⟨some 8, .ext (.t 5) 0, none⟩, ⟨some 9, .ext (.t 5) 1, none⟩, ⟨some 3, .mv (.t 8) true, none⟩, ⟨some 4, .mv (.t 9) true, none⟩])
  (.seq (.reg [⟨some 10, .mv (.t 4) false, none⟩, ⟨some 11, .bin .eql (.t 10) (.c (.int .i64 0)), none⟩, ⟨some 2, .mv (.t 11) true, none⟩])
  (.ret))), [.t 2]⟩
theorem row42 : RowOk Tryz.prog 42 C42 := ⟨Tryz.f42, ⟨[], [], [], []⟩, lvOf [], Tryz.func42, by kernel_rfl, by kernel_rfl⟩
/-- swingbridge/swingbridgelaw17.one -/
def C43 : CFun := ⟨12, 2, .seq (.reg [⟨some 4, .alloc [(.int .i64 0), (.slice none 0 0), (.slice none 0 0), (.slice none 0 0)], none⟩])
  (.seq (.reg [⟨some 5, .mv (.t 0) false, none⟩, ⟨some 6, .bsl 1 1 [(.int .i64 0)] [(0, 1, (.c (.int .i64 1)))] false, none⟩, ⟨some 7, .bsl 1 1 [(.int .i64 0)] [(0, 1, (.c (.int .i64 0)))] false, none⟩, ⟨some 8, .mv (.t 1) false, none⟩, ⟨some 9, .build [(.string ⟨#[]⟩), (.int .i64 0), (.int .i64 0), (.int .i64 0), (.int .i64 0), (.slice none 0 0)] [(0, 1, (.c (.string ⟨#[97]⟩))), (1, 1, (.c (.int .i64 100))), (2, 1, (.c (.int .i64 100))), (3, 1, (.c (.int .i64 1))), (5, 1, (.t 8))], none⟩, ⟨some 10, .bsl 6 1 [(.string ⟨#[]⟩), (.int .i64 0), (.int .i64 0), (.int .i64 0), (.int .i64 0), (.slice none 0 0)] [(0, 6, (.t 9))] false, none⟩, ⟨some 11, .build [(.int .i64 0), (.slice none 0 0), (.slice none 0 0), (.slice none 0 0)] [(0, 1, (.t 5)), (1, 1, (.t 6)), (2, 1, (.t 7)), (3, 1, (.t 10))], none⟩, ⟨none, .store 4 (.t 4) (.t 11), none⟩])
  (.ret)), [.cell 4 4]⟩
theorem row43 : RowOk Tryz.prog 43 C43 := ⟨Tryz.f43, ⟨[], [], [], []⟩, lvOf [], Tryz.func43, by kernel_rfl, by kernel_rfl⟩
def B44_0 : C := .seq (.reg [⟨some 12, .bin .lss (.t 11) (.t 10), none⟩])
  (.seq (.cond (.t 12) (.skip)
  (.exit 0))
  (.seq (.block 1 (.seq (.reg [⟨some 13, .ia 3 (.t 9) (.t 11), none⟩, ⟨some 14, .load 3 true (.t 13) false, none⟩, ⟨some 7, .alloc [(.int .i64 0), (.int .i64 0), (.int .i64 0)], none⟩, ⟨none, .store 3 (.t 7) (.t 14), none⟩])
  (.seq (.seq (.reg [⟨some 15, .fa 0 (.t 7), none⟩, ⟨some 16, .load 1 false (.t 15) false, none⟩, ⟨some 17, .mv (.t 1) false, none⟩, ⟨some 18, .bin .neq (.t 16) (.t 17), none⟩])
  (.cond (.t 18) (.exit 1)
  (.skip)))
  (.reg [⟨some 19, .mv (.t 5) false, none⟩, ⟨some 20, .fa 1 (.t 7), none⟩, ⟨some 21, .load 1 false (.t 20) false, none⟩, ⟨some 22, .bin .add (.t 19) (.t 21), none⟩, ⟨some 5, .mv (.t 22) true, none⟩]))))
  (.reg [⟨some 23, .bin .add (.t 11) (.c (.int .i64 1)), none⟩, ⟨some 11, .mv (.t 23) false, none⟩])))
def L44_0 : C := .loop [1, 5, 9, 10, 11] 1 B44_0
theorem go44_0 (s : Env × Bx) (nb) : evL tab ext nb L44_0 s = (loopIn nb [1, 5, 9, 10, 11] 1 s).bind fun s0 => (evL tab ext nb B44_0 s0).bind (seqG tab ext nb L44_0) := eL_loop _ _ _
/-- swingbridge/demand.all -/
def C44 : CFun := ⟨25, 2, .seq (.reg [⟨some 2, .box (.t 0), none⟩, ⟨some 4, .mv (.c (.int .i64 0)) true, none⟩])
  (.scope (.seq (.reg [⟨some 5, .mv (.c (.int .i64 0)) true, none⟩])
  (.seq (.skip)
  (.seq (.seq (.reg [⟨some 8, .fa 5 (.t 2), none⟩, ⟨some 9, .load 1 false (.t 8) false, none⟩, ⟨some 10, .len (.t 9), none⟩, ⟨some 11, .mv (.c (.int .i64 0)) false, none⟩])
  (.block 0 (L44_0)))
  (.seq (.reg [⟨some 24, .mv (.t 5) false, none⟩, ⟨some 4, .mv (.t 24) true, none⟩])
  (.ret)))))), [.t 4]⟩
theorem row44 : RowOk Tryz.prog 44 C44 := ⟨Tryz.f44, ⟨[], [], [], []⟩, lvOf [(0, [1, 5, 9, 10, 11], 1)], Tryz.func44, by kernel_rfl, by kernel_rfl⟩
/-- swingbridge/task.between -/
def C45 : CFun := ⟨15, 3, .seq (.reg [⟨some 6, .mv (.c (.bool false)) true, none⟩])
  (.seq (.reg [⟨some 7, .mv (.t 0) false, none⟩, ⟨some 8, .mv (.t 1) false, none⟩, ⟨some 9, .bin .geq (.t 7) (.t 8), none⟩, ⟨some 10, .mv (.t 9) false, none⟩, ⟨some 11, .mv (.t 0) false, some (10, true)⟩, ⟨some 12, .mv (.t 2) false, some (10, true)⟩, ⟨some 13, .bin .leq (.t 11) (.t 12), some (10, true)⟩, ⟨some 14, .pick (.t 10) (.t 13) (.c (.bool false)), none⟩, ⟨some 6, .mv (.t 14) true, none⟩])
  (.ret)), [.t 6]⟩
theorem row45 : RowOk Tryz.prog 45 C45 := ⟨Tryz.f45, ⟨[], [], [], []⟩, lvOf [], Tryz.func45, by kernel_rfl, by kernel_rfl⟩
/-- swingbridge/task.placed -/
def C46 : CFun := ⟨32, 1, .seq (.reg [⟨some 1, .box (.t 0), none⟩, ⟨some 2, .mv (.c (.bool false)) true, none⟩])
  (.seq (.reg [⟨some 6, .fa 1 (.t 1), none⟩, ⟨some 7, .load 1 false (.t 6) false, none⟩, ⟨some 8, .len (.t 7), none⟩, ⟨some 9, .call 45 [(.t 8), (.c (.int .i64 1)), (.c (.int .i64 3))] false, none⟩, ⟨some 10, .mv (.t 9) false, none⟩, ⟨some 11, .fa 2 (.t 1), some (10, true)⟩, ⟨some 12, .load 1 false (.t 11) false, some (10, true)⟩, ⟨some 13, .len (.t 12), some (10, true)⟩, ⟨some 14, .bin .leq (.t 13) (.c (.int .i64 4)), some (10, true)⟩, ⟨some 15, .pick (.t 10) (.t 14) (.c (.bool false)), none⟩, ⟨some 3, .mv (.t 15) true, none⟩])
  (.seq (.reg [⟨some 4, .mv (.f 63) true, none⟩])
  (.seq (.reg [⟨some 16, .mkf 64 [(.t 1)], none⟩, ⟨some 5, .mv (.t 16) true, none⟩])
  (.seq (.reg [⟨some 17, .mv (.t 3) false, none⟩, ⟨some 18, .mv (.t 17) false, none⟩, ⟨some 19, .fa 1 (.t 1), some (18, true)⟩, ⟨some 20, .load 1 false (.t 19) false, some (18, true)⟩, ⟨some 21, .mv (.t 4) false, some (18, true)⟩, ⟨some 22, .calli 28 [(.t 20), (.t 21)], some (18, true)⟩, ⟨some 23, .un .not (.t 22), some (18, true)⟩, ⟨some 24, .pick (.t 18) (.t 23) (.c (.bool false)), none⟩, ⟨some 25, .mv (.t 24) false, none⟩, ⟨some 26, .fa 2 (.t 1), some (25, true)⟩, ⟨some 27, .load 1 false (.t 26) false, some (25, true)⟩, ⟨some 28, .mv (.t 5) false, some (25, true)⟩, ⟨some 29, .calli 28 [(.t 27), (.t 28)], some (25, true)⟩, ⟨some 30, .un .not (.t 29), some (25, true)⟩, ⟨some 31, .pick (.t 25) (.t 30) (.c (.bool false)), none⟩, ⟨some 2, .mv (.t 31) true, none⟩])
  (.ret))))), [.t 2]⟩
theorem row46 : RowOk Tryz.prog 46 C46 := ⟨Tryz.f46, ⟨[], [], [], []⟩, lvOf [], Tryz.func46, by kernel_rfl, by kernel_rfl⟩
/-- swingbridge/task.one -/
def C47 : CFun := ⟨60, 2, .seq (.reg [⟨some 2, .box (.t 0), none⟩, ⟨some 4, .mv (.c (.int .i64 0)) true, none⟩])
  (.seq (.reg [⟨some 7, .fa 3 (.t 2), none⟩, ⟨some 8, .load 1 false (.t 7) false, none⟩, ⟨some 9, .mv (.t 1) false, none⟩, ⟨some 10, .ia 6 (.t 8) (.t 9), none⟩, ⟨some 11, .load 6 true (.t 10) false, none⟩, ⟨some 5, .alloc [(.string ⟨#[]⟩), (.int .i64 0), (.int .i64 0), (.int .i64 0), (.int .i64 0), (.slice none 0 0)], none⟩, ⟨none, .store 6 (.t 5) (.t 11), none⟩])
  (.seq (.reg [⟨some 12, .mkf 65 [(.t 5)], none⟩, ⟨some 6, .mv (.t 12) true, none⟩])
  (.seq (.block 0 (.seq (.reg [⟨some 14, .fa 0 (.t 5), none⟩, ⟨some 15, .load 1 false (.t 14) false, none⟩, ⟨some 16, .call 66 [(.t 15)] false, none⟩, ⟨some 17, .un .not (.t 16), none⟩, ⟨some 18, .mv (.t 17) false, none⟩, ⟨some 19, .fa 1 (.t 5), some (18, false)⟩, ⟨some 20, .load 1 false (.t 19) false, some (18, false)⟩, ⟨some 21, .call 45 [(.t 20), (.c (.int .i64 1)), (.c (.int .i64 3000))] false, some (18, false)⟩, ⟨some 22, .un .not (.t 21), some (18, false)⟩, ⟨some 23, .pick (.t 18) (.c (.bool true)) (.t 22), none⟩, ⟨some 24, .mv (.t 23) false, none⟩, ⟨some 25, .fa 2 (.t 5), some (24, false)⟩, ⟨some 26, .load 1 false (.t 25) false, some (24, false)⟩, ⟨some 27, .fa 1 (.t 5), some (24, false)⟩, ⟨some 28, .load 1 false (.t 27) false, some (24, false)⟩, ⟨some 29, .call 45 [(.t 26), (.c (.int .i64 1)), (.t 28)] false, some (24, false)⟩, ⟨some 30, .un .not (.t 29), some (24, false)⟩, ⟨some 31, .pick (.t 24) (.c (.bool true)) (.t 30), none⟩, ⟨some 32, .mv (.t 31) false, none⟩, ⟨some 33, .fa 3 (.t 5), some (32, false)⟩, ⟨some 34, .load 1 false (.t 33) false, some (32, false)⟩, ⟨some 35, .call 45 [(.t 34), (.c (.int .i64 1)), (.c (.int .i64 1000))] false, some (32, false)⟩, ⟨some 36, .un .not (.t 35), some (32, false)⟩, ⟨some 37, .pick (.t 32) (.c (.bool true)) (.t 36), none⟩, ⟨some 13, .mv (.t 37) true, none⟩])
  (.cond (.t 13) (.seq (.reg [⟨some 4, .mv (.c (.int .i64 10)) true, none⟩])
  (.ret))
  (.seq (.reg [⟨some 39, .fa 4 (.t 5), none⟩, ⟨some 40, .load 1 false (.t 39) false, none⟩, ⟨some 41, .fa 1 (.t 2), none⟩, ⟨some 42, .load 1 false (.t 41) false, none⟩, ⟨some 43, .len (.t 42), none⟩, ⟨some 44, .bin .sub (.t 43) (.c (.int .i64 1)), none⟩, ⟨some 45, .call 45 [(.t 40), (.c (.int .i64 0)), (.t 44)] false, none⟩, ⟨some 46, .un .not (.t 45), none⟩, ⟨some 38, .mv (.t 46) true, none⟩])
  (.cond (.t 38) (.seq (.reg [⟨some 4, .mv (.c (.int .i64 16)) true, none⟩])
  (.ret))
  (.seq (.reg [⟨some 48, .fa 3 (.t 2), none⟩, ⟨some 49, .load 1 false (.t 48) false, none⟩, ⟨some 50, .mv (.t 1) false, none⟩, ⟨some 51, .slc 6 (.t 49) none (some (.t 50)) none, none⟩, ⟨some 52, .mv (.t 6) false, none⟩, ⟨some 53, .calli 67 [(.t 51), (.t 52)], none⟩, ⟨some 47, .mv (.t 53) true, none⟩])
  (.cond (.t 47) (.seq (.reg [⟨some 4, .mv (.c (.int .i64 17)) true, none⟩])
  (.ret))
  (.seq (.reg [⟨some 55, .load 4 true (.t 2) false, none⟩, ⟨some 56, .fa 5 (.t 5), none⟩, ⟨some 57, .load 1 false (.t 56) false, none⟩, ⟨some 58, .call 68 [(.t 55), (.t 57)] false, none⟩, ⟨some 59, .un .not (.t 58), none⟩, ⟨some 54, .mv (.t 59) true, none⟩])
  (.cond (.t 54) (.seq (.reg [⟨some 4, .mv (.c (.int .i64 15)) true, none⟩])
  (.ret))
  (.skip))))))))))
  (.seq (.reg [⟨some 4, .mv (.c (.int .i64 0)) true, none⟩])
  (.ret))))), [.t 4]⟩
theorem row47 : RowOk Tryz.prog 47 C47 := ⟨Tryz.f47, ⟨[], [], [], []⟩, lvOf [], Tryz.func47, by kernel_rfl, by kernel_rfl⟩
def B48_0 : C := .seq (.reg [⟨some 9, .bin .lss (.t 8) (.t 7), none⟩])
  (.seq (.cond (.t 9) (.skip)
  (.exit 0))
  (.seq (.block 1 (.seq (.reg [⟨some 10, .mv (.t 8) false, none⟩, ⟨some 5, .mv (.t 10) true, none⟩])
  (.seq (.reg [⟨some 11, .mv (.t 1) false, none⟩, ⟨some 12, .mv (.t 0) false, none⟩, ⟨some 13, .mv (.t 5) false, none⟩, ⟨some 14, .ia 1 (.t 12) (.t 13), none⟩, ⟨some 15, .load 1 false (.t 14) false, none⟩, ⟨some 16, .callv (.t 11) [(.t 15)], none⟩])
  (.cond (.t 16) (.seq (.reg [⟨some 17, .mv (.t 5) false, none⟩, ⟨some 4, .mv (.t 17) true, none⟩])
  (.ret))
  (.skip)))))
  (.reg [⟨some 18, .bin .add (.t 8) (.c (.int .i64 1)), none⟩, ⟨some 8, .mv (.t 18) false, none⟩])))
def L48_0 : C := .loop [0, 1, 7, 8] 0 B48_0
theorem go48_0 (s : Env × Bx) (nb) : evL tab ext nb L48_0 s = (loopIn nb [0, 1, 7, 8] 0 s).bind fun s0 => (evL tab ext nb B48_0 s0).bind (seqG tab ext nb L48_0) := eL_loop _ _ _
/-- slices.IndexFunc[[]int,int] -/
def C48 : CFun := ⟨19, 2, .seq (.reg [⟨some 4, .mv (.c (.int .i64 0)) true, none⟩])
  (.seq (.seq (.reg [⟨some 6, .mv (.t 0) false, none⟩, ⟨some 7, .len (.t 6), none⟩, ⟨some 8, .mv (.c (.int .i64 0)) false, none⟩])
  (.block 0 (L48_0)))
  (.seq (.reg [⟨some 4, .mv (.c (.int .i64 (-1))) true, none⟩])
  (.ret))), [.t 4]⟩
theorem row48 : RowOk Tryz.prog 48 C48 := ⟨Tryz.f48, ⟨[], [], [], []⟩, lvOf [(0, [0, 1, 7, 8], 0)], Tryz.func48, by kernel_rfl, by kernel_rfl⟩
/-- swingbridge/count.held -/
def C49 : CFun := ⟨9, 2, .seq (.reg [⟨some 4, .mv (.c (.int .i64 0)) true, none⟩])
  (.seq (.seq (.reg [⟨some 5, .mv (.t 1) false, none⟩, ⟨some 6, .un .not (.t 5), none⟩])
  (.cond (.t 6) (.seq (.reg [⟨some 4, .mv (.c (.int .i64 1000000)) true, none⟩])
  (.ret))
  (.skip)))
  (.seq (.reg [⟨some 7, .mv (.t 0) false, none⟩, ⟨some 8, .mxn false [(.t 7), (.c (.int .i64 1000000))], none⟩, ⟨some 4, .mv (.t 8) true, none⟩])
  (.ret))), [.t 4]⟩
theorem row49 : RowOk Tryz.prog 49 C49 := ⟨Tryz.f49, ⟨[], [], [], []⟩, lvOf [], Tryz.func49, by kernel_rfl, by kernel_rfl⟩
/-- swingbridge/calc.Mul -/
def C50 : CFun := ⟨27, 2, .seq (.reg [⟨some 4, .mv (.c (.int .i64 0)) true, none⟩, ⟨some 5, .mv (.c (.bool false)) true, none⟩])
  (.seq (.reg [⟨some 9, .mv (.t 0) false, none⟩, ⟨some 10, .call 70 [(.t 9)] false, none⟩, ⟨some 11, .mv (.t 1) false, none⟩, ⟨some 12, .call 70 [(.t 11)] false, none⟩, ⟨some 13, .call 69 [(.t 10), (.t 12)] false, none⟩, ⟨some 8, .mv (.t 13) false, none⟩, ⟨some 14, .ext (.t 8) 0, none⟩, ⟨some 15, .ext (.t 8) 1, none⟩, ⟨some 6, .mv (.t 14) true, none⟩, ⟨some 7, .mv (.t 15) true, none⟩])
  (.seq (.seq (.reg [⟨some 16, .mv (.t 6) false, none⟩, ⟨some 17, .bin .gtr (.t 16) (.c (.int .u64 0)), none⟩])
  (.cond (.t 17) (.seq (.reg [⟨some 4, .mv (.c (.int .i64 0)) true, none⟩, ⟨some 5, .mv (.c (.bool false)) true, none⟩])
  (.ret))
  (.skip)))
  (.seq (.reg [⟨some 18, .mv (.t 7) false, none⟩, ⟨some 19, .mv (.t 0) false, none⟩, ⟨some 20, .bin .lss (.t 19) (.c (.int .i64 0)), none⟩, ⟨some 21, .mv (.t 1) false, none⟩, ⟨some 22, .bin .lss (.t 21) (.c (.int .i64 0)), none⟩, ⟨some 23, .eqb true (.t 20) (.t 22), none⟩, ⟨some 24, .call 71 [(.t 18), (.t 23)] false, none⟩, ⟨some 25, .ext (.t 24) 0, none⟩, ⟨some 26, .ext (.t 24) 1, none⟩, ⟨some 4, .mv (.t 25) true, none⟩, ⟨some 5, .mv (.t 26) true, none⟩])
  (.ret)))), [.t 4, .t 5]⟩
theorem row50 : RowOk Tryz.prog 50 C50 := ⟨Tryz.f50, ⟨[], [], [], []⟩, lvOf [], Tryz.func50, by kernel_rfl, by kernel_rfl⟩
/-- swingbridge/count.Jobs -/
def C51 : CFun := ⟨36, 3, .seq (.reg [⟨some 6, .mv (.c (.int .i64 0)) true, none⟩])
  (.seq (.seq (.reg [⟨some 9, .mv (.t 0) false, none⟩, ⟨some 10, .bin .lss (.t 9) (.c (.int .i64 1)), none⟩, ⟨some 11, .mv (.t 10) false, none⟩, ⟨some 12, .mv (.t 1) false, some (11, false)⟩, ⟨some 13, .bin .lss (.t 12) (.c (.int .i64 0)), some (11, false)⟩, ⟨some 14, .pick (.t 11) (.c (.bool true)) (.t 13), none⟩, ⟨some 15, .mv (.t 14) false, none⟩, ⟨some 16, .mv (.t 2) false, some (15, false)⟩, ⟨some 17, .bin .lss (.t 16) (.c (.int .i64 1)), some (15, false)⟩, ⟨some 18, .pick (.t 15) (.c (.bool true)) (.t 17), none⟩])
  (.cond (.t 18) (.seq (.reg [⟨some 6, .mv (.c (.int .i64 0)) true, none⟩])
  (.ret))
  (.skip)))
  (.seq (.reg [⟨some 20, .mv (.t 0) false, none⟩, ⟨some 21, .mv (.t 1) false, none⟩, ⟨some 22, .call 72 [(.t 20), (.t 21)] false, none⟩, ⟨some 19, .mv (.t 22) false, none⟩, ⟨some 23, .ext (.t 19) 0, none⟩, ⟨some 24, .ext (.t 19) 1, none⟩, ⟨some 7, .mv (.t 23) true, none⟩, ⟨some 8, .mv (.t 24) true, none⟩])
  (.seq (.seq (.reg [⟨some 25, .mv (.t 8) false, none⟩])
  (.cond (.t 25) (.seq (.reg [⟨some 26, .mv (.t 7) false, none⟩, ⟨some 27, .mv (.t 2) false, none⟩, ⟨some 28, .call 73 [(.t 26), (.t 27)] false, none⟩, ⟨some 29, .ext (.t 28) 0, none⟩, ⟨some 30, .ext (.t 28) 1, none⟩, ⟨some 31, .call 49 [(.t 29), (.t 30)] false, none⟩, ⟨some 6, .mv (.t 31) true, none⟩])
  (.ret))
  (.skip)))
  (.seq (.reg [⟨some 32, .mv (.t 0) false, none⟩, ⟨some 33, .mv (.t 1) false, none⟩, ⟨some 34, .mv (.t 2) false, none⟩, ⟨some 35, .call 74 [(.t 32), (.t 33), (.t 34)] false, none⟩, ⟨some 6, .mv (.t 35) true, none⟩])
  (.ret))))), [.t 6]⟩
theorem row51 : RowOk Tryz.prog 51 C51 := ⟨Tryz.f51, ⟨[], [], [], []⟩, lvOf [], Tryz.func51, by kernel_rfl, by kernel_rfl⟩
def B52_0 : C := .seq (.reg [⟨some 16, .bin .lss (.t 15) (.t 14), none⟩])
  (.seq (.cond (.t 16) (.skip)
  (.exit 0))
  (.seq (.block 1 (.seq (.reg [⟨some 17, .ia 1 (.t 13) (.t 15), none⟩, ⟨some 18, .load 1 false (.t 17) false, none⟩, ⟨some 9, .mv (.t 18) true, none⟩])
  (.reg [⟨some 19, .mv (.t 7) false, none⟩, ⟨some 20, .mv (.t 9) false, none⟩, ⟨some 21, .bin .add (.t 19) (.t 20), none⟩, ⟨some 7, .mv (.t 21) true, none⟩])))
  (.reg [⟨some 22, .bin .add (.t 15) (.c (.int .i64 1)), none⟩, ⟨some 15, .mv (.t 22) false, none⟩])))
def L52_0 : C := .loop [7, 13, 14, 15] 1 B52_0
theorem go52_0 (s : Env × Bx) (nb) : evL tab ext nb L52_0 s = (loopIn nb [7, 13, 14, 15] 1 s).bind fun s0 => (evL tab ext nb B52_0 s0).bind (seqG tab ext nb L52_0) := eL_loop _ _ _
/-- swingbridge/demand.At -/
def C52 : CFun := ⟨24, 3, .seq (.reg [⟨some 3, .box (.t 0), none⟩, ⟨some 6, .mv (.c (.int .i64 0)) true, none⟩])
  (.seq (.reg [⟨some 7, .mv (.c (.int .i64 0)) true, none⟩])
  (.seq (.seq (.reg [⟨some 10, .load 4 true (.t 3) false, none⟩, ⟨some 11, .mv (.t 1) false, none⟩, ⟨some 12, .mv (.t 2) false, none⟩, ⟨some 13, .call 75 [(.t 10), (.t 11), (.t 12)] false, none⟩, ⟨some 14, .len (.t 13), none⟩, ⟨some 15, .mv (.c (.int .i64 0)) false, none⟩])
  (.block 0 (L52_0)))
  (.seq (.reg [⟨some 23, .mv (.t 7) false, none⟩, ⟨some 6, .mv (.t 23) true, none⟩])
  (.ret)))), [.t 6]⟩
theorem row52 : RowOk Tryz.prog 52 C52 := ⟨Tryz.f52, ⟨[], [], [], []⟩, lvOf [(0, [7, 13, 14, 15], 1)], Tryz.func52, by kernel_rfl, by kernel_rfl⟩
/-- swingbridge/demand.Locks -/
def C53 : CFun := ⟨5, 1, .seq (.reg [⟨some 1, .box (.t 0), none⟩, ⟨some 2, .mv (.c (.int .i64 0)) true, none⟩])
  (.seq (.reg [⟨some 3, .load 6 true (.t 1) false, none⟩, ⟨some 4, .call 44 [(.t 3), (.c (.int .i64 3))] false, none⟩, ⟨some 2, .mv (.t 4) true, none⟩])
  (.ret)), [.t 2]⟩
theorem row53 : RowOk Tryz.prog 53 C53 := ⟨Tryz.f53, ⟨[], [], [], []⟩, lvOf [], Tryz.func53, by kernel_rfl, by kernel_rfl⟩
/-- swingbridge/swingbridgeref11.Jobs -/
def C54 : CFun := ⟨54, 3, .seq (.reg [⟨some 6, .mv (.c (.int .i64 0)) true, none⟩])
  (.seq (.seq (.reg [⟨some 10, .mv (.t 0) false, none⟩, ⟨some 11, .bin .lss (.t 10) (.c (.int .i64 1)), none⟩, ⟨some 12, .mv (.t 11) false, none⟩, ⟨some 13, .mv (.t 1) false, some (12, false)⟩, ⟨some 14, .bin .lss (.t 13) (.c (.int .i64 0)), some (12, false)⟩, ⟨some 15, .pick (.t 12) (.c (.bool true)) (.t 14), none⟩, ⟨some 16, .mv (.t 15) false, none⟩, ⟨some 17, .mv (.t 2) false, some (16, false)⟩, ⟨some 18, .bin .lss (.t 17) (.c (.int .i64 1)), some (16, false)⟩, ⟨some 19, .pick (.t 16) (.c (.bool true)) (.t 18), none⟩])
  (.cond (.t 19) (.seq (.reg [⟨some 6, .mv (.c (.int .i64 0)) true, none⟩])
  (.ret))
  (.skip)))
  (.seq (.reg [⟨some 20, .mv (.t 0) false, none⟩, ⟨some 21, .mv (.t 2) false, none⟩, ⟨some 22, .bin .quo (.t 20) (.t 21), none⟩, ⟨some 23, .mxn false [(.t 22), (.c (.int .i64 1000000))], none⟩, ⟨some 24, .mv (.t 1) false, none⟩, ⟨some 25, .mv (.t 2) false, none⟩, ⟨some 26, .bin .quo (.t 24) (.t 25), none⟩, ⟨some 27, .mxn false [(.t 26), (.c (.int .i64 1000000))], none⟩, ⟨some 28, .bin .add (.t 23) (.t 27), none⟩, ⟨some 7, .mv (.t 28) true, none⟩])
  (.seq (.reg [⟨some 29, .mv (.t 0) false, none⟩, ⟨some 30, .mv (.t 2) false, none⟩, ⟨some 31, .bin .rem (.t 29) (.t 30), none⟩, ⟨some 32, .mv (.t 1) false, none⟩, ⟨some 33, .mv (.t 2) false, none⟩, ⟨some 34, .bin .rem (.t 32) (.t 33), none⟩, ⟨some 8, .mv (.t 31) true, none⟩, ⟨some 9, .mv (.t 34) true, none⟩])
  (.seq (.block 0 (.seq (.reg [⟨some 36, .mv (.t 8) false, none⟩, ⟨some 37, .mv (.t 2) false, none⟩, ⟨some 38, .mv (.t 9) false, none⟩, ⟨some 39, .bin .sub (.t 37) (.t 38), none⟩, ⟨some 40, .bin .gtr (.t 36) (.t 39), none⟩, ⟨some 35, .mv (.t 40) true, none⟩])
  (.cond (.t 35) (.reg [⟨some 41, .mv (.t 7) false, none⟩, ⟨some 42, .bin .add (.t 41) (.c (.int .i64 2)), none⟩, ⟨some 7, .mv (.t 42) true, none⟩])
  (.seq (.reg [⟨some 44, .mv (.t 8) false, none⟩, ⟨some 45, .bin .gtr (.t 44) (.c (.int .i64 0)), none⟩, ⟨some 46, .mv (.t 45) false, none⟩, ⟨some 47, .mv (.t 9) false, some (46, false)⟩, ⟨some 48, .bin .gtr (.t 47) (.c (.int .i64 0)), some (46, false)⟩, ⟨some 49, .pick (.t 46) (.c (.bool true)) (.t 48), none⟩, ⟨some 43, .mv (.t 49) true, none⟩])
  (.cond (.t 43) (.reg [⟨some 50, .mv (.t 7) false, none⟩, ⟨some 51, .bin .add (.t 50) (.c (.int .i64 1)), none⟩, ⟨some 7, .mv (.t 51) true, none⟩])
  (.skip))))))
  (.seq (.reg [⟨some 52, .mv (.t 7) false, none⟩, ⟨some 53, .mxn false [(.t 52), (.c (.int .i64 1000000))], none⟩, ⟨some 6, .mv (.t 53) true, none⟩])
  (.ret)))))), [.t 6]⟩
theorem row54 : RowOk Tryz.prog 54 C54 := ⟨Tryz.f54, ⟨[], [], [], []⟩, lvOf [], Tryz.func54, by kernel_rfl, by kernel_rfl⟩
def B55_0 : C := .seq (.seq (.reg [⟨some 21, .mv (.t 11) false, none⟩, ⟨some 22, .fa 5 (.t 10), none⟩, ⟨some 23, .load 1 false (.t 22) false, none⟩, ⟨some 24, .len (.t 23), none⟩, ⟨some 25, .bin .lss (.t 21) (.t 24), none⟩])
  (.cond (.t 25) (.skip)
  (.exit 0)))
  (.seq (.block 1 (.seq (.reg [⟨some 28, .fa 5 (.t 10), none⟩, ⟨some 29, .load 1 false (.t 28) false, none⟩, ⟨some 30, .mv (.t 11) false, none⟩, ⟨some 31, .ia 3 (.t 29) (.t 30), none⟩, ⟨some 32, .fa 0 (.t 31), none⟩, ⟨some 33, .load 1 false (.t 32) false, none⟩, ⟨some 34, .bin .eql (.t 33) (.c (.int .i64 3)), none⟩, ⟨some 35, .mv (.t 34) false, none⟩, ⟨some 36, .fa 2 (.t 3), some (35, true)⟩, ⟨some 37, .load 1 false (.t 36) false, some (35, true)⟩, ⟨some 38, .fa 5 (.t 10), some (35, true)⟩, ⟨some 39, .load 1 false (.t 38) false, some (35, true)⟩, ⟨some 40, .mv (.t 11) false, some (35, true)⟩, ⟨some 41, .ia 3 (.t 39) (.t 40), some (35, true)⟩, ⟨some 42, .fa 2 (.t 41), some (35, true)⟩, ⟨some 43, .load 1 false (.t 42) false, some (35, true)⟩, ⟨some 44, .ia 1 (.t 37) (.t 43), some (35, true)⟩, ⟨some 45, .load 1 false (.t 44) false, some (35, true)⟩, ⟨some 46, .mv (.t 2) false, some (35, true)⟩, ⟨some 47, .bin .eql (.t 45) (.t 46), some (35, true)⟩, ⟨some 48, .pick (.t 35) (.t 47) (.c (.bool false)), none⟩])
  (.cond (.t 48) (.reg [⟨some 49, .mv (.t 8) false, none⟩, ⟨some 50, .fa 5 (.t 10), none⟩, ⟨some 51, .load 1 false (.t 50) false, none⟩, ⟨some 52, .mv (.t 11) false, none⟩, ⟨some 53, .ia 3 (.t 51) (.t 52), none⟩, ⟨some 54, .fa 1 (.t 53), none⟩, ⟨some 55, .load 1 false (.t 54) false, none⟩, ⟨some 56, .bin .add (.t 49) (.t 55), none⟩, ⟨some 57, .mv (.t 9) false, none⟩, ⟨some 58, .fa 5 (.t 10), none⟩, ⟨some 59, .load 1 false (.t 58) false, none⟩, ⟨some 60, .mv (.t 11) false, none⟩, ⟨some 61, .ia 3 (.t 59) (.t 60), none⟩, ⟨some 62, .fa 1 (.t 61), none⟩, ⟨some 63, .load 1 false (.t 62) false, none⟩, ⟨some 64, .mxn true [(.t 57), (.t 63)], none⟩, ⟨some 8, .mv (.t 56) true, none⟩, ⟨some 9, .mv (.t 64) true, none⟩])
  (.skip))))
  (.reg [⟨some 26, .mv (.t 11) false, none⟩, ⟨some 27, .bin .add (.t 26) (.c (.int .i64 1)), none⟩, ⟨some 11, .mv (.t 27) true, none⟩]))
def L55_0 : C := .loop [2, 3, 8, 9, 10, 11] 2 B55_0
theorem go55_0 (s : Env × Bx) (nb) : evL tab ext nb L55_0 s = (loopIn nb [2, 3, 8, 9, 10, 11] 2 s).bind fun s0 => (evL tab ext nb B55_0 s0).bind (seqG tab ext nb L55_0) := eL_loop _ _ _
/-- swingbridge/swingbridgeref11.At -/
def C55 : CFun := ⟨67, 3, .seq (.reg [⟨some 3, .box (.t 0), none⟩, ⟨some 6, .mv (.c (.int .i64 0)) true, none⟩, ⟨some 7, .mv (.c (.int .i64 0)) true, none⟩])
  (.seq (.reg [⟨some 8, .mv (.c (.int .i64 0)) true, none⟩, ⟨some 9, .mv (.c (.int .i64 0)) true, none⟩])
  (.seq (.seq (.reg [⟨some 12, .load 4 true (.t 3) false, none⟩, ⟨some 13, .mv (.t 1) false, none⟩, ⟨some 14, .call 31 [(.t 12), (.t 13)] false, none⟩, ⟨some 15, .un .not (.t 14), none⟩])
  (.cond (.t 15) (.seq (.reg [⟨some 6, .mv (.c (.int .i64 0)) true, none⟩, ⟨some 7, .mv (.c (.int .i64 0)) true, none⟩])
  (.ret))
  (.skip)))
  (.seq (.reg [⟨some 16, .fa 3 (.t 3), none⟩, ⟨some 17, .load 1 false (.t 16) false, none⟩, ⟨some 18, .mv (.t 1) false, none⟩, ⟨some 19, .ia 6 (.t 17) (.t 18), none⟩, ⟨some 20, .load 6 true (.t 19) false, none⟩, ⟨some 10, .alloc [(.string ⟨#[]⟩), (.int .i64 0), (.int .i64 0), (.int .i64 0), (.int .i64 0), (.slice none 0 0)], none⟩, ⟨none, .store 6 (.t 10) (.t 20), none⟩])
  (.seq (.seq (.reg [⟨some 11, .mv (.c (.int .i64 0)) true, none⟩])
  (.block 0 (L55_0)))
  (.seq (.reg [⟨some 65, .mv (.t 8) false, none⟩, ⟨some 66, .mv (.t 9) false, none⟩, ⟨some 6, .mv (.t 65) true, none⟩, ⟨some 7, .mv (.t 66) true, none⟩])
  (.ret)))))), [.t 6, .t 7]⟩
theorem row55 : RowOk Tryz.prog 55 C55 := ⟨Tryz.f55, ⟨[], [], [], []⟩, lvOf [(0, [2, 3, 8, 9, 10, 11], 2)], Tryz.func55, by kernel_rfl, by kernel_rfl⟩
def B56_0 : C := .seq (.reg [⟨some 15, .bin .lss (.t 14) (.t 13), none⟩])
  (.seq (.cond (.t 15) (.skip)
  (.exit 0))
  (.seq (.block 1 (.seq (.reg [⟨some 16, .mv (.t 14) false, none⟩, ⟨some 17, .ia 6 (.t 12) (.t 14), none⟩, ⟨some 18, .load 6 true (.t 17) false, none⟩, ⟨some 8, .alloc [(.string ⟨#[]⟩), (.int .i64 0), (.int .i64 0), (.int .i64 0), (.int .i64 0), (.slice none 0 0)], none⟩, ⟨some 7, .mv (.t 16) true, none⟩, ⟨none, .store 6 (.t 8) (.t 18), none⟩])
  (.seq (.reg [⟨some 20, .load 4 true (.t 2) false, none⟩, ⟨some 21, .mv (.t 1) false, none⟩, ⟨some 22, .mv (.t 7) false, none⟩, ⟨some 23, .call 9 [(.t 20), (.t 21), (.t 22)] false, none⟩, ⟨some 19, .mv (.t 23) false, none⟩, ⟨some 24, .ext (.t 19) 0, none⟩, ⟨some 25, .ext (.t 19) 1, none⟩, ⟨some 9, .mv (.t 24) true, none⟩, ⟨some 10, .mv (.t 25) true, none⟩])
  (.seq (.seq (.reg [⟨some 26, .mv (.t 10) false, none⟩, ⟨some 27, .un .not (.t 26), none⟩, ⟨some 28, .mv (.t 27) false, none⟩, ⟨some 29, .mv (.t 9) false, some (28, false)⟩, ⟨some 30, .fa 2 (.t 8), some (28, false)⟩, ⟨some 31, .load 1 false (.t 30) false, some (28, false)⟩, ⟨some 32, .bin .gtr (.t 29) (.t 31), some (28, false)⟩, ⟨some 33, .pick (.t 28) (.c (.bool true)) (.t 32), none⟩])
  (.cond (.t 33) (.seq (.reg [⟨some 4, .mv (.c (.slice none 0 0)) true, none⟩, ⟨some 5, .mv (.c (.bool false)) true, none⟩])
  (.ret))
  (.skip)))
  (.reg [⟨some 34, .mv (.t 6) true, none⟩, ⟨some 35, .mv (.t 9) false, none⟩, ⟨some 36, .bsl 1 1 [(.int .i64 0)] [(0, 1, (.t 35))] false, none⟩, ⟨some 37, .app 1 8 (.t 34) (.t 36) false, none⟩, ⟨some 6, .mv (.t 37) true, none⟩])))))
  (.reg [⟨some 38, .bin .add (.t 14) (.c (.int .i64 1)), none⟩, ⟨some 14, .mv (.t 38) false, none⟩])))
def L56_0 : C := .loop [1, 2, 6, 12, 13, 14] 1 B56_0
theorem go56_0 (s : Env × Bx) (nb) : evL tab ext nb L56_0 s = (loopIn nb [1, 2, 6, 12, 13, 14] 1 s).bind fun s0 => (evL tab ext nb B56_0 s0).bind (seqG tab ext nb L56_0) := eL_loop _ _ _
/-- swingbridge/admit.round -/
def C56 : CFun := ⟨40, 2, .seq (.reg [⟨some 2, .box (.t 0), none⟩, ⟨some 4, .mv (.c (.slice none 0 0)) true, none⟩, ⟨some 5, .mv (.c (.bool false)) true, none⟩])
  (.seq (.reg [⟨some 6, .mv (.c (.slice none 0 0)) true, none⟩])
  (.seq (.seq (.reg [⟨some 11, .fa 3 (.t 2), none⟩, ⟨some 12, .load 1 false (.t 11) false, none⟩, ⟨some 13, .len (.t 12), none⟩, ⟨some 14, .mv (.c (.int .i64 0)) false, none⟩])
  (.block 0 (L56_0)))
  (.seq (.reg [⟨some 39, .mv (.t 6) false, none⟩, ⟨some 4, .mv (.t 39) true, none⟩, ⟨some 5, .mv (.c (.bool true)) true, none⟩])
  (.ret)))), [.t 4, .t 5]⟩
theorem row56 : RowOk Tryz.prog 56 C56 := ⟨Tryz.f56, ⟨[], [], [], []⟩, lvOf [(0, [1, 2, 6, 12, 13, 14], 1)], Tryz.func56, by kernel_rfl, by kernel_rfl⟩
def B57_0 : C := .seq (.reg [⟨some 14, .bin .lss (.t 13) (.t 12), none⟩])
  (.seq (.cond (.t 14) (.skip)
  (.exit 0))
  (.seq (.block 1 (.seq (.reg [⟨some 15, .mv (.t 13) false, none⟩, ⟨some 5, .mv (.t 15) true, none⟩])
  (.seq (.reg [⟨some 16, .mv (.t 0) false, none⟩, ⟨some 17, .mv (.t 5) false, none⟩, ⟨some 18, .ia 1 (.t 16) (.t 17), none⟩, ⟨some 19, .load 1 false (.t 18) false, none⟩, ⟨some 20, .mv (.t 1) false, none⟩, ⟨some 21, .mv (.t 5) false, none⟩, ⟨some 22, .ia 1 (.t 20) (.t 21), none⟩, ⟨some 23, .load 1 false (.t 22) false, none⟩, ⟨some 24, .bin .neq (.t 19) (.t 23), none⟩])
  (.cond (.t 24) (.seq (.reg [⟨some 4, .mv (.c (.bool false)) true, none⟩])
  (.ret))
  (.skip)))))
  (.reg [⟨some 25, .bin .add (.t 13) (.c (.int .i64 1)), none⟩, ⟨some 13, .mv (.t 25) false, none⟩])))
def L57_0 : C := .loop [0, 1, 12, 13] 0 B57_0
theorem go57_0 (s : Env × Bx) (nb) : evL tab ext nb L57_0 s = (loopIn nb [0, 1, 12, 13] 0 s).bind fun s0 => (evL tab ext nb B57_0 s0).bind (seqG tab ext nb L57_0) := eL_loop _ _ _
/-- slices.Equal[[]int,int] -/
def C57 : CFun := ⟨26, 2, .seq (.reg [⟨some 4, .mv (.c (.bool false)) true, none⟩])
  (.seq (.seq (.reg [⟨some 6, .mv (.t 0) false, none⟩, ⟨some 7, .len (.t 6), none⟩, ⟨some 8, .mv (.t 1) false, none⟩, ⟨some 9, .len (.t 8), none⟩, ⟨some 10, .bin .neq (.t 7) (.t 9), none⟩])
  (.cond (.t 10) (.seq (.reg [⟨some 4, .mv (.c (.bool false)) true, none⟩])
  (.ret))
  (.skip)))
  (.seq (.seq (.reg [⟨some 11, .mv (.t 0) false, none⟩, ⟨some 12, .len (.t 11), none⟩, ⟨some 13, .mv (.c (.int .i64 0)) false, none⟩])
  (.block 0 (L57_0)))
  (.seq (.reg [⟨some 4, .mv (.c (.bool true)) true, none⟩])
  (.ret)))), [.t 4]⟩
theorem row57 : RowOk Tryz.prog 57 C57 := ⟨Tryz.f57, ⟨[], [], [], []⟩, lvOf [(0, [0, 1, 12, 13], 0)], Tryz.func57, by kernel_rfl, by kernel_rfl⟩
/-- swingbridge/wait.Part -/
def C58 : CFun := ⟨41, 4, .seq (.reg [⟨some 4, .box (.t 0), none⟩, ⟨some 8, .mv (.c (.int .i64 0)) true, none⟩, ⟨some 9, .mv (.c (.bool false)) true, none⟩])
  (.seq (.seq (.reg [⟨some 10, .mv (.t 1) false, none⟩, ⟨some 11, .len (.t 10), none⟩, ⟨some 12, .fa 3 (.t 4), none⟩, ⟨some 13, .load 1 false (.t 12) false, none⟩, ⟨some 14, .len (.t 13), none⟩, ⟨some 15, .bin .neq (.t 11) (.t 14), none⟩])
  (.cond (.t 15) (.seq (.reg [⟨some 8, .mv (.c (.int .i64 0)) true, none⟩, ⟨some 9, .mv (.c (.bool false)) true, none⟩])
  (.ret))
  (.skip)))
  (.seq (.seq (.reg [⟨some 16, .fa 0 (.t 4), none⟩, ⟨some 17, .load 1 false (.t 16) false, none⟩])
  (.block 0 (.seq (.reg [⟨some 19, .bin .eql (.t 17) (.c (.int .i64 1)), none⟩, ⟨some 18, .mv (.t 19) true, none⟩])
  (.cond (.t 18) (.seq (.reg [⟨some 20, .load 4 true (.t 4) false, none⟩, ⟨some 21, .mv (.t 2) false, none⟩, ⟨some 22, .mv (.t 3) false, none⟩, ⟨some 23, .call 76 [(.t 20), (.t 21), (.t 22)] false, none⟩, ⟨some 24, .ext (.t 23) 0, none⟩, ⟨some 25, .ext (.t 23) 1, none⟩, ⟨some 8, .mv (.t 24) true, none⟩, ⟨some 9, .mv (.t 25) true, none⟩])
  (.ret))
  (.seq (.reg [⟨some 27, .bin .eql (.t 17) (.c (.int .i64 2)), none⟩, ⟨some 26, .mv (.t 27) true, none⟩])
  (.cond (.t 26) (.seq (.reg [⟨some 28, .load 4 true (.t 4) false, none⟩, ⟨some 29, .mv (.t 1) false, none⟩, ⟨some 30, .mv (.t 2) false, none⟩, ⟨some 31, .mv (.t 3) false, none⟩, ⟨some 32, .call 77 [(.t 28), (.t 29), (.t 30), (.t 31)] false, none⟩, ⟨some 33, .ext (.t 32) 0, none⟩, ⟨some 34, .ext (.t 32) 1, none⟩, ⟨some 8, .mv (.t 33) true, none⟩, ⟨some 9, .mv (.t 34) true, none⟩])
  (.ret))
  (.skip)))))))
  (.seq (.reg [⟨some 35, .load 4 true (.t 4) false, none⟩, ⟨some 36, .mv (.t 2) false, none⟩, ⟨some 37, .mv (.t 3) false, none⟩, ⟨some 38, .call 78 [(.t 35), (.t 36), (.t 37)] false, none⟩, ⟨some 39, .ext (.t 38) 0, none⟩, ⟨some 40, .ext (.t 38) 1, none⟩, ⟨some 8, .mv (.t 39) true, none⟩, ⟨some 9, .mv (.t 40) true, none⟩])
  (.ret)))), [.t 8, .t 9]⟩
theorem row58 : RowOk Tryz.prog 58 C58 := ⟨Tryz.f58, ⟨[], [], [], []⟩, lvOf [], Tryz.func58, by kernel_rfl, by kernel_rfl⟩
def B59_0 : C := .seq (.seq (.reg [⟨some 21, .mv (.t 3) false, none⟩, ⟨some 22, .fa 1 (.t 1), none⟩, ⟨some 23, .load 1 false (.t 22) false, none⟩, ⟨some 24, .len (.t 23), none⟩, ⟨some 25, .bin .lss (.t 21) (.t 24), none⟩])
  (.cond (.t 25) (.skip)
  (.exit 0)))
  (.seq (.block 1 (.seq (.reg [⟨some 28, .fa 1 (.t 1), none⟩, ⟨some 29, .load 1 false (.t 28) false, none⟩, ⟨some 30, .mv (.t 3) false, none⟩, ⟨some 31, .ia 1 (.t 29) (.t 30), none⟩, ⟨some 32, .load 1 false (.t 31) false, none⟩, ⟨some 33, .bin .lss (.t 32) (.c (.int .i64 1)), none⟩, ⟨some 34, .mv (.t 33) false, none⟩, ⟨some 35, .fa 1 (.t 1), some (34, false)⟩, ⟨some 36, .load 1 false (.t 35) false, some (34, false)⟩, ⟨some 37, .mv (.t 3) false, some (34, false)⟩, ⟨some 38, .ia 1 (.t 36) (.t 37), some (34, false)⟩, ⟨some 39, .load 1 false (.t 38) false, some (34, false)⟩, ⟨some 40, .bin .gtr (.t 39) (.c (.int .i64 3)), some (34, false)⟩, ⟨some 41, .pick (.t 34) (.c (.bool true)) (.t 40), none⟩])
  (.cond (.t 41) (.seq (.reg [⟨some 2, .mv (.c (.bool false)) true, none⟩])
  (.ret))
  (.skip))))
  (.reg [⟨some 26, .mv (.t 3) false, none⟩, ⟨some 27, .bin .add (.t 26) (.c (.int .i64 1)), none⟩, ⟨some 3, .mv (.t 27) true, none⟩]))
def L59_0 : C := .loop [1, 3] 1 B59_0
theorem go59_0 (s : Env × Bx) (nb) : evL tab ext nb L59_0 s = (loopIn nb [1, 3] 1 s).bind fun s0 => (evL tab ext nb B59_0 s0).bind (seqG tab ext nb L59_0) := eL_loop _ _ _
def B59_2 : C := .seq (.seq (.reg [⟨some 42, .mv (.t 4) false, none⟩, ⟨some 43, .fa 2 (.t 1), none⟩, ⟨some 44, .load 1 false (.t 43) false, none⟩, ⟨some 45, .len (.t 44), none⟩, ⟨some 46, .bin .lss (.t 42) (.t 45), none⟩])
  (.cond (.t 46) (.skip)
  (.exit 2)))
  (.seq (.block 3 (.seq (.reg [⟨some 49, .fa 2 (.t 1), none⟩, ⟨some 50, .load 1 false (.t 49) false, none⟩, ⟨some 51, .mv (.t 4) false, none⟩, ⟨some 52, .ia 1 (.t 50) (.t 51), none⟩, ⟨some 53, .load 1 false (.t 52) false, none⟩, ⟨some 54, .bin .lss (.t 53) (.c (.int .i64 0)), none⟩, ⟨some 55, .mv (.t 54) false, none⟩, ⟨some 56, .fa 2 (.t 1), some (55, false)⟩, ⟨some 57, .load 1 false (.t 56) false, some (55, false)⟩, ⟨some 58, .mv (.t 4) false, some (55, false)⟩, ⟨some 59, .ia 1 (.t 57) (.t 58), some (55, false)⟩, ⟨some 60, .load 1 false (.t 59) false, some (55, false)⟩, ⟨some 61, .fa 1 (.t 1), some (55, false)⟩, ⟨some 62, .load 1 false (.t 61) false, some (55, false)⟩, ⟨some 63, .len (.t 62), some (55, false)⟩, ⟨some 64, .bin .geq (.t 60) (.t 63), some (55, false)⟩, ⟨some 65, .pick (.t 55) (.c (.bool true)) (.t 64), none⟩])
  (.cond (.t 65) (.seq (.reg [⟨some 2, .mv (.c (.bool false)) true, none⟩])
  (.ret))
  (.skip))))
  (.reg [⟨some 47, .mv (.t 4) false, none⟩, ⟨some 48, .bin .add (.t 47) (.c (.int .i64 1)), none⟩, ⟨some 4, .mv (.t 48) true, none⟩]))
def L59_2 : C := .loop [1, 4] 1 B59_2
theorem go59_2 (s : Env × Bx) (nb) : evL tab ext nb L59_2 s = (loopIn nb [1, 4] 1 s).bind fun s0 => (evL tab ext nb B59_2 s0).bind (seqG tab ext nb L59_2) := eL_loop _ _ _
/-- swingbridge/swingbridgeref7.places -/
def C59 : CFun := ⟨66, 1, .seq (.reg [⟨some 1, .box (.t 0), none⟩, ⟨some 2, .mv (.c (.bool false)) true, none⟩])
  (.seq (.seq (.reg [⟨some 5, .fa 1 (.t 1), none⟩, ⟨some 6, .load 1 false (.t 5) false, none⟩, ⟨some 7, .len (.t 6), none⟩, ⟨some 8, .bin .lss (.t 7) (.c (.int .i64 1)), none⟩, ⟨some 9, .mv (.t 8) false, none⟩, ⟨some 10, .fa 1 (.t 1), some (9, false)⟩, ⟨some 11, .load 1 false (.t 10) false, some (9, false)⟩, ⟨some 12, .len (.t 11), some (9, false)⟩, ⟨some 13, .bin .gtr (.t 12) (.c (.int .i64 3)), some (9, false)⟩, ⟨some 14, .pick (.t 9) (.c (.bool true)) (.t 13), none⟩, ⟨some 15, .mv (.t 14) false, none⟩, ⟨some 16, .fa 2 (.t 1), some (15, false)⟩, ⟨some 17, .load 1 false (.t 16) false, some (15, false)⟩, ⟨some 18, .len (.t 17), some (15, false)⟩, ⟨some 19, .bin .gtr (.t 18) (.c (.int .i64 4)), some (15, false)⟩, ⟨some 20, .pick (.t 15) (.c (.bool true)) (.t 19), none⟩])
  (.cond (.t 20) (.seq (.reg [⟨some 2, .mv (.c (.bool false)) true, none⟩])
  (.ret))
  (.skip)))
  (.seq (.seq (.reg [⟨some 3, .mv (.c (.int .i64 0)) true, none⟩])
  (.block 0 (L59_0)))
  (.seq (.seq (.reg [⟨some 4, .mv (.c (.int .i64 0)) true, none⟩])
  (.block 2 (L59_2)))
  (.seq (.reg [⟨some 2, .mv (.c (.bool true)) true, none⟩])
  (.ret))))), [.t 2]⟩
theorem row59 : RowOk Tryz.prog 59 C59 := ⟨Tryz.f59, ⟨[], [], [], []⟩, lvOf [(0, [1, 3], 1), (2, [1, 4], 1)], Tryz.func59, by kernel_rfl, by kernel_rfl⟩
def B60_0 : C := .seq (.seq (.reg [⟨some 60, .mv (.t 6) false, none⟩, ⟨some 61, .mv (.t 1) false, none⟩, ⟨some 62, .bin .lss (.t 60) (.t 61), none⟩])
  (.cond (.t 62) (.skip)
  (.exit 0)))
  (.seq (.block 1 (.seq (.reg [⟨some 65, .fa 3 (.t 2), none⟩, ⟨some 66, .load 1 false (.t 65) false, none⟩, ⟨some 67, .mv (.t 6) false, none⟩, ⟨some 68, .ia 6 (.t 66) (.t 67), none⟩, ⟨some 69, .fa 0 (.t 68), none⟩, ⟨some 70, .load 1 false (.t 69) false, none⟩, ⟨some 71, .fa 0 (.t 5), none⟩, ⟨some 72, .load 1 false (.t 71) false, none⟩, ⟨some 73, .bin .eql (.t 70) (.t 72), none⟩, ⟨some 74, .mv (.t 73) false, none⟩, ⟨some 75, .fa 3 (.t 2), some (74, false)⟩, ⟨some 76, .load 1 false (.t 75) false, some (74, false)⟩, ⟨some 77, .mv (.t 6) false, some (74, false)⟩, ⟨some 78, .ia 6 (.t 76) (.t 77), some (74, false)⟩, ⟨some 79, .fa 3 (.t 78), some (74, false)⟩, ⟨some 80, .load 1 false (.t 79) false, some (74, false)⟩, ⟨some 81, .fa 3 (.t 5), some (74, false)⟩, ⟨some 82, .load 1 false (.t 81) false, some (74, false)⟩, ⟨some 83, .bin .eql (.t 80) (.t 82), some (74, false)⟩, ⟨some 84, .pick (.t 74) (.c (.bool true)) (.t 83), none⟩])
  (.cond (.t 84) (.seq (.reg [⟨some 4, .mv (.c (.int .i64 17)) true, none⟩])
  (.ret))
  (.skip))))
  (.reg [⟨some 63, .mv (.t 6) false, none⟩, ⟨some 64, .bin .add (.t 63) (.c (.int .i64 1)), none⟩, ⟨some 6, .mv (.t 64) true, none⟩]))
def L60_0 : C := .loop [1, 2, 5, 6] 2 B60_0
theorem go60_0 (s : Env × Bx) (nb) : evL tab ext nb L60_0 s = (loopIn nb [1, 2, 5, 6] 2 s).bind fun s0 => (evL tab ext nb B60_0 s0).bind (seqG tab ext nb L60_0) := eL_loop _ _ _
def B60_2 : C := .seq (.seq (.reg [⟨some 95, .mv (.t 7) false, none⟩, ⟨some 96, .fa 5 (.t 5), none⟩, ⟨some 97, .load 1 false (.t 96) false, none⟩, ⟨some 98, .len (.t 97), none⟩, ⟨some 99, .bin .lss (.t 95) (.t 98), none⟩])
  (.cond (.t 99) (.skip)
  (.exit 2)))
  (.seq (.block 3 (.seq (.reg [⟨some 102, .load 4 true (.t 2) false, none⟩, ⟨some 103, .fa 5 (.t 5), none⟩, ⟨some 104, .load 1 false (.t 103) false, none⟩, ⟨some 105, .mv (.t 7) false, none⟩, ⟨some 106, .ia 3 (.t 104) (.t 105), none⟩, ⟨some 107, .load 3 true (.t 106) false, none⟩, ⟨some 108, .call 80 [(.t 102), (.t 107)] false, none⟩, ⟨some 109, .un .not (.t 108), none⟩])
  (.cond (.t 109) (.seq (.reg [⟨some 4, .mv (.c (.int .i64 15)) true, none⟩])
  (.ret))
  (.skip))))
  (.reg [⟨some 100, .mv (.t 7) false, none⟩, ⟨some 101, .bin .add (.t 100) (.c (.int .i64 1)), none⟩, ⟨some 7, .mv (.t 101) true, none⟩]))
def L60_2 : C := .loop [2, 5, 7] 2 B60_2
theorem go60_2 (s : Env × Bx) (nb) : evL tab ext nb L60_2 s = (loopIn nb [2, 5, 7] 2 s).bind fun s0 => (evL tab ext nb B60_2 s0).bind (seqG tab ext nb L60_2) := eL_loop _ _ _
/-- swingbridge/swingbridgeref7.task -/
def C60 : CFun := ⟨110, 2, .seq (.reg [⟨some 2, .box (.t 0), none⟩, ⟨some 4, .mv (.c (.int .i64 0)) true, none⟩])
  (.seq (.reg [⟨some 8, .fa 3 (.t 2), none⟩, ⟨some 9, .load 1 false (.t 8) false, none⟩, ⟨some 10, .mv (.t 1) false, none⟩, ⟨some 11, .ia 6 (.t 9) (.t 10), none⟩, ⟨some 12, .load 6 true (.t 11) false, none⟩, ⟨some 5, .alloc [(.string ⟨#[]⟩), (.int .i64 0), (.int .i64 0), (.int .i64 0), (.int .i64 0), (.slice none 0 0)], none⟩, ⟨none, .store 6 (.t 5) (.t 12), none⟩])
  (.seq (.seq (.reg [⟨some 13, .fa 0 (.t 5), none⟩, ⟨some 14, .load 1 false (.t 13) false, none⟩, ⟨some 15, .call 79 [(.t 14)] false, none⟩, ⟨some 16, .un .not (.t 15), none⟩, ⟨some 17, .mv (.t 16) false, none⟩, ⟨some 18, .fa 1 (.t 5), some (17, false)⟩, ⟨some 19, .load 1 false (.t 18) false, some (17, false)⟩, ⟨some 20, .bin .lss (.t 19) (.c (.int .i64 1)), some (17, false)⟩, ⟨some 21, .pick (.t 17) (.c (.bool true)) (.t 20), none⟩, ⟨some 22, .mv (.t 21) false, none⟩, ⟨some 23, .fa 1 (.t 5), some (22, false)⟩, ⟨some 24, .load 1 false (.t 23) false, some (22, false)⟩, ⟨some 25, .bin .gtr (.t 24) (.c (.int .i64 3000)), some (22, false)⟩, ⟨some 26, .pick (.t 22) (.c (.bool true)) (.t 25), none⟩, ⟨some 27, .mv (.t 26) false, none⟩, ⟨some 28, .fa 2 (.t 5), some (27, false)⟩, ⟨some 29, .load 1 false (.t 28) false, some (27, false)⟩, ⟨some 30, .bin .lss (.t 29) (.c (.int .i64 1)), some (27, false)⟩, ⟨some 31, .pick (.t 27) (.c (.bool true)) (.t 30), none⟩, ⟨some 32, .mv (.t 31) false, none⟩, ⟨some 33, .fa 2 (.t 5), some (32, false)⟩, ⟨some 34, .load 1 false (.t 33) false, some (32, false)⟩, ⟨some 35, .fa 1 (.t 5), some (32, false)⟩, ⟨some 36, .load 1 false (.t 35) false, some (32, false)⟩, ⟨some 37, .bin .gtr (.t 34) (.t 36), some (32, false)⟩, ⟨some 38, .pick (.t 32) (.c (.bool true)) (.t 37), none⟩, ⟨some 39, .mv (.t 38) false, none⟩, ⟨some 40, .fa 3 (.t 5), some (39, false)⟩, ⟨some 41, .load 1 false (.t 40) false, some (39, false)⟩, ⟨some 42, .bin .lss (.t 41) (.c (.int .i64 1)), some (39, false)⟩, ⟨some 43, .pick (.t 39) (.c (.bool true)) (.t 42), none⟩, ⟨some 44, .mv (.t 43) false, none⟩, ⟨some 45, .fa 3 (.t 5), some (44, false)⟩, ⟨some 46, .load 1 false (.t 45) false, some (44, false)⟩, ⟨some 47, .bin .gtr (.t 46) (.c (.int .i64 1000)), some (44, false)⟩, ⟨some 48, .pick (.t 44) (.c (.bool true)) (.t 47), none⟩])
  (.cond (.t 48) (.seq (.reg [⟨some 4, .mv (.c (.int .i64 10)) true, none⟩])
  (.ret))
  (.skip)))
  (.seq (.seq (.reg [⟨some 49, .fa 4 (.t 5), none⟩, ⟨some 50, .load 1 false (.t 49) false, none⟩, ⟨some 51, .bin .lss (.t 50) (.c (.int .i64 0)), none⟩, ⟨some 52, .mv (.t 51) false, none⟩, ⟨some 53, .fa 4 (.t 5), some (52, false)⟩, ⟨some 54, .load 1 false (.t 53) false, some (52, false)⟩, ⟨some 55, .fa 1 (.t 2), some (52, false)⟩, ⟨some 56, .load 1 false (.t 55) false, some (52, false)⟩, ⟨some 57, .len (.t 56), some (52, false)⟩, ⟨some 58, .bin .geq (.t 54) (.t 57), some (52, false)⟩, ⟨some 59, .pick (.t 52) (.c (.bool true)) (.t 58), none⟩])
  (.cond (.t 59) (.seq (.reg [⟨some 4, .mv (.c (.int .i64 16)) true, none⟩])
  (.ret))
  (.skip)))
  (.seq (.seq (.reg [⟨some 6, .mv (.c (.int .i64 0)) true, none⟩])
  (.block 0 (L60_0)))
  (.seq (.seq (.reg [⟨some 85, .fa 5 (.t 5), none⟩, ⟨some 86, .load 1 false (.t 85) false, none⟩, ⟨some 87, .len (.t 86), none⟩, ⟨some 88, .bin .lss (.t 87) (.c (.int .i64 1)), none⟩, ⟨some 89, .mv (.t 88) false, none⟩, ⟨some 90, .fa 5 (.t 5), some (89, false)⟩, ⟨some 91, .load 1 false (.t 90) false, some (89, false)⟩, ⟨some 92, .len (.t 91), some (89, false)⟩, ⟨some 93, .bin .gtr (.t 92) (.c (.int .i64 6)), some (89, false)⟩, ⟨some 94, .pick (.t 89) (.c (.bool true)) (.t 93), none⟩])
  (.cond (.t 94) (.seq (.reg [⟨some 4, .mv (.c (.int .i64 15)) true, none⟩])
  (.ret))
  (.skip)))
  (.seq (.seq (.reg [⟨some 7, .mv (.c (.int .i64 0)) true, none⟩])
  (.block 2 (L60_2)))
  (.seq (.reg [⟨some 4, .mv (.c (.int .i64 0)) true, none⟩])
  (.ret)))))))), [.t 4]⟩
theorem row60 : RowOk Tryz.prog 60 C60 := ⟨Tryz.f60, ⟨[], [], [], []⟩, lvOf [(0, [1, 2, 5, 6], 2), (2, [2, 5, 7], 2)], Tryz.func60, by kernel_rfl, by kernel_rfl⟩
def B61_0 : C := .seq (.seq (.reg [⟨some 5, .mv (.t 4) false, none⟩, ⟨some 6, .fa 5 (.t 1), none⟩, ⟨some 7, .load 1 false (.t 6) false, none⟩, ⟨some 8, .len (.t 7), none⟩, ⟨some 9, .bin .lss (.t 5) (.t 8), none⟩])
  (.cond (.t 9) (.skip)
  (.exit 0)))
  (.seq (.block 1 (.seq (.reg [⟨some 12, .fa 5 (.t 1), none⟩, ⟨some 13, .load 1 false (.t 12) false, none⟩, ⟨some 14, .mv (.t 4) false, none⟩, ⟨some 15, .ia 3 (.t 13) (.t 14), none⟩, ⟨some 16, .fa 0 (.t 15), none⟩, ⟨some 17, .load 1 false (.t 16) false, none⟩, ⟨some 18, .bin .eql (.t 17) (.c (.int .i64 3)), none⟩])
  (.cond (.t 18) (.reg [⟨some 19, .mv (.t 3) false, none⟩, ⟨some 20, .fa 5 (.t 1), none⟩, ⟨some 21, .load 1 false (.t 20) false, none⟩, ⟨some 22, .mv (.t 4) false, none⟩, ⟨some 23, .ia 3 (.t 21) (.t 22), none⟩, ⟨some 24, .fa 1 (.t 23), none⟩, ⟨some 25, .load 1 false (.t 24) false, none⟩, ⟨some 26, .mxn true [(.t 19), (.t 25)], none⟩, ⟨some 3, .mv (.t 26) true, none⟩])
  (.skip))))
  (.reg [⟨some 10, .mv (.t 4) false, none⟩, ⟨some 11, .bin .add (.t 10) (.c (.int .i64 1)), none⟩, ⟨some 4, .mv (.t 11) true, none⟩]))
def L61_0 : C := .loop [1, 3, 4] 1 B61_0
theorem go61_0 (s : Env × Bx) (nb) : evL tab ext nb L61_0 s = (loopIn nb [1, 3, 4] 1 s).bind fun s0 => (evL tab ext nb B61_0 s0).bind (seqG tab ext nb L61_0) := eL_loop _ _ _
/-- swingbridge/swingbridgeref11.Longest -/
def C61 : CFun := ⟨28, 1, .seq (.reg [⟨some 1, .box (.t 0), none⟩, ⟨some 2, .mv (.c (.int .i64 0)) true, none⟩])
  (.seq (.reg [⟨some 3, .mv (.c (.int .i64 0)) true, none⟩])
  (.seq (.seq (.reg [⟨some 4, .mv (.c (.int .i64 0)) true, none⟩])
  (.block 0 (L61_0)))
  (.seq (.reg [⟨some 27, .mv (.t 3) false, none⟩, ⟨some 2, .mv (.t 27) true, none⟩])
  (.ret)))), [.t 2]⟩
theorem row61 : RowOk Tryz.prog 61 C61 := ⟨Tryz.f61, ⟨[], [], [], []⟩, lvOf [(0, [1, 3, 4], 1)], Tryz.func61, by kernel_rfl, by kernel_rfl⟩
/-- swingbridge/swingbridgeref11.Part -/
def C62 : CFun := ⟨41, 4, .seq (.reg [⟨some 4, .box (.t 0), none⟩, ⟨some 8, .mv (.c (.int .i64 0)) true, none⟩, ⟨some 9, .mv (.c (.bool false)) true, none⟩])
  (.seq (.seq (.reg [⟨some 10, .mv (.t 1) false, none⟩, ⟨some 11, .len (.t 10), none⟩, ⟨some 12, .fa 3 (.t 4), none⟩, ⟨some 13, .load 1 false (.t 12) false, none⟩, ⟨some 14, .len (.t 13), none⟩, ⟨some 15, .bin .neq (.t 11) (.t 14), none⟩])
  (.cond (.t 15) (.seq (.reg [⟨some 8, .mv (.c (.int .i64 0)) true, none⟩, ⟨some 9, .mv (.c (.bool false)) true, none⟩])
  (.ret))
  (.skip)))
  (.seq (.seq (.reg [⟨some 16, .fa 0 (.t 4), none⟩, ⟨some 17, .load 1 false (.t 16) false, none⟩])
  (.block 0 (.seq (.reg [⟨some 19, .bin .eql (.t 17) (.c (.int .i64 1)), none⟩, ⟨some 18, .mv (.t 19) true, none⟩])
  (.cond (.t 18) (.seq (.reg [⟨some 20, .load 4 true (.t 4) false, none⟩, ⟨some 21, .mv (.t 2) false, none⟩, ⟨some 22, .mv (.t 3) false, none⟩, ⟨some 23, .call 81 [(.t 20), (.t 21), (.t 22)] false, none⟩, ⟨some 24, .ext (.t 23) 0, none⟩, ⟨some 25, .ext (.t 23) 1, none⟩, ⟨some 8, .mv (.t 24) true, none⟩, ⟨some 9, .mv (.t 25) true, none⟩])
  (.ret))
  (.seq (.reg [⟨some 27, .bin .eql (.t 17) (.c (.int .i64 2)), none⟩, ⟨some 26, .mv (.t 27) true, none⟩])
  (.cond (.t 26) (.seq (.reg [⟨some 28, .load 4 true (.t 4) false, none⟩, ⟨some 29, .mv (.t 1) false, none⟩, ⟨some 30, .mv (.t 2) false, none⟩, ⟨some 31, .mv (.t 3) false, none⟩, ⟨some 32, .call 82 [(.t 28), (.t 29), (.t 30), (.t 31)] false, none⟩, ⟨some 33, .ext (.t 32) 0, none⟩, ⟨some 34, .ext (.t 32) 1, none⟩, ⟨some 8, .mv (.t 33) true, none⟩, ⟨some 9, .mv (.t 34) true, none⟩])
  (.ret))
  (.skip)))))))
  (.seq (.reg [⟨some 35, .load 4 true (.t 4) false, none⟩, ⟨some 36, .mv (.t 2) false, none⟩, ⟨some 37, .mv (.t 3) false, none⟩, ⟨some 38, .call 83 [(.t 35), (.t 36), (.t 37)] false, none⟩, ⟨some 39, .ext (.t 38) 0, none⟩, ⟨some 40, .ext (.t 38) 1, none⟩, ⟨some 8, .mv (.t 39) true, none⟩, ⟨some 9, .mv (.t 40) true, none⟩])
  (.ret)))), [.t 8, .t 9]⟩
theorem row62 : RowOk Tryz.prog 62 C62 := ⟨Tryz.f62, ⟨[], [], [], []⟩, lvOf [], Tryz.func62, by kernel_rfl, by kernel_rfl⟩
/-- swingbridge/task.placed$1 -/
def C63 : CFun := ⟨6, 1, .seq (.reg [⟨some 2, .mv (.c (.bool false)) true, none⟩])
  (.seq (.reg [⟨some 3, .mv (.t 0) false, none⟩, ⟨some 4, .call 45 [(.t 3), (.c (.int .i64 1)), (.c (.int .i64 3))] false, none⟩, ⟨some 5, .un .not (.t 4), none⟩, ⟨some 2, .mv (.t 5) true, none⟩])
  (.ret)), [.t 2]⟩
theorem row63 : RowOk Tryz.prog 63 C63 := ⟨Tryz.f63, ⟨[], [], [], []⟩, lvOf [], Tryz.func63, by kernel_rfl, by kernel_rfl⟩
/-- swingbridge/task.placed$2 -/
def C64 : CFun := ⟨11, 2, .seq (.reg [⟨some 3, .mv (.c (.bool false)) true, none⟩])
  (.seq (.reg [⟨some 4, .mv (.t 0) false, none⟩, ⟨some 5, .fa 1 (.t 1), none⟩, ⟨some 6, .load 1 false (.t 5) false, none⟩, ⟨some 7, .len (.t 6), none⟩, ⟨some 8, .bin .sub (.t 7) (.c (.int .i64 1)), none⟩, ⟨some 9, .call 45 [(.t 4), (.c (.int .i64 0)), (.t 8)] false, none⟩, ⟨some 10, .un .not (.t 9), none⟩, ⟨some 3, .mv (.t 10) true, none⟩])
  (.ret)), [.t 3]⟩
theorem row64 : RowOk Tryz.prog 64 C64 := ⟨Tryz.f64, ⟨[], [], [], []⟩, lvOf [], Tryz.func64, by kernel_rfl, by kernel_rfl⟩
/-- swingbridge/task.one$1 -/
def C65 : CFun := ⟨16, 2, .seq (.reg [⟨some 2, .box (.t 0), none⟩, ⟨some 3, .mv (.c (.bool false)) true, none⟩])
  (.seq (.reg [⟨some 4, .fa 0 (.t 2), none⟩, ⟨some 5, .load 1 false (.t 4) false, none⟩, ⟨some 6, .fa 0 (.t 1), none⟩, ⟨some 7, .load 1 false (.t 6) false, none⟩, ⟨some 8, .bin .eql (.t 5) (.t 7), none⟩, ⟨some 9, .mv (.t 8) false, none⟩, ⟨some 10, .fa 3 (.t 2), some (9, false)⟩, ⟨some 11, .load 1 false (.t 10) false, some (9, false)⟩, ⟨some 12, .fa 3 (.t 1), some (9, false)⟩, ⟨some 13, .load 1 false (.t 12) false, some (9, false)⟩, ⟨some 14, .bin .eql (.t 11) (.t 13), some (9, false)⟩, ⟨some 15, .pick (.t 9) (.c (.bool true)) (.t 14), none⟩, ⟨some 3, .mv (.t 15) true, none⟩])
  (.ret)), [.t 3]⟩
theorem row65 : RowOk Tryz.prog 65 C65 := ⟨Tryz.f65, ⟨[], [], [], []⟩, lvOf [], Tryz.func65, by kernel_rfl, by kernel_rfl⟩
def B66_0 : C := .seq (.reg [⟨some 9, .bin .lss (.t 8) (.t 7), none⟩])
  (.seq (.cond (.t 9) (.skip)
  (.exit 0))
  (.seq (.block 1 (.seq (.reg [⟨some 10, .mv (.t 8) false, none⟩, ⟨some 3, .mv (.t 10) true, none⟩])
  (.seq (.reg [⟨some 11, .mv (.t 0) false, none⟩, ⟨some 12, .mv (.t 3) false, none⟩, ⟨some 13, .ix (.t 11) (.t 12), none⟩, ⟨some 4, .mv (.t 13) true, none⟩])
  (.seq (.reg [⟨some 14, .mv (.t 4) false, none⟩, ⟨some 15, .bin .geq (.t 14) (.c (.int .u8 48)), none⟩, ⟨some 16, .mv (.t 15) false, none⟩, ⟨some 17, .mv (.t 4) false, some (16, true)⟩, ⟨some 18, .bin .leq (.t 17) (.c (.int .u8 57)), some (16, true)⟩, ⟨some 19, .pick (.t 16) (.t 18) (.c (.bool false)), none⟩, ⟨some 5, .mv (.t 19) true, none⟩])
  (.seq (.reg [⟨some 20, .mv (.t 4) false, none⟩, ⟨some 21, .bin .lss (.t 20) (.c (.int .u8 97)), none⟩, ⟨some 22, .mv (.t 21) false, none⟩, ⟨some 23, .mv (.t 4) false, some (22, false)⟩, ⟨some 24, .bin .gtr (.t 23) (.c (.int .u8 122)), some (22, false)⟩, ⟨some 25, .pick (.t 22) (.c (.bool true)) (.t 24), none⟩, ⟨some 26, .mv (.t 25) false, none⟩, ⟨some 27, .mv (.t 3) false, some (26, true)⟩, ⟨some 28, .bin .eql (.t 27) (.c (.int .i64 0)), some (26, true)⟩, ⟨some 29, .mv (.t 28) false, some (26, true)⟩, ⟨some 30, .mv (.t 5) false, some (29, false)⟩, ⟨some 31, .un .not (.t 30), some (29, false)⟩, ⟨some 32, .pick (.t 29) (.c (.bool true)) (.t 31), some (26, true)⟩, ⟨some 33, .pick (.t 26) (.t 32) (.c (.bool false)), none⟩])
  (.cond (.t 33) (.seq (.reg [⟨some 2, .mv (.c (.bool false)) true, none⟩])
  (.ret))
  (.skip)))))))
  (.reg [⟨some 34, .bin .add (.t 8) (.c (.int .i64 1)), none⟩, ⟨some 8, .mv (.t 34) false, none⟩])))
def L66_0 : C := .loop [0, 7, 8] 0 B66_0
theorem go66_0 (s : Env × Bx) (nb) : evL tab ext nb L66_0 s = (loopIn nb [0, 7, 8] 0 s).bind fun s0 => (evL tab ext nb B66_0 s0).bind (seqG tab ext nb L66_0) := eL_loop _ _ _
/-- swingbridge/words.Name -/
def C66 : CFun := ⟨42, 1, .seq (.reg [⟨some 2, .mv (.c (.bool false)) true, none⟩])
  (.seq (.seq (.reg [⟨some 6, .mv (.t 0) false, none⟩, ⟨some 7, .slen (.t 6), none⟩, ⟨some 8, .mv (.c (.int .i64 0)) false, none⟩])
  (.block 0 (L66_0)))
  (.seq (.reg [⟨some 35, .mv (.t 0) false, none⟩, ⟨some 36, .bin .neq (.t 35) (.c (.string ⟨#[]⟩)), none⟩, ⟨some 37, .mv (.t 36) false, none⟩, ⟨some 38, .mv (.t 0) false, some (37, true)⟩, ⟨some 39, .slen (.t 38), some (37, true)⟩, ⟨some 40, .bin .leq (.t 39) (.c (.int .i64 8)), some (37, true)⟩, ⟨some 41, .pick (.t 37) (.t 40) (.c (.bool false)), none⟩, ⟨some 2, .mv (.t 41) true, none⟩])
  (.ret))), [.t 2]⟩
theorem row66 : RowOk Tryz.prog 66 C66 := ⟨Tryz.f66, ⟨[], [], [], []⟩, lvOf [(0, [0, 7, 8], 0)], Tryz.func66, by kernel_rfl, by kernel_rfl⟩
/-- slices.ContainsFunc[[]swingbridge/api.Task,swingbridge/api.Task] -/
def C67 : CFun := ⟨9, 2, .seq (.reg [⟨some 4, .mv (.c (.bool false)) true, none⟩])
  (.seq (.reg [⟨some 5, .mv (.t 0) false, none⟩, ⟨some 6, .mv (.t 1) false, none⟩, ⟨some 7, .calli 84 [(.t 5), (.t 6)], none⟩, ⟨some 8, .bin .geq (.t 7) (.c (.int .i64 0)), none⟩, ⟨some 4, .mv (.t 8) true, none⟩])
  (.ret)), [.t 4]⟩
theorem row67 : RowOk Tryz.prog 67 C67 := ⟨Tryz.f67, ⟨[], [], [], []⟩, lvOf [], Tryz.func67, by kernel_rfl, by kernel_rfl⟩
def B68_0 : C := .seq (.reg [⟨some 10, .bin .lss (.t 9) (.t 8), none⟩])
  (.seq (.cond (.t 10) (.skip)
  (.exit 0))
  (.seq (.block 1 (.seq (.reg [⟨some 11, .ia 3 (.t 7) (.t 9), none⟩, ⟨some 12, .load 3 true (.t 11) false, none⟩, ⟨some 6, .alloc [(.int .i64 0), (.int .i64 0), (.int .i64 0)], none⟩, ⟨none, .store 3 (.t 6) (.t 12), none⟩])
  (.seq (.block 2 (.seq (.reg [⟨some 14, .fa 0 (.t 6), none⟩, ⟨some 15, .load 1 false (.t 14) false, none⟩, ⟨some 16, .call 45 [(.t 15), (.c (.int .i64 1)), (.c (.int .i64 3))] false, none⟩, ⟨some 17, .un .not (.t 16), none⟩, ⟨some 18, .mv (.t 17) false, none⟩, ⟨some 19, .fa 1 (.t 6), some (18, false)⟩, ⟨some 20, .load 1 false (.t 19) false, some (18, false)⟩, ⟨some 21, .call 45 [(.t 20), (.c (.int .i64 1)), (.c (.int .i64 60))] false, some (18, false)⟩, ⟨some 22, .un .not (.t 21), some (18, false)⟩, ⟨some 23, .pick (.t 18) (.c (.bool true)) (.t 22), none⟩, ⟨some 13, .mv (.t 23) true, none⟩])
  (.cond (.t 13) (.seq (.reg [⟨some 4, .mv (.c (.bool false)) true, none⟩])
  (.ret))
  (.seq (.reg [⟨some 25, .fa 0 (.t 6), none⟩, ⟨some 26, .load 1 false (.t 25) false, none⟩, ⟨some 27, .bin .eql (.t 26) (.c (.int .i64 3)), none⟩, ⟨some 28, .mv (.t 27) false, none⟩, ⟨some 29, .fa 2 (.t 6), some (28, true)⟩, ⟨some 30, .load 1 false (.t 29) false, some (28, true)⟩, ⟨some 31, .fa 2 (.t 2), some (28, true)⟩, ⟨some 32, .load 1 false (.t 31) false, some (28, true)⟩, ⟨some 33, .len (.t 32), some (28, true)⟩, ⟨some 34, .bin .sub (.t 33) (.c (.int .i64 1)), some (28, true)⟩, ⟨some 35, .call 45 [(.t 30), (.c (.int .i64 0)), (.t 34)] false, some (28, true)⟩, ⟨some 36, .pick (.t 28) (.t 35) (.c (.bool false)), none⟩, ⟨some 24, .mv (.t 36) true, none⟩])
  (.cond (.t 24) (.exit 1)
  (.seq (.reg [⟨some 38, .fa 0 (.t 6), none⟩, ⟨some 39, .load 1 false (.t 38) false, none⟩, ⟨some 40, .bin .neq (.t 39) (.c (.int .i64 3)), none⟩, ⟨some 41, .mv (.t 40) false, none⟩, ⟨some 42, .fa 2 (.t 6), some (41, true)⟩, ⟨some 43, .load 1 false (.t 42) false, some (41, true)⟩, ⟨some 44, .bin .eql (.t 43) (.c (.int .i64 0)), some (41, true)⟩, ⟨some 45, .pick (.t 41) (.t 44) (.c (.bool false)), none⟩, ⟨some 37, .mv (.t 45) true, none⟩])
  (.cond (.t 37) (.exit 1)
  (.skip))))))))
  (.seq (.reg [⟨some 4, .mv (.c (.bool false)) true, none⟩])
  (.ret)))))
  (.reg [⟨some 46, .bin .add (.t 9) (.c (.int .i64 1)), none⟩, ⟨some 9, .mv (.t 46) false, none⟩])))
def L68_0 : C := .loop [1, 2, 7, 8, 9] 1 B68_0
theorem go68_0 (s : Env × Bx) (nb) : evL tab ext nb L68_0 s = (loopIn nb [1, 2, 7, 8, 9] 1 s).bind fun s0 => (evL tab ext nb B68_0 s0).bind (seqG tab ext nb L68_0) := eL_loop _ _ _
/-- swingbridge/task.parted -/
def C68 : CFun := ⟨50, 2, .seq (.reg [⟨some 2, .box (.t 0), none⟩, ⟨some 4, .mv (.c (.bool false)) true, none⟩])
  (.scope (.seq (.skip)
  (.seq (.seq (.reg [⟨some 7, .mv (.t 1) false, none⟩, ⟨some 8, .len (.t 7), none⟩, ⟨some 9, .mv (.c (.int .i64 0)) false, none⟩])
  (.block 0 (L68_0)))
  (.seq (.reg [⟨some 47, .mv (.t 1) false, none⟩, ⟨some 48, .len (.t 47), none⟩, ⟨some 49, .call 45 [(.t 48), (.c (.int .i64 1)), (.c (.int .i64 6))] false, none⟩, ⟨some 4, .mv (.t 49) true, none⟩])
  (.ret))))), [.t 4]⟩
theorem row68 : RowOk Tryz.prog 68 C68 := ⟨Tryz.f68, ⟨[], [], [], []⟩, lvOf [(0, [1, 2, 7, 8, 9], 1)], Tryz.func68, by kernel_rfl, by kernel_rfl⟩
/-- math/bits.Mul64 -/
def C69 : CFun := ⟨51, 2, .seq (.reg [⟨some 4, .mv (.c (.int .u64 0)) true, none⟩, ⟨some 5, .mv (.c (.int .u64 0)) true, none⟩])
  (.seq (.reg [⟨some 14, .mv (.t 0) false, none⟩, ⟨some 15, .bin .and (.t 14) (.c (.int .u64 4294967295)), none⟩, ⟨some 6, .mv (.t 15) true, none⟩])
  (.seq (.reg [⟨some 16, .mv (.t 0) false, none⟩, ⟨some 17, .bin .shr (.t 16) (.c (.int .u64 32)), none⟩, ⟨some 7, .mv (.t 17) true, none⟩])
  (.seq (.reg [⟨some 18, .mv (.t 1) false, none⟩, ⟨some 19, .bin .and (.t 18) (.c (.int .u64 4294967295)), none⟩, ⟨some 8, .mv (.t 19) true, none⟩])
  (.seq (.reg [⟨some 20, .mv (.t 1) false, none⟩, ⟨some 21, .bin .shr (.t 20) (.c (.int .u64 32)), none⟩, ⟨some 9, .mv (.t 21) true, none⟩])
  (.seq (.reg [⟨some 22, .mv (.t 6) false, none⟩, ⟨some 23, .mv (.t 8) false, none⟩, ⟨some 24, .bin .mul (.t 22) (.t 23), none⟩, ⟨some 10, .mv (.t 24) true, none⟩])
  (.seq (.reg [⟨some 25, .mv (.t 7) false, none⟩, ⟨some 26, .mv (.t 8) false, none⟩, ⟨some 27, .bin .mul (.t 25) (.t 26), none⟩, ⟨some 28, .mv (.t 10) false, none⟩, ⟨some 29, .bin .shr (.t 28) (.c (.int .u64 32)), none⟩, ⟨some 30, .bin .add (.t 27) (.t 29), none⟩, ⟨some 11, .mv (.t 30) true, none⟩])
  (.seq (.reg [⟨some 31, .mv (.t 11) false, none⟩, ⟨some 32, .bin .and (.t 31) (.c (.int .u64 4294967295)), none⟩, ⟨some 12, .mv (.t 32) true, none⟩])
  (.seq (.reg [⟨some 33, .mv (.t 11) false, none⟩, ⟨some 34, .bin .shr (.t 33) (.c (.int .u64 32)), none⟩, ⟨some 13, .mv (.t 34) true, none⟩])
  (.seq (.reg [⟨some 35, .mv (.t 12) false, none⟩, ⟨some 36, .mv (.t 6) false, none⟩, ⟨some 37, .mv (.t 9) false, none⟩, ⟨some 38, .bin .mul (.t 36) (.t 37), none⟩, ⟨some 39, .bin .add (.t 35) (.t 38), none⟩, ⟨some 12, .mv (.t 39) true, none⟩])
  (.seq (.reg [⟨some 40, .mv (.t 7) false, none⟩, ⟨some 41, .mv (.t 9) false, none⟩, ⟨some 42, .bin .mul (.t 40) (.t 41), none⟩, ⟨some 43, .mv (.t 13) false, none⟩, ⟨some 44, .bin .add (.t 42) (.t 43), none⟩, ⟨some 45, .mv (.t 12) false, none⟩, ⟨some 46, .bin .shr (.t 45) (.c (.int .u64 32)), none⟩, ⟨some 47, .bin .add (.t 44) (.t 46), none⟩, ⟨some 4, .mv (.t 47) true, none⟩])
  (.seq (.reg [⟨some 48, .mv (.t 0) false, none⟩, ⟨some 49, .mv (.t 1) false, none⟩, ⟨some 50, .bin .mul (.t 48) (.t 49), none⟩, ⟨some 5, .mv (.t 50) true, none⟩])
  (.ret)))))))))))), [.t 4, .t 5]⟩
theorem row69 : RowOk Tryz.prog 69 C69 := ⟨Tryz.f69, ⟨[], [], [], []⟩, lvOf [], Tryz.func69, by kernel_rfl, by kernel_rfl⟩
/-- swingbridge/calc.size -/
def C70 : CFun := ⟨10, 1, .seq (.reg [⟨some 2, .mv (.c (.int .u64 0)) true, none⟩])
  (.seq (.seq (.reg [⟨some 3, .mv (.t 0) false, none⟩, ⟨some 4, .bin .lss (.t 3) (.c (.int .i64 0)), none⟩])
  (.cond (.t 4) (.seq (.reg [⟨some 5, .mv (.t 0) false, none⟩, ⟨some 6, .conv .u64 (.t 5), none⟩, ⟨some 7, .un .neg (.t 6), none⟩, ⟨some 2, .mv (.t 7) true, none⟩])
  (.ret))
  (.skip)))
  (.seq (.reg [⟨some 8, .mv (.t 0) false, none⟩, ⟨some 9, .conv .u64 (.t 8), none⟩, ⟨some 2, .mv (.t 9) true, none⟩])
  (.ret))), [.t 2]⟩
theorem row70 : RowOk Tryz.prog 70 C70 := ⟨Tryz.f70, ⟨[], [], [], []⟩, lvOf [], Tryz.func70, by kernel_rfl, by kernel_rfl⟩
/-- swingbridge/calc.signed -/
def C71 : CFun := ⟨27, 2, .seq (.reg [⟨some 4, .mv (.c (.int .i64 0)) true, none⟩, ⟨some 5, .mv (.c (.bool false)) true, none⟩])
  (.seq (.block 0 (.seq (.reg [⟨some 7, .mv (.t 0) false, none⟩, ⟨some 8, .bin .eql (.t 7) (.c (.int .u64 0)), none⟩, ⟨some 6, .mv (.t 8) true, none⟩])
  (.cond (.t 6) (.seq (.reg [⟨some 4, .mv (.c (.int .i64 0)) true, none⟩, ⟨some 5, .mv (.c (.bool true)) true, none⟩])
  (.ret))
  (.seq (.reg [⟨some 10, .mv (.t 1) false, none⟩, ⟨some 11, .mv (.t 10) false, none⟩, ⟨some 12, .mv (.t 0) false, some (11, true)⟩, ⟨some 13, .bin .leq (.t 12) (.c (.int .u64 9223372036854775808)), some (11, true)⟩, ⟨some 14, .pick (.t 11) (.t 13) (.c (.bool false)), none⟩, ⟨some 9, .mv (.t 14) true, none⟩])
  (.cond (.t 9) (.seq (.reg [⟨some 15, .mv (.t 0) false, none⟩, ⟨some 16, .un .neg (.t 15), none⟩, ⟨some 17, .conv .i64 (.t 16), none⟩, ⟨some 4, .mv (.t 17) true, none⟩, ⟨some 5, .mv (.c (.bool true)) true, none⟩])
  (.ret))
  (.seq (.reg [⟨some 19, .mv (.t 1) false, none⟩, ⟨some 20, .un .not (.t 19), none⟩, ⟨some 21, .mv (.t 20) false, none⟩, ⟨some 22, .mv (.t 0) false, some (21, true)⟩, ⟨some 23, .bin .leq (.t 22) (.c (.int .u64 9223372036854775807)), some (21, true)⟩, ⟨some 24, .pick (.t 21) (.t 23) (.c (.bool false)), none⟩, ⟨some 18, .mv (.t 24) true, none⟩])
  (.cond (.t 18) (.seq (.reg [⟨some 25, .mv (.t 0) false, none⟩, ⟨some 26, .conv .i64 (.t 25), none⟩, ⟨some 4, .mv (.t 26) true, none⟩, ⟨some 5, .mv (.c (.bool true)) true, none⟩])
  (.ret))
  (.skip))))))))
  (.seq (.reg [⟨some 4, .mv (.c (.int .i64 0)) true, none⟩, ⟨some 5, .mv (.c (.bool false)) true, none⟩])
  (.ret))), [.t 4, .t 5]⟩
theorem row71 : RowOk Tryz.prog 71 C71 := ⟨Tryz.f71, ⟨[], [], [], []⟩, lvOf [], Tryz.func71, by kernel_rfl, by kernel_rfl⟩
/-- swingbridge/calc.Add -/
def C72 : CFun := ⟨23, 2, .seq (.reg [⟨some 4, .mv (.c (.int .i64 0)) true, none⟩, ⟨some 5, .mv (.c (.bool false)) true, none⟩])
  (.seq (.reg [⟨some 7, .mv (.t 0) false, none⟩, ⟨some 8, .mv (.t 1) false, none⟩, ⟨some 9, .bin .add (.t 7) (.t 8), none⟩, ⟨some 6, .mv (.t 9) true, none⟩])
  (.seq (.seq (.reg [⟨some 10, .mv (.t 0) false, none⟩, ⟨some 11, .bin .lss (.t 10) (.c (.int .i64 0)), none⟩, ⟨some 12, .mv (.t 1) false, none⟩, ⟨some 13, .bin .lss (.t 12) (.c (.int .i64 0)), none⟩, ⟨some 14, .eqb false (.t 11) (.t 13), none⟩, ⟨some 15, .mv (.t 14) false, none⟩, ⟨some 16, .mv (.t 6) false, some (15, true)⟩, ⟨some 17, .bin .lss (.t 16) (.c (.int .i64 0)), some (15, true)⟩, ⟨some 18, .mv (.t 0) false, some (15, true)⟩, ⟨some 19, .bin .lss (.t 18) (.c (.int .i64 0)), some (15, true)⟩, ⟨some 20, .eqb true (.t 17) (.t 19), some (15, true)⟩, ⟨some 21, .pick (.t 15) (.t 20) (.c (.bool false)), none⟩])
  (.cond (.t 21) (.seq (.reg [⟨some 4, .mv (.c (.int .i64 0)) true, none⟩, ⟨some 5, .mv (.c (.bool false)) true, none⟩])
  (.ret))
  (.skip)))
  (.seq (.reg [⟨some 22, .mv (.t 6) false, none⟩, ⟨some 4, .mv (.t 22) true, none⟩, ⟨some 5, .mv (.c (.bool true)) true, none⟩])
  (.ret)))), [.t 4, .t 5]⟩
theorem row72 : RowOk Tryz.prog 72 C72 := ⟨Tryz.f72, ⟨[], [], [], []⟩, lvOf [], Tryz.func72, by kernel_rfl, by kernel_rfl⟩
/-- swingbridge/calc.Up -/
def C73 : CFun := ⟨39, 2, .seq (.reg [⟨some 4, .mv (.c (.int .i64 0)) true, none⟩, ⟨some 5, .mv (.c (.bool false)) true, none⟩])
  (.seq (.seq (.reg [⟨some 9, .mv (.t 1) false, none⟩, ⟨some 10, .bin .eql (.t 9) (.c (.int .i64 0)), none⟩])
  (.cond (.t 10) (.seq (.reg [⟨some 4, .mv (.c (.int .i64 0)) true, none⟩, ⟨some 5, .mv (.c (.bool false)) true, none⟩])
  (.ret))
  (.skip)))
  (.seq (.reg [⟨some 11, .mv (.t 0) false, none⟩, ⟨some 12, .bin .lss (.t 11) (.c (.int .i64 0)), none⟩, ⟨some 13, .mv (.t 1) false, none⟩, ⟨some 14, .bin .lss (.t 13) (.c (.int .i64 0)), none⟩, ⟨some 15, .eqb true (.t 12) (.t 14), none⟩, ⟨some 6, .mv (.t 15) true, none⟩])
  (.seq (.reg [⟨some 16, .mv (.t 0) false, none⟩, ⟨some 17, .call 70 [(.t 16)] false, none⟩, ⟨some 18, .mv (.t 1) false, none⟩, ⟨some 19, .call 70 [(.t 18)] false, none⟩, ⟨some 20, .bin .quo (.t 17) (.t 19), none⟩, ⟨some 21, .mv (.t 0) false, none⟩, ⟨some 22, .call 70 [(.t 21)] false, none⟩, ⟨some 23, .mv (.t 1) false, none⟩, ⟨some 24, .call 70 [(.t 23)] false, none⟩, ⟨some 25, .bin .rem (.t 22) (.t 24), none⟩, ⟨some 7, .mv (.t 20) true, none⟩, ⟨some 8, .mv (.t 25) true, none⟩])
  (.seq (.seq (.reg [⟨some 26, .mv (.t 8) false, none⟩, ⟨some 27, .bin .gtr (.t 26) (.c (.int .u64 0)), none⟩, ⟨some 28, .mv (.t 27) false, none⟩, ⟨some 29, .mv (.t 6) false, some (28, true)⟩, ⟨some 30, .un .not (.t 29), some (28, true)⟩, ⟨some 31, .pick (.t 28) (.t 30) (.c (.bool false)), none⟩])
  (.cond (.t 31) (.reg [⟨some 32, .mv (.t 7) false, none⟩, ⟨some 33, .bin .add (.t 32) (.c (.int .u64 1)), none⟩, ⟨some 7, .mv (.t 33) true, none⟩])
  (.skip)))
  (.seq (.reg [⟨some 34, .mv (.t 7) false, none⟩, ⟨some 35, .mv (.t 6) false, none⟩, ⟨some 36, .call 71 [(.t 34), (.t 35)] false, none⟩, ⟨some 37, .ext (.t 36) 0, none⟩, ⟨some 38, .ext (.t 36) 1, none⟩, ⟨some 4, .mv (.t 37) true, none⟩, ⟨some 5, .mv (.t 38) true, none⟩])
  (.ret)))))), [.t 4, .t 5]⟩
theorem row73 : RowOk Tryz.prog 73 C73 := ⟨Tryz.f73, ⟨[], [], [], []⟩, lvOf [], Tryz.func73, by kernel_rfl, by kernel_rfl⟩
def B74_0 : C := .seq (.reg [⟨some 18, .bin .lss (.t 17) (.t 16), none⟩])
  (.seq (.cond (.t 18) (.skip)
  (.exit 0))
  (.seq (.block 1 (.seq (.reg [⟨some 19, .ia 1 (.t 15) (.t 17), none⟩, ⟨some 20, .load 1 false (.t 19) false, none⟩, ⟨some 11, .mv (.t 20) true, none⟩])
  (.seq (.reg [⟨some 21, .mv (.t 8) false, none⟩, ⟨some 22, .mv (.t 11) false, none⟩, ⟨some 23, .mv (.t 2) false, none⟩, ⟨some 24, .bin .quo (.t 22) (.t 23), none⟩, ⟨some 25, .mxn false [(.t 24), (.c (.int .i64 1000000))], none⟩, ⟨some 26, .bin .add (.t 21) (.t 25), none⟩, ⟨some 8, .mv (.t 26) true, none⟩])
  (.seq (.reg [⟨some 27, .mv (.t 9) false, none⟩, ⟨some 28, .mv (.t 11) false, none⟩, ⟨some 29, .mv (.t 2) false, none⟩, ⟨some 30, .bin .rem (.t 28) (.t 29), none⟩, ⟨some 31, .bin .add (.t 27) (.t 30), none⟩, ⟨some 9, .mv (.t 31) true, none⟩])
  (.seq (.seq (.reg [⟨some 32, .mv (.t 9) false, none⟩, ⟨some 33, .mv (.t 2) false, none⟩, ⟨some 34, .bin .lss (.t 32) (.t 33), none⟩])
  (.cond (.t 34) (.exit 1)
  (.skip)))
  (.seq (.reg [⟨some 35, .mv (.t 9) false, none⟩, ⟨some 36, .mv (.t 2) false, none⟩, ⟨some 37, .bin .sub (.t 35) (.t 36), none⟩, ⟨some 9, .mv (.t 37) true, none⟩])
  (.reg [⟨some 38, .mv (.t 8) false, none⟩, ⟨some 39, .bin .add (.t 38) (.c (.int .i64 1)), none⟩, ⟨some 8, .mv (.t 39) true, none⟩])))))))
  (.reg [⟨some 40, .bin .add (.t 17) (.c (.int .i64 1)), none⟩, ⟨some 17, .mv (.t 40) false, none⟩])))
def L74_0 : C := .loop [2, 8, 9, 15, 16, 17] 0 B74_0
theorem go74_0 (s : Env × Bx) (nb) : evL tab ext nb L74_0 s = (loopIn nb [2, 8, 9, 15, 16, 17] 0 s).bind fun s0 => (evL tab ext nb B74_0 s0).bind (seqG tab ext nb L74_0) := eL_loop _ _ _
/-- swingbridge/count.wide -/
def C74 : CFun := ⟨47, 3, .seq (.reg [⟨some 6, .mv (.c (.int .i64 0)) true, none⟩])
  (.scope (.seq (.reg [⟨some 12, .mv (.t 0) false, none⟩, ⟨some 13, .mv (.t 1) false, none⟩, ⟨some 14, .bsl 1 2 [(.int .i64 0), (.int .i64 0)] [(0, 1, (.t 12)), (1, 1, (.t 13))] false, none⟩, ⟨some 7, .mv (.t 14) true, none⟩])
  (.seq (.reg [⟨some 8, .mv (.c (.int .i64 0)) true, none⟩, ⟨some 9, .mv (.c (.int .i64 0)) true, none⟩])
  (.seq (.skip)
  (.seq (.seq (.reg [⟨some 15, .mv (.t 7) false, none⟩, ⟨some 16, .len (.t 15), none⟩, ⟨some 17, .mv (.c (.int .i64 0)) false, none⟩])
  (.block 0 (L74_0)))
  (.seq (.seq (.reg [⟨some 41, .mv (.t 9) false, none⟩, ⟨some 42, .bin .gtr (.t 41) (.c (.int .i64 0)), none⟩])
  (.cond (.t 42) (.reg [⟨some 43, .mv (.t 8) false, none⟩, ⟨some 44, .bin .add (.t 43) (.c (.int .i64 1)), none⟩, ⟨some 8, .mv (.t 44) true, none⟩])
  (.skip)))
  (.seq (.reg [⟨some 45, .mv (.t 8) false, none⟩, ⟨some 46, .mxn false [(.t 45), (.c (.int .i64 1000000))], none⟩, ⟨some 6, .mv (.t 46) true, none⟩])
  (.ret)))))))), [.t 6]⟩
theorem row74 : RowOk Tryz.prog 74 C74 := ⟨Tryz.f74, ⟨[], [], [], []⟩, lvOf [(0, [2, 8, 9, 15, 16, 17], 0)], Tryz.func74, by kernel_rfl, by kernel_rfl⟩
def B75_0 : C := .seq (.reg [⟨some 22, .bin .lss (.t 21) (.t 20), none⟩])
  (.seq (.cond (.t 22) (.skip)
  (.exit 0))
  (.seq (.block 1 (.seq (.reg [⟨some 23, .ia 3 (.t 19) (.t 21), none⟩, ⟨some 24, .load 3 true (.t 23) false, none⟩, ⟨some 9, .alloc [(.int .i64 0), (.int .i64 0), (.int .i64 0)], none⟩, ⟨none, .store 3 (.t 9) (.t 24), none⟩])
  (.seq (.reg [⟨some 25, .fa 0 (.t 9), none⟩, ⟨some 26, .load 1 false (.t 25) false, none⟩, ⟨some 27, .bin .eql (.t 26) (.c (.int .i64 3)), none⟩, ⟨some 28, .mv (.t 27) false, none⟩, ⟨some 29, .fa 2 (.t 3), some (28, true)⟩, ⟨some 30, .load 1 false (.t 29) false, some (28, true)⟩, ⟨some 31, .fa 2 (.t 9), some (28, true)⟩, ⟨some 32, .load 1 false (.t 31) false, some (28, true)⟩, ⟨some 33, .ia 1 (.t 30) (.t 32), some (28, true)⟩, ⟨some 34, .load 1 false (.t 33) false, some (28, true)⟩, ⟨some 35, .mv (.t 2) false, some (28, true)⟩, ⟨some 36, .bin .eql (.t 34) (.t 35), some (28, true)⟩, ⟨some 37, .pick (.t 28) (.t 36) (.c (.bool false)), none⟩])
  (.cond (.t 37) (.reg [⟨some 38, .mv (.t 7) true, none⟩, ⟨some 39, .fa 1 (.t 9), none⟩, ⟨some 40, .load 1 false (.t 39) false, none⟩, ⟨some 41, .bsl 1 1 [(.int .i64 0)] [(0, 1, (.t 40))] false, none⟩, ⟨some 42, .app 1 8 (.t 38) (.t 41) false, none⟩, ⟨some 7, .mv (.t 42) true, none⟩])
  (.skip)))))
  (.reg [⟨some 43, .bin .add (.t 21) (.c (.int .i64 1)), none⟩, ⟨some 21, .mv (.t 43) false, none⟩])))
def L75_0 : C := .loop [2, 3, 7, 19, 20, 21] 1 B75_0
theorem go75_0 (s : Env × Bx) (nb) : evL tab ext nb L75_0 s = (loopIn nb [2, 3, 7, 19, 20, 21] 1 s).bind fun s0 => (evL tab ext nb B75_0 s0).bind (seqG tab ext nb L75_0) := eL_loop _ _ _
/-- swingbridge/demand.homed -/
def C75 : CFun := ⟨45, 3, .seq (.reg [⟨some 3, .box (.t 0), none⟩, ⟨some 6, .mv (.c (.slice none 0 0)) true, none⟩])
  (.seq (.reg [⟨some 7, .mv (.c (.slice none 0 0)) true, none⟩])
  (.seq (.seq (.reg [⟨some 10, .load 4 true (.t 3) false, none⟩, ⟨some 11, .mv (.t 1) false, none⟩, ⟨some 12, .call 85 [(.t 10), (.t 11)] false, none⟩, ⟨some 13, .un .not (.t 12), none⟩])
  (.cond (.t 13) (.seq (.reg [⟨some 6, .mv (.c (.slice none 0 0)) true, none⟩])
  (.ret))
  (.skip)))
  (.seq (.seq (.reg [⟨some 14, .fa 3 (.t 3), none⟩, ⟨some 15, .load 1 false (.t 14) false, none⟩, ⟨some 16, .mv (.t 1) false, none⟩, ⟨some 17, .ia 6 (.t 15) (.t 16), none⟩, ⟨some 18, .fa 5 (.t 17), none⟩, ⟨some 19, .load 1 false (.t 18) false, none⟩, ⟨some 20, .len (.t 19), none⟩, ⟨some 21, .mv (.c (.int .i64 0)) false, none⟩])
  (.block 0 (L75_0)))
  (.seq (.reg [⟨some 44, .mv (.t 7) false, none⟩, ⟨some 6, .mv (.t 44) true, none⟩])
  (.ret))))), [.t 6]⟩
theorem row75 : RowOk Tryz.prog 75 C75 := ⟨Tryz.f75, ⟨[], [], [], []⟩, lvOf [(0, [2, 3, 7, 19, 20, 21], 1)], Tryz.func75, by kernel_rfl, by kernel_rfl⟩
/-- swingbridge/fair.Part -/
def C76 : CFun := ⟨30, 3, .seq (.reg [⟨some 3, .box (.t 0), none⟩, ⟨some 6, .mv (.c (.int .i64 0)) true, none⟩, ⟨some 7, .mv (.c (.bool false)) true, none⟩])
  (.seq (.reg [⟨some 12, .load 4 true (.t 3) false, none⟩, ⟨some 13, .mv (.t 1) false, none⟩, ⟨some 14, .mv (.t 2) false, none⟩, ⟨some 15, .call 86 [(.t 12), (.t 13), (.t 14)] false, none⟩, ⟨some 11, .mv (.t 15) false, none⟩, ⟨some 16, .ext (.t 11) 0, none⟩, ⟨some 17, .ext (.t 11) 1, none⟩, ⟨some 8, .alloc [(.int .i64 0), (.int .i64 0), (.int .i64 0)], none⟩, ⟨none, .store 3 (.t 8) (.t 16), none⟩, ⟨some 9, .mv (.t 17) true, none⟩])
  (.seq (.seq (.reg [⟨some 18, .mv (.t 9) false, none⟩, ⟨some 19, .un .not (.t 18), none⟩])
  (.cond (.t 19) (.seq (.reg [⟨some 6, .mv (.c (.int .i64 0)) true, none⟩, ⟨some 7, .mv (.c (.bool false)) true, none⟩])
  (.ret))
  (.skip)))
  (.seq (.reg [⟨some 20, .load 4 true (.t 3) false, none⟩, ⟨some 21, .mv (.t 1) false, none⟩, ⟨some 22, .call 87 [(.t 20), (.t 21)] false, none⟩, ⟨some 10, .mv (.t 22) true, none⟩])
  (.seq (.reg [⟨some 23, .fa 1 (.t 8), none⟩, ⟨some 24, .load 1 false (.t 23) false, none⟩, ⟨some 25, .mv (.t 10) false, none⟩, ⟨some 26, .mv (.t 10) false, none⟩, ⟨some 27, .len (.t 26), none⟩, ⟨some 28, .call 88 [(.t 25), (.t 27)] false, none⟩, ⟨some 29, .bin .add (.t 24) (.t 28), none⟩, ⟨some 6, .mv (.t 29) true, none⟩, ⟨some 7, .mv (.c (.bool true)) true, none⟩])
  (.ret))))), [.t 6, .t 7]⟩
theorem row76 : RowOk Tryz.prog 76 C76 := ⟨Tryz.f76, ⟨[], [], [], []⟩, lvOf [], Tryz.func76, by kernel_rfl, by kernel_rfl⟩
def B77_0 : C := .seq (.seq (.reg [⟨some 68, .mv (.t 13) false, none⟩, ⟨some 69, .bin .leq (.t 68) (.c (.int .i64 3000)), none⟩])
  (.cond (.t 69) (.skip)
  (.exit 0)))
  (.block 1 (.seq (.reg [⟨some 70, .mv (.t 12) false, none⟩, ⟨some 71, .load 4 true (.t 4) false, none⟩, ⟨some 72, .mv (.t 1) false, none⟩, ⟨some 73, .mv (.t 2) false, none⟩, ⟨some 74, .mv (.t 11) false, none⟩, ⟨some 75, .mv (.t 13) false, none⟩, ⟨some 76, .call 91 [(.t 71), (.t 72), (.t 73), (.t 74), (.t 75)] false, none⟩, ⟨some 77, .bin .add (.t 70) (.t 76), none⟩, ⟨some 14, .mv (.t 77) true, none⟩])
  (.seq (.seq (.reg [⟨some 78, .mv (.t 14) false, none⟩, ⟨some 79, .mv (.t 13) false, none⟩, ⟨some 80, .bin .eql (.t 78) (.t 79), none⟩])
  (.cond (.t 80) (.seq (.reg [⟨some 81, .mv (.t 13) false, none⟩, ⟨some 8, .mv (.t 81) true, none⟩, ⟨some 9, .mv (.c (.bool true)) true, none⟩])
  (.ret))
  (.skip)))
  (.seq (.seq (.reg [⟨some 82, .mv (.t 14) false, none⟩, ⟨some 83, .mv (.t 13) false, none⟩, ⟨some 84, .bin .lss (.t 82) (.t 83), none⟩])
  (.cond (.t 84) (.exit 0)
  (.skip)))
  (.reg [⟨some 85, .mv (.t 14) false, none⟩, ⟨some 13, .mv (.t 85) true, none⟩])))))
def L77_0 : C := .loop [1, 2, 4, 11, 12, 13] 2 B77_0
theorem go77_0 (s : Env × Bx) (nb) : evL tab ext nb L77_0 s = (loopIn nb [1, 2, 4, 11, 12, 13] 2 s).bind fun s0 => (evL tab ext nb B77_0 s0).bind (seqG tab ext nb L77_0) := eL_loop _ _ _
/-- swingbridge/agent.Part -/
def C77 : CFun := ⟨86, 4, .seq (.reg [⟨some 4, .box (.t 0), none⟩, ⟨some 8, .mv (.c (.int .i64 0)) true, none⟩, ⟨some 9, .mv (.c (.bool false)) true, none⟩])
  (.scope (.seq (.seq (.reg [⟨some 15, .load 4 true (.t 4) false, none⟩, ⟨some 16, .mv (.t 2) false, none⟩, ⟨some 17, .call 89 [(.t 15), (.t 16)] false, none⟩, ⟨some 18, .un .not (.t 17), none⟩, ⟨some 19, .mv (.t 18) false, none⟩, ⟨some 20, .mv (.t 1) false, some (19, false)⟩, ⟨some 21, .len (.t 20), some (19, false)⟩, ⟨some 22, .fa 3 (.t 4), some (19, false)⟩, ⟨some 23, .load 1 false (.t 22) false, some (19, false)⟩, ⟨some 24, .len (.t 23), some (19, false)⟩, ⟨some 25, .bin .neq (.t 21) (.t 24), some (19, false)⟩, ⟨some 26, .pick (.t 19) (.c (.bool true)) (.t 25), none⟩, ⟨some 27, .mv (.t 26) false, none⟩, ⟨some 28, .mv (.t 3) false, some (27, false)⟩, ⟨some 29, .bin .lss (.t 28) (.c (.int .i64 0)), some (27, false)⟩, ⟨some 30, .pick (.t 27) (.c (.bool true)) (.t 29), none⟩, ⟨some 31, .mv (.t 30) false, none⟩, ⟨some 32, .mv (.t 3) false, some (31, false)⟩, ⟨some 33, .fa 3 (.t 4), some (31, false)⟩, ⟨some 34, .load 1 false (.t 33) false, some (31, false)⟩, ⟨some 35, .mv (.t 2) false, some (31, false)⟩, ⟨some 36, .ia 6 (.t 34) (.t 35), some (31, false)⟩, ⟨some 37, .fa 5 (.t 36), some (31, false)⟩, ⟨some 38, .load 1 false (.t 37) false, some (31, false)⟩, ⟨some 39, .len (.t 38), some (31, false)⟩, ⟨some 40, .bin .geq (.t 32) (.t 39), some (31, false)⟩, ⟨some 41, .pick (.t 31) (.c (.bool true)) (.t 40), none⟩])
  (.cond (.t 41) (.seq (.reg [⟨some 8, .mv (.c (.int .i64 0)) true, none⟩, ⟨some 9, .mv (.c (.bool false)) true, none⟩])
  (.ret))
  (.skip)))
  (.seq (.reg [⟨some 42, .fa 3 (.t 4), none⟩, ⟨some 43, .load 1 false (.t 42) false, none⟩, ⟨some 44, .mv (.t 2) false, none⟩, ⟨some 45, .ia 6 (.t 43) (.t 44), none⟩, ⟨some 46, .fa 5 (.t 45), none⟩, ⟨some 47, .load 1 false (.t 46) false, none⟩, ⟨some 48, .mv (.t 3) false, none⟩, ⟨some 49, .ia 3 (.t 47) (.t 48), none⟩, ⟨some 50, .load 3 true (.t 49) false, none⟩, ⟨some 10, .alloc [(.int .i64 0), (.int .i64 0), (.int .i64 0)], none⟩, ⟨none, .store 3 (.t 10) (.t 50), none⟩])
  (.seq (.seq (.reg [⟨some 51, .fa 0 (.t 10), none⟩, ⟨some 52, .load 1 false (.t 51) false, none⟩, ⟨some 53, .bin .neq (.t 52) (.c (.int .i64 3)), none⟩])
  (.cond (.t 53) (.seq (.reg [⟨some 8, .mv (.c (.int .i64 0)) true, none⟩, ⟨some 9, .mv (.c (.bool false)) true, none⟩])
  (.ret))
  (.skip)))
  (.seq (.reg [⟨some 54, .fa 2 (.t 4), none⟩, ⟨some 55, .load 1 false (.t 54) false, none⟩, ⟨some 56, .fa 2 (.t 10), none⟩, ⟨some 57, .load 1 false (.t 56) false, none⟩, ⟨some 58, .ia 1 (.t 55) (.t 57), none⟩, ⟨some 59, .load 1 false (.t 58) false, none⟩, ⟨some 11, .mv (.t 59) true, none⟩])
  (.seq (.reg [⟨some 60, .fa 1 (.t 10), none⟩, ⟨some 61, .load 1 false (.t 60) false, none⟩, ⟨some 62, .load 4 true (.t 4) false, none⟩, ⟨some 63, .mv (.t 2) false, none⟩, ⟨some 64, .mv (.t 11) false, none⟩, ⟨some 65, .call 90 [(.t 62), (.t 63), (.t 64)] false, none⟩, ⟨some 66, .bin .add (.t 61) (.t 65), none⟩, ⟨some 12, .mv (.t 66) true, none⟩])
  (.seq (.reg [⟨some 67, .mv (.t 12) false, none⟩, ⟨some 13, .mv (.t 67) true, none⟩])
  (.seq (.skip)
  (.seq (.block 0 (L77_0))
  (.seq (.reg [⟨some 8, .mv (.c (.int .i64 0)) true, none⟩, ⟨some 9, .mv (.c (.bool false)) true, none⟩])
  (.ret))))))))))), [.t 8, .t 9]⟩
theorem row77 : RowOk Tryz.prog 77 C77 := ⟨Tryz.f77, ⟨[], [], [], []⟩, lvOf [(0, [1, 2, 4, 11, 12, 13], 2)], Tryz.func77, by kernel_rfl, by kernel_rfl⟩
/-- swingbridge/token.Part -/
def C78 : CFun := ⟨24, 3, .seq (.reg [⟨some 3, .box (.t 0), none⟩, ⟨some 6, .mv (.c (.int .i64 0)) true, none⟩, ⟨some 7, .mv (.c (.bool false)) true, none⟩])
  (.seq (.reg [⟨some 11, .load 4 true (.t 3) false, none⟩, ⟨some 12, .mv (.t 1) false, none⟩, ⟨some 13, .mv (.t 2) false, none⟩, ⟨some 14, .call 92 [(.t 11), (.t 12), (.t 13)] false, none⟩, ⟨some 10, .mv (.t 14) false, none⟩, ⟨some 15, .ext (.t 10) 0, none⟩, ⟨some 16, .ext (.t 10) 1, none⟩, ⟨some 8, .mv (.t 15) true, none⟩, ⟨some 9, .mv (.t 16) true, none⟩])
  (.seq (.seq (.reg [⟨some 17, .mv (.t 9) false, none⟩, ⟨some 18, .un .not (.t 17), none⟩])
  (.cond (.t 18) (.seq (.reg [⟨some 6, .mv (.c (.int .i64 0)) true, none⟩, ⟨some 7, .mv (.c (.bool false)) true, none⟩])
  (.ret))
  (.skip)))
  (.seq (.reg [⟨some 19, .mv (.t 8) false, none⟩, ⟨some 20, .load 4 true (.t 3) false, none⟩, ⟨some 21, .mv (.t 1) false, none⟩, ⟨some 22, .call 93 [(.t 20), (.t 21)] false, none⟩, ⟨some 23, .bin .add (.t 19) (.t 22), none⟩, ⟨some 6, .mv (.t 23) true, none⟩, ⟨some 7, .mv (.c (.bool true)) true, none⟩])
  (.ret)))), [.t 6, .t 7]⟩
theorem row78 : RowOk Tryz.prog 78 C78 := ⟨Tryz.f78, ⟨[], [], [], []⟩, lvOf [], Tryz.func78, by kernel_rfl, by kernel_rfl⟩
end Go.Proofs.YtclebnamhpgdmaaGreatEv
