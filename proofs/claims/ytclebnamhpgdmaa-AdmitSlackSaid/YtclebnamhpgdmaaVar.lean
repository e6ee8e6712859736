/- Other code of functions whose answers are written to. -/
import Derived.Test.YtclebnamhpgdmaaT1
import Derived.Test.YtclebnamhpgdmaaProg
import Derived.KernelRfl
namespace Go.Proofs.YtclebnamhpgdmaaEv
open Go
set_option maxRecDepth 100000
variable {tab : Nat → Option CFun} {ext : CallF}
/-- swingbridge/swingbridgelaw18.known -/
def C21v : CFun := ⟨100, 0, .seq (.reg [⟨some 0, .mv (.c (.bool false)) true, none⟩])
  (.seq (.reg [⟨some 9, .call 37 [(.c (.int .i64 1)), (.c (.int .i64 1)), (.c (.int .i64 3)), (.c (.int .i64 5)), (.c (.int .i64 4))] false, none⟩, ⟨some 1, .alloc [(.int .i64 0), (.slice none 0 0), (.slice none 0 0), (.slice none 0 0)], none⟩, ⟨none, .store 4 (.t 1) (.t 9), none⟩])
  (.seq (.reg [⟨some 11, .load 4 true (.t 1) false, none⟩, ⟨some 12, .calli 23 [(.t 11)], none⟩, ⟨some 10, .mv (.t 12) false, none⟩, ⟨some 13, .ext (.t 10) 0, none⟩, ⟨some 14, .ext (.t 10) 1, none⟩, ⟨some 2, .alloc [(.bool false), (.slice none 0 0), (.slice none 0 0)], none⟩, ⟨none, .store 3 (.t 2) (.t 13), none⟩, ⟨some 3, .mv (.t 14) true, none⟩])
  (.seq (.reg [⟨some 16, .build [(.int .i64 0), (.slice none 0 0), (.slice none 0 0), (.slice none 0 0)] [], none⟩, ⟨some 17, .calli 23 [(.t 16)], none⟩, ⟨some 15, .mv (.t 17) false, none⟩, ⟨some 18, .ext (.t 15) 0, none⟩, ⟨some 19, .ext (.t 15) 1, none⟩, ⟨some 4, .alloc [(.bool false), (.slice none 0 0), (.slice none 0 0)], none⟩, ⟨none, .store 3 (.t 4) (.t 18), none⟩, ⟨some 5, .mv (.t 19) true, none⟩])
  (.seq (.reg [⟨some 20, .build [(.int .i64 0), (.int .i64 0), (.int .i64 0)] [(0, 1, (.c (.int .i64 1))), (1, 1, (.c (.int .i64 60)))], none⟩, ⟨some 21, .bsl 3 1 [(.int .i64 0), (.int .i64 0), (.int .i64 0)] [(0, 3, (.t 20))] false, none⟩, ⟨some 22, .calli 28 [(.c (.int .i64 1)), (.t 21)], none⟩, ⟨some 6, .alloc [(.int .i64 0), (.slice none 0 0), (.slice none 0 0), (.slice none 0 0)], none⟩, ⟨none, .store 4 (.t 6) (.t 22), none⟩])
  (.seq (.reg [⟨some 23, .fa 3 (.t 6), none⟩, ⟨some 24, .load 1 false (.t 23) false, none⟩, ⟨some 25, .ia 6 (.t 24) (.c (.int .i64 0)), none⟩, ⟨some 26, .fa 2 (.t 25), none⟩, ⟨none, .store 1 (.t 26) (.c (.int .i64 50)), none⟩])
  (.seq (.reg [⟨some 28, .load 4 true (.t 6) false, none⟩, ⟨some 29, .calli 23 [(.t 28)], none⟩, ⟨some 27, .mv (.t 29) false, none⟩, ⟨some 30, .ext (.t 27) 0, none⟩, ⟨some 31, .ext (.t 27) 1, none⟩, ⟨some 7, .alloc [(.bool false), (.slice none 0 0), (.slice none 0 0)], none⟩, ⟨none, .store 3 (.t 7) (.t 30), none⟩, ⟨some 8, .mv (.t 31) true, none⟩])
  (.seq (.reg [⟨some 32, .mv (.t 3) false, none⟩, ⟨some 33, .bin .eql (.t 32) (.c (.int .i64 0)), none⟩, ⟨some 34, .mv (.t 33) false, none⟩, ⟨some 35, .fa 0 (.t 2), some (34, true)⟩, ⟨some 36, .load 1 false (.t 35) false, some (34, true)⟩, ⟨some 37, .pick (.t 34) (.t 36) (.c (.bool false)), none⟩, ⟨some 38, .mv (.t 37) false, none⟩, ⟨some 39, .fa 1 (.t 2), some (38, true)⟩, ⟨some 40, .load 1 false (.t 39) false, some (38, true)⟩, ⟨some 41, .len (.t 40), some (38, true)⟩, ⟨some 42, .bin .eql (.t 41) (.c (.int .i64 2)), some (38, true)⟩, ⟨some 43, .pick (.t 38) (.t 42) (.c (.bool false)), none⟩, ⟨some 44, .mv (.t 43) false, none⟩, ⟨some 45, .fa 1 (.t 2), some (44, true)⟩, ⟨some 46, .load 1 false (.t 45) false, some (44, true)⟩, ⟨some 47, .ia 1 (.t 46) (.c (.int .i64 0)), some (44, true)⟩, ⟨some 48, .load 1 false (.t 47) false, some (44, true)⟩, ⟨some 49, .bin .eql (.t 48) (.c (.int .i64 12)), some (44, true)⟩, ⟨some 50, .pick (.t 44) (.t 49) (.c (.bool false)), none⟩, ⟨some 51, .mv (.t 50) false, none⟩, ⟨some 52, .fa 1 (.t 2), some (51, true)⟩, ⟨some 53, .load 1 false (.t 52) false, some (51, true)⟩, ⟨some 54, .ia 1 (.t 53) (.c (.int .i64 1)), some (51, true)⟩, ⟨some 55, .load 1 false (.t 54) false, some (51, true)⟩, ⟨some 56, .bin .eql (.t 55) (.c (.int .i64 16)), some (51, true)⟩, ⟨some 57, .pick (.t 51) (.t 56) (.c (.bool false)), none⟩, ⟨some 58, .mv (.t 57) false, none⟩, ⟨some 59, .fa 2 (.t 2), some (58, true)⟩, ⟨some 60, .load 1 false (.t 59) false, some (58, true)⟩, ⟨some 61, .len (.t 60), some (58, true)⟩, ⟨some 62, .bin .eql (.t 61) (.c (.int .i64 2)), some (58, true)⟩, ⟨some 63, .pick (.t 58) (.t 62) (.c (.bool false)), none⟩, ⟨some 64, .mv (.t 63) false, none⟩, ⟨some 65, .fa 2 (.t 2), some (64, true)⟩, ⟨some 66, .load 1 false (.t 65) false, some (64, true)⟩, ⟨some 67, .ia 1 (.t 66) (.c (.int .i64 0)), some (64, true)⟩, ⟨some 68, .load 1 false (.t 67) false, some (64, true)⟩, ⟨some 69, .len (.t 68), some (64, true)⟩, ⟨some 70, .bin .eql (.t 69) (.c (.int .i64 2)), some (64, true)⟩, ⟨some 71, .pick (.t 64) (.t 70) (.c (.bool false)), none⟩, ⟨some 72, .mv (.t 71) false, none⟩, ⟨some 73, .fa 2 (.t 2), some (72, true)⟩, ⟨some 74, .load 1 false (.t 73) false, some (72, true)⟩, ⟨some 75, .ia 1 (.t 74) (.c (.int .i64 0)), some (72, true)⟩, ⟨some 76, .load 1 false (.t 75) false, some (72, true)⟩, ⟨some 77, .ia 1 (.t 76) (.c (.int .i64 1)), some (72, true)⟩, ⟨some 78, .load 1 false (.t 77) false, some (72, true)⟩, ⟨some 79, .bin .eql (.t 78) (.c (.int .i64 7)), some (72, true)⟩, ⟨some 80, .pick (.t 72) (.t 79) (.c (.bool false)), none⟩, ⟨some 81, .mv (.t 80) false, none⟩, ⟨some 82, .mv (.t 5) false, some (81, true)⟩, ⟨some 83, .bin .eql (.t 82) (.c (.int .i64 10)), some (81, true)⟩, ⟨some 84, .pick (.t 81) (.t 83) (.c (.bool false)), none⟩, ⟨some 85, .mv (.t 84) false, none⟩, ⟨some 86, .mv (.t 8) false, some (85, true)⟩, ⟨some 87, .bin .eql (.t 86) (.c (.int .i64 19)), some (85, true)⟩, ⟨some 88, .pick (.t 85) (.t 87) (.c (.bool false)), none⟩, ⟨some 89, .mv (.t 88) false, none⟩, ⟨some 90, .load 4 true (.t 1) false, some (89, true)⟩, ⟨some 91, .fa 1 (.t 2), some (89, true)⟩, ⟨some 92, .load 1 false (.t 91) false, some (89, true)⟩, ⟨some 93, .call 25 [(.t 90), (.t 92)] false, some (89, true)⟩, ⟨some 94, .pick (.t 89) (.t 93) (.c (.bool false)), none⟩, ⟨some 95, .mv (.t 94) false, none⟩, ⟨some 96, .load 4 true (.t 1) false, some (95, true)⟩, ⟨some 97, .call 25 [(.t 96), (.c (.slice none 0 0))] false, some (95, true)⟩, ⟨some 98, .un .not (.t 97), some (95, true)⟩, ⟨some 99, .pick (.t 95) (.t 98) (.c (.bool false)), none⟩, ⟨some 0, .mv (.t 99) true, none⟩])
  (.ret)))))))), [.t 0]⟩
theorem row21v : RowOk Try.prog 21 C21v := ⟨Try.f21, ⟨[], [], [], [28, 23]⟩, lvOf [], Try.func21, by kernel_rfl, by kernel_rfl⟩
/-- swingbridge/swingbridgelaw18.one -/
def C28v : CFun := ⟨12, 2, .seq (.reg [⟨some 4, .alloc [(.int .i64 0), (.slice none 0 0), (.slice none 0 0), (.slice none 0 0)], none⟩])
  (.seq (.reg [⟨some 5, .mv (.t 0) false, none⟩, ⟨some 6, .bsl 1 1 [(.int .i64 0)] [(0, 1, (.c (.int .i64 1)))] false, none⟩, ⟨some 7, .bsl 1 1 [(.int .i64 0)] [(0, 1, (.c (.int .i64 0)))] false, none⟩, ⟨some 8, .mv (.t 1) false, none⟩, ⟨some 9, .build [(.string ⟨#[]⟩), (.int .i64 0), (.int .i64 0), (.int .i64 0), (.int .i64 0), (.slice none 0 0)] [(0, 1, (.c (.string ⟨#[97]⟩))), (1, 1, (.c (.int .i64 100))), (2, 1, (.c (.int .i64 100))), (3, 1, (.c (.int .i64 1))), (5, 1, (.t 8))], none⟩, ⟨some 10, .bsl 6 1 [(.string ⟨#[]⟩), (.int .i64 0), (.int .i64 0), (.int .i64 0), (.int .i64 0), (.slice none 0 0)] [(0, 6, (.t 9))] true, none⟩, ⟨some 11, .build [(.int .i64 0), (.slice none 0 0), (.slice none 0 0), (.slice none 0 0)] [(0, 1, (.t 5)), (1, 1, (.t 6)), (2, 1, (.t 7)), (3, 1, (.t 10))], none⟩, ⟨none, .store 4 (.t 4) (.t 11), none⟩])
  (.ret)), [.cell 4 4]⟩
theorem row28v : RowOk Try.prog 28 C28v := ⟨Try.f28, ⟨[], [10], [], []⟩, lvOf [], Try.func28, by kernel_rfl, by kernel_rfl⟩
def B23v_0 : C := .seq (.reg [⟨some 36, .bin .lss (.t 35) (.t 34), none⟩])
  (.seq (.cond (.t 36) (.skip)
  (.exit 0))
  (.seq (.block 1 (.seq (.reg [⟨some 37, .mv (.t 35) false, none⟩, ⟨some 9, .mv (.t 37) true, none⟩])
  (.seq (.reg [⟨some 39, .load 4 true (.t 1) false, none⟩, ⟨some 40, .mv (.t 6) false, none⟩, ⟨some 41, .mv (.t 9) false, none⟩, ⟨some 42, .call 26 [(.t 39), (.t 40), (.t 41)] false, none⟩, ⟨some 38, .mv (.t 42) false, none⟩, ⟨some 43, .ext (.t 38) 0, none⟩, ⟨some 44, .ext (.t 38) 1, none⟩, ⟨some 10, .mv (.t 43) true, none⟩, ⟨some 11, .mv (.t 44) true, none⟩])
  (.reg [⟨some 45, .fa 2 (.t 8), none⟩, ⟨some 46, .load 1 false (.t 45) true, none⟩, ⟨some 47, .mv (.t 10) false, none⟩, ⟨some 48, .bsl 1 1 [(.slice none 0 0)] [(0, 1, (.t 47))] false, none⟩, ⟨some 49, .app 1 24 (.t 46) (.t 48) false, none⟩, ⟨some 50, .fa 2 (.t 8), none⟩, ⟨none, .store 1 (.t 50) (.t 49), none⟩]))))
  (.reg [⟨some 51, .bin .add (.t 35) (.c (.int .i64 1)), none⟩, ⟨some 35, .mv (.t 51) false, none⟩])))
def L23v_0 : C := .loop [1, 2, 6, 8, 34, 35] 60 B23v_0
theorem go23v_0 (s : Env × Bx) (nb) : evL tab ext nb L23v_0 s = (loopIn nb [1, 2, 6, 8, 34, 35] 60 s).bind fun s0 => (evL tab ext nb B23v_0 s0).bind (seqG tab ext nb L23v_0) := eL_loop _ _ _
/-- swingbridge/admit.Analyze -/
def C23v : CFun := ⟨53, 1, .seq (.reg [⟨some 1, .box (.t 0), none⟩, ⟨some 2, .alloc [(.bool false), (.slice none 0 0), (.slice none 0 0)], none⟩, ⟨some 3, .mv (.c (.int .i64 0)) true, none⟩])
  (.seq (.seq (.reg [⟨some 13, .load 4 true (.t 1) false, none⟩, ⟨some 14, .call 32 [(.t 13)] false, none⟩, ⟨some 12, .mv (.t 14) false, none⟩, ⟨some 15, .ext (.t 12) 0, none⟩, ⟨some 16, .ext (.t 12) 1, none⟩, ⟨some 4, .mv (.t 15) true, none⟩, ⟨some 5, .mv (.t 16) true, none⟩])
  (.seq (.reg [⟨some 17, .mv (.t 5) false, none⟩, ⟨some 18, .bin .neq (.t 17) (.c (.int .i64 0)), none⟩])
  (.cond (.t 18) (.seq (.reg [⟨some 19, .build [(.bool false), (.slice none 0 0), (.slice none 0 0)] [], none⟩, ⟨some 20, .mv (.t 5) false, none⟩, ⟨none, .store 3 (.t 2) (.t 19), none⟩, ⟨some 3, .mv (.t 20) true, none⟩])
  (.ret))
  (.skip))))
  (.seq (.reg [⟨some 22, .load 4 true (.t 1) false, none⟩, ⟨some 23, .calli 38 [(.t 22)], none⟩, ⟨some 21, .mv (.t 23) false, none⟩, ⟨some 24, .ext (.t 21) 0, none⟩, ⟨some 25, .ext (.t 21) 1, none⟩, ⟨some 6, .mv (.t 24) true, none⟩, ⟨some 7, .mv (.t 25) true, none⟩])
  (.seq (.seq (.reg [⟨some 26, .mv (.t 7) false, none⟩, ⟨some 27, .bin .neq (.t 26) (.c (.int .i64 0)), none⟩])
  (.cond (.t 27) (.seq (.reg [⟨some 28, .build [(.bool false), (.slice none 0 0), (.slice none 0 0)] [], none⟩, ⟨some 29, .mv (.t 7) false, none⟩, ⟨none, .store 3 (.t 2) (.t 28), none⟩, ⟨some 3, .mv (.t 29) true, none⟩])
  (.ret))
  (.skip)))
  (.seq (.reg [⟨some 30, .mv (.t 6) false, none⟩, ⟨some 31, .build [(.bool false), (.slice none 0 0), (.slice none 0 0)] [(0, 1, (.c (.bool true))), (1, 1, (.t 30))], none⟩, ⟨some 8, .alloc [(.bool false), (.slice none 0 0), (.slice none 0 0)], none⟩, ⟨none, .store 3 (.t 8) (.t 31), none⟩])
  (.seq (.seq (.reg [⟨some 32, .fa 3 (.t 1), none⟩, ⟨some 33, .load 1 false (.t 32) false, none⟩, ⟨some 34, .len (.t 33), none⟩, ⟨some 35, .mv (.c (.int .i64 0)) false, none⟩])
  (.block 0 (L23v_0)))
  (.seq (.reg [⟨some 52, .load 3 true (.t 8) false, none⟩, ⟨none, .store 3 (.t 2) (.t 52), none⟩, ⟨some 3, .mv (.c (.int .i64 0)) true, none⟩])
  (.ret))))))), [.cell 2 3, .t 3]⟩
theorem row23v : RowOk Try.prog 23 C23v := ⟨Try.f23, ⟨[], [], [], [38]⟩, lvOf [(0, [1, 2, 6, 8, 34, 35], 60)], Try.func23, by kernel_rfl, by kernel_rfl⟩
def B38v_0 : C := .seq (.reg [⟨some 13, .bin .lss (.t 12) (.t 11), none⟩])
  (.seq (.cond (.t 13) (.skip)
  (.exit 0))
  (.seq (.block 1 (.seq (.reg [⟨some 14, .ia 6 (.t 10) (.t 12), none⟩, ⟨some 15, .load 6 true (.t 14) false, none⟩, ⟨some 6, .alloc [(.string ⟨#[]⟩), (.int .i64 0), (.int .i64 0), (.int .i64 0), (.int .i64 0), (.slice none 0 0)], none⟩, ⟨none, .store 6 (.t 6) (.t 15), none⟩])
  (.reg [⟨some 16, .mv (.t 4) true, none⟩, ⟨some 17, .load 6 true (.t 6) false, none⟩, ⟨some 18, .call 30 [(.t 17)] false, none⟩, ⟨some 19, .load 6 true (.t 6) false, none⟩, ⟨some 20, .call 31 [(.t 19)] false, none⟩, ⟨some 21, .bin .add (.t 18) (.t 20), none⟩, ⟨some 22, .load 6 true (.t 6) false, none⟩, ⟨some 23, .call 51 [(.t 22)] false, none⟩, ⟨some 24, .bin .add (.t 21) (.t 23), none⟩, ⟨some 25, .bsl 1 1 [(.int .i64 0)] [(0, 1, (.t 24))] false, none⟩, ⟨some 26, .app 1 8 (.t 16) (.t 25) false, none⟩, ⟨some 4, .mv (.t 26) true, none⟩])))
  (.reg [⟨some 27, .bin .add (.t 12) (.c (.int .i64 1)), none⟩, ⟨some 12, .mv (.t 27) false, none⟩])))
def L38v_0 : C := .loop [1, 4, 10, 11, 12] 1 B38v_0
theorem go38v_0 (s : Env × Bx) (nb) : evL tab ext nb L38v_0 s = (loopIn nb [1, 4, 10, 11, 12] 1 s).bind fun s0 => (evL tab ext nb B38v_0 s0).bind (seqG tab ext nb L38v_0) := eL_loop _ _ _
def B38v_2 : C := .seq (.reg [⟨some 29, .bin .lss (.t 28) (.c (.int .i64 200)), none⟩])
  (.seq (.cond (.t 29) (.skip)
  (.exit 2))
  (.seq (.block 3 (.seq (.reg [⟨some 31, .load 4 true (.t 1) false, none⟩, ⟨some 32, .mv (.t 4) false, none⟩, ⟨some 33, .calli 52 [(.t 31), (.t 32)], none⟩, ⟨some 30, .mv (.t 33) false, none⟩, ⟨some 34, .ext (.t 30) 0, none⟩, ⟨some 35, .ext (.t 30) 1, none⟩, ⟨some 7, .mv (.t 34) true, none⟩, ⟨some 8, .mv (.t 35) true, none⟩])
  (.seq (.block 4 (.seq (.reg [⟨some 37, .mv (.t 8) false, none⟩, ⟨some 38, .un .not (.t 37), none⟩, ⟨some 36, .mv (.t 38) true, none⟩])
  (.cond (.t 36) (.seq (.reg [⟨some 2, .mv (.c (.slice none 0 0)) true, none⟩, ⟨some 3, .mv (.c (.int .i64 19)) true, none⟩])
  (.ret))
  (.seq (.reg [⟨some 40, .mv (.t 7) false, none⟩, ⟨some 41, .mv (.t 4) false, none⟩, ⟨some 42, .call 53 [(.t 40), (.t 41)] false, none⟩, ⟨some 39, .mv (.t 42) true, none⟩])
  (.cond (.t 39) (.seq (.reg [⟨some 43, .mv (.t 4) false, none⟩, ⟨some 2, .mv (.t 43) true, none⟩, ⟨some 3, .mv (.c (.int .i64 0)) true, none⟩])
  (.ret))
  (.skip))))))
  (.seq (.reg [⟨some 44, .mv (.t 7) false, none⟩, ⟨some 4, .mv (.t 44) true, none⟩])
  (.exit 3)))))
  (.reg [⟨some 45, .bin .add (.t 28) (.c (.int .i64 1)), none⟩, ⟨some 28, .mv (.t 45) false, none⟩])))
def L38v_2 : C := .loop [1, 4, 28] 1 B38v_2
theorem go38v_2 (s : Env × Bx) (nb) : evL tab ext nb L38v_2 s = (loopIn nb [1, 4, 28] 1 s).bind fun s0 => (evL tab ext nb B38v_2 s0).bind (seqG tab ext nb L38v_2) := eL_loop _ _ _
/-- swingbridge/admit.least -/
def C38v : CFun := ⟨46, 1, .seq (.reg [⟨some 1, .box (.t 0), none⟩, ⟨some 2, .mv (.c (.slice none 0 0)) true, none⟩, ⟨some 3, .mv (.c (.int .i64 0)) true, none⟩])
  (.scope (.seq (.reg [⟨some 4, .mv (.c (.slice none 0 0)) true, none⟩])
  (.seq (.seq (.reg [⟨some 9, .fa 3 (.t 1), none⟩, ⟨some 10, .load 1 false (.t 9) false, none⟩, ⟨some 11, .len (.t 10), none⟩, ⟨some 12, .mv (.c (.int .i64 0)) false, none⟩])
  (.block 0 (L38v_0)))
  (.seq (.skip)
  (.seq (.seq (.reg [⟨some 28, .mv (.c (.int .i64 0)) false, none⟩])
  (.block 2 (L38v_2)))
  (.seq (.reg [⟨some 2, .mv (.c (.slice none 0 0)) true, none⟩, ⟨some 3, .mv (.c (.int .i64 20)) true, none⟩])
  (.ret))))))), [.t 2, .t 3]⟩
theorem row38v : RowOk Try.prog 38 C38v := ⟨Try.f38, ⟨[], [], [], [52]⟩, lvOf [(0, [1, 4, 10, 11, 12], 1), (2, [1, 4, 28], 1)], Try.func38, by kernel_rfl, by kernel_rfl⟩
end Go.Proofs.YtclebnamhpgdmaaEv
