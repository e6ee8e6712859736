/- The seat's functions in compact code; each row is checked against the program. -/
import Derived.Test.YtclebnamhpgdmaaEv4
import Derived.Test.YtclebnamhpgdmaaProg
import Derived.KernelRfl
namespace Go.Proofs.YtclebnamhpgdmaaEv
open Go
set_option maxRecDepth 100000
variable {tab : Nat → Option CFun} {ext : CallF}
/-- swingbridge/calc.Add -/
def C68 : CFun := ⟨23, 2, .seq (.reg [⟨some 4, .mv (.c (.int .i64 0)) true, none⟩, ⟨some 5, .mv (.c (.bool false)) true, none⟩])
  (.seq (.reg [⟨some 7, .mv (.t 0) false, none⟩, ⟨some 8, .mv (.t 1) false, none⟩, ⟨some 9, .bin .add (.t 7) (.t 8), none⟩, ⟨some 6, .mv (.t 9) true, none⟩])
  (.seq (.seq (.reg [⟨some 10, .mv (.t 0) false, none⟩, ⟨some 11, .bin .lss (.t 10) (.c (.int .i64 0)), none⟩, ⟨some 12, .mv (.t 1) false, none⟩, ⟨some 13, .bin .lss (.t 12) (.c (.int .i64 0)), none⟩, ⟨some 14, .eqb false (.t 11) (.t 13), none⟩, ⟨some 15, .mv (.t 14) false, none⟩, ⟨some 16, .mv (.t 6) false, some (15, true)⟩, ⟨some 17, .bin .lss (.t 16) (.c (.int .i64 0)), some (15, true)⟩, ⟨some 18, .mv (.t 0) false, some (15, true)⟩, ⟨some 19, .bin .lss (.t 18) (.c (.int .i64 0)), some (15, true)⟩, ⟨some 20, .eqb true (.t 17) (.t 19), some (15, true)⟩, ⟨some 21, .pick (.t 15) (.t 20) (.c (.bool false)), none⟩])
  (.cond (.t 21) (.seq (.reg [⟨some 4, .mv (.c (.int .i64 0)) true, none⟩, ⟨some 5, .mv (.c (.bool false)) true, none⟩])
  (.ret))
  (.skip)))
  (.seq (.reg [⟨some 22, .mv (.t 6) false, none⟩, ⟨some 4, .mv (.t 22) true, none⟩, ⟨some 5, .mv (.c (.bool true)) true, none⟩])
  (.ret)))), [.t 4, .t 5]⟩
theorem row68 : RowOk Try.prog 68 C68 := ⟨Try.f68, ⟨[], [], [], []⟩, lvOf [], Try.func68, by kernel_rfl, by kernel_rfl⟩
/-- swingbridge/calc.Up -/
def C69 : CFun := ⟨39, 2, .seq (.reg [⟨some 4, .mv (.c (.int .i64 0)) true, none⟩, ⟨some 5, .mv (.c (.bool false)) true, none⟩])
  (.seq (.seq (.reg [⟨some 9, .mv (.t 1) false, none⟩, ⟨some 10, .bin .eql (.t 9) (.c (.int .i64 0)), none⟩])
  (.cond (.t 10) (.seq (.reg [⟨some 4, .mv (.c (.int .i64 0)) true, none⟩, ⟨some 5, .mv (.c (.bool false)) true, none⟩])
  (.ret))
  (.skip)))
  (.seq (.reg [⟨some 11, .mv (.t 0) false, none⟩, ⟨some 12, .bin .lss (.t 11) (.c (.int .i64 0)), none⟩, ⟨some 13, .mv (.t 1) false, none⟩, ⟨some 14, .bin .lss (.t 13) (.c (.int .i64 0)), none⟩, ⟨some 15, .eqb true (.t 12) (.t 14), none⟩, ⟨some 6, .mv (.t 15) true, none⟩])
  (.seq (.reg [⟨some 16, .mv (.t 0) false, none⟩, ⟨some 17, .call 66 [(.t 16)] false, none⟩, ⟨some 18, .mv (.t 1) false, none⟩, ⟨some 19, .call 66 [(.t 18)] false, none⟩, ⟨some 20, .bin .quo (.t 17) (.t 19), none⟩, ⟨some 21, .mv (.t 0) false, none⟩, ⟨some 22, .call 66 [(.t 21)] false, none⟩, ⟨some 23, .mv (.t 1) false, none⟩, ⟨some 24, .call 66 [(.t 23)] false, none⟩, ⟨some 25, .bin .rem (.t 22) (.t 24), none⟩, ⟨some 7, .mv (.t 20) true, none⟩, ⟨some 8, .mv (.t 25) true, none⟩])
  (.seq (.seq (.reg [⟨some 26, .mv (.t 8) false, none⟩, ⟨some 27, .bin .gtr (.t 26) (.c (.int .u64 0)), none⟩, ⟨some 28, .mv (.t 27) false, none⟩, ⟨some 29, .mv (.t 6) false, some (28, true)⟩, ⟨some 30, .un .not (.t 29), some (28, true)⟩, ⟨some 31, .pick (.t 28) (.t 30) (.c (.bool false)), none⟩])
  (.cond (.t 31) (.reg [⟨some 32, .mv (.t 7) false, none⟩, ⟨some 33, .bin .add (.t 32) (.c (.int .u64 1)), none⟩, ⟨some 7, .mv (.t 33) true, none⟩])
  (.skip)))
  (.seq (.reg [⟨some 34, .mv (.t 7) false, none⟩, ⟨some 35, .mv (.t 6) false, none⟩, ⟨some 36, .call 67 [(.t 34), (.t 35)] false, none⟩, ⟨some 37, .ext (.t 36) 0, none⟩, ⟨some 38, .ext (.t 36) 1, none⟩, ⟨some 4, .mv (.t 37) true, none⟩, ⟨some 5, .mv (.t 38) true, none⟩])
  (.ret)))))), [.t 4, .t 5]⟩
theorem row69 : RowOk Try.prog 69 C69 := ⟨Try.f69, ⟨[], [], [], []⟩, lvOf [], Try.func69, by kernel_rfl, by kernel_rfl⟩
def B70_0 : C := .seq (.reg [⟨some 18, .bin .lss (.t 17) (.t 16), none⟩])
  (.seq (.cond (.t 18) (.skip)
  (.exit 0))
  (.seq (.block 1 (.seq (.reg [⟨some 19, .ia 1 (.t 15) (.t 17), none⟩, ⟨some 20, .load 1 false (.t 19) false, none⟩, ⟨some 11, .mv (.t 20) true, none⟩])
  (.seq (.reg [⟨some 21, .mv (.t 8) false, none⟩, ⟨some 22, .mv (.t 11) false, none⟩, ⟨some 23, .mv (.t 2) false, none⟩, ⟨some 24, .bin .quo (.t 22) (.t 23), none⟩, ⟨some 25, .mxn false [(.t 24), (.c (.int .i64 1000000))], none⟩, ⟨some 26, .bin .add (.t 21) (.t 25), none⟩, ⟨some 8, .mv (.t 26) true, none⟩])
  (.seq (.reg [⟨some 27, .mv (.t 9) false, none⟩, ⟨some 28, .mv (.t 11) false, none⟩, ⟨some 29, .mv (.t 2) false, none⟩, ⟨some 30, .bin .rem (.t 28) (.t 29), none⟩, ⟨some 31, .bin .add (.t 27) (.t 30), none⟩, ⟨some 9, .mv (.t 31) true, none⟩])
  (.seq (.seq (.reg [⟨some 32, .mv (.t 9) false, none⟩, ⟨some 33, .mv (.t 2) false, none⟩, ⟨some 34, .bin .lss (.t 32) (.t 33), none⟩])
  (.cond (.t 34) (.exit 1)
  (.skip)))
  (.seq (.reg [⟨some 35, .mv (.t 9) false, none⟩, ⟨some 36, .mv (.t 2) false, none⟩, ⟨some 37, .bin .sub (.t 35) (.t 36), none⟩, ⟨some 9, .mv (.t 37) true, none⟩])
  (.reg [⟨some 38, .mv (.t 8) false, none⟩, ⟨some 39, .bin .add (.t 38) (.c (.int .i64 1)), none⟩, ⟨some 8, .mv (.t 39) true, none⟩])))))))
  (.reg [⟨some 40, .bin .add (.t 17) (.c (.int .i64 1)), none⟩, ⟨some 17, .mv (.t 40) false, none⟩])))
def L70_0 : C := .loop [2, 8, 9, 15, 16, 17] 0 B70_0
theorem go70_0 (s : Env × Bx) (nb) : evL tab ext nb L70_0 s = (loopIn nb [2, 8, 9, 15, 16, 17] 0 s).bind fun s0 => (evL tab ext nb B70_0 s0).bind (seqG tab ext nb L70_0) := eL_loop _ _ _
/-- swingbridge/count.wide -/
def C70 : CFun := ⟨47, 3, .seq (.reg [⟨some 6, .mv (.c (.int .i64 0)) true, none⟩])
  (.scope (.seq (.reg [⟨some 12, .mv (.t 0) false, none⟩, ⟨some 13, .mv (.t 1) false, none⟩, ⟨some 14, .bsl 1 2 [(.int .i64 0), (.int .i64 0)] [(0, 1, (.t 12)), (1, 1, (.t 13))] false, none⟩, ⟨some 7, .mv (.t 14) true, none⟩])
  (.seq (.reg [⟨some 8, .mv (.c (.int .i64 0)) true, none⟩, ⟨some 9, .mv (.c (.int .i64 0)) true, none⟩])
  (.seq (.skip)
  (.seq (.seq (.reg [⟨some 15, .mv (.t 7) false, none⟩, ⟨some 16, .len (.t 15), none⟩, ⟨some 17, .mv (.c (.int .i64 0)) false, none⟩])
  (.block 0 (L70_0)))
  (.seq (.seq (.reg [⟨some 41, .mv (.t 9) false, none⟩, ⟨some 42, .bin .gtr (.t 41) (.c (.int .i64 0)), none⟩])
  (.cond (.t 42) (.reg [⟨some 43, .mv (.t 8) false, none⟩, ⟨some 44, .bin .add (.t 43) (.c (.int .i64 1)), none⟩, ⟨some 8, .mv (.t 44) true, none⟩])
  (.skip)))
  (.seq (.reg [⟨some 45, .mv (.t 8) false, none⟩, ⟨some 46, .mxn false [(.t 45), (.c (.int .i64 1000000))], none⟩, ⟨some 6, .mv (.t 46) true, none⟩])
  (.ret)))))))), [.t 6]⟩
theorem row70 : RowOk Try.prog 70 C70 := ⟨Try.f70, ⟨[], [], [], []⟩, lvOf [(0, [2, 8, 9, 15, 16, 17], 0)], Try.func70, by kernel_rfl, by kernel_rfl⟩
def B71_0 : C := .seq (.reg [⟨some 22, .bin .lss (.t 21) (.t 20), none⟩])
  (.seq (.cond (.t 22) (.skip)
  (.exit 0))
  (.seq (.block 1 (.seq (.reg [⟨some 23, .ia 3 (.t 19) (.t 21), none⟩, ⟨some 24, .load 3 true (.t 23) false, none⟩, ⟨some 9, .alloc [(.int .i64 0), (.int .i64 0), (.int .i64 0)], none⟩, ⟨none, .store 3 (.t 9) (.t 24), none⟩])
  (.seq (.reg [⟨some 25, .fa 0 (.t 9), none⟩, ⟨some 26, .load 1 false (.t 25) false, none⟩, ⟨some 27, .bin .eql (.t 26) (.c (.int .i64 3)), none⟩, ⟨some 28, .mv (.t 27) false, none⟩, ⟨some 29, .fa 2 (.t 3), some (28, true)⟩, ⟨some 30, .load 1 false (.t 29) false, some (28, true)⟩, ⟨some 31, .fa 2 (.t 9), some (28, true)⟩, ⟨some 32, .load 1 false (.t 31) false, some (28, true)⟩, ⟨some 33, .ia 1 (.t 30) (.t 32), some (28, true)⟩, ⟨some 34, .load 1 false (.t 33) false, some (28, true)⟩, ⟨some 35, .mv (.t 2) false, some (28, true)⟩, ⟨some 36, .bin .eql (.t 34) (.t 35), some (28, true)⟩, ⟨some 37, .pick (.t 28) (.t 36) (.c (.bool false)), none⟩])
  (.cond (.t 37) (.reg [⟨some 38, .mv (.t 7) true, none⟩, ⟨some 39, .fa 1 (.t 9), none⟩, ⟨some 40, .load 1 false (.t 39) false, none⟩, ⟨some 41, .bsl 1 1 [(.int .i64 0)] [(0, 1, (.t 40))] false, none⟩, ⟨some 42, .app 1 8 (.t 38) (.t 41) false, none⟩, ⟨some 7, .mv (.t 42) true, none⟩])
  (.skip)))))
  (.reg [⟨some 43, .bin .add (.t 21) (.c (.int .i64 1)), none⟩, ⟨some 21, .mv (.t 43) false, none⟩])))
def L71_0 : C := .loop [2, 3, 7, 19, 20, 21] 1 B71_0
theorem go71_0 (s : Env × Bx) (nb) : evL tab ext nb L71_0 s = (loopIn nb [2, 3, 7, 19, 20, 21] 1 s).bind fun s0 => (evL tab ext nb B71_0 s0).bind (seqG tab ext nb L71_0) := eL_loop _ _ _
/-- swingbridge/demand.homed -/
def C71 : CFun := ⟨45, 3, .seq (.reg [⟨some 3, .box (.t 0), none⟩, ⟨some 6, .mv (.c (.slice none 0 0)) true, none⟩])
  (.seq (.reg [⟨some 7, .mv (.c (.slice none 0 0)) true, none⟩])
  (.seq (.seq (.reg [⟨some 10, .load 4 true (.t 3) false, none⟩, ⟨some 11, .mv (.t 1) false, none⟩, ⟨some 12, .call 83 [(.t 10), (.t 11)] false, none⟩, ⟨some 13, .un .not (.t 12), none⟩])
  (.cond (.t 13) (.seq (.reg [⟨some 6, .mv (.c (.slice none 0 0)) true, none⟩])
  (.ret))
  (.skip)))
  (.seq (.seq (.reg [⟨some 14, .fa 3 (.t 3), none⟩, ⟨some 15, .load 1 false (.t 14) false, none⟩, ⟨some 16, .mv (.t 1) false, none⟩, ⟨some 17, .ia 6 (.t 15) (.t 16), none⟩, ⟨some 18, .fa 5 (.t 17), none⟩, ⟨some 19, .load 1 false (.t 18) false, none⟩, ⟨some 20, .len (.t 19), none⟩, ⟨some 21, .mv (.c (.int .i64 0)) false, none⟩])
  (.block 0 (L71_0)))
  (.seq (.reg [⟨some 44, .mv (.t 7) false, none⟩, ⟨some 6, .mv (.t 44) true, none⟩])
  (.ret))))), [.t 6]⟩
theorem row71 : RowOk Try.prog 71 C71 := ⟨Try.f71, ⟨[], [], [], []⟩, lvOf [(0, [2, 3, 7, 19, 20, 21], 1)], Try.func71, by kernel_rfl, by kernel_rfl⟩
def B72_0 : C := .seq (.seq (.reg [⟨some 5, .mv (.t 3) false, none⟩, ⟨some 6, .mv (.t 0) false, none⟩, ⟨some 7, .slen (.t 6), none⟩, ⟨some 8, .bin .lss (.t 5) (.t 7), none⟩])
  (.cond (.t 8) (.skip)
  (.exit 0)))
  (.seq (.block 1 (.seq (.reg [⟨some 11, .mv (.t 0) false, none⟩, ⟨some 12, .mv (.t 3) false, none⟩, ⟨some 13, .ix (.t 11) (.t 12), none⟩, ⟨some 4, .mv (.t 13) true, none⟩])
  (.seq (.reg [⟨some 14, .mv (.t 4) false, none⟩, ⟨some 15, .bin .lss (.t 14) (.c (.int .u8 97)), none⟩, ⟨some 16, .mv (.t 15) false, none⟩, ⟨some 17, .mv (.t 4) false, some (16, false)⟩, ⟨some 18, .bin .gtr (.t 17) (.c (.int .u8 122)), some (16, false)⟩, ⟨some 19, .pick (.t 16) (.c (.bool true)) (.t 18), none⟩, ⟨some 20, .mv (.t 19) false, none⟩, ⟨some 21, .mv (.t 4) false, some (20, true)⟩, ⟨some 22, .bin .lss (.t 21) (.c (.int .u8 48)), some (20, true)⟩, ⟨some 23, .mv (.t 22) false, some (20, true)⟩, ⟨some 24, .mv (.t 4) false, some (23, false)⟩, ⟨some 25, .bin .gtr (.t 24) (.c (.int .u8 57)), some (23, false)⟩, ⟨some 26, .pick (.t 23) (.c (.bool true)) (.t 25), some (20, true)⟩, ⟨some 27, .mv (.t 26) false, some (20, true)⟩, ⟨some 28, .mv (.t 3) false, some (27, false)⟩, ⟨some 29, .bin .eql (.t 28) (.c (.int .i64 0)), some (27, false)⟩, ⟨some 30, .pick (.t 27) (.c (.bool true)) (.t 29), some (20, true)⟩, ⟨some 31, .pick (.t 20) (.t 30) (.c (.bool false)), none⟩])
  (.cond (.t 31) (.seq (.reg [⟨some 2, .mv (.c (.bool false)) true, none⟩])
  (.ret))
  (.skip)))))
  (.reg [⟨some 9, .mv (.t 3) false, none⟩, ⟨some 10, .bin .add (.t 9) (.c (.int .i64 1)), none⟩, ⟨some 3, .mv (.t 10) true, none⟩]))
def L72_0 : C := .loop [0, 3] 0 B72_0
theorem go72_0 (s : Env × Bx) (nb) : evL tab ext nb L72_0 s = (loopIn nb [0, 3] 0 s).bind fun s0 => (evL tab ext nb B72_0 s0).bind (seqG tab ext nb L72_0) := eL_loop _ _ _
/-- swingbridge/swingbridgeref7.Name -/
def C72 : CFun := ⟨40, 1, .seq (.reg [⟨some 2, .mv (.c (.bool false)) true, none⟩])
  (.seq (.seq (.reg [⟨some 3, .mv (.c (.int .i64 0)) true, none⟩])
  (.block 0 (L72_0)))
  (.seq (.reg [⟨some 32, .mv (.t 0) false, none⟩, ⟨some 33, .slen (.t 32), none⟩, ⟨some 34, .bin .geq (.t 33) (.c (.int .i64 1)), none⟩, ⟨some 35, .mv (.t 34) false, none⟩, ⟨some 36, .mv (.t 0) false, some (35, true)⟩, ⟨some 37, .slen (.t 36), some (35, true)⟩, ⟨some 38, .bin .leq (.t 37) (.c (.int .i64 8)), some (35, true)⟩, ⟨some 39, .pick (.t 35) (.t 38) (.c (.bool false)), none⟩, ⟨some 2, .mv (.t 39) true, none⟩])
  (.ret))), [.t 2]⟩
theorem row72 : RowOk Try.prog 72 C72 := ⟨Try.f72, ⟨[], [], [], []⟩, lvOf [(0, [0, 3], 0)], Try.func72, by kernel_rfl, by kernel_rfl⟩
/-- swingbridge/swingbridgeref7.part -/
def C73 : CFun := ⟨49, 2, .seq (.reg [⟨some 2, .box (.t 0), none⟩, ⟨some 3, .box (.t 1), none⟩, ⟨some 4, .mv (.c (.bool false)) true, none⟩])
  (.seq (.seq (.reg [⟨some 5, .fa 0 (.t 3), none⟩, ⟨some 6, .load 1 false (.t 5) false, none⟩, ⟨some 7, .bin .lss (.t 6) (.c (.int .i64 1)), none⟩, ⟨some 8, .mv (.t 7) false, none⟩, ⟨some 9, .fa 0 (.t 3), some (8, false)⟩, ⟨some 10, .load 1 false (.t 9) false, some (8, false)⟩, ⟨some 11, .bin .gtr (.t 10) (.c (.int .i64 3)), some (8, false)⟩, ⟨some 12, .pick (.t 8) (.c (.bool true)) (.t 11), none⟩, ⟨some 13, .mv (.t 12) false, none⟩, ⟨some 14, .fa 1 (.t 3), some (13, false)⟩, ⟨some 15, .load 1 false (.t 14) false, some (13, false)⟩, ⟨some 16, .bin .lss (.t 15) (.c (.int .i64 1)), some (13, false)⟩, ⟨some 17, .pick (.t 13) (.c (.bool true)) (.t 16), none⟩, ⟨some 18, .mv (.t 17) false, none⟩, ⟨some 19, .fa 1 (.t 3), some (18, false)⟩, ⟨some 20, .load 1 false (.t 19) false, some (18, false)⟩, ⟨some 21, .bin .gtr (.t 20) (.c (.int .i64 60)), some (18, false)⟩, ⟨some 22, .pick (.t 18) (.c (.bool true)) (.t 21), none⟩])
  (.cond (.t 22) (.seq (.reg [⟨some 4, .mv (.c (.bool false)) true, none⟩])
  (.ret))
  (.skip)))
  (.seq (.reg [⟨some 23, .fa 0 (.t 3), none⟩, ⟨some 24, .load 1 false (.t 23) false, none⟩, ⟨some 25, .bin .eql (.t 24) (.c (.int .i64 3)), none⟩, ⟨some 26, .mv (.t 25) false, none⟩, ⟨some 27, .fa 2 (.t 3), some (26, true)⟩, ⟨some 28, .load 1 false (.t 27) false, some (26, true)⟩, ⟨some 29, .bin .geq (.t 28) (.c (.int .i64 0)), some (26, true)⟩, ⟨some 30, .pick (.t 26) (.t 29) (.c (.bool false)), none⟩, ⟨some 31, .mv (.t 30) false, none⟩, ⟨some 32, .fa 2 (.t 3), some (31, true)⟩, ⟨some 33, .load 1 false (.t 32) false, some (31, true)⟩, ⟨some 34, .fa 2 (.t 2), some (31, true)⟩, ⟨some 35, .load 1 false (.t 34) false, some (31, true)⟩, ⟨some 36, .len (.t 35), some (31, true)⟩, ⟨some 37, .bin .lss (.t 33) (.t 36), some (31, true)⟩, ⟨some 38, .pick (.t 31) (.t 37) (.c (.bool false)), none⟩, ⟨some 39, .mv (.t 38) false, none⟩, ⟨some 40, .fa 0 (.t 3), some (39, false)⟩, ⟨some 41, .load 1 false (.t 40) false, some (39, false)⟩, ⟨some 42, .bin .neq (.t 41) (.c (.int .i64 3)), some (39, false)⟩, ⟨some 43, .mv (.t 42) false, some (39, false)⟩, ⟨some 44, .fa 2 (.t 3), some (43, true)⟩, ⟨some 45, .load 1 false (.t 44) false, some (43, true)⟩, ⟨some 46, .bin .eql (.t 45) (.c (.int .i64 0)), some (43, true)⟩, ⟨some 47, .pick (.t 43) (.t 46) (.c (.bool false)), some (39, false)⟩, ⟨some 48, .pick (.t 39) (.c (.bool true)) (.t 47), none⟩, ⟨some 4, .mv (.t 48) true, none⟩])
  (.ret))), [.t 4]⟩
theorem row73 : RowOk Try.prog 73 C73 := ⟨Try.f73, ⟨[], [], [], []⟩, lvOf [], Try.func73, by kernel_rfl, by kernel_rfl⟩
/-- swingbridge/fair.locked -/
def C74 : CFun := ⟨58, 3, .seq (.reg [⟨some 3, .box (.t 0), none⟩, ⟨some 6, .alloc [(.int .i64 0), (.int .i64 0), (.int .i64 0)], none⟩, ⟨some 7, .mv (.c (.bool false)) true, none⟩])
  (.seq (.seq (.reg [⟨some 12, .load 4 true (.t 3) false, none⟩, ⟨some 13, .call 32 [(.t 12)] false, none⟩, ⟨some 11, .mv (.t 13) false, none⟩, ⟨some 14, .ext (.t 11) 0, none⟩, ⟨some 15, .ext (.t 11) 1, none⟩, ⟨some 8, .mv (.t 14) true, none⟩, ⟨some 9, .mv (.t 15) true, none⟩])
  (.seq (.reg [⟨some 16, .mv (.t 9) false, none⟩, ⟨some 17, .bin .neq (.t 16) (.c (.int .i64 0)), none⟩, ⟨some 18, .mv (.t 17) false, none⟩, ⟨some 19, .mv (.t 1) false, some (18, false)⟩, ⟨some 20, .bin .lss (.t 19) (.c (.int .i64 0)), some (18, false)⟩, ⟨some 21, .pick (.t 18) (.c (.bool true)) (.t 20), none⟩, ⟨some 22, .mv (.t 21) false, none⟩, ⟨some 23, .mv (.t 1) false, some (22, false)⟩, ⟨some 24, .fa 3 (.t 3), some (22, false)⟩, ⟨some 25, .load 1 false (.t 24) false, some (22, false)⟩, ⟨some 26, .len (.t 25), some (22, false)⟩, ⟨some 27, .bin .geq (.t 23) (.t 26), some (22, false)⟩, ⟨some 28, .pick (.t 22) (.c (.bool true)) (.t 27), none⟩, ⟨some 29, .mv (.t 28) false, none⟩, ⟨some 30, .mv (.t 2) false, some (29, false)⟩, ⟨some 31, .bin .lss (.t 30) (.c (.int .i64 0)), some (29, false)⟩, ⟨some 32, .pick (.t 29) (.c (.bool true)) (.t 31), none⟩, ⟨some 33, .mv (.t 32) false, none⟩, ⟨some 34, .mv (.t 2) false, some (33, false)⟩, ⟨some 35, .fa 3 (.t 3), some (33, false)⟩, ⟨some 36, .load 1 false (.t 35) false, some (33, false)⟩, ⟨some 37, .mv (.t 1) false, some (33, false)⟩, ⟨some 38, .ia 6 (.t 36) (.t 37), some (33, false)⟩, ⟨some 39, .fa 5 (.t 38), some (33, false)⟩, ⟨some 40, .load 1 false (.t 39) false, some (33, false)⟩, ⟨some 41, .len (.t 40), some (33, false)⟩, ⟨some 42, .bin .geq (.t 34) (.t 41), some (33, false)⟩, ⟨some 43, .pick (.t 33) (.c (.bool true)) (.t 42), none⟩])
  (.cond (.t 43) (.seq (.reg [⟨some 44, .build [(.int .i64 0), (.int .i64 0), (.int .i64 0)] [], none⟩, ⟨none, .store 3 (.t 6) (.t 44), none⟩, ⟨some 7, .mv (.c (.bool false)) true, none⟩])
  (.ret))
  (.skip))))
  (.seq (.reg [⟨some 45, .fa 3 (.t 3), none⟩, ⟨some 46, .load 1 false (.t 45) false, none⟩, ⟨some 47, .mv (.t 1) false, none⟩, ⟨some 48, .ia 6 (.t 46) (.t 47), none⟩, ⟨some 49, .fa 5 (.t 48), none⟩, ⟨some 50, .load 1 false (.t 49) false, none⟩, ⟨some 51, .mv (.t 2) false, none⟩, ⟨some 52, .ia 3 (.t 50) (.t 51), none⟩, ⟨some 53, .load 3 true (.t 52) false, none⟩, ⟨some 10, .alloc [(.int .i64 0), (.int .i64 0), (.int .i64 0)], none⟩, ⟨none, .store 3 (.t 10) (.t 53), none⟩])
  (.seq (.dreg [(55, 10)] [(6, 10)] [⟨some 54, .load 3 true (.t 10) false, none⟩, ⟨some 55, .fa 0 (.t 10), none⟩, ⟨some 56, .load 1 false (.t 55) false, none⟩, ⟨some 57, .bin .eql (.t 56) (.c (.int .i64 3)), none⟩, ⟨none, .store 3 (.t 6) (.t 54), none⟩, ⟨some 7, .mv (.t 57) true, none⟩])
  (.ret)))), [.cell 6 3, .t 7]⟩
theorem row74 : RowOk Try.prog 74 C74 := ⟨Try.f74, ⟨[], [], [], []⟩, lvOf [], Try.func74, by kernel_rfl, by kernel_rfl⟩
def B75_0 : C := .seq (.reg [⟨some 32, .bin .lss (.t 31) (.t 30), none⟩])
  (.seq (.cond (.t 32) (.skip)
  (.exit 0))
  (.seq (.block 1 (.seq (.reg [⟨some 33, .mv (.t 31) false, none⟩, ⟨some 34, .ia 6 (.t 29) (.t 31), none⟩, ⟨some 35, .load 6 true (.t 34) false, none⟩, ⟨some 9, .alloc [(.string ⟨#[]⟩), (.int .i64 0), (.int .i64 0), (.int .i64 0), (.int .i64 0), (.slice none 0 0)], none⟩, ⟨some 8, .mv (.t 33) true, none⟩, ⟨none, .store 6 (.t 9) (.t 35), none⟩])
  (.seq (.seq (.reg [⟨some 36, .mv (.t 8) false, none⟩, ⟨some 37, .mv (.t 1) false, none⟩, ⟨some 38, .bin .eql (.t 36) (.t 37), none⟩, ⟨some 39, .mv (.t 38) false, none⟩, ⟨some 40, .load 6 true (.t 9) false, some (39, false)⟩, ⟨some 41, .call 84 [(.t 40)] false, some (39, false)⟩, ⟨some 42, .bin .eql (.t 41) (.c (.int .i64 0)), some (39, false)⟩, ⟨some 43, .pick (.t 39) (.c (.bool true)) (.t 42), none⟩])
  (.cond (.t 43) (.exit 1)
  (.skip)))
  (.reg [⟨some 44, .mv (.t 5) true, none⟩, ⟨some 45, .load 6 true (.t 9) false, none⟩, ⟨some 46, .call 84 [(.t 45)] false, none⟩, ⟨some 47, .bsl 1 1 [(.int .i64 0)] [(0, 1, (.t 46))] false, none⟩, ⟨some 48, .app 1 8 (.t 44) (.t 47) false, none⟩, ⟨some 5, .mv (.t 48) true, none⟩]))))
  (.reg [⟨some 49, .bin .add (.t 31) (.c (.int .i64 1)), none⟩, ⟨some 31, .mv (.t 49) false, none⟩])))
def L75_0 : C := .loop [1, 5, 29, 30, 31] 1 B75_0
theorem go75_0 (s : Env × Bx) (nb) : evL tab ext nb L75_0 s = (loopIn nb [1, 5, 29, 30, 31] 1 s).bind fun s0 => (evL tab ext nb B75_0 s0).bind (seqG tab ext nb L75_0) := eL_loop _ _ _
/-- swingbridge/fair.others -/
def C75 : CFun := ⟨51, 2, .seq (.reg [⟨some 2, .box (.t 0), none⟩, ⟨some 4, .mv (.c (.slice none 0 0)) true, none⟩])
  (.scope (.seq (.reg [⟨some 5, .mv (.c (.slice none 0 0)) true, none⟩])
  (.seq (.seq (.reg [⟨some 11, .load 4 true (.t 2) false, none⟩, ⟨some 12, .call 32 [(.t 11)] false, none⟩, ⟨some 10, .mv (.t 12) false, none⟩, ⟨some 13, .ext (.t 10) 0, none⟩, ⟨some 14, .ext (.t 10) 1, none⟩, ⟨some 6, .mv (.t 13) true, none⟩, ⟨some 7, .mv (.t 14) true, none⟩])
  (.seq (.reg [⟨some 15, .mv (.t 7) false, none⟩, ⟨some 16, .bin .neq (.t 15) (.c (.int .i64 0)), none⟩, ⟨some 17, .mv (.t 16) false, none⟩, ⟨some 18, .mv (.t 1) false, some (17, false)⟩, ⟨some 19, .bin .lss (.t 18) (.c (.int .i64 0)), some (17, false)⟩, ⟨some 20, .pick (.t 17) (.c (.bool true)) (.t 19), none⟩, ⟨some 21, .mv (.t 20) false, none⟩, ⟨some 22, .mv (.t 1) false, some (21, false)⟩, ⟨some 23, .fa 3 (.t 2), some (21, false)⟩, ⟨some 24, .load 1 false (.t 23) false, some (21, false)⟩, ⟨some 25, .len (.t 24), some (21, false)⟩, ⟨some 26, .bin .geq (.t 22) (.t 25), some (21, false)⟩, ⟨some 27, .pick (.t 21) (.c (.bool true)) (.t 26), none⟩])
  (.cond (.t 27) (.seq (.reg [⟨some 4, .mv (.c (.slice none 0 0)) true, none⟩])
  (.ret))
  (.skip))))
  (.seq (.skip)
  (.seq (.seq (.reg [⟨some 28, .fa 3 (.t 2), none⟩, ⟨some 29, .load 1 false (.t 28) false, none⟩, ⟨some 30, .len (.t 29), none⟩, ⟨some 31, .mv (.c (.int .i64 0)) false, none⟩])
  (.block 0 (L75_0)))
  (.seq (.reg [⟨some 50, .mv (.t 5) false, none⟩, ⟨some 4, .mv (.t 50) true, none⟩])
  (.ret))))))), [.t 4]⟩
theorem row75 : RowOk Try.prog 75 C75 := ⟨Try.f75, ⟨[], [], [], []⟩, lvOf [(0, [1, 5, 29, 30, 31], 1)], Try.func75, by kernel_rfl, by kernel_rfl⟩
def B76_0 : C := .seq (.reg [⟨some 13, .bin .lss (.t 12) (.t 11), none⟩])
  (.seq (.cond (.t 13) (.skip)
  (.exit 0))
  (.seq (.block 1 (.seq (.reg [⟨some 14, .ia 1 (.t 10) (.t 12), none⟩, ⟨some 15, .load 1 false (.t 14) false, none⟩, ⟨some 7, .mv (.t 15) true, none⟩])
  (.reg [⟨some 16, .mv (.t 5) false, none⟩, ⟨some 17, .mv (.t 7) false, none⟩, ⟨some 18, .bin .add (.t 16) (.t 17), none⟩, ⟨some 5, .mv (.t 18) true, none⟩])))
  (.reg [⟨some 19, .bin .add (.t 12) (.c (.int .i64 1)), none⟩, ⟨some 12, .mv (.t 19) false, none⟩])))
def L76_0 : C := .loop [5, 10, 11, 12] 0 B76_0
theorem go76_0 (s : Env × Bx) (nb) : evL tab ext nb L76_0 s = (loopIn nb [5, 10, 11, 12] 0 s).bind fun s0 => (evL tab ext nb B76_0 s0).bind (seqG tab ext nb L76_0) := eL_loop _ _ _
/-- swingbridge/sorted.Sum -/
def C76 : CFun := ⟨21, 2, .seq (.reg [⟨some 4, .mv (.c (.int .i64 0)) true, none⟩])
  (.seq (.reg [⟨some 5, .mv (.c (.int .i64 0)) true, none⟩])
  (.seq (.seq (.reg [⟨some 8, .mv (.t 0) false, none⟩, ⟨some 9, .mv (.t 1) false, none⟩, ⟨some 10, .call 85 [(.t 8), (.t 9)] false, none⟩, ⟨some 11, .len (.t 10), none⟩, ⟨some 12, .mv (.c (.int .i64 0)) false, none⟩])
  (.block 0 (L76_0)))
  (.seq (.reg [⟨some 20, .mv (.t 5) false, none⟩, ⟨some 4, .mv (.t 20) true, none⟩])
  (.ret)))), [.t 4]⟩
theorem row76 : RowOk Try.prog 76 C76 := ⟨Try.f76, ⟨[], [], [], []⟩, lvOf [(0, [5, 10, 11, 12], 0)], Try.func76, by kernel_rfl, by kernel_rfl⟩
/-- swingbridge/agent.there -/
def C77 : CFun := ⟨25, 2, .seq (.reg [⟨some 2, .box (.t 0), none⟩, ⟨some 4, .mv (.c (.bool false)) true, none⟩])
  (.seq (.reg [⟨some 8, .load 4 true (.t 2) false, none⟩, ⟨some 9, .call 32 [(.t 8)] false, none⟩, ⟨some 7, .mv (.t 9) false, none⟩, ⟨some 10, .ext (.t 7) 0, none⟩, ⟨some 11, .ext (.t 7) 1, none⟩, ⟨some 5, .mv (.t 10) true, none⟩, ⟨some 6, .mv (.t 11) true, none⟩])
  (.seq (.reg [⟨some 12, .mv (.t 6) false, none⟩, ⟨some 13, .bin .eql (.t 12) (.c (.int .i64 0)), none⟩, ⟨some 14, .mv (.t 13) false, none⟩, ⟨some 15, .mv (.t 1) false, some (14, true)⟩, ⟨some 16, .bin .geq (.t 15) (.c (.int .i64 0)), some (14, true)⟩, ⟨some 17, .pick (.t 14) (.t 16) (.c (.bool false)), none⟩, ⟨some 18, .mv (.t 17) false, none⟩, ⟨some 19, .mv (.t 1) false, some (18, true)⟩, ⟨some 20, .fa 3 (.t 2), some (18, true)⟩, ⟨some 21, .load 1 false (.t 20) false, some (18, true)⟩, ⟨some 22, .len (.t 21), some (18, true)⟩, ⟨some 23, .bin .lss (.t 19) (.t 22), some (18, true)⟩, ⟨some 24, .pick (.t 18) (.t 23) (.c (.bool false)), none⟩, ⟨some 4, .mv (.t 24) true, none⟩])
  (.ret))), [.t 4]⟩
theorem row77 : RowOk Try.prog 77 C77 := ⟨Try.f77, ⟨[], [], [], []⟩, lvOf [], Try.func77, by kernel_rfl, by kernel_rfl⟩
def B78_0 : C := .seq (.reg [⟨some 18, .bin .lss (.t 17) (.t 16), none⟩])
  (.seq (.cond (.t 18) (.skip)
  (.exit 0))
  (.seq (.block 1 (.seq (.reg [⟨some 19, .mv (.t 17) false, none⟩, ⟨some 20, .ia 6 (.t 15) (.t 17), none⟩, ⟨some 21, .load 6 true (.t 20) false, none⟩, ⟨some 9, .alloc [(.string ⟨#[]⟩), (.int .i64 0), (.int .i64 0), (.int .i64 0), (.int .i64 0), (.slice none 0 0)], none⟩, ⟨some 8, .mv (.t 19) true, none⟩, ⟨none, .store 6 (.t 9) (.t 21), none⟩])
  (.seq (.seq (.reg [⟨some 22, .fa 3 (.t 9), none⟩, ⟨some 23, .load 1 false (.t 22) false, none⟩, ⟨some 24, .fa 3 (.t 3), none⟩, ⟨some 25, .load 1 false (.t 24) false, none⟩, ⟨some 26, .mv (.t 1) false, none⟩, ⟨some 27, .ia 6 (.t 25) (.t 26), none⟩, ⟨some 28, .fa 3 (.t 27), none⟩, ⟨some 29, .load 1 false (.t 28) false, none⟩, ⟨some 30, .bin .leq (.t 23) (.t 29), none⟩])
  (.cond (.t 30) (.exit 1)
  (.skip)))
  (.reg [⟨some 31, .mv (.t 7) false, none⟩, ⟨some 32, .load 4 true (.t 3) false, none⟩, ⟨some 33, .mv (.t 8) false, none⟩, ⟨some 34, .mv (.t 2) false, none⟩, ⟨some 35, .call 86 [(.t 32), (.t 33), (.t 34)] false, none⟩, ⟨some 36, .mxn true [(.t 31), (.t 35)], none⟩, ⟨some 7, .mv (.t 36) true, none⟩]))))
  (.reg [⟨some 37, .bin .add (.t 17) (.c (.int .i64 1)), none⟩, ⟨some 17, .mv (.t 37) false, none⟩])))
def L78_0 : C := .loop [1, 2, 3, 7, 15, 16, 17] 1 B78_0
theorem go78_0 (s : Env × Bx) (nb) : evL tab ext nb L78_0 s = (loopIn nb [1, 2, 3, 7, 15, 16, 17] 1 s).bind fun s0 => (evL tab ext nb B78_0 s0).bind (seqG tab ext nb L78_0) := eL_loop _ _ _
/-- swingbridge/agent.Lower -/
def C78 : CFun := ⟨39, 3, .seq (.reg [⟨some 3, .box (.t 0), none⟩, ⟨some 6, .mv (.c (.int .i64 0)) true, none⟩])
  (.scope (.seq (.reg [⟨some 7, .mv (.c (.int .i64 0)) true, none⟩])
  (.seq (.seq (.reg [⟨some 10, .load 4 true (.t 3) false, none⟩, ⟨some 11, .mv (.t 1) false, none⟩, ⟨some 12, .call 77 [(.t 10), (.t 11)] false, none⟩, ⟨some 13, .un .not (.t 12), none⟩])
  (.cond (.t 13) (.seq (.reg [⟨some 6, .mv (.c (.int .i64 0)) true, none⟩])
  (.ret))
  (.skip)))
  (.seq (.skip)
  (.seq (.seq (.reg [⟨some 14, .fa 3 (.t 3), none⟩, ⟨some 15, .load 1 false (.t 14) false, none⟩, ⟨some 16, .len (.t 15), none⟩, ⟨some 17, .mv (.c (.int .i64 0)) false, none⟩])
  (.block 0 (L78_0)))
  (.seq (.reg [⟨some 38, .mv (.t 7) false, none⟩, ⟨some 6, .mv (.t 38) true, none⟩])
  (.ret))))))), [.t 6]⟩
theorem row78 : RowOk Try.prog 78 C78 := ⟨Try.f78, ⟨[], [], [], []⟩, lvOf [(0, [1, 2, 3, 7, 15, 16, 17], 1)], Try.func78, by kernel_rfl, by kernel_rfl⟩
def B79_0 : C := .seq (.reg [⟨some 30, .bin .lss (.t 29) (.t 28), none⟩])
  (.seq (.cond (.t 30) (.skip)
  (.exit 0))
  (.seq (.block 1 (.seq (.reg [⟨some 31, .mv (.t 29) false, none⟩, ⟨some 32, .ia 6 (.t 27) (.t 29), none⟩, ⟨some 33, .load 6 true (.t 32) false, none⟩, ⟨some 13, .alloc [(.string ⟨#[]⟩), (.int .i64 0), (.int .i64 0), (.int .i64 0), (.int .i64 0), (.slice none 0 0)], none⟩, ⟨some 12, .mv (.t 31) true, none⟩, ⟨none, .store 6 (.t 13) (.t 33), none⟩])
  (.seq (.reg [⟨some 34, .fa 3 (.t 13), none⟩, ⟨some 35, .load 1 false (.t 34) false, none⟩, ⟨some 36, .fa 3 (.t 5), none⟩, ⟨some 37, .load 1 false (.t 36) false, none⟩, ⟨some 38, .mv (.t 2) false, none⟩, ⟨some 39, .ia 6 (.t 37) (.t 38), none⟩, ⟨some 40, .fa 3 (.t 39), none⟩, ⟨some 41, .load 1 false (.t 40) false, none⟩, ⟨some 42, .bin .lss (.t 35) (.t 41), none⟩])
  (.cond (.t 42) (.reg [⟨some 43, .mv (.t 11) false, none⟩, ⟨some 44, .mv (.t 4) false, none⟩, ⟨some 45, .mv (.t 1) false, none⟩, ⟨some 46, .mv (.t 12) false, none⟩, ⟨some 47, .ia 1 (.t 45) (.t 46), none⟩, ⟨some 48, .load 1 false (.t 47) false, none⟩, ⟨some 49, .fa 1 (.t 13), none⟩, ⟨some 50, .load 1 false (.t 49) false, none⟩, ⟨some 51, .load 4 true (.t 5) false, none⟩, ⟨some 52, .mv (.t 12) false, none⟩, ⟨some 53, .mv (.t 3) false, none⟩, ⟨some 54, .call 50 [(.t 51), (.t 52), (.t 53)] false, none⟩, ⟨some 55, .call 35 [(.t 44), (.t 48), (.t 50), (.t 54)] false, none⟩, ⟨some 56, .bin .add (.t 43) (.t 55), none⟩, ⟨some 11, .mv (.t 56) true, none⟩])
  (.skip)))))
  (.reg [⟨some 57, .bin .add (.t 29) (.c (.int .i64 1)), none⟩, ⟨some 29, .mv (.t 57) false, none⟩])))
def L79_0 : C := .loop [1, 2, 3, 4, 5, 11, 27, 28, 29] 1 B79_0
theorem go79_0 (s : Env × Bx) (nb) : evL tab ext nb L79_0 s = (loopIn nb [1, 2, 3, 4, 5, 11, 27, 28, 29] 1 s).bind fun s0 => (evL tab ext nb B79_0 s0).bind (seqG tab ext nb L79_0) := eL_loop _ _ _
/-- swingbridge/agent.Higher -/
def C79 : CFun := ⟨60, 5, .seq (.reg [⟨some 5, .box (.t 0), none⟩, ⟨some 10, .mv (.c (.int .i64 0)) true, none⟩])
  (.seq (.reg [⟨some 11, .mv (.c (.int .i64 0)) true, none⟩])
  (.seq (.seq (.reg [⟨some 14, .load 4 true (.t 5) false, none⟩, ⟨some 15, .mv (.t 2) false, none⟩, ⟨some 16, .call 77 [(.t 14), (.t 15)] false, none⟩, ⟨some 17, .un .not (.t 16), none⟩, ⟨some 18, .mv (.t 17) false, none⟩, ⟨some 19, .mv (.t 1) false, some (18, false)⟩, ⟨some 20, .len (.t 19), some (18, false)⟩, ⟨some 21, .fa 3 (.t 5), some (18, false)⟩, ⟨some 22, .load 1 false (.t 21) false, some (18, false)⟩, ⟨some 23, .len (.t 22), some (18, false)⟩, ⟨some 24, .bin .neq (.t 20) (.t 23), some (18, false)⟩, ⟨some 25, .pick (.t 18) (.c (.bool true)) (.t 24), none⟩])
  (.cond (.t 25) (.seq (.reg [⟨some 10, .mv (.c (.int .i64 0)) true, none⟩])
  (.ret))
  (.skip)))
  (.seq (.seq (.reg [⟨some 26, .fa 3 (.t 5), none⟩, ⟨some 27, .load 1 false (.t 26) false, none⟩, ⟨some 28, .len (.t 27), none⟩, ⟨some 29, .mv (.c (.int .i64 0)) false, none⟩])
  (.block 0 (L79_0)))
  (.seq (.reg [⟨some 58, .mv (.t 11) false, none⟩, ⟨some 59, .mxn false [(.t 58), (.c (.int .i64 1000000))], none⟩, ⟨some 10, .mv (.t 59) true, none⟩])
  (.ret))))), [.t 10]⟩
theorem row79 : RowOk Try.prog 79 C79 := ⟨Try.f79, ⟨[], [], [], []⟩, lvOf [(0, [1, 2, 3, 4, 5, 11, 27, 28, 29], 1)], Try.func79, by kernel_rfl, by kernel_rfl⟩
/-- swingbridge/token.Inside -/
def C80 : CFun := ⟨46, 3, .seq (.reg [⟨some 3, .box (.t 0), none⟩, ⟨some 6, .mv (.c (.int .i64 0)) true, none⟩, ⟨some 7, .mv (.c (.bool false)) true, none⟩])
  (.seq (.seq (.reg [⟨some 9, .load 4 true (.t 3) false, none⟩, ⟨some 10, .mv (.t 1) false, none⟩, ⟨some 11, .call 87 [(.t 9), (.t 10)] false, none⟩, ⟨some 12, .un .not (.t 11), none⟩, ⟨some 13, .mv (.t 12) false, none⟩, ⟨some 14, .mv (.t 2) false, some (13, false)⟩, ⟨some 15, .bin .lss (.t 14) (.c (.int .i64 0)), some (13, false)⟩, ⟨some 16, .pick (.t 13) (.c (.bool true)) (.t 15), none⟩, ⟨some 17, .mv (.t 16) false, none⟩, ⟨some 18, .mv (.t 2) false, some (17, false)⟩, ⟨some 19, .fa 3 (.t 3), some (17, false)⟩, ⟨some 20, .load 1 false (.t 19) false, some (17, false)⟩, ⟨some 21, .mv (.t 1) false, some (17, false)⟩, ⟨some 22, .ia 6 (.t 20) (.t 21), some (17, false)⟩, ⟨some 23, .fa 5 (.t 22), some (17, false)⟩, ⟨some 24, .load 1 false (.t 23) false, some (17, false)⟩, ⟨some 25, .len (.t 24), some (17, false)⟩, ⟨some 26, .bin .geq (.t 18) (.t 25), some (17, false)⟩, ⟨some 27, .pick (.t 17) (.c (.bool true)) (.t 26), none⟩])
  (.cond (.t 27) (.seq (.reg [⟨some 6, .mv (.c (.int .i64 0)) true, none⟩, ⟨some 7, .mv (.c (.bool false)) true, none⟩])
  (.ret))
  (.skip)))
  (.seq (.reg [⟨some 28, .fa 3 (.t 3), none⟩, ⟨some 29, .load 1 false (.t 28) false, none⟩, ⟨some 30, .mv (.t 1) false, none⟩, ⟨some 31, .ia 6 (.t 29) (.t 30), none⟩, ⟨some 32, .fa 5 (.t 31), none⟩, ⟨some 33, .load 1 false (.t 32) false, none⟩, ⟨some 34, .mv (.t 2) false, none⟩, ⟨some 35, .ia 3 (.t 33) (.t 34), none⟩, ⟨some 36, .load 3 true (.t 35) false, none⟩, ⟨some 8, .alloc [(.int .i64 0), (.int .i64 0), (.int .i64 0)], none⟩, ⟨none, .store 3 (.t 8) (.t 36), none⟩])
  (.seq (.seq (.reg [⟨some 37, .fa 0 (.t 8), none⟩, ⟨some 38, .load 1 false (.t 37) false, none⟩, ⟨some 39, .bin .neq (.t 38) (.c (.int .i64 3)), none⟩])
  (.cond (.t 39) (.seq (.reg [⟨some 6, .mv (.c (.int .i64 0)) true, none⟩, ⟨some 7, .mv (.c (.bool false)) true, none⟩])
  (.ret))
  (.skip)))
  (.seq (.reg [⟨some 40, .fa 1 (.t 8), none⟩, ⟨some 41, .load 1 false (.t 40) false, none⟩, ⟨some 42, .load 4 true (.t 3) false, none⟩, ⟨some 43, .mv (.t 1) false, none⟩, ⟨some 44, .call 88 [(.t 42), (.t 43)] false, none⟩, ⟨some 45, .bin .add (.t 41) (.t 44), none⟩, ⟨some 6, .mv (.t 45) true, none⟩, ⟨some 7, .mv (.c (.bool true)) true, none⟩])
  (.ret))))), [.t 6, .t 7]⟩
theorem row80 : RowOk Try.prog 80 C80 := ⟨Try.f80, ⟨[], [], [], []⟩, lvOf [], Try.func80, by kernel_rfl, by kernel_rfl⟩
def B81_0 : C := .seq (.reg [⟨some 40, .bin .lss (.t 39) (.t 38), none⟩])
  (.seq (.cond (.t 40) (.skip)
  (.exit 0))
  (.seq (.block 1 (.seq (.reg [⟨some 41, .mv (.t 39) false, none⟩, ⟨some 42, .ia 6 (.t 37) (.t 39), none⟩, ⟨some 43, .load 6 true (.t 42) false, none⟩, ⟨some 9, .alloc [(.string ⟨#[]⟩), (.int .i64 0), (.int .i64 0), (.int .i64 0), (.int .i64 0), (.slice none 0 0)], none⟩, ⟨some 8, .mv (.t 41) true, none⟩, ⟨none, .store 6 (.t 9) (.t 43), none⟩])
  (.seq (.reg [⟨some 44, .fa 4 (.t 9), none⟩, ⟨some 45, .load 1 false (.t 44) false, none⟩, ⟨some 46, .mv (.t 5) false, none⟩, ⟨some 47, .bin .eql (.t 45) (.t 46), none⟩, ⟨some 48, .mv (.t 47) false, none⟩, ⟨some 49, .load 6 true (.t 9) false, some (48, true)⟩, ⟨some 50, .call 84 [(.t 49)] false, some (48, true)⟩, ⟨some 51, .bin .gtr (.t 50) (.c (.int .i64 0)), some (48, true)⟩, ⟨some 52, .pick (.t 48) (.t 51) (.c (.bool false)), none⟩])
  (.cond (.t 52) (.reg [⟨some 53, .mv (.t 7) false, none⟩, ⟨some 54, .load 6 true (.t 9) false, none⟩, ⟨some 55, .call 84 [(.t 54)] false, none⟩, ⟨some 56, .load 4 true (.t 2) false, none⟩, ⟨some 57, .mv (.t 8) false, none⟩, ⟨some 58, .call 88 [(.t 56), (.t 57)] false, none⟩, ⟨some 59, .bin .add (.t 55) (.t 58), none⟩, ⟨some 60, .mxn true [(.t 53), (.t 59)], none⟩, ⟨some 7, .mv (.t 60) true, none⟩])
  (.skip)))))
  (.reg [⟨some 61, .bin .add (.t 39) (.c (.int .i64 1)), none⟩, ⟨some 39, .mv (.t 61) false, none⟩])))
def L81_0 : C := .loop [2, 5, 6, 7, 37, 38, 39] 1 B81_0
theorem go81_0 (s : Env × Bx) (nb) : evL tab ext nb L81_0 s = (loopIn nb [2, 5, 6, 7, 37, 38, 39] 1 s).bind fun s0 => (evL tab ext nb B81_0 s0).bind (seqG tab ext nb L81_0) := eL_loop _ _ _
/-- swingbridge/token.Outside -/
def C81 : CFun := ⟨76, 2, .seq (.reg [⟨some 2, .box (.t 0), none⟩, ⟨some 4, .mv (.c (.int .i64 0)) true, none⟩])
  (.seq (.seq (.reg [⟨some 12, .load 4 true (.t 2) false, none⟩, ⟨some 13, .mv (.t 1) false, none⟩, ⟨some 14, .call 87 [(.t 12), (.t 13)] false, none⟩, ⟨some 15, .un .not (.t 14), none⟩, ⟨some 16, .mv (.t 15) false, none⟩, ⟨some 17, .fa 3 (.t 2), some (16, false)⟩, ⟨some 18, .load 1 false (.t 17) false, some (16, false)⟩, ⟨some 19, .mv (.t 1) false, some (16, false)⟩, ⟨some 20, .ia 6 (.t 18) (.t 19), some (16, false)⟩, ⟨some 21, .load 6 true (.t 20) false, some (16, false)⟩, ⟨some 22, .call 84 [(.t 21)] false, some (16, false)⟩, ⟨some 23, .bin .eql (.t 22) (.c (.int .i64 0)), some (16, false)⟩, ⟨some 24, .pick (.t 16) (.c (.bool true)) (.t 23), none⟩])
  (.cond (.t 24) (.seq (.reg [⟨some 4, .mv (.c (.int .i64 0)) true, none⟩])
  (.ret))
  (.skip)))
  (.seq (.reg [⟨some 25, .fa 3 (.t 2), none⟩, ⟨some 26, .load 1 false (.t 25) false, none⟩, ⟨some 27, .mv (.t 1) false, none⟩, ⟨some 28, .ia 6 (.t 26) (.t 27), none⟩, ⟨some 29, .fa 4 (.t 28), none⟩, ⟨some 30, .load 1 false (.t 29) false, none⟩, ⟨some 5, .mv (.t 30) true, none⟩])
  (.seq (.reg [⟨some 31, .fa 1 (.t 2), none⟩, ⟨some 32, .load 1 false (.t 31) false, none⟩, ⟨some 33, .mv (.t 5) false, none⟩, ⟨some 34, .ia 1 (.t 32) (.t 33), none⟩, ⟨some 35, .load 1 false (.t 34) false, none⟩, ⟨some 6, .mv (.t 35) true, none⟩])
  (.seq (.reg [⟨some 7, .mv (.c (.int .i64 0)) true, none⟩])
  (.seq (.seq (.reg [⟨some 36, .fa 3 (.t 2), none⟩, ⟨some 37, .load 1 false (.t 36) false, none⟩, ⟨some 38, .len (.t 37), none⟩, ⟨some 39, .mv (.c (.int .i64 0)) false, none⟩])
  (.block 0 (L81_0)))
  (.seq (.reg [⟨some 63, .load 4 true (.t 2) false, none⟩, ⟨some 64, .mv (.t 5) false, none⟩, ⟨some 65, .call 89 [(.t 63), (.t 64)] false, none⟩, ⟨some 66, .mv (.t 6) false, none⟩, ⟨some 67, .bin .sub (.t 65) (.t 66), none⟩, ⟨some 68, .mxn true [(.t 67), (.c (.int .i64 0))], none⟩, ⟨some 69, .mv (.t 6) false, none⟩, ⟨some 70, .call 69 [(.t 68), (.t 69)] false, none⟩, ⟨some 62, .mv (.t 70) false, none⟩, ⟨some 71, .ext (.t 62) 0, none⟩, ⟨some 72, .ext (.t 62) 1, none⟩, ⟨some 10, .mv (.t 71) true, none⟩, ⟨some 11, .mv (.t 72) true, none⟩])
  (.seq (.reg [⟨some 73, .mv (.t 10) false, none⟩, ⟨some 74, .mv (.t 7) false, none⟩, ⟨some 75, .bin .mul (.t 73) (.t 74), none⟩, ⟨some 4, .mv (.t 75) true, none⟩])
  (.ret)))))))), [.t 4]⟩
theorem row81 : RowOk Try.prog 81 C81 := ⟨Try.f81, ⟨[], [], [], []⟩, lvOf [(0, [2, 5, 6, 7, 37, 38, 39], 1)], Try.func81, by kernel_rfl, by kernel_rfl⟩
def B82_0 : C := .seq (.reg [⟨some 9, .bin .lss (.t 8) (.t 7), none⟩])
  (.seq (.cond (.t 9) (.skip)
  (.exit 0))
  (.seq (.block 1 (.seq (.reg [⟨some 10, .mv (.t 8) false, none⟩, ⟨some 5, .mv (.t 10) true, none⟩])
  (.seq (.reg [⟨some 11, .mv (.t 1) false, none⟩, ⟨some 12, .mv (.t 0) false, none⟩, ⟨some 13, .mv (.t 5) false, none⟩, ⟨some 14, .ia 6 (.t 12) (.t 13), none⟩, ⟨some 15, .load 6 true (.t 14) false, none⟩, ⟨some 16, .callv (.t 11) [(.t 15)], none⟩])
  (.cond (.t 16) (.seq (.reg [⟨some 17, .mv (.t 5) false, none⟩, ⟨some 4, .mv (.t 17) true, none⟩])
  (.ret))
  (.skip)))))
  (.reg [⟨some 18, .bin .add (.t 8) (.c (.int .i64 1)), none⟩, ⟨some 8, .mv (.t 18) false, none⟩])))
def L82_0 : C := .loop [0, 1, 7, 8] 0 B82_0
theorem go82_0 (s : Env × Bx) (nb) : evL tab ext nb L82_0 s = (loopIn nb [0, 1, 7, 8] 0 s).bind fun s0 => (evL tab ext nb B82_0 s0).bind (seqG tab ext nb L82_0) := eL_loop _ _ _
/-- slices.IndexFunc[[]swingbridge/api.Task,swingbridge/api.Task] -/
def C82 : CFun := ⟨19, 2, .seq (.reg [⟨some 4, .mv (.c (.int .i64 0)) true, none⟩])
  (.seq (.seq (.reg [⟨some 6, .mv (.t 0) false, none⟩, ⟨some 7, .len (.t 6), none⟩, ⟨some 8, .mv (.c (.int .i64 0)) false, none⟩])
  (.block 0 (L82_0)))
  (.seq (.reg [⟨some 4, .mv (.c (.int .i64 (-1))) true, none⟩])
  (.ret))), [.t 4]⟩
theorem row82 : RowOk Try.prog 82 C82 := ⟨Try.f82, ⟨[], [], [], []⟩, lvOf [(0, [0, 1, 7, 8], 0)], Try.func82, by kernel_rfl, by kernel_rfl⟩
/-- swingbridge/demand.there -/
def C83 : CFun := ⟨25, 2, .seq (.reg [⟨some 2, .box (.t 0), none⟩, ⟨some 4, .mv (.c (.bool false)) true, none⟩])
  (.seq (.reg [⟨some 8, .load 4 true (.t 2) false, none⟩, ⟨some 9, .call 32 [(.t 8)] false, none⟩, ⟨some 7, .mv (.t 9) false, none⟩, ⟨some 10, .ext (.t 7) 0, none⟩, ⟨some 11, .ext (.t 7) 1, none⟩, ⟨some 5, .mv (.t 10) true, none⟩, ⟨some 6, .mv (.t 11) true, none⟩])
  (.seq (.reg [⟨some 12, .mv (.t 6) false, none⟩, ⟨some 13, .bin .eql (.t 12) (.c (.int .i64 0)), none⟩, ⟨some 14, .mv (.t 13) false, none⟩, ⟨some 15, .mv (.t 1) false, some (14, true)⟩, ⟨some 16, .bin .geq (.t 15) (.c (.int .i64 0)), some (14, true)⟩, ⟨some 17, .pick (.t 14) (.t 16) (.c (.bool false)), none⟩, ⟨some 18, .mv (.t 17) false, none⟩, ⟨some 19, .mv (.t 1) false, some (18, true)⟩, ⟨some 20, .fa 3 (.t 2), some (18, true)⟩, ⟨some 21, .load 1 false (.t 20) false, some (18, true)⟩, ⟨some 22, .len (.t 21), some (18, true)⟩, ⟨some 23, .bin .lss (.t 19) (.t 22), some (18, true)⟩, ⟨some 24, .pick (.t 18) (.t 23) (.c (.bool false)), none⟩, ⟨some 4, .mv (.t 24) true, none⟩])
  (.ret))), [.t 4]⟩
theorem row83 : RowOk Try.prog 83 C83 := ⟨Try.f83, ⟨[], [], [], []⟩, lvOf [], Try.func83, by kernel_rfl, by kernel_rfl⟩
def B84_0 : C := .seq (.reg [⟨some 10, .bin .lss (.t 9) (.t 8), none⟩])
  (.seq (.cond (.t 10) (.skip)
  (.exit 0))
  (.seq (.block 1 (.seq (.reg [⟨some 11, .ia 3 (.t 7) (.t 9), none⟩, ⟨some 12, .load 3 true (.t 11) false, none⟩, ⟨some 5, .alloc [(.int .i64 0), (.int .i64 0), (.int .i64 0)], none⟩, ⟨none, .store 3 (.t 5) (.t 12), none⟩])
  (.seq (.reg [⟨some 13, .fa 0 (.t 5), none⟩, ⟨some 14, .load 1 false (.t 13) false, none⟩, ⟨some 15, .bin .eql (.t 14) (.c (.int .i64 3)), none⟩])
  (.cond (.t 15) (.reg [⟨some 16, .mv (.t 3) false, none⟩, ⟨some 17, .fa 1 (.t 5), none⟩, ⟨some 18, .load 1 false (.t 17) false, none⟩, ⟨some 19, .mxn true [(.t 16), (.t 18)], none⟩, ⟨some 3, .mv (.t 19) true, none⟩])
  (.skip)))))
  (.reg [⟨some 20, .bin .add (.t 9) (.c (.int .i64 1)), none⟩, ⟨some 9, .mv (.t 20) false, none⟩])))
def L84_0 : C := .loop [3, 7, 8, 9] 1 B84_0
theorem go84_0 (s : Env × Bx) (nb) : evL tab ext nb L84_0 s = (loopIn nb [3, 7, 8, 9] 1 s).bind fun s0 => (evL tab ext nb B84_0 s0).bind (seqG tab ext nb L84_0) := eL_loop _ _ _
/-- swingbridge/demand.Longest -/
def C84 : CFun := ⟨22, 1, .seq (.reg [⟨some 1, .box (.t 0), none⟩, ⟨some 2, .mv (.c (.int .i64 0)) true, none⟩])
  (.seq (.reg [⟨some 3, .mv (.c (.int .i64 0)) true, none⟩])
  (.seq (.seq (.reg [⟨some 6, .fa 5 (.t 1), none⟩, ⟨some 7, .load 1 false (.t 6) false, none⟩, ⟨some 8, .len (.t 7), none⟩, ⟨some 9, .mv (.c (.int .i64 0)) false, none⟩])
  (.block 0 (L84_0)))
  (.seq (.reg [⟨some 21, .mv (.t 3) false, none⟩, ⟨some 2, .mv (.t 21) true, none⟩])
  (.ret)))), [.t 2]⟩
theorem row84 : RowOk Try.prog 84 C84 := ⟨Try.f84, ⟨[], [], [], []⟩, lvOf [(0, [3, 7, 8, 9], 1)], Try.func84, by kernel_rfl, by kernel_rfl⟩
/-- swingbridge/sorted.Top -/
def C85 : CFun := ⟨17, 2, .seq (.reg [⟨some 4, .mv (.c (.slice none 0 0)) true, none⟩])
  (.seq (.reg [⟨some 6, .mv (.t 0) false, none⟩, ⟨some 7, .calli 90 [(.t 6)], none⟩, ⟨some 5, .mv (.t 7) true, none⟩])
  (.seq (.reg [⟨some 8, .mv (.t 5) false, none⟩, ⟨some 9, .calli 91 [(.t 8), (.f 92)], none⟩])
  (.seq (.reg [⟨some 10, .mv (.t 5) false, none⟩, ⟨some 11, .mv (.t 1) false, none⟩, ⟨some 12, .mxn true [(.t 11), (.c (.int .i64 0))], none⟩, ⟨some 13, .mv (.t 5) false, none⟩, ⟨some 14, .len (.t 13), none⟩, ⟨some 15, .mxn false [(.t 12), (.t 14)], none⟩, ⟨some 16, .slc 1 (.t 10) none (some (.t 15)) none, none⟩, ⟨some 4, .mv (.t 16) true, none⟩])
  (.ret)))), [.t 4]⟩
theorem row85 : RowOk Try.prog 85 C85 := ⟨Try.f85, ⟨[], [], [], [90]⟩, lvOf [], Try.func85, by kernel_rfl, by kernel_rfl⟩
def B86_0 : C := .seq (.reg [⟨some 16, .bin .lss (.t 15) (.t 14), none⟩])
  (.seq (.cond (.t 16) (.skip)
  (.exit 0))
  (.seq (.block 1 (.seq (.reg [⟨some 17, .ia 1 (.t 13) (.t 15), none⟩, ⟨some 18, .load 1 false (.t 17) false, none⟩, ⟨some 9, .mv (.t 18) true, none⟩])
  (.reg [⟨some 19, .mv (.t 7) false, none⟩, ⟨some 20, .mv (.t 9) false, none⟩, ⟨some 21, .mxn true [(.t 19), (.t 20)], none⟩, ⟨some 7, .mv (.t 21) true, none⟩])))
  (.reg [⟨some 22, .bin .add (.t 15) (.c (.int .i64 1)), none⟩, ⟨some 15, .mv (.t 22) false, none⟩])))
def L86_0 : C := .loop [7, 13, 14, 15] 1 B86_0
theorem go86_0 (s : Env × Bx) (nb) : evL tab ext nb L86_0 s = (loopIn nb [7, 13, 14, 15] 1 s).bind fun s0 => (evL tab ext nb B86_0 s0).bind (seqG tab ext nb L86_0) := eL_loop _ _ _
/-- swingbridge/demand.Most -/
def C86 : CFun := ⟨24, 3, .seq (.reg [⟨some 3, .box (.t 0), none⟩, ⟨some 6, .mv (.c (.int .i64 0)) true, none⟩])
  (.seq (.reg [⟨some 7, .mv (.c (.int .i64 0)) true, none⟩])
  (.seq (.seq (.reg [⟨some 10, .load 4 true (.t 3) false, none⟩, ⟨some 11, .mv (.t 1) false, none⟩, ⟨some 12, .mv (.t 2) false, none⟩, ⟨some 13, .call 71 [(.t 10), (.t 11), (.t 12)] false, none⟩, ⟨some 14, .len (.t 13), none⟩, ⟨some 15, .mv (.c (.int .i64 0)) false, none⟩])
  (.block 0 (L86_0)))
  (.seq (.reg [⟨some 23, .mv (.t 7) false, none⟩, ⟨some 6, .mv (.t 23) true, none⟩])
  (.ret)))), [.t 6]⟩
theorem row86 : RowOk Try.prog 86 C86 := ⟨Try.f86, ⟨[], [], [], []⟩, lvOf [(0, [7, 13, 14, 15], 1)], Try.func86, by kernel_rfl, by kernel_rfl⟩
/-- swingbridge/token.there -/
def C87 : CFun := ⟨25, 2, .seq (.reg [⟨some 2, .box (.t 0), none⟩, ⟨some 4, .mv (.c (.bool false)) true, none⟩])
  (.seq (.reg [⟨some 8, .load 4 true (.t 2) false, none⟩, ⟨some 9, .call 32 [(.t 8)] false, none⟩, ⟨some 7, .mv (.t 9) false, none⟩, ⟨some 10, .ext (.t 7) 0, none⟩, ⟨some 11, .ext (.t 7) 1, none⟩, ⟨some 5, .mv (.t 10) true, none⟩, ⟨some 6, .mv (.t 11) true, none⟩])
  (.seq (.reg [⟨some 12, .mv (.t 6) false, none⟩, ⟨some 13, .bin .eql (.t 12) (.c (.int .i64 0)), none⟩, ⟨some 14, .mv (.t 13) false, none⟩, ⟨some 15, .mv (.t 1) false, some (14, true)⟩, ⟨some 16, .bin .geq (.t 15) (.c (.int .i64 0)), some (14, true)⟩, ⟨some 17, .pick (.t 14) (.t 16) (.c (.bool false)), none⟩, ⟨some 18, .mv (.t 17) false, none⟩, ⟨some 19, .mv (.t 1) false, some (18, true)⟩, ⟨some 20, .fa 3 (.t 2), some (18, true)⟩, ⟨some 21, .load 1 false (.t 20) false, some (18, true)⟩, ⟨some 22, .len (.t 21), some (18, true)⟩, ⟨some 23, .bin .lss (.t 19) (.t 22), some (18, true)⟩, ⟨some 24, .pick (.t 18) (.t 23) (.c (.bool false)), none⟩, ⟨some 4, .mv (.t 24) true, none⟩])
  (.ret))), [.t 4]⟩
theorem row87 : RowOk Try.prog 87 C87 := ⟨Try.f87, ⟨[], [], [], []⟩, lvOf [], Try.func87, by kernel_rfl, by kernel_rfl⟩
def B88_0 : C := .seq (.reg [⟨some 12, .bin .lss (.t 11) (.t 10), none⟩])
  (.seq (.cond (.t 12) (.skip)
  (.exit 0))
  (.seq (.block 1 (.seq (.reg [⟨some 13, .mv (.t 11) false, none⟩, ⟨some 14, .ia 6 (.t 9) (.t 11), none⟩, ⟨some 15, .load 6 true (.t 14) false, none⟩, ⟨some 7, .alloc [(.string ⟨#[]⟩), (.int .i64 0), (.int .i64 0), (.int .i64 0), (.int .i64 0), (.slice none 0 0)], none⟩, ⟨some 6, .mv (.t 13) true, none⟩, ⟨none, .store 6 (.t 7) (.t 15), none⟩])
  (.seq (.seq (.reg [⟨some 16, .mv (.t 6) false, none⟩, ⟨some 17, .mv (.t 1) false, none⟩, ⟨some 18, .bin .eql (.t 16) (.t 17), none⟩])
  (.cond (.t 18) (.exit 1)
  (.skip)))
  (.reg [⟨some 19, .mv (.t 5) true, none⟩, ⟨some 20, .load 6 true (.t 7) false, none⟩, ⟨some 21, .call 84 [(.t 20)] false, none⟩, ⟨some 22, .bsl 1 1 [(.int .i64 0)] [(0, 1, (.t 21))] false, none⟩, ⟨some 23, .app 1 8 (.t 19) (.t 22) false, none⟩, ⟨some 5, .mv (.t 23) true, none⟩]))))
  (.reg [⟨some 24, .bin .add (.t 11) (.c (.int .i64 1)), none⟩, ⟨some 11, .mv (.t 24) false, none⟩])))
def L88_0 : C := .loop [1, 2, 5, 9, 10, 11] 1 B88_0
theorem go88_0 (s : Env × Bx) (nb) : evL tab ext nb L88_0 s = (loopIn nb [1, 2, 5, 9, 10, 11] 1 s).bind fun s0 => (evL tab ext nb B88_0 s0).bind (seqG tab ext nb L88_0) := eL_loop _ _ _
/-- swingbridge/token.others -/
def C88 : CFun := ⟨30, 2, .seq (.reg [⟨some 2, .box (.t 0), none⟩, ⟨some 4, .mv (.c (.int .i64 0)) true, none⟩])
  (.scope (.seq (.reg [⟨some 5, .mv (.c (.slice none 0 0)) true, none⟩])
  (.seq (.skip)
  (.seq (.seq (.reg [⟨some 8, .fa 3 (.t 2), none⟩, ⟨some 9, .load 1 false (.t 8) false, none⟩, ⟨some 10, .len (.t 9), none⟩, ⟨some 11, .mv (.c (.int .i64 0)) false, none⟩])
  (.block 0 (L88_0)))
  (.seq (.reg [⟨some 25, .mv (.t 5) false, none⟩, ⟨some 26, .load 4 true (.t 2) false, none⟩, ⟨some 27, .call 94 [(.t 26)] false, none⟩, ⟨some 28, .bin .sub (.t 27) (.c (.int .i64 1)), none⟩, ⟨some 29, .call 76 [(.t 25), (.t 28)] false, none⟩, ⟨some 4, .mv (.t 29) true, none⟩])
  (.ret)))))), [.t 4]⟩
theorem row88 : RowOk Try.prog 88 C88 := ⟨Try.f88, ⟨[], [], [], []⟩, lvOf [(0, [1, 2, 5, 9, 10, 11], 1)], Try.func88, by kernel_rfl, by kernel_rfl⟩
def B89_0 : C := .seq (.reg [⟨some 12, .bin .lss (.t 11) (.t 10), none⟩])
  (.seq (.cond (.t 12) (.skip)
  (.exit 0))
  (.seq (.block 1 (.seq (.reg [⟨some 13, .mv (.t 11) false, none⟩, ⟨some 14, .ia 6 (.t 9) (.t 11), none⟩, ⟨some 15, .load 6 true (.t 14) false, none⟩, ⟨some 7, .alloc [(.string ⟨#[]⟩), (.int .i64 0), (.int .i64 0), (.int .i64 0), (.int .i64 0), (.slice none 0 0)], none⟩, ⟨some 6, .mv (.t 13) true, none⟩, ⟨none, .store 6 (.t 7) (.t 15), none⟩])
  (.seq (.reg [⟨some 16, .load 4 true (.t 2) false, none⟩, ⟨some 17, .mv (.t 6) false, none⟩, ⟨some 18, .call 83 [(.t 16), (.t 17)] false, none⟩, ⟨some 19, .mv (.t 18) false, none⟩, ⟨some 20, .fa 4 (.t 7), some (19, true)⟩, ⟨some 21, .load 1 false (.t 20) false, some (19, true)⟩, ⟨some 22, .mv (.t 1) false, some (19, true)⟩, ⟨some 23, .bin .eql (.t 21) (.t 22), some (19, true)⟩, ⟨some 24, .pick (.t 19) (.t 23) (.c (.bool false)), none⟩, ⟨some 25, .mv (.t 24) false, none⟩, ⟨some 26, .load 6 true (.t 7) false, some (25, true)⟩, ⟨some 27, .call 84 [(.t 26)] false, some (25, true)⟩, ⟨some 28, .bin .gtr (.t 27) (.c (.int .i64 0)), some (25, true)⟩, ⟨some 29, .pick (.t 25) (.t 28) (.c (.bool false)), none⟩])
  (.cond (.t 29) (.reg [⟨some 30, .mv (.t 5) false, none⟩, ⟨some 31, .bin .add (.t 30) (.c (.int .i64 1)), none⟩, ⟨some 5, .mv (.t 31) true, none⟩])
  (.skip)))))
  (.reg [⟨some 32, .bin .add (.t 11) (.c (.int .i64 1)), none⟩, ⟨some 11, .mv (.t 32) false, none⟩])))
def L89_0 : C := .loop [1, 2, 5, 9, 10, 11] 1 B89_0
theorem go89_0 (s : Env × Bx) (nb) : evL tab ext nb L89_0 s = (loopIn nb [1, 2, 5, 9, 10, 11] 1 s).bind fun s0 => (evL tab ext nb B89_0 s0).bind (seqG tab ext nb L89_0) := eL_loop _ _ _
/-- swingbridge/demand.Askers -/
def C89 : CFun := ⟨34, 2, .seq (.reg [⟨some 2, .box (.t 0), none⟩, ⟨some 4, .mv (.c (.int .i64 0)) true, none⟩])
  (.seq (.reg [⟨some 5, .mv (.c (.int .i64 0)) true, none⟩])
  (.seq (.seq (.reg [⟨some 8, .fa 3 (.t 2), none⟩, ⟨some 9, .load 1 false (.t 8) false, none⟩, ⟨some 10, .len (.t 9), none⟩, ⟨some 11, .mv (.c (.int .i64 0)) false, none⟩])
  (.block 0 (L89_0)))
  (.seq (.reg [⟨some 33, .mv (.t 5) false, none⟩, ⟨some 4, .mv (.t 33) true, none⟩])
  (.ret)))), [.t 4]⟩
theorem row89 : RowOk Try.prog 89 C89 := ⟨Try.f89, ⟨[], [], [], []⟩, lvOf [(0, [1, 2, 5, 9, 10, 11], 1)], Try.func89, by kernel_rfl, by kernel_rfl⟩
/-- slices.Clone[[]int,int] -/
def C90 : CFun := ⟨8, 1, .seq (.reg [⟨some 2, .mv (.c (.slice none 0 0)) true, none⟩])
  (.seq (.seq (.reg [⟨some 3, .mv (.t 0) false, none⟩, ⟨some 4, .isnil false (.t 3), none⟩])
  (.cond (.t 4) (.seq (.reg [⟨some 2, .mv (.c (.slice none 0 0)) true, none⟩])
  (.ret))
  (.skip)))
  (.seq (.reg [⟨some 5, .bsl 1 0 [] [] false, none⟩, ⟨some 6, .mv (.t 0) false, none⟩, ⟨some 7, .app 1 8 (.t 5) (.t 6) true, none⟩, ⟨some 2, .mv (.t 7) true, none⟩])
  (.ret))), [.t 2]⟩
theorem row90 : RowOk Try.prog 90 C90 := ⟨Try.f90, ⟨[], [7], [], []⟩, lvOf [], Try.func90, by kernel_rfl, by kernel_rfl⟩
/-- slices.SortFunc[[]int,int] -/
def C91 : CFun := ⟨14, 2, .seq (.reg [⟨some 5, .mv (.t 0) false, none⟩, ⟨some 6, .len (.t 5), none⟩, ⟨some 4, .mv (.t 6) true, none⟩])
  (.reg [⟨some 7, .mv (.t 0) false, none⟩, ⟨some 8, .mv (.t 4) false, none⟩, ⟨some 9, .mv (.t 4) false, none⟩, ⟨some 10, .conv .u64 (.t 9), none⟩, ⟨some 11, .call 96 [(.t 10)] false, none⟩, ⟨some 12, .mv (.t 1) false, none⟩, ⟨some 13, .calli 95 [(.t 7), (.c (.int .i64 0)), (.t 8), (.t 11), (.t 12)], none⟩]), []⟩
theorem row91 : RowOk Try.prog 91 C91 := ⟨Try.f91, ⟨[], [], [], []⟩, lvOf [], Try.func91, by kernel_rfl, by kernel_rfl⟩
/-- swingbridge/sorted.Top$1 -/
def C92 : CFun := ⟨8, 2, .seq (.reg [⟨some 4, .mv (.c (.int .i64 0)) true, none⟩])
  (.seq (.reg [⟨some 5, .mv (.t 1) false, none⟩, ⟨some 6, .mv (.t 0) false, none⟩, ⟨some 7, .call 93 [(.t 5), (.t 6)] false, none⟩, ⟨some 4, .mv (.t 7) true, none⟩])
  (.ret)), [.t 4]⟩
theorem row92 : RowOk Try.prog 92 C92 := ⟨Try.f92, ⟨[], [], [], []⟩, lvOf [], Try.func92, by kernel_rfl, by kernel_rfl⟩
/-- cmp.Compare[int] -/
def C93 : CFun := ⟨20, 2, .seq (.reg [⟨some 4, .mv (.c (.int .i64 0)) true, none⟩])
  (.seq (.reg [⟨some 7, .mv (.t 0) false, none⟩, ⟨some 8, .call 97 [(.t 7)] false, none⟩, ⟨some 5, .mv (.t 8) true, none⟩])
  (.seq (.reg [⟨some 9, .mv (.t 1) false, none⟩, ⟨some 10, .call 97 [(.t 9)] false, none⟩, ⟨some 6, .mv (.t 10) true, none⟩])
  (.seq (.seq (.reg [⟨some 11, .mv (.t 5) false, none⟩])
  (.cond (.t 11) (.seq (.seq (.reg [⟨some 12, .mv (.t 6) false, none⟩])
  (.cond (.t 12) (.seq (.reg [⟨some 4, .mv (.c (.int .i64 0)) true, none⟩])
  (.ret))
  (.skip)))
  (.seq (.reg [⟨some 4, .mv (.c (.int .i64 (-1))) true, none⟩])
  (.ret)))
  (.skip)))
  (.seq (.seq (.reg [⟨some 13, .mv (.t 6) false, none⟩])
  (.cond (.t 13) (.seq (.reg [⟨some 4, .mv (.c (.int .i64 1)) true, none⟩])
  (.ret))
  (.skip)))
  (.seq (.seq (.reg [⟨some 14, .mv (.t 0) false, none⟩, ⟨some 15, .mv (.t 1) false, none⟩, ⟨some 16, .bin .lss (.t 14) (.t 15), none⟩])
  (.cond (.t 16) (.seq (.reg [⟨some 4, .mv (.c (.int .i64 (-1))) true, none⟩])
  (.ret))
  (.skip)))
  (.seq (.seq (.reg [⟨some 17, .mv (.t 0) false, none⟩, ⟨some 18, .mv (.t 1) false, none⟩, ⟨some 19, .bin .gtr (.t 17) (.t 18), none⟩])
  (.cond (.t 19) (.seq (.reg [⟨some 4, .mv (.c (.int .i64 1)) true, none⟩])
  (.ret))
  (.skip)))
  (.seq (.reg [⟨some 4, .mv (.c (.int .i64 0)) true, none⟩])
  (.ret)))))))), [.t 4]⟩
theorem row93 : RowOk Try.prog 93 C93 := ⟨Try.f93, ⟨[], [], [], []⟩, lvOf [], Try.func93, by kernel_rfl, by kernel_rfl⟩
def B94_0 : C := .seq (.reg [⟨some 12, .bin .lss (.t 11) (.t 10), none⟩])
  (.seq (.cond (.t 12) (.skip)
  (.exit 0))
  (.seq (.block 1 (.seq (.reg [⟨some 13, .ia 1 (.t 9) (.t 11), none⟩, ⟨some 14, .load 1 false (.t 13) false, none⟩, ⟨some 5, .mv (.t 14) true, none⟩])
  (.reg [⟨some 15, .mv (.t 3) false, none⟩, ⟨some 16, .mv (.t 5) false, none⟩, ⟨some 17, .bin .add (.t 15) (.t 16), none⟩, ⟨some 3, .mv (.t 17) true, none⟩])))
  (.reg [⟨some 18, .bin .add (.t 11) (.c (.int .i64 1)), none⟩, ⟨some 11, .mv (.t 18) false, none⟩])))
def L94_0 : C := .loop [3, 9, 10, 11] 1 B94_0
theorem go94_0 (s : Env × Bx) (nb) : evL tab ext nb L94_0 s = (loopIn nb [3, 9, 10, 11] 1 s).bind fun s0 => (evL tab ext nb B94_0 s0).bind (seqG tab ext nb L94_0) := eL_loop _ _ _
/-- swingbridge/demand.Cores -/
def C94 : CFun := ⟨20, 1, .seq (.reg [⟨some 1, .box (.t 0), none⟩, ⟨some 2, .mv (.c (.int .i64 0)) true, none⟩])
  (.seq (.reg [⟨some 3, .mv (.c (.int .i64 0)) true, none⟩])
  (.seq (.seq (.reg [⟨some 6, .load 4 true (.t 1) false, none⟩, ⟨some 7, .call 83 [(.t 6), (.c (.int .i64 0))] false, none⟩])
  (.cond (.t 7) (.seq (.reg [⟨some 8, .fa 1 (.t 1), none⟩, ⟨some 9, .load 1 false (.t 8) false, none⟩, ⟨some 10, .len (.t 9), none⟩, ⟨some 11, .mv (.c (.int .i64 0)) false, none⟩])
  (.block 0 (L94_0)))
  (.skip)))
  (.seq (.reg [⟨some 19, .mv (.t 3) false, none⟩, ⟨some 2, .mv (.t 19) true, none⟩])
  (.ret)))), [.t 2]⟩
theorem row94 : RowOk Try.prog 94 C94 := ⟨Try.f94, ⟨[], [], [], []⟩, lvOf [(0, [3, 9, 10, 11], 1)], Try.func94, by kernel_rfl, by kernel_rfl⟩
def B95_0 : C := .block 1 (.seq (.reg [⟨some 21, .mv (.t 2) false, none⟩, ⟨some 22, .mv (.t 1) false, none⟩, ⟨some 23, .bin .sub (.t 21) (.t 22), none⟩, ⟨some 12, .mv (.t 23) true, none⟩])
  (.seq (.seq (.reg [⟨some 24, .mv (.t 12) false, none⟩, ⟨some 25, .bin .leq (.t 24) (.c (.int .i64 12)), none⟩])
  (.cond (.t 25) (.seq (.reg [⟨some 26, .mv (.t 0) false, none⟩, ⟨some 27, .mv (.t 1) false, none⟩, ⟨some 28, .mv (.t 2) false, none⟩, ⟨some 29, .mv (.t 4) false, none⟩, ⟨some 30, .calli 98 [(.t 26), (.t 27), (.t 28), (.t 29)], none⟩])
  (.ret))
  (.skip)))
  (.seq (.seq (.reg [⟨some 31, .mv (.t 3) false, none⟩, ⟨some 32, .bin .eql (.t 31) (.c (.int .i64 0)), none⟩])
  (.cond (.t 32) (.seq (.reg [⟨some 33, .mv (.t 0) false, none⟩, ⟨some 34, .mv (.t 1) false, none⟩, ⟨some 35, .mv (.t 2) false, none⟩, ⟨some 36, .mv (.t 4) false, none⟩, ⟨some 37, .calli 99 [(.t 33), (.t 34), (.t 35), (.t 36)], none⟩])
  (.ret))
  (.skip)))
  (.seq (.seq (.reg [⟨some 38, .mv (.t 10) false, none⟩, ⟨some 39, .un .not (.t 38), none⟩])
  (.cond (.t 39) (.seq (.reg [⟨some 40, .mv (.t 0) false, none⟩, ⟨some 41, .mv (.t 1) false, none⟩, ⟨some 42, .mv (.t 2) false, none⟩, ⟨some 43, .mv (.t 4) false, none⟩, ⟨some 44, .calli 100 [(.t 40), (.t 41), (.t 42), (.t 43)], none⟩])
  (.reg [⟨some 45, .mv (.t 3) false, none⟩, ⟨some 46, .bin .sub (.t 45) (.c (.int .i64 1)), none⟩, ⟨some 3, .mv (.t 46) true, none⟩]))
  (.skip)))
  (.seq (.reg [⟨some 48, .mv (.t 0) false, none⟩, ⟨some 49, .mv (.t 1) false, none⟩, ⟨some 50, .mv (.t 2) false, none⟩, ⟨some 51, .mv (.t 4) false, none⟩, ⟨some 52, .calli 101 [(.t 48), (.t 49), (.t 50), (.t 51)], none⟩, ⟨some 47, .mv (.t 52) false, none⟩, ⟨some 53, .ext (.t 47) 0, none⟩, ⟨some 54, .ext (.t 47) 1, none⟩, ⟨some 13, .mv (.t 53) true, none⟩, ⟨some 14, .mv (.t 54) true, none⟩])
  (.seq (.seq (.reg [⟨some 55, .mv (.t 14) false, none⟩, ⟨some 56, .bin .eql (.t 55) (.c (.int .i64 2)), none⟩])
  (.cond (.t 56) (.seq (.reg [⟨some 57, .mv (.t 0) false, none⟩, ⟨some 58, .mv (.t 1) false, none⟩, ⟨some 59, .mv (.t 2) false, none⟩, ⟨some 60, .mv (.t 4) false, none⟩, ⟨some 61, .calli 102 [(.t 57), (.t 58), (.t 59), (.t 60)], none⟩])
  (.seq (.reg [⟨some 62, .mv (.t 2) false, none⟩, ⟨some 63, .bin .sub (.t 62) (.c (.int .i64 1)), none⟩, ⟨some 64, .mv (.t 13) false, none⟩, ⟨some 65, .mv (.t 1) false, none⟩, ⟨some 66, .bin .sub (.t 64) (.t 65), none⟩, ⟨some 67, .bin .sub (.t 63) (.t 66), none⟩, ⟨some 13, .mv (.t 67) true, none⟩])
  (.reg [⟨some 14, .mv (.c (.int .i64 1)) true, none⟩])))
  (.skip)))
  (.seq (.seq (.reg [⟨some 68, .mv (.t 10) false, none⟩, ⟨some 69, .mv (.t 68) false, none⟩, ⟨some 70, .mv (.t 11) false, some (69, true)⟩, ⟨some 71, .pick (.t 69) (.t 70) (.c (.bool false)), none⟩, ⟨some 72, .mv (.t 71) false, none⟩, ⟨some 73, .mv (.t 14) false, some (72, true)⟩, ⟨some 74, .bin .eql (.t 73) (.c (.int .i64 1)), some (72, true)⟩, ⟨some 75, .pick (.t 72) (.t 74) (.c (.bool false)), none⟩])
  (.cond (.t 75) (.seq (.reg [⟨some 76, .mv (.t 0) false, none⟩, ⟨some 77, .mv (.t 1) false, none⟩, ⟨some 78, .mv (.t 2) false, none⟩, ⟨some 79, .mv (.t 4) false, none⟩, ⟨some 80, .calli 103 [(.t 76), (.t 77), (.t 78), (.t 79)], none⟩])
  (.cond (.t 80) (.ret)
  (.skip)))
  (.skip)))
  (.seq (.seq (.reg [⟨some 81, .mv (.t 1) false, none⟩, ⟨some 82, .bin .gtr (.t 81) (.c (.int .i64 0)), none⟩, ⟨some 83, .mv (.t 82) false, none⟩, ⟨some 84, .mv (.t 4) false, some (83, true)⟩, ⟨some 85, .mv (.t 0) false, some (83, true)⟩, ⟨some 86, .mv (.t 1) false, some (83, true)⟩, ⟨some 87, .bin .sub (.t 86) (.c (.int .i64 1)), some (83, true)⟩, ⟨some 88, .ia 1 (.t 85) (.t 87), some (83, true)⟩, ⟨some 89, .load 1 false (.t 88) false, some (83, true)⟩, ⟨some 90, .mv (.t 0) false, some (83, true)⟩, ⟨some 91, .mv (.t 13) false, some (83, true)⟩, ⟨some 92, .ia 1 (.t 90) (.t 91), some (83, true)⟩, ⟨some 93, .load 1 false (.t 92) false, some (83, true)⟩, ⟨some 94, .callv (.t 84) [(.t 89), (.t 93)], some (83, true)⟩, ⟨some 95, .bin .lss (.t 94) (.c (.int .i64 0)), some (83, true)⟩, ⟨some 96, .un .not (.t 95), some (83, true)⟩, ⟨some 97, .pick (.t 83) (.t 96) (.c (.bool false)), none⟩])
  (.cond (.t 97) (.seq (.reg [⟨some 98, .mv (.t 0) false, none⟩, ⟨some 99, .mv (.t 1) false, none⟩, ⟨some 100, .mv (.t 2) false, none⟩, ⟨some 101, .mv (.t 13) false, none⟩, ⟨some 102, .mv (.t 4) false, none⟩, ⟨some 103, .calli 104 [(.t 98), (.t 99), (.t 100), (.t 101), (.t 102)], none⟩, ⟨some 15, .mv (.t 103) true, none⟩])
  (.seq (.reg [⟨some 104, .mv (.t 15) false, none⟩, ⟨some 1, .mv (.t 104) true, none⟩])
  (.exit 1)))
  (.skip)))
  (.seq (.reg [⟨some 106, .mv (.t 0) false, none⟩, ⟨some 107, .mv (.t 1) false, none⟩, ⟨some 108, .mv (.t 2) false, none⟩, ⟨some 109, .mv (.t 13) false, none⟩, ⟨some 110, .mv (.t 4) false, none⟩, ⟨some 111, .calli 105 [(.t 106), (.t 107), (.t 108), (.t 109), (.t 110)], none⟩, ⟨some 105, .mv (.t 111) false, none⟩, ⟨some 112, .ext (.t 105) 0, none⟩, ⟨some 113, .ext (.t 105) 1, none⟩, ⟨some 16, .mv (.t 112) true, none⟩, ⟨some 17, .mv (.t 113) true, none⟩])
  (.seq (.reg [⟨some 114, .mv (.t 17) false, none⟩, ⟨some 11, .mv (.t 114) true, none⟩])
  (.seq (.reg [⟨some 115, .mv (.t 16) false, none⟩, ⟨some 116, .mv (.t 1) false, none⟩, ⟨some 117, .bin .sub (.t 115) (.t 116), none⟩, ⟨some 118, .mv (.t 2) false, none⟩, ⟨some 119, .mv (.t 16) false, none⟩, ⟨some 120, .bin .sub (.t 118) (.t 119), none⟩, ⟨some 18, .mv (.t 117) true, none⟩, ⟨some 19, .mv (.t 120) true, none⟩])
  (.seq (.reg [⟨some 121, .mv (.t 12) false, none⟩, ⟨some 122, .bin .quo (.t 121) (.c (.int .i64 8)), none⟩, ⟨some 20, .mv (.t 122) true, none⟩])
  (.seq (.reg [⟨some 123, .mv (.t 18) false, none⟩, ⟨some 124, .mv (.t 19) false, none⟩, ⟨some 125, .bin .lss (.t 123) (.t 124), none⟩])
  (.cond (.t 125) (.seq (.reg [⟨some 126, .mv (.t 18) false, none⟩, ⟨some 127, .mv (.t 20) false, none⟩, ⟨some 128, .bin .geq (.t 126) (.t 127), none⟩, ⟨some 10, .mv (.t 128) true, none⟩])
  (.seq (.reg [⟨some 129, .mv (.t 0) false, none⟩, ⟨some 130, .mv (.t 1) false, none⟩, ⟨some 131, .mv (.t 16) false, none⟩, ⟨some 132, .mv (.t 3) false, none⟩, ⟨some 133, .mv (.t 4) false, none⟩, ⟨some 134, .calli 95 [(.t 129), (.t 130), (.t 131), (.t 132), (.t 133)], none⟩])
  (.reg [⟨some 135, .mv (.t 16) false, none⟩, ⟨some 136, .bin .add (.t 135) (.c (.int .i64 1)), none⟩, ⟨some 1, .mv (.t 136) true, none⟩])))
  (.seq (.reg [⟨some 137, .mv (.t 19) false, none⟩, ⟨some 138, .mv (.t 20) false, none⟩, ⟨some 139, .bin .geq (.t 137) (.t 138), none⟩, ⟨some 10, .mv (.t 139) true, none⟩])
  (.seq (.reg [⟨some 140, .mv (.t 0) false, none⟩, ⟨some 141, .mv (.t 16) false, none⟩, ⟨some 142, .bin .add (.t 141) (.c (.int .i64 1)), none⟩, ⟨some 143, .mv (.t 2) false, none⟩, ⟨some 144, .mv (.t 3) false, none⟩, ⟨some 145, .mv (.t 4) false, none⟩, ⟨some 146, .calli 95 [(.t 140), (.t 142), (.t 143), (.t 144), (.t 145)], none⟩])
  (.reg [⟨some 147, .mv (.t 16) false, none⟩, ⟨some 2, .mv (.t 147) true, none⟩])))))))))))))))))
def L95_0 : C := .loop [0, 1, 2, 3, 4, 10, 11] 0 B95_0
theorem go95_0 (s : Env × Bx) (nb) : evL tab ext nb L95_0 s = (loopIn nb [0, 1, 2, 3, 4, 10, 11] 0 s).bind fun s0 => (evL tab ext nb B95_0 s0).bind (seqG tab ext nb L95_0) := eL_loop _ _ _
/-- slices.pdqsortCmpFunc[int] -/
def C95 : CFun := ⟨148, 5, .seq (.reg [⟨some 10, .mv (.c (.bool true)) true, none⟩])
  (.seq (.reg [⟨some 11, .mv (.c (.bool true)) true, none⟩])
  (.block 0 (L95_0))), []⟩
theorem row95 : RowOk Try.prog 95 C95 := ⟨Try.f95, ⟨[], [], [], []⟩, lvOf [(0, [0, 1, 2, 3, 4, 10, 11], 0)], Try.func95, by kernel_rfl, by kernel_rfl⟩
/-- math/bits.Len -/
def C96 : CFun := ⟨8, 1, .seq (.reg [⟨some 2, .mv (.c (.int .i64 0)) true, none⟩])
  (.seq (.cond (.c (.bool false)) (.seq (.reg [⟨some 3, .mv (.t 0) false, none⟩, ⟨some 4, .conv .u32 (.t 3), none⟩, ⟨some 5, .call 106 [(.t 4)] false, none⟩, ⟨some 2, .mv (.t 5) true, none⟩])
  (.ret))
  (.skip))
  (.seq (.reg [⟨some 6, .mv (.t 0) false, none⟩, ⟨some 7, .call 107 [(.t 6)] false, none⟩, ⟨some 2, .mv (.t 7) true, none⟩])
  (.ret))), [.t 2]⟩
theorem row96 : RowOk Try.prog 96 C96 := ⟨Try.f96, ⟨[], [], [], []⟩, lvOf [], Try.func96, by kernel_rfl, by kernel_rfl⟩
/-- cmp.isNaN[int] -/
def C97 : CFun := ⟨6, 1, .seq (.reg [⟨some 2, .mv (.c (.bool false)) true, none⟩])
  (.seq (.reg [⟨some 3, .mv (.t 0) false, none⟩, ⟨some 4, .mv (.t 0) false, none⟩, ⟨some 5, .bin .neq (.t 3) (.t 4), none⟩, ⟨some 2, .mv (.t 5) true, none⟩])
  (.ret)), [.t 2]⟩
theorem row97 : RowOk Try.prog 97 C97 := ⟨Try.f97, ⟨[], [], [], []⟩, lvOf [], Try.func97, by kernel_rfl, by kernel_rfl⟩
def B98_2 : C := .seq (.seq (.reg [⟨some 18, .mv (.t 9) false, none⟩, ⟨some 19, .mv (.t 1) false, none⟩, ⟨some 20, .bin .gtr (.t 18) (.t 19), none⟩, ⟨some 21, .mv (.t 20) false, none⟩, ⟨some 22, .mv (.t 3) false, some (21, true)⟩, ⟨some 23, .mv (.t 0) false, some (21, true)⟩, ⟨some 24, .mv (.t 9) false, some (21, true)⟩, ⟨some 25, .ia 1 (.t 23) (.t 24), some (21, true)⟩, ⟨some 26, .load 1 false (.t 25) false, some (21, true)⟩, ⟨some 27, .mv (.t 0) false, some (21, true)⟩, ⟨some 28, .mv (.t 9) false, some (21, true)⟩, ⟨some 29, .bin .sub (.t 28) (.c (.int .i64 1)), some (21, true)⟩, ⟨some 30, .ia 1 (.t 27) (.t 29), some (21, true)⟩, ⟨some 31, .load 1 false (.t 30) false, some (21, true)⟩, ⟨some 32, .callv (.t 22) [(.t 26), (.t 31)], some (21, true)⟩, ⟨some 33, .bin .lss (.t 32) (.c (.int .i64 0)), some (21, true)⟩, ⟨some 34, .pick (.t 21) (.t 33) (.c (.bool false)), none⟩])
  (.cond (.t 34) (.skip)
  (.exit 2)))
  (.seq (.block 3 (.reg [⟨some 37, .mv (.t 0) false, none⟩, ⟨some 38, .mv (.t 9) false, none⟩, ⟨some 39, .mv (.t 0) false, none⟩, ⟨some 40, .mv (.t 9) false, none⟩, ⟨some 41, .bin .sub (.t 40) (.c (.int .i64 1)), none⟩, ⟨some 42, .mv (.t 0) false, none⟩, ⟨some 43, .mv (.t 9) false, none⟩, ⟨some 44, .bin .sub (.t 43) (.c (.int .i64 1)), none⟩, ⟨some 45, .ia 1 (.t 42) (.t 44), none⟩, ⟨some 46, .load 1 false (.t 45) false, none⟩, ⟨some 47, .mv (.t 0) false, none⟩, ⟨some 48, .mv (.t 9) false, none⟩, ⟨some 49, .ia 1 (.t 47) (.t 48), none⟩, ⟨some 50, .load 1 false (.t 49) false, none⟩, ⟨some 51, .ia 1 (.t 37) (.t 38), none⟩, ⟨none, .store 1 (.t 51) (.t 46), none⟩, ⟨some 52, .ia 1 (.t 39) (.t 41), none⟩, ⟨none, .store 1 (.t 52) (.t 50), none⟩]))
  (.reg [⟨some 35, .mv (.t 9) false, none⟩, ⟨some 36, .bin .sub (.t 35) (.c (.int .i64 1)), none⟩, ⟨some 9, .mv (.t 36) true, none⟩]))
def L98_2 : C := .loop [0, 1, 2, 3, 8, 9] 0 B98_2
theorem go98_2 (s : Env × Bx) (nb) : evL tab ext nb L98_2 s = (loopIn nb [0, 1, 2, 3, 8, 9] 0 s).bind fun s0 => (evL tab ext nb B98_2 s0).bind (seqG tab ext nb L98_2) := eL_loop _ _ _
def B98_0 : C := .seq (.seq (.reg [⟨some 12, .mv (.t 8) false, none⟩, ⟨some 13, .mv (.t 2) false, none⟩, ⟨some 14, .bin .lss (.t 12) (.t 13), none⟩])
  (.cond (.t 14) (.skip)
  (.exit 0)))
  (.seq (.block 1 (.seq (.reg [⟨some 17, .mv (.t 8) false, none⟩, ⟨some 9, .mv (.t 17) true, none⟩])
  (.block 2 (L98_2))))
  (.reg [⟨some 15, .mv (.t 8) false, none⟩, ⟨some 16, .bin .add (.t 15) (.c (.int .i64 1)), none⟩, ⟨some 8, .mv (.t 16) true, none⟩]))
def L98_0 : C := .loop [0, 1, 2, 3, 8] 0 B98_0
theorem go98_0 (s : Env × Bx) (nb) : evL tab ext nb L98_0 s = (loopIn nb [0, 1, 2, 3, 8] 0 s).bind fun s0 => (evL tab ext nb B98_0 s0).bind (seqG tab ext nb L98_0) := eL_loop _ _ _
/-- slices.insertionSortCmpFunc[int] -/
def C98 : CFun := ⟨53, 4, .seq (.reg [⟨some 10, .mv (.t 1) false, none⟩, ⟨some 11, .bin .add (.t 10) (.c (.int .i64 1)), none⟩, ⟨some 8, .mv (.t 11) true, none⟩])
  (.block 0 (L98_0)), []⟩
theorem row98 : RowOk Try.prog 98 C98 := ⟨Try.f98, ⟨[], [], [], []⟩, lvOf [(0, [0, 1, 2, 3, 8], 0), (2, [0, 1, 2, 3, 8, 9], 0)], Try.func98, by kernel_rfl, by kernel_rfl⟩
def B99_0 : C := .seq (.seq (.reg [⟨some 20, .mv (.t 11) false, none⟩, ⟨some 21, .bin .geq (.t 20) (.c (.int .i64 0)), none⟩])
  (.cond (.t 21) (.skip)
  (.exit 0)))
  (.seq (.block 1 (.reg [⟨some 24, .mv (.t 0) false, none⟩, ⟨some 25, .mv (.t 11) false, none⟩, ⟨some 26, .mv (.t 10) false, none⟩, ⟨some 27, .mv (.t 8) false, none⟩, ⟨some 28, .mv (.t 3) false, none⟩, ⟨some 29, .calli 108 [(.t 24), (.t 25), (.t 26), (.t 27), (.t 28)], none⟩]))
  (.reg [⟨some 22, .mv (.t 11) false, none⟩, ⟨some 23, .bin .sub (.t 22) (.c (.int .i64 1)), none⟩, ⟨some 11, .mv (.t 23) true, none⟩]))
def L99_0 : C := .loop [0, 3, 8, 9, 10, 11] 0 B99_0
theorem go99_0 (s : Env × Bx) (nb) : evL tab ext nb L99_0 s = (loopIn nb [0, 3, 8, 9, 10, 11] 0 s).bind fun s0 => (evL tab ext nb B99_0 s0).bind (seqG tab ext nb L99_0) := eL_loop _ _ _
def B99_2 : C := .seq (.seq (.reg [⟨some 32, .mv (.t 12) false, none⟩, ⟨some 33, .bin .geq (.t 32) (.c (.int .i64 0)), none⟩])
  (.cond (.t 33) (.skip)
  (.exit 2)))
  (.seq (.block 3 (.seq (.reg [⟨some 36, .mv (.t 0) false, none⟩, ⟨some 37, .mv (.t 8) false, none⟩, ⟨some 38, .mv (.t 0) false, none⟩, ⟨some 39, .mv (.t 8) false, none⟩, ⟨some 40, .mv (.t 12) false, none⟩, ⟨some 41, .bin .add (.t 39) (.t 40), none⟩, ⟨some 42, .mv (.t 0) false, none⟩, ⟨some 43, .mv (.t 8) false, none⟩, ⟨some 44, .mv (.t 12) false, none⟩, ⟨some 45, .bin .add (.t 43) (.t 44), none⟩, ⟨some 46, .ia 1 (.t 42) (.t 45), none⟩, ⟨some 47, .load 1 false (.t 46) false, none⟩, ⟨some 48, .mv (.t 0) false, none⟩, ⟨some 49, .mv (.t 8) false, none⟩, ⟨some 50, .ia 1 (.t 48) (.t 49), none⟩, ⟨some 51, .load 1 false (.t 50) false, none⟩, ⟨some 52, .ia 1 (.t 36) (.t 37), none⟩, ⟨none, .store 1 (.t 52) (.t 47), none⟩, ⟨some 53, .ia 1 (.t 38) (.t 41), none⟩, ⟨none, .store 1 (.t 53) (.t 51), none⟩])
  (.reg [⟨some 54, .mv (.t 0) false, none⟩, ⟨some 55, .mv (.t 9) false, none⟩, ⟨some 56, .mv (.t 12) false, none⟩, ⟨some 57, .mv (.t 8) false, none⟩, ⟨some 58, .mv (.t 3) false, none⟩, ⟨some 59, .calli 108 [(.t 54), (.t 55), (.t 56), (.t 57), (.t 58)], none⟩])))
  (.reg [⟨some 34, .mv (.t 12) false, none⟩, ⟨some 35, .bin .sub (.t 34) (.c (.int .i64 1)), none⟩, ⟨some 12, .mv (.t 35) true, none⟩]))
def L99_2 : C := .loop [0, 3, 8, 9, 12] 0 B99_2
theorem go99_2 (s : Env × Bx) (nb) : evL tab ext nb L99_2 s = (loopIn nb [0, 3, 8, 9, 12] 0 s).bind fun s0 => (evL tab ext nb B99_2 s0).bind (seqG tab ext nb L99_2) := eL_loop _ _ _
/-- slices.heapSortCmpFunc[int] -/
def C99 : CFun := ⟨60, 4, .seq (.reg [⟨some 13, .mv (.t 1) false, none⟩, ⟨some 8, .mv (.t 13) true, none⟩])
  (.seq (.reg [⟨some 9, .mv (.c (.int .i64 0)) true, none⟩])
  (.seq (.reg [⟨some 14, .mv (.t 2) false, none⟩, ⟨some 15, .mv (.t 1) false, none⟩, ⟨some 16, .bin .sub (.t 14) (.t 15), none⟩, ⟨some 10, .mv (.t 16) true, none⟩])
  (.seq (.seq (.reg [⟨some 17, .mv (.t 10) false, none⟩, ⟨some 18, .bin .sub (.t 17) (.c (.int .i64 1)), none⟩, ⟨some 19, .bin .quo (.t 18) (.c (.int .i64 2)), none⟩, ⟨some 11, .mv (.t 19) true, none⟩])
  (.block 0 (L99_0)))
  (.seq (.reg [⟨some 30, .mv (.t 10) false, none⟩, ⟨some 31, .bin .sub (.t 30) (.c (.int .i64 1)), none⟩, ⟨some 12, .mv (.t 31) true, none⟩])
  (.block 2 (L99_2)))))), []⟩
theorem row99 : RowOk Try.prog 99 C99 := ⟨Try.f99, ⟨[], [], [], []⟩, lvOf [(0, [0, 3, 8, 9, 10, 11], 0), (2, [0, 3, 8, 9, 12], 0)], Try.func99, by kernel_rfl, by kernel_rfl⟩
def B100_0 : C := .seq (.seq (.reg [⟨some 28, .mv (.t 11) false, none⟩, ⟨some 29, .mv (.t 1) false, none⟩, ⟨some 30, .mv (.t 8) false, none⟩, ⟨some 31, .bin .quo (.t 30) (.c (.int .i64 4)), none⟩, ⟨some 32, .bin .mul (.t 31) (.c (.int .i64 2)), none⟩, ⟨some 33, .bin .add (.t 29) (.t 32), none⟩, ⟨some 34, .bin .add (.t 33) (.c (.int .i64 1)), none⟩, ⟨some 35, .bin .leq (.t 28) (.t 34), none⟩])
  (.cond (.t 35) (.skip)
  (.exit 0)))
  (.seq (.block 1 (.seq (.reg [⟨some 38, .call 110 [(.t 9)] false, none⟩, ⟨some 39, .mv (.t 10) false, none⟩, ⟨some 40, .bin .sub (.t 39) (.c (.int .u64 1)), none⟩, ⟨some 41, .bin .and (.t 38) (.t 40), none⟩, ⟨some 42, .conv .i64 (.t 41), none⟩, ⟨some 12, .mv (.t 42) true, none⟩])
  (.seq (.seq (.reg [⟨some 43, .mv (.t 12) false, none⟩, ⟨some 44, .mv (.t 8) false, none⟩, ⟨some 45, .bin .geq (.t 43) (.t 44), none⟩])
  (.cond (.t 45) (.reg [⟨some 46, .mv (.t 12) false, none⟩, ⟨some 47, .mv (.t 8) false, none⟩, ⟨some 48, .bin .sub (.t 46) (.t 47), none⟩, ⟨some 12, .mv (.t 48) true, none⟩])
  (.skip)))
  (.reg [⟨some 49, .mv (.t 0) false, none⟩, ⟨some 50, .mv (.t 11) false, none⟩, ⟨some 51, .mv (.t 0) false, none⟩, ⟨some 52, .mv (.t 1) false, none⟩, ⟨some 53, .mv (.t 12) false, none⟩, ⟨some 54, .bin .add (.t 52) (.t 53), none⟩, ⟨some 55, .mv (.t 0) false, none⟩, ⟨some 56, .mv (.t 1) false, none⟩, ⟨some 57, .mv (.t 12) false, none⟩, ⟨some 58, .bin .add (.t 56) (.t 57), none⟩, ⟨some 59, .ia 1 (.t 55) (.t 58), none⟩, ⟨some 60, .load 1 false (.t 59) false, none⟩, ⟨some 61, .mv (.t 0) false, none⟩, ⟨some 62, .mv (.t 11) false, none⟩, ⟨some 63, .ia 1 (.t 61) (.t 62), none⟩, ⟨some 64, .load 1 false (.t 63) false, none⟩, ⟨some 65, .ia 1 (.t 49) (.t 50), none⟩, ⟨none, .store 1 (.t 65) (.t 60), none⟩, ⟨some 66, .ia 1 (.t 51) (.t 54), none⟩, ⟨none, .store 1 (.t 66) (.t 64), none⟩]))))
  (.reg [⟨some 36, .mv (.t 11) false, none⟩, ⟨some 37, .bin .add (.t 36) (.c (.int .i64 1)), none⟩, ⟨some 11, .mv (.t 37) true, none⟩]))
def L100_0 : C := .loop [0, 1, 8, 9, 10, 11] 1 B100_0
theorem go100_0 (s : Env × Bx) (nb) : evL tab ext nb L100_0 s = (loopIn nb [0, 1, 8, 9, 10, 11] 1 s).bind fun s0 => (evL tab ext nb B100_0 s0).bind (seqG tab ext nb L100_0) := eL_loop _ _ _
/-- slices.breakPatternsCmpFunc[int] -/
def C100 : CFun := ⟨67, 4, .seq (.reg [⟨some 13, .mv (.t 2) false, none⟩, ⟨some 14, .mv (.t 1) false, none⟩, ⟨some 15, .bin .sub (.t 13) (.t 14), none⟩, ⟨some 8, .mv (.t 15) true, none⟩])
  (.seq (.reg [⟨some 16, .mv (.t 8) false, none⟩, ⟨some 17, .bin .geq (.t 16) (.c (.int .i64 8)), none⟩])
  (.cond (.t 17) (.seq (.reg [⟨some 18, .mv (.t 8) false, none⟩, ⟨some 19, .conv .u64 (.t 18), none⟩, ⟨some 9, .alloc [(.int .u64 0)], none⟩, ⟨none, .store 1 (.t 9) (.t 19), none⟩])
  (.seq (.reg [⟨some 20, .mv (.t 8) false, none⟩, ⟨some 21, .call 109 [(.t 20)] false, none⟩, ⟨some 10, .mv (.t 21) true, none⟩])
  (.seq (.reg [⟨some 22, .mv (.t 1) false, none⟩, ⟨some 23, .mv (.t 8) false, none⟩, ⟨some 24, .bin .quo (.t 23) (.c (.int .i64 4)), none⟩, ⟨some 25, .bin .mul (.t 24) (.c (.int .i64 2)), none⟩, ⟨some 26, .bin .add (.t 22) (.t 25), none⟩, ⟨some 27, .bin .sub (.t 26) (.c (.int .i64 1)), none⟩, ⟨some 11, .mv (.t 27) true, none⟩])
  (.block 0 (L100_0)))))
  (.skip))), []⟩
theorem row100 : RowOk Try.prog 100 C100 := ⟨Try.f100, ⟨[], [], [], []⟩, lvOf [(0, [0, 1, 8, 9, 10, 11], 1)], Try.func100, by kernel_rfl, by kernel_rfl⟩
/-- slices.choosePivotCmpFunc[int] -/
def C101 : CFun := ⟨63, 4, .seq (.reg [⟨some 8, .mv (.c (.int .i64 0)) true, none⟩, ⟨some 9, .mv (.c (.int .i64 0)) true, none⟩])
  (.seq (.reg [⟨some 15, .mv (.t 2) false, none⟩, ⟨some 16, .mv (.t 1) false, none⟩, ⟨some 17, .bin .sub (.t 15) (.t 16), none⟩, ⟨some 10, .mv (.t 17) true, none⟩])
  (.seq (.reg [⟨some 11, .alloc [(.int .i64 0)], none⟩])
  (.seq (.reg [⟨some 18, .mv (.t 1) false, none⟩, ⟨some 19, .mv (.t 10) false, none⟩, ⟨some 20, .bin .quo (.t 19) (.c (.int .i64 4)), none⟩, ⟨some 21, .bin .mul (.t 20) (.c (.int .i64 1)), none⟩, ⟨some 22, .bin .add (.t 18) (.t 21), none⟩, ⟨some 12, .mv (.t 22) true, none⟩])
  (.seq (.reg [⟨some 23, .mv (.t 1) false, none⟩, ⟨some 24, .mv (.t 10) false, none⟩, ⟨some 25, .bin .quo (.t 24) (.c (.int .i64 4)), none⟩, ⟨some 26, .bin .mul (.t 25) (.c (.int .i64 2)), none⟩, ⟨some 27, .bin .add (.t 23) (.t 26), none⟩, ⟨some 13, .mv (.t 27) true, none⟩])
  (.seq (.reg [⟨some 28, .mv (.t 1) false, none⟩, ⟨some 29, .mv (.t 10) false, none⟩, ⟨some 30, .bin .quo (.t 29) (.c (.int .i64 4)), none⟩, ⟨some 31, .bin .mul (.t 30) (.c (.int .i64 3)), none⟩, ⟨some 32, .bin .add (.t 28) (.t 31), none⟩, ⟨some 14, .mv (.t 32) true, none⟩])
  (.seq (.seq (.reg [⟨some 33, .mv (.t 10) false, none⟩, ⟨some 34, .bin .geq (.t 33) (.c (.int .i64 8)), none⟩])
  (.cond (.t 34) (.seq (.seq (.reg [⟨some 35, .mv (.t 10) false, none⟩, ⟨some 36, .bin .geq (.t 35) (.c (.int .i64 50)), none⟩])
  (.cond (.t 36) (.seq (.reg [⟨some 37, .mv (.t 0) false, none⟩, ⟨some 38, .mv (.t 12) false, none⟩, ⟨some 39, .mv (.t 3) false, none⟩, ⟨some 40, .calli 111 [(.t 37), (.t 38), (.t 11), (.t 39)], none⟩, ⟨some 12, .mv (.t 40) true, none⟩])
  (.seq (.reg [⟨some 41, .mv (.t 0) false, none⟩, ⟨some 42, .mv (.t 13) false, none⟩, ⟨some 43, .mv (.t 3) false, none⟩, ⟨some 44, .calli 111 [(.t 41), (.t 42), (.t 11), (.t 43)], none⟩, ⟨some 13, .mv (.t 44) true, none⟩])
  (.reg [⟨some 45, .mv (.t 0) false, none⟩, ⟨some 46, .mv (.t 14) false, none⟩, ⟨some 47, .mv (.t 3) false, none⟩, ⟨some 48, .calli 111 [(.t 45), (.t 46), (.t 11), (.t 47)], none⟩, ⟨some 14, .mv (.t 48) true, none⟩])))
  (.skip)))
  (.reg [⟨some 49, .mv (.t 0) false, none⟩, ⟨some 50, .mv (.t 12) false, none⟩, ⟨some 51, .mv (.t 13) false, none⟩, ⟨some 52, .mv (.t 14) false, none⟩, ⟨some 53, .mv (.t 3) false, none⟩, ⟨some 54, .calli 112 [(.t 49), (.t 50), (.t 51), (.t 52), (.t 11), (.t 53)], none⟩, ⟨some 13, .mv (.t 54) true, none⟩]))
  (.skip)))
  (.seq (.reg [⟨some 55, .load 1 false (.t 11) false, none⟩])
  (.block 0 (.seq (.reg [⟨some 58, .bin .eql (.t 55) (.c (.int .i64 0)), none⟩, ⟨some 57, .mv (.t 58) true, none⟩])
  (.cond (.t 57) (.seq (.reg [⟨some 59, .mv (.t 13) false, none⟩, ⟨some 8, .mv (.t 59) true, none⟩, ⟨some 9, .mv (.c (.int .i64 1)) true, none⟩])
  (.ret))
  (.seq (.reg [⟨some 61, .bin .eql (.t 55) (.c (.int .i64 12)), none⟩, ⟨some 60, .mv (.t 61) true, none⟩])
  (.cond (.t 60) (.seq (.reg [⟨some 62, .mv (.t 13) false, none⟩, ⟨some 8, .mv (.t 62) true, none⟩, ⟨some 9, .mv (.c (.int .i64 2)) true, none⟩])
  (.ret))
  (.seq (.reg [⟨some 56, .mv (.t 13) false, none⟩, ⟨some 8, .mv (.t 56) true, none⟩, ⟨some 9, .mv (.c (.int .i64 0)) true, none⟩])
  (.ret)))))))))))))), [.t 8, .t 9]⟩
theorem row101 : RowOk Try.prog 101 C101 := ⟨Try.f101, ⟨[], [], [], []⟩, lvOf [], Try.func101, by kernel_rfl, by kernel_rfl⟩
def B102_0 : C := .seq (.seq (.reg [⟨some 13, .mv (.t 8) false, none⟩, ⟨some 14, .mv (.t 9) false, none⟩, ⟨some 15, .bin .lss (.t 13) (.t 14), none⟩])
  (.cond (.t 15) (.skip)
  (.exit 0)))
  (.block 1 (.seq (.reg [⟨some 16, .mv (.t 0) false, none⟩, ⟨some 17, .mv (.t 8) false, none⟩, ⟨some 18, .mv (.t 0) false, none⟩, ⟨some 19, .mv (.t 9) false, none⟩, ⟨some 20, .mv (.t 0) false, none⟩, ⟨some 21, .mv (.t 9) false, none⟩, ⟨some 22, .ia 1 (.t 20) (.t 21), none⟩, ⟨some 23, .load 1 false (.t 22) false, none⟩, ⟨some 24, .mv (.t 0) false, none⟩, ⟨some 25, .mv (.t 8) false, none⟩, ⟨some 26, .ia 1 (.t 24) (.t 25), none⟩, ⟨some 27, .load 1 false (.t 26) false, none⟩, ⟨some 28, .ia 1 (.t 16) (.t 17), none⟩, ⟨none, .store 1 (.t 28) (.t 23), none⟩, ⟨some 29, .ia 1 (.t 18) (.t 19), none⟩, ⟨none, .store 1 (.t 29) (.t 27), none⟩])
  (.seq (.reg [⟨some 30, .mv (.t 8) false, none⟩, ⟨some 31, .bin .add (.t 30) (.c (.int .i64 1)), none⟩, ⟨some 8, .mv (.t 31) true, none⟩])
  (.reg [⟨some 32, .mv (.t 9) false, none⟩, ⟨some 33, .bin .sub (.t 32) (.c (.int .i64 1)), none⟩, ⟨some 9, .mv (.t 33) true, none⟩]))))
def L102_0 : C := .loop [0, 8, 9] 0 B102_0
theorem go102_0 (s : Env × Bx) (nb) : evL tab ext nb L102_0 s = (loopIn nb [0, 8, 9] 0 s).bind fun s0 => (evL tab ext nb B102_0 s0).bind (seqG tab ext nb L102_0) := eL_loop _ _ _
/-- slices.reverseRangeCmpFunc[int] -/
def C102 : CFun := ⟨34, 4, .seq (.reg [⟨some 10, .mv (.t 1) false, none⟩, ⟨some 8, .mv (.t 10) true, none⟩])
  (.seq (.reg [⟨some 11, .mv (.t 2) false, none⟩, ⟨some 12, .bin .sub (.t 11) (.c (.int .i64 1)), none⟩, ⟨some 9, .mv (.t 12) true, none⟩])
  (.block 0 (L102_0))), []⟩
theorem row102 : RowOk Try.prog 102 C102 := ⟨Try.f102, ⟨[], [], [], []⟩, lvOf [(0, [0, 8, 9], 0)], Try.func102, by kernel_rfl, by kernel_rfl⟩
def B103_2 : C := .seq (.seq (.reg [⟨some 19, .mv (.t 9) false, none⟩, ⟨some 20, .mv (.t 2) false, none⟩, ⟨some 21, .bin .lss (.t 19) (.t 20), none⟩, ⟨some 22, .mv (.t 21) false, none⟩, ⟨some 23, .mv (.t 3) false, some (22, true)⟩, ⟨some 24, .mv (.t 0) false, some (22, true)⟩, ⟨some 25, .mv (.t 9) false, some (22, true)⟩, ⟨some 26, .ia 1 (.t 24) (.t 25), some (22, true)⟩, ⟨some 27, .load 1 false (.t 26) false, some (22, true)⟩, ⟨some 28, .mv (.t 0) false, some (22, true)⟩, ⟨some 29, .mv (.t 9) false, some (22, true)⟩, ⟨some 30, .bin .sub (.t 29) (.c (.int .i64 1)), some (22, true)⟩, ⟨some 31, .ia 1 (.t 28) (.t 30), some (22, true)⟩, ⟨some 32, .load 1 false (.t 31) false, some (22, true)⟩, ⟨some 33, .callv (.t 23) [(.t 27), (.t 32)], some (22, true)⟩, ⟨some 34, .bin .lss (.t 33) (.c (.int .i64 0)), some (22, true)⟩, ⟨some 35, .un .not (.t 34), some (22, true)⟩, ⟨some 36, .pick (.t 22) (.t 35) (.c (.bool false)), none⟩])
  (.cond (.t 36) (.skip)
  (.exit 2)))
  (.block 3 (.reg [⟨some 37, .mv (.t 9) false, none⟩, ⟨some 38, .bin .add (.t 37) (.c (.int .i64 1)), none⟩, ⟨some 9, .mv (.t 38) true, none⟩]))
def L103_2 : C := .loop [0, 1, 2, 3, 9, 10] 0 B103_2
theorem go103_2 (s : Env × Bx) (nb) : evL tab ext nb L103_2 s = (loopIn nb [0, 1, 2, 3, 9, 10] 0 s).bind fun s0 => (evL tab ext nb B103_2 s0).bind (seqG tab ext nb L103_2) := eL_loop _ _ _
def B103_4 : C := .seq (.seq (.reg [⟨some 68, .mv (.t 11) false, none⟩, ⟨some 69, .bin .geq (.t 68) (.c (.int .i64 1)), none⟩])
  (.cond (.t 69) (.skip)
  (.exit 4)))
  (.seq (.block 5 (.seq (.seq (.reg [⟨some 72, .mv (.t 3) false, none⟩, ⟨some 73, .mv (.t 0) false, none⟩, ⟨some 74, .mv (.t 11) false, none⟩, ⟨some 75, .ia 1 (.t 73) (.t 74), none⟩, ⟨some 76, .load 1 false (.t 75) false, none⟩, ⟨some 77, .mv (.t 0) false, none⟩, ⟨some 78, .mv (.t 11) false, none⟩, ⟨some 79, .bin .sub (.t 78) (.c (.int .i64 1)), none⟩, ⟨some 80, .ia 1 (.t 77) (.t 79), none⟩, ⟨some 81, .load 1 false (.t 80) false, none⟩, ⟨some 82, .callv (.t 72) [(.t 76), (.t 81)], none⟩, ⟨some 83, .bin .lss (.t 82) (.c (.int .i64 0)), none⟩, ⟨some 84, .un .not (.t 83), none⟩])
  (.cond (.t 84) (.exit 4)
  (.skip)))
  (.reg [⟨some 85, .mv (.t 0) false, none⟩, ⟨some 86, .mv (.t 11) false, none⟩, ⟨some 87, .mv (.t 0) false, none⟩, ⟨some 88, .mv (.t 11) false, none⟩, ⟨some 89, .bin .sub (.t 88) (.c (.int .i64 1)), none⟩, ⟨some 90, .mv (.t 0) false, none⟩, ⟨some 91, .mv (.t 11) false, none⟩, ⟨some 92, .bin .sub (.t 91) (.c (.int .i64 1)), none⟩, ⟨some 93, .ia 1 (.t 90) (.t 92), none⟩, ⟨some 94, .load 1 false (.t 93) false, none⟩, ⟨some 95, .mv (.t 0) false, none⟩, ⟨some 96, .mv (.t 11) false, none⟩, ⟨some 97, .ia 1 (.t 95) (.t 96), none⟩, ⟨some 98, .load 1 false (.t 97) false, none⟩, ⟨some 99, .ia 1 (.t 85) (.t 86), none⟩, ⟨none, .store 1 (.t 99) (.t 94), none⟩, ⟨some 100, .ia 1 (.t 87) (.t 89), none⟩, ⟨none, .store 1 (.t 100) (.t 98), none⟩])))
  (.reg [⟨some 70, .mv (.t 11) false, none⟩, ⟨some 71, .bin .sub (.t 70) (.c (.int .i64 1)), none⟩, ⟨some 11, .mv (.t 71) true, none⟩]))
def L103_4 : C := .loop [0, 1, 2, 3, 9, 10, 11] 0 B103_4
theorem go103_4 (s : Env × Bx) (nb) : evL tab ext nb L103_4 s = (loopIn nb [0, 1, 2, 3, 9, 10, 11] 0 s).bind fun s0 => (evL tab ext nb B103_4 s0).bind (seqG tab ext nb L103_4) := eL_loop _ _ _
def B103_6 : C := .seq (.seq (.reg [⟨some 107, .mv (.t 12) false, none⟩, ⟨some 108, .mv (.t 2) false, none⟩, ⟨some 109, .bin .lss (.t 107) (.t 108), none⟩])
  (.cond (.t 109) (.skip)
  (.exit 6)))
  (.seq (.block 7 (.seq (.seq (.reg [⟨some 112, .mv (.t 3) false, none⟩, ⟨some 113, .mv (.t 0) false, none⟩, ⟨some 114, .mv (.t 12) false, none⟩, ⟨some 115, .ia 1 (.t 113) (.t 114), none⟩, ⟨some 116, .load 1 false (.t 115) false, none⟩, ⟨some 117, .mv (.t 0) false, none⟩, ⟨some 118, .mv (.t 12) false, none⟩, ⟨some 119, .bin .sub (.t 118) (.c (.int .i64 1)), none⟩, ⟨some 120, .ia 1 (.t 117) (.t 119), none⟩, ⟨some 121, .load 1 false (.t 120) false, none⟩, ⟨some 122, .callv (.t 112) [(.t 116), (.t 121)], none⟩, ⟨some 123, .bin .lss (.t 122) (.c (.int .i64 0)), none⟩, ⟨some 124, .un .not (.t 123), none⟩])
  (.cond (.t 124) (.exit 6)
  (.skip)))
  (.reg [⟨some 125, .mv (.t 0) false, none⟩, ⟨some 126, .mv (.t 12) false, none⟩, ⟨some 127, .mv (.t 0) false, none⟩, ⟨some 128, .mv (.t 12) false, none⟩, ⟨some 129, .bin .sub (.t 128) (.c (.int .i64 1)), none⟩, ⟨some 130, .mv (.t 0) false, none⟩, ⟨some 131, .mv (.t 12) false, none⟩, ⟨some 132, .bin .sub (.t 131) (.c (.int .i64 1)), none⟩, ⟨some 133, .ia 1 (.t 130) (.t 132), none⟩, ⟨some 134, .load 1 false (.t 133) false, none⟩, ⟨some 135, .mv (.t 0) false, none⟩, ⟨some 136, .mv (.t 12) false, none⟩, ⟨some 137, .ia 1 (.t 135) (.t 136), none⟩, ⟨some 138, .load 1 false (.t 137) false, none⟩, ⟨some 139, .ia 1 (.t 125) (.t 126), none⟩, ⟨none, .store 1 (.t 139) (.t 134), none⟩, ⟨some 140, .ia 1 (.t 127) (.t 129), none⟩, ⟨none, .store 1 (.t 140) (.t 138), none⟩])))
  (.reg [⟨some 110, .mv (.t 12) false, none⟩, ⟨some 111, .bin .add (.t 110) (.c (.int .i64 1)), none⟩, ⟨some 12, .mv (.t 111) true, none⟩]))
def L103_6 : C := .loop [0, 1, 2, 3, 9, 10, 12] 0 B103_6
theorem go103_6 (s : Env × Bx) (nb) : evL tab ext nb L103_6 s = (loopIn nb [0, 1, 2, 3, 9, 10, 12] 0 s).bind fun s0 => (evL tab ext nb B103_6 s0).bind (seqG tab ext nb L103_6) := eL_loop _ _ _
def B103_0 : C := .seq (.seq (.reg [⟨some 15, .mv (.t 10) false, none⟩, ⟨some 16, .bin .lss (.t 15) (.c (.int .i64 5)), none⟩])
  (.cond (.t 16) (.skip)
  (.exit 0)))
  (.seq (.block 1 (.seq (.block 2 (L103_2))
  (.seq (.seq (.reg [⟨some 39, .mv (.t 9) false, none⟩, ⟨some 40, .mv (.t 2) false, none⟩, ⟨some 41, .bin .eql (.t 39) (.t 40), none⟩])
  (.cond (.t 41) (.seq (.reg [⟨some 8, .mv (.c (.bool true)) true, none⟩])
  (.ret))
  (.skip)))
  (.seq (.seq (.reg [⟨some 42, .mv (.t 2) false, none⟩, ⟨some 43, .mv (.t 1) false, none⟩, ⟨some 44, .bin .sub (.t 42) (.t 43), none⟩, ⟨some 45, .bin .lss (.t 44) (.c (.int .i64 50)), none⟩])
  (.cond (.t 45) (.seq (.reg [⟨some 8, .mv (.c (.bool false)) true, none⟩])
  (.ret))
  (.skip)))
  (.seq (.reg [⟨some 46, .mv (.t 0) false, none⟩, ⟨some 47, .mv (.t 9) false, none⟩, ⟨some 48, .mv (.t 0) false, none⟩, ⟨some 49, .mv (.t 9) false, none⟩, ⟨some 50, .bin .sub (.t 49) (.c (.int .i64 1)), none⟩, ⟨some 51, .mv (.t 0) false, none⟩, ⟨some 52, .mv (.t 9) false, none⟩, ⟨some 53, .bin .sub (.t 52) (.c (.int .i64 1)), none⟩, ⟨some 54, .ia 1 (.t 51) (.t 53), none⟩, ⟨some 55, .load 1 false (.t 54) false, none⟩, ⟨some 56, .mv (.t 0) false, none⟩, ⟨some 57, .mv (.t 9) false, none⟩, ⟨some 58, .ia 1 (.t 56) (.t 57), none⟩, ⟨some 59, .load 1 false (.t 58) false, none⟩, ⟨some 60, .ia 1 (.t 46) (.t 47), none⟩, ⟨none, .store 1 (.t 60) (.t 55), none⟩, ⟨some 61, .ia 1 (.t 48) (.t 50), none⟩, ⟨none, .store 1 (.t 61) (.t 59), none⟩])
  (.seq (.seq (.reg [⟨some 62, .mv (.t 9) false, none⟩, ⟨some 63, .mv (.t 1) false, none⟩, ⟨some 64, .bin .sub (.t 62) (.t 63), none⟩, ⟨some 65, .bin .geq (.t 64) (.c (.int .i64 2)), none⟩])
  (.cond (.t 65) (.seq (.reg [⟨some 66, .mv (.t 9) false, none⟩, ⟨some 67, .bin .sub (.t 66) (.c (.int .i64 1)), none⟩, ⟨some 11, .mv (.t 67) true, none⟩])
  (.block 4 (L103_4)))
  (.skip)))
  (.seq (.reg [⟨some 101, .mv (.t 2) false, none⟩, ⟨some 102, .mv (.t 9) false, none⟩, ⟨some 103, .bin .sub (.t 101) (.t 102), none⟩, ⟨some 104, .bin .geq (.t 103) (.c (.int .i64 2)), none⟩])
  (.cond (.t 104) (.seq (.reg [⟨some 105, .mv (.t 9) false, none⟩, ⟨some 106, .bin .add (.t 105) (.c (.int .i64 1)), none⟩, ⟨some 12, .mv (.t 106) true, none⟩])
  (.block 6 (L103_6)))
  (.skip)))))))))
  (.reg [⟨some 17, .mv (.t 10) false, none⟩, ⟨some 18, .bin .add (.t 17) (.c (.int .i64 1)), none⟩, ⟨some 10, .mv (.t 18) true, none⟩]))
def L103_0 : C := .loop [0, 1, 2, 3, 9, 10] 0 B103_0
theorem go103_0 (s : Env × Bx) (nb) : evL tab ext nb L103_0 s = (loopIn nb [0, 1, 2, 3, 9, 10] 0 s).bind fun s0 => (evL tab ext nb B103_0 s0).bind (seqG tab ext nb L103_0) := eL_loop _ _ _
/-- slices.partialInsertionSortCmpFunc[int] -/
def C103 : CFun := ⟨141, 4, .seq (.reg [⟨some 8, .mv (.c (.bool false)) true, none⟩])
  (.seq (.reg [⟨some 13, .mv (.t 1) false, none⟩, ⟨some 14, .bin .add (.t 13) (.c (.int .i64 1)), none⟩, ⟨some 9, .mv (.t 14) true, none⟩])
  (.seq (.seq (.reg [⟨some 10, .mv (.c (.int .i64 0)) true, none⟩])
  (.block 0 (L103_0)))
  (.seq (.reg [⟨some 8, .mv (.c (.bool false)) true, none⟩])
  (.ret)))), [.t 8]⟩
theorem row103 : RowOk Try.prog 103 C103 := ⟨Try.f103, ⟨[], [], [], []⟩, lvOf [(0, [0, 1, 2, 3, 9, 10], 0), (2, [0, 1, 2, 3, 9, 10], 0), (4, [0, 1, 2, 3, 9, 10, 11], 0), (6, [0, 1, 2, 3, 9, 10, 12], 0)], Try.func103, by kernel_rfl, by kernel_rfl⟩
def B104_2 : C := .seq (.seq (.reg [⟨some 31, .mv (.t 11) false, none⟩, ⟨some 32, .mv (.t 12) false, none⟩, ⟨some 33, .bin .leq (.t 31) (.t 32), none⟩, ⟨some 34, .mv (.t 33) false, none⟩, ⟨some 35, .mv (.t 4) false, some (34, true)⟩, ⟨some 36, .mv (.t 0) false, some (34, true)⟩, ⟨some 37, .mv (.t 1) false, some (34, true)⟩, ⟨some 38, .ia 1 (.t 36) (.t 37), some (34, true)⟩, ⟨some 39, .load 1 false (.t 38) false, some (34, true)⟩, ⟨some 40, .mv (.t 0) false, some (34, true)⟩, ⟨some 41, .mv (.t 11) false, some (34, true)⟩, ⟨some 42, .ia 1 (.t 40) (.t 41), some (34, true)⟩, ⟨some 43, .load 1 false (.t 42) false, some (34, true)⟩, ⟨some 44, .callv (.t 35) [(.t 39), (.t 43)], some (34, true)⟩, ⟨some 45, .bin .lss (.t 44) (.c (.int .i64 0)), some (34, true)⟩, ⟨some 46, .un .not (.t 45), some (34, true)⟩, ⟨some 47, .pick (.t 34) (.t 46) (.c (.bool false)), none⟩])
  (.cond (.t 47) (.skip)
  (.exit 2)))
  (.block 3 (.reg [⟨some 48, .mv (.t 11) false, none⟩, ⟨some 49, .bin .add (.t 48) (.c (.int .i64 1)), none⟩, ⟨some 11, .mv (.t 49) true, none⟩]))
def L104_2 : C := .loop [0, 1, 4, 11, 12] 0 B104_2
theorem go104_2 (s : Env × Bx) (nb) : evL tab ext nb L104_2 s = (loopIn nb [0, 1, 4, 11, 12] 0 s).bind fun s0 => (evL tab ext nb B104_2 s0).bind (seqG tab ext nb L104_2) := eL_loop _ _ _
def B104_4 : C := .seq (.seq (.reg [⟨some 50, .mv (.t 11) false, none⟩, ⟨some 51, .mv (.t 12) false, none⟩, ⟨some 52, .bin .leq (.t 50) (.t 51), none⟩, ⟨some 53, .mv (.t 52) false, none⟩, ⟨some 54, .mv (.t 4) false, some (53, true)⟩, ⟨some 55, .mv (.t 0) false, some (53, true)⟩, ⟨some 56, .mv (.t 1) false, some (53, true)⟩, ⟨some 57, .ia 1 (.t 55) (.t 56), some (53, true)⟩, ⟨some 58, .load 1 false (.t 57) false, some (53, true)⟩, ⟨some 59, .mv (.t 0) false, some (53, true)⟩, ⟨some 60, .mv (.t 12) false, some (53, true)⟩, ⟨some 61, .ia 1 (.t 59) (.t 60), some (53, true)⟩, ⟨some 62, .load 1 false (.t 61) false, some (53, true)⟩, ⟨some 63, .callv (.t 54) [(.t 58), (.t 62)], some (53, true)⟩, ⟨some 64, .bin .lss (.t 63) (.c (.int .i64 0)), some (53, true)⟩, ⟨some 65, .pick (.t 53) (.t 64) (.c (.bool false)), none⟩])
  (.cond (.t 65) (.skip)
  (.exit 4)))
  (.block 5 (.reg [⟨some 66, .mv (.t 12) false, none⟩, ⟨some 67, .bin .sub (.t 66) (.c (.int .i64 1)), none⟩, ⟨some 12, .mv (.t 67) true, none⟩]))
def L104_4 : C := .loop [0, 1, 4, 11, 12] 0 B104_4
theorem go104_4 (s : Env × Bx) (nb) : evL tab ext nb L104_4 s = (loopIn nb [0, 1, 4, 11, 12] 0 s).bind fun s0 => (evL tab ext nb B104_4 s0).bind (seqG tab ext nb L104_4) := eL_loop _ _ _
def B104_0 : C := .block 1 (.seq (.block 2 (L104_2))
  (.seq (.block 4 (L104_4))
  (.seq (.seq (.reg [⟨some 68, .mv (.t 11) false, none⟩, ⟨some 69, .mv (.t 12) false, none⟩, ⟨some 70, .bin .gtr (.t 68) (.t 69), none⟩])
  (.cond (.t 70) (.exit 0)
  (.skip)))
  (.seq (.reg [⟨some 71, .mv (.t 0) false, none⟩, ⟨some 72, .mv (.t 11) false, none⟩, ⟨some 73, .mv (.t 0) false, none⟩, ⟨some 74, .mv (.t 12) false, none⟩, ⟨some 75, .mv (.t 0) false, none⟩, ⟨some 76, .mv (.t 12) false, none⟩, ⟨some 77, .ia 1 (.t 75) (.t 76), none⟩, ⟨some 78, .load 1 false (.t 77) false, none⟩, ⟨some 79, .mv (.t 0) false, none⟩, ⟨some 80, .mv (.t 11) false, none⟩, ⟨some 81, .ia 1 (.t 79) (.t 80), none⟩, ⟨some 82, .load 1 false (.t 81) false, none⟩, ⟨some 83, .ia 1 (.t 71) (.t 72), none⟩, ⟨none, .store 1 (.t 83) (.t 78), none⟩, ⟨some 84, .ia 1 (.t 73) (.t 74), none⟩, ⟨none, .store 1 (.t 84) (.t 82), none⟩])
  (.seq (.reg [⟨some 85, .mv (.t 11) false, none⟩, ⟨some 86, .bin .add (.t 85) (.c (.int .i64 1)), none⟩, ⟨some 11, .mv (.t 86) true, none⟩])
  (.reg [⟨some 87, .mv (.t 12) false, none⟩, ⟨some 88, .bin .sub (.t 87) (.c (.int .i64 1)), none⟩, ⟨some 12, .mv (.t 88) true, none⟩]))))))
def L104_0 : C := .loop [0, 1, 4, 11, 12] 0 B104_0
theorem go104_0 (s : Env × Bx) (nb) : evL tab ext nb L104_0 s = (loopIn nb [0, 1, 4, 11, 12] 0 s).bind fun s0 => (evL tab ext nb B104_0 s0).bind (seqG tab ext nb L104_0) := eL_loop _ _ _
/-- slices.partitionEqualCmpFunc[int] -/
def C104 : CFun := ⟨90, 5, .seq (.reg [⟨some 10, .mv (.c (.int .i64 0)) true, none⟩])
  (.seq (.reg [⟨some 13, .mv (.t 0) false, none⟩, ⟨some 14, .mv (.t 1) false, none⟩, ⟨some 15, .mv (.t 0) false, none⟩, ⟨some 16, .mv (.t 3) false, none⟩, ⟨some 17, .mv (.t 0) false, none⟩, ⟨some 18, .mv (.t 3) false, none⟩, ⟨some 19, .ia 1 (.t 17) (.t 18), none⟩, ⟨some 20, .load 1 false (.t 19) false, none⟩, ⟨some 21, .mv (.t 0) false, none⟩, ⟨some 22, .mv (.t 1) false, none⟩, ⟨some 23, .ia 1 (.t 21) (.t 22), none⟩, ⟨some 24, .load 1 false (.t 23) false, none⟩, ⟨some 25, .ia 1 (.t 13) (.t 14), none⟩, ⟨none, .store 1 (.t 25) (.t 20), none⟩, ⟨some 26, .ia 1 (.t 15) (.t 16), none⟩, ⟨none, .store 1 (.t 26) (.t 24), none⟩])
  (.seq (.reg [⟨some 27, .mv (.t 1) false, none⟩, ⟨some 28, .bin .add (.t 27) (.c (.int .i64 1)), none⟩, ⟨some 29, .mv (.t 2) false, none⟩, ⟨some 30, .bin .sub (.t 29) (.c (.int .i64 1)), none⟩, ⟨some 11, .mv (.t 28) true, none⟩, ⟨some 12, .mv (.t 30) true, none⟩])
  (.seq (.block 0 (L104_0))
  (.seq (.reg [⟨some 89, .mv (.t 11) false, none⟩, ⟨some 10, .mv (.t 89) true, none⟩])
  (.ret))))), [.t 10]⟩
theorem row104 : RowOk Try.prog 104 C104 := ⟨Try.f104, ⟨[], [], [], []⟩, lvOf [(0, [0, 1, 4, 11, 12], 0), (2, [0, 1, 4, 11, 12], 0), (4, [0, 1, 4, 11, 12], 0)], Try.func104, by kernel_rfl, by kernel_rfl⟩
def B105_0 : C := .seq (.seq (.reg [⟨some 32, .mv (.t 12) false, none⟩, ⟨some 33, .mv (.t 13) false, none⟩, ⟨some 34, .bin .leq (.t 32) (.t 33), none⟩, ⟨some 35, .mv (.t 34) false, none⟩, ⟨some 36, .mv (.t 4) false, some (35, true)⟩, ⟨some 37, .mv (.t 0) false, some (35, true)⟩, ⟨some 38, .mv (.t 12) false, some (35, true)⟩, ⟨some 39, .ia 1 (.t 37) (.t 38), some (35, true)⟩, ⟨some 40, .load 1 false (.t 39) false, some (35, true)⟩, ⟨some 41, .mv (.t 0) false, some (35, true)⟩, ⟨some 42, .mv (.t 1) false, some (35, true)⟩, ⟨some 43, .ia 1 (.t 41) (.t 42), some (35, true)⟩, ⟨some 44, .load 1 false (.t 43) false, some (35, true)⟩, ⟨some 45, .callv (.t 36) [(.t 40), (.t 44)], some (35, true)⟩, ⟨some 46, .bin .lss (.t 45) (.c (.int .i64 0)), some (35, true)⟩, ⟨some 47, .pick (.t 35) (.t 46) (.c (.bool false)), none⟩])
  (.cond (.t 47) (.skip)
  (.exit 0)))
  (.block 1 (.reg [⟨some 48, .mv (.t 12) false, none⟩, ⟨some 49, .bin .add (.t 48) (.c (.int .i64 1)), none⟩, ⟨some 12, .mv (.t 49) true, none⟩]))
def L105_0 : C := .loop [0, 1, 4, 12, 13] 0 B105_0
theorem go105_0 (s : Env × Bx) (nb) : evL tab ext nb L105_0 s = (loopIn nb [0, 1, 4, 12, 13] 0 s).bind fun s0 => (evL tab ext nb B105_0 s0).bind (seqG tab ext nb L105_0) := eL_loop _ _ _
def B105_2 : C := .seq (.seq (.reg [⟨some 50, .mv (.t 12) false, none⟩, ⟨some 51, .mv (.t 13) false, none⟩, ⟨some 52, .bin .leq (.t 50) (.t 51), none⟩, ⟨some 53, .mv (.t 52) false, none⟩, ⟨some 54, .mv (.t 4) false, some (53, true)⟩, ⟨some 55, .mv (.t 0) false, some (53, true)⟩, ⟨some 56, .mv (.t 13) false, some (53, true)⟩, ⟨some 57, .ia 1 (.t 55) (.t 56), some (53, true)⟩, ⟨some 58, .load 1 false (.t 57) false, some (53, true)⟩, ⟨some 59, .mv (.t 0) false, some (53, true)⟩, ⟨some 60, .mv (.t 1) false, some (53, true)⟩, ⟨some 61, .ia 1 (.t 59) (.t 60), some (53, true)⟩, ⟨some 62, .load 1 false (.t 61) false, some (53, true)⟩, ⟨some 63, .callv (.t 54) [(.t 58), (.t 62)], some (53, true)⟩, ⟨some 64, .bin .lss (.t 63) (.c (.int .i64 0)), some (53, true)⟩, ⟨some 65, .un .not (.t 64), some (53, true)⟩, ⟨some 66, .pick (.t 53) (.t 65) (.c (.bool false)), none⟩])
  (.cond (.t 66) (.skip)
  (.exit 2)))
  (.block 3 (.reg [⟨some 67, .mv (.t 13) false, none⟩, ⟨some 68, .bin .sub (.t 67) (.c (.int .i64 1)), none⟩, ⟨some 13, .mv (.t 68) true, none⟩]))
def L105_2 : C := .loop [0, 1, 4, 12, 13] 0 B105_2
theorem go105_2 (s : Env × Bx) (nb) : evL tab ext nb L105_2 s = (loopIn nb [0, 1, 4, 12, 13] 0 s).bind fun s0 => (evL tab ext nb B105_2 s0).bind (seqG tab ext nb L105_2) := eL_loop _ _ _
def B105_6 : C := .seq (.seq (.reg [⟨some 105, .mv (.t 12) false, none⟩, ⟨some 106, .mv (.t 13) false, none⟩, ⟨some 107, .bin .leq (.t 105) (.t 106), none⟩, ⟨some 108, .mv (.t 107) false, none⟩, ⟨some 109, .mv (.t 4) false, some (108, true)⟩, ⟨some 110, .mv (.t 0) false, some (108, true)⟩, ⟨some 111, .mv (.t 12) false, some (108, true)⟩, ⟨some 112, .ia 1 (.t 110) (.t 111), some (108, true)⟩, ⟨some 113, .load 1 false (.t 112) false, some (108, true)⟩, ⟨some 114, .mv (.t 0) false, some (108, true)⟩, ⟨some 115, .mv (.t 1) false, some (108, true)⟩, ⟨some 116, .ia 1 (.t 114) (.t 115), some (108, true)⟩, ⟨some 117, .load 1 false (.t 116) false, some (108, true)⟩, ⟨some 118, .callv (.t 109) [(.t 113), (.t 117)], some (108, true)⟩, ⟨some 119, .bin .lss (.t 118) (.c (.int .i64 0)), some (108, true)⟩, ⟨some 120, .pick (.t 108) (.t 119) (.c (.bool false)), none⟩])
  (.cond (.t 120) (.skip)
  (.exit 6)))
  (.block 7 (.reg [⟨some 121, .mv (.t 12) false, none⟩, ⟨some 122, .bin .add (.t 121) (.c (.int .i64 1)), none⟩, ⟨some 12, .mv (.t 122) true, none⟩]))
def L105_6 : C := .loop [0, 1, 4, 12, 13] 0 B105_6
theorem go105_6 (s : Env × Bx) (nb) : evL tab ext nb L105_6 s = (loopIn nb [0, 1, 4, 12, 13] 0 s).bind fun s0 => (evL tab ext nb B105_6 s0).bind (seqG tab ext nb L105_6) := eL_loop _ _ _
def B105_8 : C := .seq (.seq (.reg [⟨some 123, .mv (.t 12) false, none⟩, ⟨some 124, .mv (.t 13) false, none⟩, ⟨some 125, .bin .leq (.t 123) (.t 124), none⟩, ⟨some 126, .mv (.t 125) false, none⟩, ⟨some 127, .mv (.t 4) false, some (126, true)⟩, ⟨some 128, .mv (.t 0) false, some (126, true)⟩, ⟨some 129, .mv (.t 13) false, some (126, true)⟩, ⟨some 130, .ia 1 (.t 128) (.t 129), some (126, true)⟩, ⟨some 131, .load 1 false (.t 130) false, some (126, true)⟩, ⟨some 132, .mv (.t 0) false, some (126, true)⟩, ⟨some 133, .mv (.t 1) false, some (126, true)⟩, ⟨some 134, .ia 1 (.t 132) (.t 133), some (126, true)⟩, ⟨some 135, .load 1 false (.t 134) false, some (126, true)⟩, ⟨some 136, .callv (.t 127) [(.t 131), (.t 135)], some (126, true)⟩, ⟨some 137, .bin .lss (.t 136) (.c (.int .i64 0)), some (126, true)⟩, ⟨some 138, .un .not (.t 137), some (126, true)⟩, ⟨some 139, .pick (.t 126) (.t 138) (.c (.bool false)), none⟩])
  (.cond (.t 139) (.skip)
  (.exit 8)))
  (.block 9 (.reg [⟨some 140, .mv (.t 13) false, none⟩, ⟨some 141, .bin .sub (.t 140) (.c (.int .i64 1)), none⟩, ⟨some 13, .mv (.t 141) true, none⟩]))
def L105_8 : C := .loop [0, 1, 4, 12, 13] 0 B105_8
theorem go105_8 (s : Env × Bx) (nb) : evL tab ext nb L105_8 s = (loopIn nb [0, 1, 4, 12, 13] 0 s).bind fun s0 => (evL tab ext nb B105_8 s0).bind (seqG tab ext nb L105_8) := eL_loop _ _ _
def B105_4 : C := .block 5 (.seq (.block 6 (L105_6))
  (.seq (.block 8 (L105_8))
  (.seq (.seq (.reg [⟨some 142, .mv (.t 12) false, none⟩, ⟨some 143, .mv (.t 13) false, none⟩, ⟨some 144, .bin .gtr (.t 142) (.t 143), none⟩])
  (.cond (.t 144) (.exit 4)
  (.skip)))
  (.seq (.reg [⟨some 145, .mv (.t 0) false, none⟩, ⟨some 146, .mv (.t 12) false, none⟩, ⟨some 147, .mv (.t 0) false, none⟩, ⟨some 148, .mv (.t 13) false, none⟩, ⟨some 149, .mv (.t 0) false, none⟩, ⟨some 150, .mv (.t 13) false, none⟩, ⟨some 151, .ia 1 (.t 149) (.t 150), none⟩, ⟨some 152, .load 1 false (.t 151) false, none⟩, ⟨some 153, .mv (.t 0) false, none⟩, ⟨some 154, .mv (.t 12) false, none⟩, ⟨some 155, .ia 1 (.t 153) (.t 154), none⟩, ⟨some 156, .load 1 false (.t 155) false, none⟩, ⟨some 157, .ia 1 (.t 145) (.t 146), none⟩, ⟨none, .store 1 (.t 157) (.t 152), none⟩, ⟨some 158, .ia 1 (.t 147) (.t 148), none⟩, ⟨none, .store 1 (.t 158) (.t 156), none⟩])
  (.seq (.reg [⟨some 159, .mv (.t 12) false, none⟩, ⟨some 160, .bin .add (.t 159) (.c (.int .i64 1)), none⟩, ⟨some 12, .mv (.t 160) true, none⟩])
  (.reg [⟨some 161, .mv (.t 13) false, none⟩, ⟨some 162, .bin .sub (.t 161) (.c (.int .i64 1)), none⟩, ⟨some 13, .mv (.t 162) true, none⟩]))))))
def L105_4 : C := .loop [0, 1, 4, 12, 13] 0 B105_4
theorem go105_4 (s : Env × Bx) (nb) : evL tab ext nb L105_4 s = (loopIn nb [0, 1, 4, 12, 13] 0 s).bind fun s0 => (evL tab ext nb B105_4 s0).bind (seqG tab ext nb L105_4) := eL_loop _ _ _
/-- slices.partitionCmpFunc[int] -/
def C105 : CFun := ⟨178, 5, .seq (.reg [⟨some 10, .mv (.c (.int .i64 0)) true, none⟩, ⟨some 11, .mv (.c (.bool false)) true, none⟩])
  (.seq (.reg [⟨some 14, .mv (.t 0) false, none⟩, ⟨some 15, .mv (.t 1) false, none⟩, ⟨some 16, .mv (.t 0) false, none⟩, ⟨some 17, .mv (.t 3) false, none⟩, ⟨some 18, .mv (.t 0) false, none⟩, ⟨some 19, .mv (.t 3) false, none⟩, ⟨some 20, .ia 1 (.t 18) (.t 19), none⟩, ⟨some 21, .load 1 false (.t 20) false, none⟩, ⟨some 22, .mv (.t 0) false, none⟩, ⟨some 23, .mv (.t 1) false, none⟩, ⟨some 24, .ia 1 (.t 22) (.t 23), none⟩, ⟨some 25, .load 1 false (.t 24) false, none⟩, ⟨some 26, .ia 1 (.t 14) (.t 15), none⟩, ⟨none, .store 1 (.t 26) (.t 21), none⟩, ⟨some 27, .ia 1 (.t 16) (.t 17), none⟩, ⟨none, .store 1 (.t 27) (.t 25), none⟩])
  (.seq (.reg [⟨some 28, .mv (.t 1) false, none⟩, ⟨some 29, .bin .add (.t 28) (.c (.int .i64 1)), none⟩, ⟨some 30, .mv (.t 2) false, none⟩, ⟨some 31, .bin .sub (.t 30) (.c (.int .i64 1)), none⟩, ⟨some 12, .mv (.t 29) true, none⟩, ⟨some 13, .mv (.t 31) true, none⟩])
  (.seq (.block 0 (L105_0))
  (.seq (.block 2 (L105_2))
  (.seq (.seq (.reg [⟨some 69, .mv (.t 12) false, none⟩, ⟨some 70, .mv (.t 13) false, none⟩, ⟨some 71, .bin .gtr (.t 69) (.t 70), none⟩])
  (.cond (.t 71) (.seq (.reg [⟨some 72, .mv (.t 0) false, none⟩, ⟨some 73, .mv (.t 13) false, none⟩, ⟨some 74, .mv (.t 0) false, none⟩, ⟨some 75, .mv (.t 1) false, none⟩, ⟨some 76, .mv (.t 0) false, none⟩, ⟨some 77, .mv (.t 1) false, none⟩, ⟨some 78, .ia 1 (.t 76) (.t 77), none⟩, ⟨some 79, .load 1 false (.t 78) false, none⟩, ⟨some 80, .mv (.t 0) false, none⟩, ⟨some 81, .mv (.t 13) false, none⟩, ⟨some 82, .ia 1 (.t 80) (.t 81), none⟩, ⟨some 83, .load 1 false (.t 82) false, none⟩, ⟨some 84, .ia 1 (.t 72) (.t 73), none⟩, ⟨none, .store 1 (.t 84) (.t 79), none⟩, ⟨some 85, .ia 1 (.t 74) (.t 75), none⟩, ⟨none, .store 1 (.t 85) (.t 83), none⟩])
  (.seq (.reg [⟨some 86, .mv (.t 13) false, none⟩, ⟨some 10, .mv (.t 86) true, none⟩, ⟨some 11, .mv (.c (.bool true)) true, none⟩])
  (.ret)))
  (.skip)))
  (.seq (.reg [⟨some 87, .mv (.t 0) false, none⟩, ⟨some 88, .mv (.t 12) false, none⟩, ⟨some 89, .mv (.t 0) false, none⟩, ⟨some 90, .mv (.t 13) false, none⟩, ⟨some 91, .mv (.t 0) false, none⟩, ⟨some 92, .mv (.t 13) false, none⟩, ⟨some 93, .ia 1 (.t 91) (.t 92), none⟩, ⟨some 94, .load 1 false (.t 93) false, none⟩, ⟨some 95, .mv (.t 0) false, none⟩, ⟨some 96, .mv (.t 12) false, none⟩, ⟨some 97, .ia 1 (.t 95) (.t 96), none⟩, ⟨some 98, .load 1 false (.t 97) false, none⟩, ⟨some 99, .ia 1 (.t 87) (.t 88), none⟩, ⟨none, .store 1 (.t 99) (.t 94), none⟩, ⟨some 100, .ia 1 (.t 89) (.t 90), none⟩, ⟨none, .store 1 (.t 100) (.t 98), none⟩])
  (.seq (.reg [⟨some 101, .mv (.t 12) false, none⟩, ⟨some 102, .bin .add (.t 101) (.c (.int .i64 1)), none⟩, ⟨some 12, .mv (.t 102) true, none⟩])
  (.seq (.reg [⟨some 103, .mv (.t 13) false, none⟩, ⟨some 104, .bin .sub (.t 103) (.c (.int .i64 1)), none⟩, ⟨some 13, .mv (.t 104) true, none⟩])
  (.seq (.block 4 (L105_4))
  (.seq (.reg [⟨some 163, .mv (.t 0) false, none⟩, ⟨some 164, .mv (.t 13) false, none⟩, ⟨some 165, .mv (.t 0) false, none⟩, ⟨some 166, .mv (.t 1) false, none⟩, ⟨some 167, .mv (.t 0) false, none⟩, ⟨some 168, .mv (.t 1) false, none⟩, ⟨some 169, .ia 1 (.t 167) (.t 168), none⟩, ⟨some 170, .load 1 false (.t 169) false, none⟩, ⟨some 171, .mv (.t 0) false, none⟩, ⟨some 172, .mv (.t 13) false, none⟩, ⟨some 173, .ia 1 (.t 171) (.t 172), none⟩, ⟨some 174, .load 1 false (.t 173) false, none⟩, ⟨some 175, .ia 1 (.t 163) (.t 164), none⟩, ⟨none, .store 1 (.t 175) (.t 170), none⟩, ⟨some 176, .ia 1 (.t 165) (.t 166), none⟩, ⟨none, .store 1 (.t 176) (.t 174), none⟩])
  (.seq (.reg [⟨some 177, .mv (.t 13) false, none⟩, ⟨some 10, .mv (.t 177) true, none⟩, ⟨some 11, .mv (.c (.bool false)) true, none⟩])
  (.ret)))))))))))), [.t 10, .t 11]⟩
theorem row105 : RowOk Try.prog 105 C105 := ⟨Try.f105, ⟨[], [], [], []⟩, lvOf [(0, [0, 1, 4, 12, 13], 0), (2, [0, 1, 4, 12, 13], 0), (4, [0, 1, 4, 12, 13], 0), (6, [0, 1, 4, 12, 13], 0), (8, [0, 1, 4, 12, 13], 0)], Try.func105, by kernel_rfl, by kernel_rfl⟩
/-- math/bits.Len32 -/
def C106 : CFun := ⟨19, 1, .seq (.reg [⟨some 2, .mv (.c (.int .i64 0)) true, none⟩])
  (.seq (.seq (.reg [⟨some 3, .mv (.t 0) false, none⟩, ⟨some 4, .bin .geq (.t 3) (.c (.int .u32 65536)), none⟩])
  (.cond (.t 4) (.seq (.reg [⟨some 5, .mv (.t 0) false, none⟩, ⟨some 6, .bin .shr (.t 5) (.c (.int .u64 16)), none⟩, ⟨some 0, .mv (.t 6) true, none⟩])
  (.reg [⟨some 2, .mv (.c (.int .i64 16)) true, none⟩]))
  (.skip)))
  (.seq (.seq (.reg [⟨some 7, .mv (.t 0) false, none⟩, ⟨some 8, .bin .geq (.t 7) (.c (.int .u32 256)), none⟩])
  (.cond (.t 8) (.seq (.reg [⟨some 9, .mv (.t 0) false, none⟩, ⟨some 10, .bin .shr (.t 9) (.c (.int .u64 8)), none⟩, ⟨some 0, .mv (.t 10) true, none⟩])
  (.reg [⟨some 11, .mv (.t 2) false, none⟩, ⟨some 12, .bin .add (.t 11) (.c (.int .i64 8)), none⟩, ⟨some 2, .mv (.t 12) true, none⟩]))
  (.skip)))
  (.seq (.reg [⟨some 13, .mv (.t 2) false, none⟩, ⟨some 14, .mv (.t 0) false, none⟩, ⟨some 15, .conv .u8 (.t 14), none⟩, ⟨some 16, .ix (.c (.string ⟨#[0, 1, 2, 2, 3, 3, 3, 3, 4, 4, 4, 4, 4, 4, 4, 4, 5, 5, 5, 5, 5, 5, 5, 5, 5, 5, 5, 5, 5, 5, 5, 5, 6, 6, 6, 6, 6, 6, 6, 6, 6, 6, 6, 6, 6, 6, 6, 6, 6, 6, 6, 6, 6, 6, 6, 6, 6, 6, 6, 6, 6, 6, 6, 6, 7, 7, 7, 7, 7, 7, 7, 7, 7, 7, 7, 7, 7, 7, 7, 7, 7, 7, 7, 7, 7, 7, 7, 7, 7, 7, 7, 7, 7, 7, 7, 7, 7, 7, 7, 7, 7, 7, 7, 7, 7, 7, 7, 7, 7, 7, 7, 7, 7, 7, 7, 7, 7, 7, 7, 7, 7, 7, 7, 7, 7, 7, 7, 7, 8, 8, 8, 8, 8, 8, 8, 8, 8, 8, 8, 8, 8, 8, 8, 8, 8, 8, 8, 8, 8, 8, 8, 8, 8, 8, 8, 8, 8, 8, 8, 8, 8, 8, 8, 8, 8, 8, 8, 8, 8, 8, 8, 8, 8, 8, 8, 8, 8, 8, 8, 8, 8, 8, 8, 8, 8, 8, 8, 8, 8, 8, 8, 8, 8, 8, 8, 8, 8, 8, 8, 8, 8, 8, 8, 8, 8, 8, 8, 8, 8, 8, 8, 8, 8, 8, 8, 8, 8, 8, 8, 8, 8, 8, 8, 8, 8, 8, 8, 8, 8, 8, 8, 8, 8, 8, 8, 8, 8, 8, 8, 8, 8, 8, 8, 8, 8, 8, 8, 8, 8, 8, 8, 8, 8, 8, 8, 8]⟩)) (.t 15), none⟩, ⟨some 17, .conv .i64 (.t 16), none⟩, ⟨some 18, .bin .add (.t 13) (.t 17), none⟩, ⟨some 2, .mv (.t 18) true, none⟩])
  (.ret)))), [.t 2]⟩
theorem row106 : RowOk Try.prog 106 C106 := ⟨Try.f106, ⟨[], [], [], []⟩, lvOf [], Try.func106, by kernel_rfl, by kernel_rfl⟩
/-- math/bits.Len64 -/
def C107 : CFun := ⟨25, 1, .seq (.reg [⟨some 2, .mv (.c (.int .i64 0)) true, none⟩])
  (.seq (.seq (.reg [⟨some 3, .mv (.t 0) false, none⟩, ⟨some 4, .bin .geq (.t 3) (.c (.int .u64 4294967296)), none⟩])
  (.cond (.t 4) (.seq (.reg [⟨some 5, .mv (.t 0) false, none⟩, ⟨some 6, .bin .shr (.t 5) (.c (.int .u64 32)), none⟩, ⟨some 0, .mv (.t 6) true, none⟩])
  (.reg [⟨some 2, .mv (.c (.int .i64 32)) true, none⟩]))
  (.skip)))
  (.seq (.seq (.reg [⟨some 7, .mv (.t 0) false, none⟩, ⟨some 8, .bin .geq (.t 7) (.c (.int .u64 65536)), none⟩])
  (.cond (.t 8) (.seq (.reg [⟨some 9, .mv (.t 0) false, none⟩, ⟨some 10, .bin .shr (.t 9) (.c (.int .u64 16)), none⟩, ⟨some 0, .mv (.t 10) true, none⟩])
  (.reg [⟨some 11, .mv (.t 2) false, none⟩, ⟨some 12, .bin .add (.t 11) (.c (.int .i64 16)), none⟩, ⟨some 2, .mv (.t 12) true, none⟩]))
  (.skip)))
  (.seq (.seq (.reg [⟨some 13, .mv (.t 0) false, none⟩, ⟨some 14, .bin .geq (.t 13) (.c (.int .u64 256)), none⟩])
  (.cond (.t 14) (.seq (.reg [⟨some 15, .mv (.t 0) false, none⟩, ⟨some 16, .bin .shr (.t 15) (.c (.int .u64 8)), none⟩, ⟨some 0, .mv (.t 16) true, none⟩])
  (.reg [⟨some 17, .mv (.t 2) false, none⟩, ⟨some 18, .bin .add (.t 17) (.c (.int .i64 8)), none⟩, ⟨some 2, .mv (.t 18) true, none⟩]))
  (.skip)))
  (.seq (.reg [⟨some 19, .mv (.t 2) false, none⟩, ⟨some 20, .mv (.t 0) false, none⟩, ⟨some 21, .conv .u8 (.t 20), none⟩, ⟨some 22, .ix (.c (.string ⟨#[0, 1, 2, 2, 3, 3, 3, 3, 4, 4, 4, 4, 4, 4, 4, 4, 5, 5, 5, 5, 5, 5, 5, 5, 5, 5, 5, 5, 5, 5, 5, 5, 6, 6, 6, 6, 6, 6, 6, 6, 6, 6, 6, 6, 6, 6, 6, 6, 6, 6, 6, 6, 6, 6, 6, 6, 6, 6, 6, 6, 6, 6, 6, 6, 7, 7, 7, 7, 7, 7, 7, 7, 7, 7, 7, 7, 7, 7, 7, 7, 7, 7, 7, 7, 7, 7, 7, 7, 7, 7, 7, 7, 7, 7, 7, 7, 7, 7, 7, 7, 7, 7, 7, 7, 7, 7, 7, 7, 7, 7, 7, 7, 7, 7, 7, 7, 7, 7, 7, 7, 7, 7, 7, 7, 7, 7, 7, 7, 8, 8, 8, 8, 8, 8, 8, 8, 8, 8, 8, 8, 8, 8, 8, 8, 8, 8, 8, 8, 8, 8, 8, 8, 8, 8, 8, 8, 8, 8, 8, 8, 8, 8, 8, 8, 8, 8, 8, 8, 8, 8, 8, 8, 8, 8, 8, 8, 8, 8, 8, 8, 8, 8, 8, 8, 8, 8, 8, 8, 8, 8, 8, 8, 8, 8, 8, 8, 8, 8, 8, 8, 8, 8, 8, 8, 8, 8, 8, 8, 8, 8, 8, 8, 8, 8, 8, 8, 8, 8, 8, 8, 8, 8, 8, 8, 8, 8, 8, 8, 8, 8, 8, 8, 8, 8, 8, 8, 8, 8, 8, 8, 8, 8, 8, 8, 8, 8, 8, 8, 8, 8, 8, 8, 8, 8, 8, 8]⟩)) (.t 21), none⟩, ⟨some 23, .conv .i64 (.t 22), none⟩, ⟨some 24, .bin .add (.t 19) (.t 23), none⟩, ⟨some 2, .mv (.t 24) true, none⟩])
  (.ret))))), [.t 2]⟩
theorem row107 : RowOk Try.prog 107 C107 := ⟨Try.f107, ⟨[], [], [], []⟩, lvOf [], Try.func107, by kernel_rfl, by kernel_rfl⟩
def B108_0 : C := .block 1 (.seq (.reg [⟨some 13, .mv (.t 10) false, none⟩, ⟨some 14, .bin .mul (.c (.int .i64 2)) (.t 13), none⟩, ⟨some 15, .bin .add (.t 14) (.c (.int .i64 1)), none⟩, ⟨some 11, .mv (.t 15) true, none⟩])
  (.seq (.seq (.reg [⟨some 16, .mv (.t 11) false, none⟩, ⟨some 17, .mv (.t 2) false, none⟩, ⟨some 18, .bin .geq (.t 16) (.t 17), none⟩])
  (.cond (.t 18) (.exit 0)
  (.skip)))
  (.seq (.seq (.reg [⟨some 19, .mv (.t 11) false, none⟩, ⟨some 20, .bin .add (.t 19) (.c (.int .i64 1)), none⟩, ⟨some 21, .mv (.t 2) false, none⟩, ⟨some 22, .bin .lss (.t 20) (.t 21), none⟩, ⟨some 23, .mv (.t 22) false, none⟩, ⟨some 24, .mv (.t 4) false, some (23, true)⟩, ⟨some 25, .mv (.t 0) false, some (23, true)⟩, ⟨some 26, .mv (.t 3) false, some (23, true)⟩, ⟨some 27, .mv (.t 11) false, some (23, true)⟩, ⟨some 28, .bin .add (.t 26) (.t 27), some (23, true)⟩, ⟨some 29, .ia 1 (.t 25) (.t 28), some (23, true)⟩, ⟨some 30, .load 1 false (.t 29) false, some (23, true)⟩, ⟨some 31, .mv (.t 0) false, some (23, true)⟩, ⟨some 32, .mv (.t 3) false, some (23, true)⟩, ⟨some 33, .mv (.t 11) false, some (23, true)⟩, ⟨some 34, .bin .add (.t 32) (.t 33), some (23, true)⟩, ⟨some 35, .bin .add (.t 34) (.c (.int .i64 1)), some (23, true)⟩, ⟨some 36, .ia 1 (.t 31) (.t 35), some (23, true)⟩, ⟨some 37, .load 1 false (.t 36) false, some (23, true)⟩, ⟨some 38, .callv (.t 24) [(.t 30), (.t 37)], some (23, true)⟩, ⟨some 39, .bin .lss (.t 38) (.c (.int .i64 0)), some (23, true)⟩, ⟨some 40, .pick (.t 23) (.t 39) (.c (.bool false)), none⟩])
  (.cond (.t 40) (.reg [⟨some 41, .mv (.t 11) false, none⟩, ⟨some 42, .bin .add (.t 41) (.c (.int .i64 1)), none⟩, ⟨some 11, .mv (.t 42) true, none⟩])
  (.skip)))
  (.seq (.seq (.reg [⟨some 43, .mv (.t 4) false, none⟩, ⟨some 44, .mv (.t 0) false, none⟩, ⟨some 45, .mv (.t 3) false, none⟩, ⟨some 46, .mv (.t 10) false, none⟩, ⟨some 47, .bin .add (.t 45) (.t 46), none⟩, ⟨some 48, .ia 1 (.t 44) (.t 47), none⟩, ⟨some 49, .load 1 false (.t 48) false, none⟩, ⟨some 50, .mv (.t 0) false, none⟩, ⟨some 51, .mv (.t 3) false, none⟩, ⟨some 52, .mv (.t 11) false, none⟩, ⟨some 53, .bin .add (.t 51) (.t 52), none⟩, ⟨some 54, .ia 1 (.t 50) (.t 53), none⟩, ⟨some 55, .load 1 false (.t 54) false, none⟩, ⟨some 56, .callv (.t 43) [(.t 49), (.t 55)], none⟩, ⟨some 57, .bin .lss (.t 56) (.c (.int .i64 0)), none⟩, ⟨some 58, .un .not (.t 57), none⟩])
  (.cond (.t 58) (.ret)
  (.skip)))
  (.seq (.reg [⟨some 59, .mv (.t 0) false, none⟩, ⟨some 60, .mv (.t 3) false, none⟩, ⟨some 61, .mv (.t 10) false, none⟩, ⟨some 62, .bin .add (.t 60) (.t 61), none⟩, ⟨some 63, .mv (.t 0) false, none⟩, ⟨some 64, .mv (.t 3) false, none⟩, ⟨some 65, .mv (.t 11) false, none⟩, ⟨some 66, .bin .add (.t 64) (.t 65), none⟩, ⟨some 67, .mv (.t 0) false, none⟩, ⟨some 68, .mv (.t 3) false, none⟩, ⟨some 69, .mv (.t 11) false, none⟩, ⟨some 70, .bin .add (.t 68) (.t 69), none⟩, ⟨some 71, .ia 1 (.t 67) (.t 70), none⟩, ⟨some 72, .load 1 false (.t 71) false, none⟩, ⟨some 73, .mv (.t 0) false, none⟩, ⟨some 74, .mv (.t 3) false, none⟩, ⟨some 75, .mv (.t 10) false, none⟩, ⟨some 76, .bin .add (.t 74) (.t 75), none⟩, ⟨some 77, .ia 1 (.t 73) (.t 76), none⟩, ⟨some 78, .load 1 false (.t 77) false, none⟩, ⟨some 79, .ia 1 (.t 59) (.t 62), none⟩, ⟨none, .store 1 (.t 79) (.t 72), none⟩, ⟨some 80, .ia 1 (.t 63) (.t 66), none⟩, ⟨none, .store 1 (.t 80) (.t 78), none⟩])
  (.reg [⟨some 81, .mv (.t 11) false, none⟩, ⟨some 10, .mv (.t 81) true, none⟩]))))))
def L108_0 : C := .loop [0, 2, 3, 4, 10] 0 B108_0
theorem go108_0 (s : Env × Bx) (nb) : evL tab ext nb L108_0 s = (loopIn nb [0, 2, 3, 4, 10] 0 s).bind fun s0 => (evL tab ext nb B108_0 s0).bind (seqG tab ext nb L108_0) := eL_loop _ _ _
/-- slices.siftDownCmpFunc[int] -/
def C108 : CFun := ⟨82, 5, .seq (.reg [⟨some 12, .mv (.t 1) false, none⟩, ⟨some 10, .mv (.t 12) true, none⟩])
  (.block 0 (L108_0)), []⟩
theorem row108 : RowOk Try.prog 108 C108 := ⟨Try.f108, ⟨[], [], [], []⟩, lvOf [(0, [0, 2, 3, 4, 10], 0)], Try.func108, by kernel_rfl, by kernel_rfl⟩
/-- slices.nextPowerOfTwo -/
def C109 : CFun := ⟨7, 1, .seq (.reg [⟨some 2, .mv (.c (.int .u64 0)) true, none⟩])
  (.seq (.reg [⟨some 3, .mv (.t 0) false, none⟩, ⟨some 4, .conv .u64 (.t 3), none⟩, ⟨some 5, .call 96 [(.t 4)] false, none⟩, ⟨some 6, .bin .shl (.c (.int .u64 1)) (.t 5), none⟩, ⟨some 2, .mv (.t 6) true, none⟩])
  (.ret)), [.t 2]⟩
theorem row109 : RowOk Try.prog 109 C109 := ⟨Try.f109, ⟨[], [], [], []⟩, lvOf [], Try.func109, by kernel_rfl, by kernel_rfl⟩
/-- slices.medianAdjacentCmpFunc[int] -/
def C111 : CFun := ⟨18, 4, .seq (.reg [⟨some 8, .mv (.c (.int .i64 0)) true, none⟩])
  (.seq (.reg [⟨some 9, .mv (.t 0) false, none⟩, ⟨some 10, .mv (.t 1) false, none⟩, ⟨some 11, .bin .sub (.t 10) (.c (.int .i64 1)), none⟩, ⟨some 12, .mv (.t 1) false, none⟩, ⟨some 13, .mv (.t 1) false, none⟩, ⟨some 14, .bin .add (.t 13) (.c (.int .i64 1)), none⟩, ⟨some 15, .mv (.t 2) false, none⟩, ⟨some 16, .mv (.t 3) false, none⟩, ⟨some 17, .calli 112 [(.t 9), (.t 11), (.t 12), (.t 14), (.t 15), (.t 16)], none⟩, ⟨some 8, .mv (.t 17) true, none⟩])
  (.ret)), [.t 8]⟩
theorem row111 : RowOk Try.prog 111 C111 := ⟨Try.f111, ⟨[], [], [], []⟩, lvOf [], Try.func111, by kernel_rfl, by kernel_rfl⟩
/-- slices.medianCmpFunc[int] -/
def C112 : CFun := ⟨41, 6, .seq (.reg [⟨some 12, .mv (.c (.int .i64 0)) true, none⟩])
  (.seq (.reg [⟨some 14, .mv (.t 0) false, none⟩, ⟨some 15, .mv (.t 1) false, none⟩, ⟨some 16, .mv (.t 2) false, none⟩, ⟨some 17, .mv (.t 4) false, none⟩, ⟨some 18, .mv (.t 5) false, none⟩, ⟨some 19, .calli 113 [(.t 14), (.t 15), (.t 16), (.t 17), (.t 18)], none⟩, ⟨some 13, .mv (.t 19) false, none⟩, ⟨some 20, .ext (.t 13) 0, none⟩, ⟨some 21, .ext (.t 13) 1, none⟩, ⟨some 1, .mv (.t 20) true, none⟩, ⟨some 2, .mv (.t 21) true, none⟩])
  (.seq (.reg [⟨some 23, .mv (.t 0) false, none⟩, ⟨some 24, .mv (.t 2) false, none⟩, ⟨some 25, .mv (.t 3) false, none⟩, ⟨some 26, .mv (.t 4) false, none⟩, ⟨some 27, .mv (.t 5) false, none⟩, ⟨some 28, .calli 113 [(.t 23), (.t 24), (.t 25), (.t 26), (.t 27)], none⟩, ⟨some 22, .mv (.t 28) false, none⟩, ⟨some 29, .ext (.t 22) 0, none⟩, ⟨some 30, .ext (.t 22) 1, none⟩, ⟨some 2, .mv (.t 29) true, none⟩, ⟨some 3, .mv (.t 30) true, none⟩])
  (.seq (.reg [⟨some 32, .mv (.t 0) false, none⟩, ⟨some 33, .mv (.t 1) false, none⟩, ⟨some 34, .mv (.t 2) false, none⟩, ⟨some 35, .mv (.t 4) false, none⟩, ⟨some 36, .mv (.t 5) false, none⟩, ⟨some 37, .calli 113 [(.t 32), (.t 33), (.t 34), (.t 35), (.t 36)], none⟩, ⟨some 31, .mv (.t 37) false, none⟩, ⟨some 38, .ext (.t 31) 0, none⟩, ⟨some 39, .ext (.t 31) 1, none⟩, ⟨some 1, .mv (.t 38) true, none⟩, ⟨some 2, .mv (.t 39) true, none⟩])
  (.seq (.reg [⟨some 40, .mv (.t 2) false, none⟩, ⟨some 12, .mv (.t 40) true, none⟩])
  (.ret))))), [.t 12]⟩
theorem row112 : RowOk Try.prog 112 C112 := ⟨Try.f112, ⟨[], [], [], []⟩, lvOf [], Try.func112, by kernel_rfl, by kernel_rfl⟩
end Go.Proofs.YtclebnamhpgdmaaEv
