/- The seat's functions in compact code; each row is checked against the program. -/
import Derived.Test.YtamblgbmdhldbaaGreatDoorEv4
import Derived.Test.YtamblgbmdhldbaaGreatDoorProg
import Derived.KernelRfl
namespace Go.Proofs.YtamblgbmdhldbaaGreatDoorEv
open Go
set_option maxRecDepth 100000
variable {tab : Nat → Option CFun} {ext : CallF}
/-- swingbridge/swingbridgeref11.Next -/
def C64 : CFun := ⟨37, 3, .seq (.reg [⟨some 3, .box (.t 0), none⟩, ⟨some 6, .mv (.c (.int .i64 0)) true, none⟩, ⟨some 7, .mv (.c (.bool false)) true, none⟩])
  (.seq (.reg [⟨some 11, .load 4 true (.t 3) false, none⟩, ⟨some 12, .mv (.t 1) false, none⟩, ⟨some 13, .mv (.t 2) false, none⟩, ⟨some 14, .call 81 [(.t 11), (.t 12), (.t 13)] false, none⟩, ⟨some 10, .mv (.t 14) false, none⟩, ⟨some 15, .ext (.t 10) 0, none⟩, ⟨some 16, .ext (.t 10) 1, none⟩, ⟨some 8, .mv (.t 15) true, none⟩, ⟨some 9, .mv (.t 16) true, none⟩])
  (.seq (.seq (.reg [⟨some 17, .mv (.t 9) false, none⟩, ⟨some 18, .un .not (.t 17), none⟩, ⟨some 19, .mv (.t 18) false, none⟩, ⟨some 20, .mv (.t 1) false, some (19, false)⟩, ⟨some 21, .len (.t 20), some (19, false)⟩, ⟨some 22, .fa 3 (.t 3), some (19, false)⟩, ⟨some 23, .load 1 false (.t 22) false, some (19, false)⟩, ⟨some 24, .len (.t 23), some (19, false)⟩, ⟨some 25, .bin .neq (.t 21) (.t 24), some (19, false)⟩, ⟨some 26, .pick (.t 19) (.c (.bool true)) (.t 25), none⟩])
  (.cond (.t 26) (.seq (.reg [⟨some 6, .mv (.c (.int .i64 0)) true, none⟩, ⟨some 7, .mv (.c (.bool false)) true, none⟩])
  (.ret))
  (.skip)))
  (.seq (.reg [⟨some 27, .mv (.t 8) false, none⟩, ⟨some 28, .load 4 true (.t 3) false, none⟩, ⟨some 29, .mv (.t 1) false, none⟩, ⟨some 30, .mv (.t 2) false, none⟩, ⟨some 31, .mv (.t 1) false, none⟩, ⟨some 32, .mv (.t 2) false, none⟩, ⟨some 33, .ia 1 (.t 31) (.t 32), none⟩, ⟨some 34, .load 1 false (.t 33) false, none⟩, ⟨some 35, .call 82 [(.t 28), (.t 29), (.t 30), (.t 34)] false, none⟩, ⟨some 36, .bin .add (.t 27) (.t 35), none⟩, ⟨some 6, .mv (.t 36) true, none⟩, ⟨some 7, .mv (.c (.bool true)) true, none⟩])
  (.ret)))), [.t 6, .t 7]⟩
theorem row64 : RowOk Tryz.prog 64 C64 := ⟨Tryz.f64, ⟨[], [], [], []⟩, lvOf [], Tryz.func64, by kernel_rfl, by kernel_rfl⟩
/-- swingbridge/swingbridgeref11.There -/
def C65 : CFun := ⟨18, 2, .seq (.reg [⟨some 2, .box (.t 0), none⟩, ⟨some 4, .mv (.c (.bool false)) true, none⟩])
  (.seq (.reg [⟨some 5, .load 4 true (.t 2) false, none⟩, ⟨some 6, .call 12 [(.t 5)] false, none⟩, ⟨some 7, .mv (.t 6) false, none⟩, ⟨some 8, .mv (.t 1) false, some (7, true)⟩, ⟨some 9, .bin .geq (.t 8) (.c (.int .i64 0)), some (7, true)⟩, ⟨some 10, .pick (.t 7) (.t 9) (.c (.bool false)), none⟩, ⟨some 11, .mv (.t 10) false, none⟩, ⟨some 12, .mv (.t 1) false, some (11, true)⟩, ⟨some 13, .fa 3 (.t 2), some (11, true)⟩, ⟨some 14, .load 1 false (.t 13) false, some (11, true)⟩, ⟨some 15, .len (.t 14), some (11, true)⟩, ⟨some 16, .bin .lss (.t 12) (.t 15), some (11, true)⟩, ⟨some 17, .pick (.t 11) (.t 16) (.c (.bool false)), none⟩, ⟨some 4, .mv (.t 17) true, none⟩])
  (.ret)), [.t 4]⟩
theorem row65 : RowOk Tryz.prog 65 C65 := ⟨Tryz.f65, ⟨[], [], [], []⟩, lvOf [], Tryz.func65, by kernel_rfl, by kernel_rfl⟩
def B66_0 : C := .seq (.seq (.reg [⟨some 5, .mv (.t 4) false, none⟩, ⟨some 6, .fa 5 (.t 1), none⟩, ⟨some 7, .load 1 false (.t 6) false, none⟩, ⟨some 8, .len (.t 7), none⟩, ⟨some 9, .bin .lss (.t 5) (.t 8), none⟩])
  (.cond (.t 9) (.skip)
  (.exit 0)))
  (.seq (.block 1 (.seq (.reg [⟨some 12, .fa 5 (.t 1), none⟩, ⟨some 13, .load 1 false (.t 12) false, none⟩, ⟨some 14, .mv (.t 4) false, none⟩, ⟨some 15, .ia 3 (.t 13) (.t 14), none⟩, ⟨some 16, .fa 0 (.t 15), none⟩, ⟨some 17, .load 1 false (.t 16) false, none⟩, ⟨some 18, .bin .eql (.t 17) (.c (.int .i64 3)), none⟩])
  (.cond (.t 18) (.reg [⟨some 19, .mv (.t 3) false, none⟩, ⟨some 20, .fa 5 (.t 1), none⟩, ⟨some 21, .load 1 false (.t 20) false, none⟩, ⟨some 22, .mv (.t 4) false, none⟩, ⟨some 23, .ia 3 (.t 21) (.t 22), none⟩, ⟨some 24, .fa 1 (.t 23), none⟩, ⟨some 25, .load 1 false (.t 24) false, none⟩, ⟨some 26, .mxn true [(.t 19), (.t 25)], none⟩, ⟨some 3, .mv (.t 26) true, none⟩])
  (.skip))))
  (.reg [⟨some 10, .mv (.t 4) false, none⟩, ⟨some 11, .bin .add (.t 10) (.c (.int .i64 1)), none⟩, ⟨some 4, .mv (.t 11) true, none⟩]))
def L66_0 : C := .loop [1, 3, 4] 1 B66_0
theorem go66_0 (s : Env × Bx) (nb) : evL tab ext nb L66_0 s = (loopIn nb [1, 3, 4] 1 s).bind fun s0 => (evL tab ext nb B66_0 s0).bind (seqG tab ext nb L66_0) := eL_loop _ _ _
/-- swingbridge/swingbridgeref11.Longest -/
def C66 : CFun := ⟨28, 1, .seq (.reg [⟨some 1, .box (.t 0), none⟩, ⟨some 2, .mv (.c (.int .i64 0)) true, none⟩])
  (.seq (.reg [⟨some 3, .mv (.c (.int .i64 0)) true, none⟩])
  (.seq (.seq (.reg [⟨some 4, .mv (.c (.int .i64 0)) true, none⟩])
  (.block 0 (L66_0)))
  (.seq (.reg [⟨some 27, .mv (.t 3) false, none⟩, ⟨some 2, .mv (.t 27) true, none⟩])
  (.ret)))), [.t 2]⟩
theorem row66 : RowOk Tryz.prog 66 C66 := ⟨Tryz.f66, ⟨[], [], [], []⟩, lvOf [(0, [1, 3, 4], 1)], Tryz.func66, by kernel_rfl, by kernel_rfl⟩
/-- swingbridge/swingbridgeref11.Part -/
def C67 : CFun := ⟨41, 4, .seq (.reg [⟨some 4, .box (.t 0), none⟩, ⟨some 8, .mv (.c (.int .i64 0)) true, none⟩, ⟨some 9, .mv (.c (.bool false)) true, none⟩])
  (.seq (.seq (.reg [⟨some 10, .mv (.t 1) false, none⟩, ⟨some 11, .len (.t 10), none⟩, ⟨some 12, .fa 3 (.t 4), none⟩, ⟨some 13, .load 1 false (.t 12) false, none⟩, ⟨some 14, .len (.t 13), none⟩, ⟨some 15, .bin .neq (.t 11) (.t 14), none⟩])
  (.cond (.t 15) (.seq (.reg [⟨some 8, .mv (.c (.int .i64 0)) true, none⟩, ⟨some 9, .mv (.c (.bool false)) true, none⟩])
  (.ret))
  (.skip)))
  (.seq (.seq (.reg [⟨some 16, .fa 0 (.t 4), none⟩, ⟨some 17, .load 1 false (.t 16) false, none⟩])
  (.block 0 (.seq (.reg [⟨some 19, .bin .eql (.t 17) (.c (.int .i64 1)), none⟩, ⟨some 18, .mv (.t 19) true, none⟩])
  (.cond (.t 18) (.seq (.reg [⟨some 20, .load 4 true (.t 4) false, none⟩, ⟨some 21, .mv (.t 2) false, none⟩, ⟨some 22, .mv (.t 3) false, none⟩, ⟨some 23, .call 83 [(.t 20), (.t 21), (.t 22)] false, none⟩, ⟨some 24, .ext (.t 23) 0, none⟩, ⟨some 25, .ext (.t 23) 1, none⟩, ⟨some 8, .mv (.t 24) true, none⟩, ⟨some 9, .mv (.t 25) true, none⟩])
  (.ret))
  (.seq (.reg [⟨some 27, .bin .eql (.t 17) (.c (.int .i64 2)), none⟩, ⟨some 26, .mv (.t 27) true, none⟩])
  (.cond (.t 26) (.seq (.reg [⟨some 28, .load 4 true (.t 4) false, none⟩, ⟨some 29, .mv (.t 1) false, none⟩, ⟨some 30, .mv (.t 2) false, none⟩, ⟨some 31, .mv (.t 3) false, none⟩, ⟨some 32, .call 84 [(.t 28), (.t 29), (.t 30), (.t 31)] false, none⟩, ⟨some 33, .ext (.t 32) 0, none⟩, ⟨some 34, .ext (.t 32) 1, none⟩, ⟨some 8, .mv (.t 33) true, none⟩, ⟨some 9, .mv (.t 34) true, none⟩])
  (.ret))
  (.skip)))))))
  (.seq (.reg [⟨some 35, .load 4 true (.t 4) false, none⟩, ⟨some 36, .mv (.t 2) false, none⟩, ⟨some 37, .mv (.t 3) false, none⟩, ⟨some 38, .call 85 [(.t 35), (.t 36), (.t 37)] false, none⟩, ⟨some 39, .ext (.t 38) 0, none⟩, ⟨some 40, .ext (.t 38) 1, none⟩, ⟨some 8, .mv (.t 39) true, none⟩, ⟨some 9, .mv (.t 40) true, none⟩])
  (.ret)))), [.t 8, .t 9]⟩
theorem row67 : RowOk Tryz.prog 67 C67 := ⟨Tryz.f67, ⟨[], [], [], []⟩, lvOf [], Tryz.func67, by kernel_rfl, by kernel_rfl⟩
/-- internal/strconv.Itoa -/
def C68 : CFun := ⟨5, 1, .seq (.reg [⟨some 2, .mv (.c (.string ⟨#[]⟩)) true, none⟩])
  (.seq (.reg [⟨some 3, .mv (.t 0) false, none⟩, ⟨some 4, .call 86 [(.t 3), (.c (.int .i64 10))] false, none⟩, ⟨some 2, .mv (.t 4) true, none⟩])
  (.ret)), [.t 2]⟩
theorem row68 : RowOk Tryz.prog 68 C68 := ⟨Tryz.f68, ⟨[], [], [], []⟩, lvOf [], Tryz.func68, by kernel_rfl, by kernel_rfl⟩
def B69_0 : C := .seq (.reg [⟨some 9, .bin .lss (.t 8) (.t 7), none⟩])
  (.seq (.cond (.t 9) (.skip)
  (.exit 0))
  (.seq (.block 1 (.seq (.reg [⟨some 10, .mv (.t 8) false, none⟩, ⟨some 5, .mv (.t 10) true, none⟩])
  (.seq (.reg [⟨some 11, .mv (.t 1) false, none⟩, ⟨some 12, .mv (.t 0) false, none⟩, ⟨some 13, .mv (.t 5) false, none⟩, ⟨some 14, .ia 1 (.t 12) (.t 13), none⟩, ⟨some 15, .load 1 false (.t 14) false, none⟩, ⟨some 16, .callv (.t 11) [(.t 15)], none⟩])
  (.cond (.t 16) (.seq (.reg [⟨some 17, .mv (.t 5) false, none⟩, ⟨some 4, .mv (.t 17) true, none⟩])
  (.ret))
  (.skip)))))
  (.reg [⟨some 18, .bin .add (.t 8) (.c (.int .i64 1)), none⟩, ⟨some 8, .mv (.t 18) false, none⟩])))
def L69_0 : C := .loop [0, 1, 7, 8] 0 B69_0
theorem go69_0 (s : Env × Bx) (nb) : evL tab ext nb L69_0 s = (loopIn nb [0, 1, 7, 8] 0 s).bind fun s0 => (evL tab ext nb B69_0 s0).bind (seqG tab ext nb L69_0) := eL_loop _ _ _
/-- slices.IndexFunc[[]int,int] -/
def C69 : CFun := ⟨19, 2, .seq (.reg [⟨some 4, .mv (.c (.int .i64 0)) true, none⟩])
  (.seq (.seq (.reg [⟨some 6, .mv (.t 0) false, none⟩, ⟨some 7, .len (.t 6), none⟩, ⟨some 8, .mv (.c (.int .i64 0)) false, none⟩])
  (.block 0 (L69_0)))
  (.seq (.reg [⟨some 4, .mv (.c (.int .i64 (-1))) true, none⟩])
  (.ret))), [.t 4]⟩
theorem row69 : RowOk Tryz.prog 69 C69 := ⟨Tryz.f69, ⟨[], [], [], []⟩, lvOf [(0, [0, 1, 7, 8], 0)], Tryz.func69, by kernel_rfl, by kernel_rfl⟩
def B70_0 : C := .seq (.reg [⟨some 9, .bin .lss (.t 8) (.t 7), none⟩])
  (.seq (.cond (.t 9) (.skip)
  (.exit 0))
  (.seq (.block 1 (.seq (.reg [⟨some 10, .mv (.t 8) false, none⟩, ⟨some 5, .mv (.t 10) true, none⟩])
  (.seq (.reg [⟨some 11, .mv (.t 1) false, none⟩, ⟨some 12, .mv (.t 0) false, none⟩, ⟨some 13, .mv (.t 5) false, none⟩, ⟨some 14, .ia 6 (.t 12) (.t 13), none⟩, ⟨some 15, .load 6 true (.t 14) false, none⟩, ⟨some 16, .callv (.t 11) [(.t 15)], none⟩])
  (.cond (.t 16) (.seq (.reg [⟨some 17, .mv (.t 5) false, none⟩, ⟨some 4, .mv (.t 17) true, none⟩])
  (.ret))
  (.skip)))))
  (.reg [⟨some 18, .bin .add (.t 8) (.c (.int .i64 1)), none⟩, ⟨some 8, .mv (.t 18) false, none⟩])))
def L70_0 : C := .loop [0, 1, 7, 8] 0 B70_0
theorem go70_0 (s : Env × Bx) (nb) : evL tab ext nb L70_0 s = (loopIn nb [0, 1, 7, 8] 0 s).bind fun s0 => (evL tab ext nb B70_0 s0).bind (seqG tab ext nb L70_0) := eL_loop _ _ _
/-- slices.IndexFunc[[]swingbridge/api.Task,swingbridge/api.Task] -/
def C70 : CFun := ⟨19, 2, .seq (.reg [⟨some 4, .mv (.c (.int .i64 0)) true, none⟩])
  (.seq (.seq (.reg [⟨some 6, .mv (.t 0) false, none⟩, ⟨some 7, .len (.t 6), none⟩, ⟨some 8, .mv (.c (.int .i64 0)) false, none⟩])
  (.block 0 (L70_0)))
  (.seq (.reg [⟨some 4, .mv (.c (.int .i64 (-1))) true, none⟩])
  (.ret))), [.t 4]⟩
theorem row70 : RowOk Tryz.prog 70 C70 := ⟨Tryz.f70, ⟨[], [], [], []⟩, lvOf [(0, [0, 1, 7, 8], 0)], Tryz.func70, by kernel_rfl, by kernel_rfl⟩
def B71_0 : C := .seq (.reg [⟨some 12, .bin .lss (.t 11) (.t 10), none⟩])
  (.seq (.cond (.t 12) (.skip)
  (.exit 0))
  (.seq (.block 1 (.seq (.reg [⟨some 13, .ia 3 (.t 9) (.t 11), none⟩, ⟨some 14, .load 3 true (.t 13) false, none⟩, ⟨some 7, .alloc [(.int .i64 0), (.int .i64 0), (.int .i64 0)], none⟩, ⟨none, .store 3 (.t 7) (.t 14), none⟩])
  (.seq (.seq (.reg [⟨some 15, .fa 0 (.t 7), none⟩, ⟨some 16, .load 1 false (.t 15) false, none⟩, ⟨some 17, .mv (.t 1) false, none⟩, ⟨some 18, .bin .neq (.t 16) (.t 17), none⟩])
  (.cond (.t 18) (.exit 1)
  (.skip)))
  (.reg [⟨some 19, .mv (.t 5) false, none⟩, ⟨some 20, .fa 1 (.t 7), none⟩, ⟨some 21, .load 1 false (.t 20) false, none⟩, ⟨some 22, .bin .add (.t 19) (.t 21), none⟩, ⟨some 5, .mv (.t 22) true, none⟩]))))
  (.reg [⟨some 23, .bin .add (.t 11) (.c (.int .i64 1)), none⟩, ⟨some 11, .mv (.t 23) false, none⟩])))
def L71_0 : C := .loop [1, 5, 9, 10, 11] 1 B71_0
theorem go71_0 (s : Env × Bx) (nb) : evL tab ext nb L71_0 s = (loopIn nb [1, 5, 9, 10, 11] 1 s).bind fun s0 => (evL tab ext nb B71_0 s0).bind (seqG tab ext nb L71_0) := eL_loop _ _ _
/-- swingbridge/demand.all -/
def C71 : CFun := ⟨25, 2, .seq (.reg [⟨some 2, .box (.t 0), none⟩, ⟨some 4, .mv (.c (.int .i64 0)) true, none⟩])
  (.scope (.seq (.reg [⟨some 5, .mv (.c (.int .i64 0)) true, none⟩])
  (.seq (.skip)
  (.seq (.seq (.reg [⟨some 8, .fa 5 (.t 2), none⟩, ⟨some 9, .load 1 false (.t 8) false, none⟩, ⟨some 10, .len (.t 9), none⟩, ⟨some 11, .mv (.c (.int .i64 0)) false, none⟩])
  (.block 0 (L71_0)))
  (.seq (.reg [⟨some 24, .mv (.t 5) false, none⟩, ⟨some 4, .mv (.t 24) true, none⟩])
  (.ret)))))), [.t 4]⟩
theorem row71 : RowOk Tryz.prog 71 C71 := ⟨Tryz.f71, ⟨[], [], [], []⟩, lvOf [(0, [1, 5, 9, 10, 11], 1)], Tryz.func71, by kernel_rfl, by kernel_rfl⟩
/-- swingbridge/bound.Next -/
def C72 : CFun := ⟨37, 3, .seq (.reg [⟨some 3, .box (.t 0), none⟩, ⟨some 6, .mv (.c (.int .i64 0)) true, none⟩, ⟨some 7, .mv (.c (.bool false)) true, none⟩])
  (.seq (.reg [⟨some 11, .load 4 true (.t 3) false, none⟩, ⟨some 12, .mv (.t 1) false, none⟩, ⟨some 13, .mv (.t 2) false, none⟩, ⟨some 14, .call 87 [(.t 11), (.t 12), (.t 13)] false, none⟩, ⟨some 10, .mv (.t 14) false, none⟩, ⟨some 15, .ext (.t 10) 0, none⟩, ⟨some 16, .ext (.t 10) 1, none⟩, ⟨some 8, .mv (.t 15) true, none⟩, ⟨some 9, .mv (.t 16) true, none⟩])
  (.seq (.seq (.reg [⟨some 17, .mv (.t 9) false, none⟩, ⟨some 18, .un .not (.t 17), none⟩, ⟨some 19, .mv (.t 18) false, none⟩, ⟨some 20, .mv (.t 1) false, some (19, false)⟩, ⟨some 21, .len (.t 20), some (19, false)⟩, ⟨some 22, .fa 3 (.t 3), some (19, false)⟩, ⟨some 23, .load 1 false (.t 22) false, some (19, false)⟩, ⟨some 24, .len (.t 23), some (19, false)⟩, ⟨some 25, .bin .neq (.t 21) (.t 24), some (19, false)⟩, ⟨some 26, .pick (.t 19) (.c (.bool true)) (.t 25), none⟩])
  (.cond (.t 26) (.seq (.reg [⟨some 6, .mv (.c (.int .i64 0)) true, none⟩, ⟨some 7, .mv (.c (.bool false)) true, none⟩])
  (.ret))
  (.skip)))
  (.seq (.reg [⟨some 27, .mv (.t 8) false, none⟩, ⟨some 28, .load 4 true (.t 3) false, none⟩, ⟨some 29, .mv (.t 1) false, none⟩, ⟨some 30, .mv (.t 2) false, none⟩, ⟨some 31, .mv (.t 1) false, none⟩, ⟨some 32, .mv (.t 2) false, none⟩, ⟨some 33, .ia 1 (.t 31) (.t 32), none⟩, ⟨some 34, .load 1 false (.t 33) false, none⟩, ⟨some 35, .call 88 [(.t 28), (.t 29), (.t 30), (.t 34)] false, none⟩, ⟨some 36, .bin .add (.t 27) (.t 35), none⟩, ⟨some 6, .mv (.t 36) true, none⟩, ⟨some 7, .mv (.c (.bool true)) true, none⟩])
  (.ret)))), [.t 6, .t 7]⟩
theorem row72 : RowOk Tryz.prog 72 C72 := ⟨Tryz.f72, ⟨[], [], [], []⟩, lvOf [], Tryz.func72, by kernel_rfl, by kernel_rfl⟩
/-- swingbridge/fair.Part -/
def C73 : CFun := ⟨30, 3, .seq (.reg [⟨some 3, .box (.t 0), none⟩, ⟨some 6, .mv (.c (.int .i64 0)) true, none⟩, ⟨some 7, .mv (.c (.bool false)) true, none⟩])
  (.seq (.reg [⟨some 12, .load 4 true (.t 3) false, none⟩, ⟨some 13, .mv (.t 1) false, none⟩, ⟨some 14, .mv (.t 2) false, none⟩, ⟨some 15, .call 89 [(.t 12), (.t 13), (.t 14)] false, none⟩, ⟨some 11, .mv (.t 15) false, none⟩, ⟨some 16, .ext (.t 11) 0, none⟩, ⟨some 17, .ext (.t 11) 1, none⟩, ⟨some 8, .alloc [(.int .i64 0), (.int .i64 0), (.int .i64 0)], none⟩, ⟨none, .store 3 (.t 8) (.t 16), none⟩, ⟨some 9, .mv (.t 17) true, none⟩])
  (.seq (.seq (.reg [⟨some 18, .mv (.t 9) false, none⟩, ⟨some 19, .un .not (.t 18), none⟩])
  (.cond (.t 19) (.seq (.reg [⟨some 6, .mv (.c (.int .i64 0)) true, none⟩, ⟨some 7, .mv (.c (.bool false)) true, none⟩])
  (.ret))
  (.skip)))
  (.seq (.reg [⟨some 20, .load 4 true (.t 3) false, none⟩, ⟨some 21, .mv (.t 1) false, none⟩, ⟨some 22, .call 90 [(.t 20), (.t 21)] false, none⟩, ⟨some 10, .mv (.t 22) true, none⟩])
  (.seq (.reg [⟨some 23, .fa 1 (.t 8), none⟩, ⟨some 24, .load 1 false (.t 23) false, none⟩, ⟨some 25, .mv (.t 10) false, none⟩, ⟨some 26, .mv (.t 10) false, none⟩, ⟨some 27, .len (.t 26), none⟩, ⟨some 28, .call 91 [(.t 25), (.t 27)] false, none⟩, ⟨some 29, .bin .add (.t 24) (.t 28), none⟩, ⟨some 6, .mv (.t 29) true, none⟩, ⟨some 7, .mv (.c (.bool true)) true, none⟩])
  (.ret))))), [.t 6, .t 7]⟩
theorem row73 : RowOk Tryz.prog 73 C73 := ⟨Tryz.f73, ⟨[], [], [], []⟩, lvOf [], Tryz.func73, by kernel_rfl, by kernel_rfl⟩
def B74_0 : C := .seq (.seq (.reg [⟨some 68, .mv (.t 13) false, none⟩, ⟨some 69, .bin .leq (.t 68) (.c (.int .i64 3000)), none⟩])
  (.cond (.t 69) (.skip)
  (.exit 0)))
  (.block 1 (.seq (.reg [⟨some 70, .mv (.t 12) false, none⟩, ⟨some 71, .load 4 true (.t 4) false, none⟩, ⟨some 72, .mv (.t 1) false, none⟩, ⟨some 73, .mv (.t 2) false, none⟩, ⟨some 74, .mv (.t 11) false, none⟩, ⟨some 75, .mv (.t 13) false, none⟩, ⟨some 76, .call 94 [(.t 71), (.t 72), (.t 73), (.t 74), (.t 75)] false, none⟩, ⟨some 77, .bin .add (.t 70) (.t 76), none⟩, ⟨some 14, .mv (.t 77) true, none⟩])
  (.seq (.seq (.reg [⟨some 78, .mv (.t 14) false, none⟩, ⟨some 79, .mv (.t 13) false, none⟩, ⟨some 80, .bin .eql (.t 78) (.t 79), none⟩])
  (.cond (.t 80) (.seq (.reg [⟨some 81, .mv (.t 13) false, none⟩, ⟨some 8, .mv (.t 81) true, none⟩, ⟨some 9, .mv (.c (.bool true)) true, none⟩])
  (.ret))
  (.skip)))
  (.seq (.seq (.reg [⟨some 82, .mv (.t 14) false, none⟩, ⟨some 83, .mv (.t 13) false, none⟩, ⟨some 84, .bin .lss (.t 82) (.t 83), none⟩])
  (.cond (.t 84) (.exit 0)
  (.skip)))
  (.reg [⟨some 85, .mv (.t 14) false, none⟩, ⟨some 13, .mv (.t 85) true, none⟩])))))
def L74_0 : C := .loop [1, 2, 4, 11, 12, 13] 2 B74_0
theorem go74_0 (s : Env × Bx) (nb) : evL tab ext nb L74_0 s = (loopIn nb [1, 2, 4, 11, 12, 13] 2 s).bind fun s0 => (evL tab ext nb B74_0 s0).bind (seqG tab ext nb L74_0) := eL_loop _ _ _
/-- swingbridge/agent.Part -/
def C74 : CFun := ⟨86, 4, .seq (.reg [⟨some 4, .box (.t 0), none⟩, ⟨some 8, .mv (.c (.int .i64 0)) true, none⟩, ⟨some 9, .mv (.c (.bool false)) true, none⟩])
  (.scope (.seq (.seq (.reg [⟨some 15, .load 4 true (.t 4) false, none⟩, ⟨some 16, .mv (.t 2) false, none⟩, ⟨some 17, .call 92 [(.t 15), (.t 16)] false, none⟩, ⟨some 18, .un .not (.t 17), none⟩, ⟨some 19, .mv (.t 18) false, none⟩, ⟨some 20, .mv (.t 1) false, some (19, false)⟩, ⟨some 21, .len (.t 20), some (19, false)⟩, ⟨some 22, .fa 3 (.t 4), some (19, false)⟩, ⟨some 23, .load 1 false (.t 22) false, some (19, false)⟩, ⟨some 24, .len (.t 23), some (19, false)⟩, ⟨some 25, .bin .neq (.t 21) (.t 24), some (19, false)⟩, ⟨some 26, .pick (.t 19) (.c (.bool true)) (.t 25), none⟩, ⟨some 27, .mv (.t 26) false, none⟩, ⟨some 28, .mv (.t 3) false, some (27, false)⟩, ⟨some 29, .bin .lss (.t 28) (.c (.int .i64 0)), some (27, false)⟩, ⟨some 30, .pick (.t 27) (.c (.bool true)) (.t 29), none⟩, ⟨some 31, .mv (.t 30) false, none⟩, ⟨some 32, .mv (.t 3) false, some (31, false)⟩, ⟨some 33, .fa 3 (.t 4), some (31, false)⟩, ⟨some 34, .load 1 false (.t 33) false, some (31, false)⟩, ⟨some 35, .mv (.t 2) false, some (31, false)⟩, ⟨some 36, .ia 6 (.t 34) (.t 35), some (31, false)⟩, ⟨some 37, .fa 5 (.t 36), some (31, false)⟩, ⟨some 38, .load 1 false (.t 37) false, some (31, false)⟩, ⟨some 39, .len (.t 38), some (31, false)⟩, ⟨some 40, .bin .geq (.t 32) (.t 39), some (31, false)⟩, ⟨some 41, .pick (.t 31) (.c (.bool true)) (.t 40), none⟩])
  (.cond (.t 41) (.seq (.reg [⟨some 8, .mv (.c (.int .i64 0)) true, none⟩, ⟨some 9, .mv (.c (.bool false)) true, none⟩])
  (.ret))
  (.skip)))
  (.seq (.reg [⟨some 42, .fa 3 (.t 4), none⟩, ⟨some 43, .load 1 false (.t 42) false, none⟩, ⟨some 44, .mv (.t 2) false, none⟩, ⟨some 45, .ia 6 (.t 43) (.t 44), none⟩, ⟨some 46, .fa 5 (.t 45), none⟩, ⟨some 47, .load 1 false (.t 46) false, none⟩, ⟨some 48, .mv (.t 3) false, none⟩, ⟨some 49, .ia 3 (.t 47) (.t 48), none⟩, ⟨some 50, .load 3 true (.t 49) false, none⟩, ⟨some 10, .alloc [(.int .i64 0), (.int .i64 0), (.int .i64 0)], none⟩, ⟨none, .store 3 (.t 10) (.t 50), none⟩])
  (.seq (.seq (.reg [⟨some 51, .fa 0 (.t 10), none⟩, ⟨some 52, .load 1 false (.t 51) false, none⟩, ⟨some 53, .bin .neq (.t 52) (.c (.int .i64 3)), none⟩])
  (.cond (.t 53) (.seq (.reg [⟨some 8, .mv (.c (.int .i64 0)) true, none⟩, ⟨some 9, .mv (.c (.bool false)) true, none⟩])
  (.ret))
  (.skip)))
  (.seq (.reg [⟨some 54, .fa 2 (.t 4), none⟩, ⟨some 55, .load 1 false (.t 54) false, none⟩, ⟨some 56, .fa 2 (.t 10), none⟩, ⟨some 57, .load 1 false (.t 56) false, none⟩, ⟨some 58, .ia 1 (.t 55) (.t 57), none⟩, ⟨some 59, .load 1 false (.t 58) false, none⟩, ⟨some 11, .mv (.t 59) true, none⟩])
  (.seq (.reg [⟨some 60, .fa 1 (.t 10), none⟩, ⟨some 61, .load 1 false (.t 60) false, none⟩, ⟨some 62, .load 4 true (.t 4) false, none⟩, ⟨some 63, .mv (.t 2) false, none⟩, ⟨some 64, .mv (.t 11) false, none⟩, ⟨some 65, .call 93 [(.t 62), (.t 63), (.t 64)] false, none⟩, ⟨some 66, .bin .add (.t 61) (.t 65), none⟩, ⟨some 12, .mv (.t 66) true, none⟩])
  (.seq (.reg [⟨some 67, .mv (.t 12) false, none⟩, ⟨some 13, .mv (.t 67) true, none⟩])
  (.seq (.skip)
  (.seq (.block 0 (L74_0))
  (.seq (.reg [⟨some 8, .mv (.c (.int .i64 0)) true, none⟩, ⟨some 9, .mv (.c (.bool false)) true, none⟩])
  (.ret))))))))))), [.t 8, .t 9]⟩
theorem row74 : RowOk Tryz.prog 74 C74 := ⟨Tryz.f74, ⟨[], [], [], []⟩, lvOf [(0, [1, 2, 4, 11, 12, 13], 2)], Tryz.func74, by kernel_rfl, by kernel_rfl⟩
/-- swingbridge/token.Part -/
def C75 : CFun := ⟨24, 3, .seq (.reg [⟨some 3, .box (.t 0), none⟩, ⟨some 6, .mv (.c (.int .i64 0)) true, none⟩, ⟨some 7, .mv (.c (.bool false)) true, none⟩])
  (.seq (.reg [⟨some 11, .load 4 true (.t 3) false, none⟩, ⟨some 12, .mv (.t 1) false, none⟩, ⟨some 13, .mv (.t 2) false, none⟩, ⟨some 14, .call 95 [(.t 11), (.t 12), (.t 13)] false, none⟩, ⟨some 10, .mv (.t 14) false, none⟩, ⟨some 15, .ext (.t 10) 0, none⟩, ⟨some 16, .ext (.t 10) 1, none⟩, ⟨some 8, .mv (.t 15) true, none⟩, ⟨some 9, .mv (.t 16) true, none⟩])
  (.seq (.seq (.reg [⟨some 17, .mv (.t 9) false, none⟩, ⟨some 18, .un .not (.t 17), none⟩])
  (.cond (.t 18) (.seq (.reg [⟨some 6, .mv (.c (.int .i64 0)) true, none⟩, ⟨some 7, .mv (.c (.bool false)) true, none⟩])
  (.ret))
  (.skip)))
  (.seq (.reg [⟨some 19, .mv (.t 8) false, none⟩, ⟨some 20, .load 4 true (.t 3) false, none⟩, ⟨some 21, .mv (.t 1) false, none⟩, ⟨some 22, .call 96 [(.t 20), (.t 21)] false, none⟩, ⟨some 23, .bin .add (.t 19) (.t 22), none⟩, ⟨some 6, .mv (.t 23) true, none⟩, ⟨some 7, .mv (.c (.bool true)) true, none⟩])
  (.ret)))), [.t 6, .t 7]⟩
theorem row75 : RowOk Tryz.prog 75 C75 := ⟨Tryz.f75, ⟨[], [], [], []⟩, lvOf [], Tryz.func75, by kernel_rfl, by kernel_rfl⟩
def B76_0 : C := .block 1 (.seq (.reg [⟨some 13, .mv (.t 10) false, none⟩, ⟨some 14, .bin .mul (.c (.int .i64 2)) (.t 13), none⟩, ⟨some 15, .bin .add (.t 14) (.c (.int .i64 1)), none⟩, ⟨some 11, .mv (.t 15) true, none⟩])
  (.seq (.seq (.reg [⟨some 16, .mv (.t 11) false, none⟩, ⟨some 17, .mv (.t 2) false, none⟩, ⟨some 18, .bin .geq (.t 16) (.t 17), none⟩])
  (.cond (.t 18) (.exit 0)
  (.skip)))
  (.seq (.seq (.reg [⟨some 19, .mv (.t 11) false, none⟩, ⟨some 20, .bin .add (.t 19) (.c (.int .i64 1)), none⟩, ⟨some 21, .mv (.t 2) false, none⟩, ⟨some 22, .bin .lss (.t 20) (.t 21), none⟩, ⟨some 23, .mv (.t 22) false, none⟩, ⟨some 24, .mv (.t 4) false, some (23, true)⟩, ⟨some 25, .mv (.t 0) false, some (23, true)⟩, ⟨some 26, .mv (.t 3) false, some (23, true)⟩, ⟨some 27, .mv (.t 11) false, some (23, true)⟩, ⟨some 28, .bin .add (.t 26) (.t 27), some (23, true)⟩, ⟨some 29, .ia 1 (.t 25) (.t 28), some (23, true)⟩, ⟨some 30, .load 1 false (.t 29) false, some (23, true)⟩, ⟨some 31, .mv (.t 0) false, some (23, true)⟩, ⟨some 32, .mv (.t 3) false, some (23, true)⟩, ⟨some 33, .mv (.t 11) false, some (23, true)⟩, ⟨some 34, .bin .add (.t 32) (.t 33), some (23, true)⟩, ⟨some 35, .bin .add (.t 34) (.c (.int .i64 1)), some (23, true)⟩, ⟨some 36, .ia 1 (.t 31) (.t 35), some (23, true)⟩, ⟨some 37, .load 1 false (.t 36) false, some (23, true)⟩, ⟨some 38, .callv (.t 24) [(.t 30), (.t 37)], some (23, true)⟩, ⟨some 39, .bin .lss (.t 38) (.c (.int .i64 0)), some (23, true)⟩, ⟨some 40, .pick (.t 23) (.t 39) (.c (.bool false)), none⟩])
  (.cond (.t 40) (.reg [⟨some 41, .mv (.t 11) false, none⟩, ⟨some 42, .bin .add (.t 41) (.c (.int .i64 1)), none⟩, ⟨some 11, .mv (.t 42) true, none⟩])
  (.skip)))
  (.seq (.seq (.reg [⟨some 43, .mv (.t 4) false, none⟩, ⟨some 44, .mv (.t 0) false, none⟩, ⟨some 45, .mv (.t 3) false, none⟩, ⟨some 46, .mv (.t 10) false, none⟩, ⟨some 47, .bin .add (.t 45) (.t 46), none⟩, ⟨some 48, .ia 1 (.t 44) (.t 47), none⟩, ⟨some 49, .load 1 false (.t 48) false, none⟩, ⟨some 50, .mv (.t 0) false, none⟩, ⟨some 51, .mv (.t 3) false, none⟩, ⟨some 52, .mv (.t 11) false, none⟩, ⟨some 53, .bin .add (.t 51) (.t 52), none⟩, ⟨some 54, .ia 1 (.t 50) (.t 53), none⟩, ⟨some 55, .load 1 false (.t 54) false, none⟩, ⟨some 56, .callv (.t 43) [(.t 49), (.t 55)], none⟩, ⟨some 57, .bin .lss (.t 56) (.c (.int .i64 0)), none⟩, ⟨some 58, .un .not (.t 57), none⟩])
  (.cond (.t 58) (.ret)
  (.skip)))
  (.seq (.reg [⟨some 59, .mv (.t 0) false, none⟩, ⟨some 60, .mv (.t 3) false, none⟩, ⟨some 61, .mv (.t 10) false, none⟩, ⟨some 62, .bin .add (.t 60) (.t 61), none⟩, ⟨some 63, .mv (.t 0) false, none⟩, ⟨some 64, .mv (.t 3) false, none⟩, ⟨some 65, .mv (.t 11) false, none⟩, ⟨some 66, .bin .add (.t 64) (.t 65), none⟩, ⟨some 67, .mv (.t 0) false, none⟩, ⟨some 68, .mv (.t 3) false, none⟩, ⟨some 69, .mv (.t 11) false, none⟩, ⟨some 70, .bin .add (.t 68) (.t 69), none⟩, ⟨some 71, .ia 1 (.t 67) (.t 70), none⟩, ⟨some 72, .load 1 false (.t 71) false, none⟩, ⟨some 73, .mv (.t 0) false, none⟩, ⟨some 74, .mv (.t 3) false, none⟩, ⟨some 75, .mv (.t 10) false, none⟩, ⟨some 76, .bin .add (.t 74) (.t 75), none⟩, ⟨some 77, .ia 1 (.t 73) (.t 76), none⟩, ⟨some 78, .load 1 false (.t 77) false, none⟩, ⟨some 79, .ia 1 (.t 59) (.t 62), none⟩, ⟨none, .store 1 (.t 79) (.t 72), none⟩, ⟨some 80, .ia 1 (.t 63) (.t 66), none⟩, ⟨none, .store 1 (.t 80) (.t 78), none⟩])
  (.reg [⟨some 81, .mv (.t 11) false, none⟩, ⟨some 10, .mv (.t 81) true, none⟩]))))))
def L76_0 : C := .loop [0, 2, 3, 4, 10] 0 B76_0
theorem go76_0 (s : Env × Bx) (nb) : evL tab ext nb L76_0 s = (loopIn nb [0, 2, 3, 4, 10] 0 s).bind fun s0 => (evL tab ext nb B76_0 s0).bind (seqG tab ext nb L76_0) := eL_loop _ _ _
/-- slices.siftDownCmpFunc[int] -/
def C76 : CFun := ⟨82, 5, .seq (.reg [⟨some 12, .mv (.t 1) false, none⟩, ⟨some 10, .mv (.t 12) true, none⟩])
  (.block 0 (L76_0)), []⟩
theorem row76 : RowOk Tryz.prog 76 C76 := ⟨Tryz.f76, ⟨[], [], [], []⟩, lvOf [(0, [0, 2, 3, 4, 10], 0)], Tryz.func76, by kernel_rfl, by kernel_rfl⟩
/-- slices.nextPowerOfTwo -/
def C77 : CFun := ⟨7, 1, .seq (.reg [⟨some 2, .mv (.c (.int .u64 0)) true, none⟩])
  (.seq (.reg [⟨some 3, .mv (.t 0) false, none⟩, ⟨some 4, .conv .u64 (.t 3), none⟩, ⟨some 5, .call 32 [(.t 4)] false, none⟩, ⟨some 6, .bin .shl (.c (.int .u64 1)) (.t 5), none⟩, ⟨some 2, .mv (.t 6) true, none⟩])
  (.ret)), [.t 2]⟩
theorem row77 : RowOk Tryz.prog 77 C77 := ⟨Tryz.f77, ⟨[], [], [], []⟩, lvOf [], Tryz.func77, by kernel_rfl, by kernel_rfl⟩
/-- slices.medianAdjacentCmpFunc[int] -/
def C79 : CFun := ⟨18, 4, .seq (.reg [⟨some 8, .mv (.c (.int .i64 0)) true, none⟩])
  (.seq (.reg [⟨some 9, .mv (.t 0) false, none⟩, ⟨some 10, .mv (.t 1) false, none⟩, ⟨some 11, .bin .sub (.t 10) (.c (.int .i64 1)), none⟩, ⟨some 12, .mv (.t 1) false, none⟩, ⟨some 13, .mv (.t 1) false, none⟩, ⟨some 14, .bin .add (.t 13) (.c (.int .i64 1)), none⟩, ⟨some 15, .mv (.t 2) false, none⟩, ⟨some 16, .mv (.t 3) false, none⟩, ⟨some 17, .calli 80 [(.t 9), (.t 11), (.t 12), (.t 14), (.t 15), (.t 16)], none⟩, ⟨some 8, .mv (.t 17) true, none⟩])
  (.ret)), [.t 8]⟩
theorem row79 : RowOk Tryz.prog 79 C79 := ⟨Tryz.f79, ⟨[], [], [], []⟩, lvOf [], Tryz.func79, by kernel_rfl, by kernel_rfl⟩
/-- slices.medianCmpFunc[int] -/
def C80 : CFun := ⟨41, 6, .seq (.reg [⟨some 12, .mv (.c (.int .i64 0)) true, none⟩])
  (.seq (.reg [⟨some 14, .mv (.t 0) false, none⟩, ⟨some 15, .mv (.t 1) false, none⟩, ⟨some 16, .mv (.t 2) false, none⟩, ⟨some 17, .mv (.t 4) false, none⟩, ⟨some 18, .mv (.t 5) false, none⟩, ⟨some 19, .calli 97 [(.t 14), (.t 15), (.t 16), (.t 17), (.t 18)], none⟩, ⟨some 13, .mv (.t 19) false, none⟩, ⟨some 20, .ext (.t 13) 0, none⟩, ⟨some 21, .ext (.t 13) 1, none⟩, ⟨some 1, .mv (.t 20) true, none⟩, ⟨some 2, .mv (.t 21) true, none⟩])
  (.seq (.reg [⟨some 23, .mv (.t 0) false, none⟩, ⟨some 24, .mv (.t 2) false, none⟩, ⟨some 25, .mv (.t 3) false, none⟩, ⟨some 26, .mv (.t 4) false, none⟩, ⟨some 27, .mv (.t 5) false, none⟩, ⟨some 28, .calli 97 [(.t 23), (.t 24), (.t 25), (.t 26), (.t 27)], none⟩, ⟨some 22, .mv (.t 28) false, none⟩, ⟨some 29, .ext (.t 22) 0, none⟩, ⟨some 30, .ext (.t 22) 1, none⟩, ⟨some 2, .mv (.t 29) true, none⟩, ⟨some 3, .mv (.t 30) true, none⟩])
  (.seq (.reg [⟨some 32, .mv (.t 0) false, none⟩, ⟨some 33, .mv (.t 1) false, none⟩, ⟨some 34, .mv (.t 2) false, none⟩, ⟨some 35, .mv (.t 4) false, none⟩, ⟨some 36, .mv (.t 5) false, none⟩, ⟨some 37, .calli 97 [(.t 32), (.t 33), (.t 34), (.t 35), (.t 36)], none⟩, ⟨some 31, .mv (.t 37) false, none⟩, ⟨some 38, .ext (.t 31) 0, none⟩, ⟨some 39, .ext (.t 31) 1, none⟩, ⟨some 1, .mv (.t 38) true, none⟩, ⟨some 2, .mv (.t 39) true, none⟩])
  (.seq (.reg [⟨some 40, .mv (.t 2) false, none⟩, ⟨some 12, .mv (.t 40) true, none⟩])
  (.ret))))), [.t 12]⟩
theorem row80 : RowOk Tryz.prog 80 C80 := ⟨Tryz.f80, ⟨[], [], [], []⟩, lvOf [], Tryz.func80, by kernel_rfl, by kernel_rfl⟩
/-- swingbridge/swingbridgeref11.Own -/
def C81 : CFun := ⟨32, 3, .seq (.reg [⟨some 3, .box (.t 0), none⟩, ⟨some 6, .mv (.c (.int .i64 0)) true, none⟩, ⟨some 7, .mv (.c (.bool false)) true, none⟩])
  (.seq (.reg [⟨some 12, .load 4 true (.t 3) false, none⟩, ⟨some 13, .mv (.t 1) false, none⟩, ⟨some 14, .mv (.t 2) false, none⟩, ⟨some 15, .call 98 [(.t 12), (.t 13), (.t 14)] false, none⟩, ⟨some 11, .mv (.t 15) false, none⟩, ⟨some 16, .ext (.t 11) 0, none⟩, ⟨some 17, .ext (.t 11) 1, none⟩, ⟨some 8, .mv (.t 16) true, none⟩, ⟨some 9, .mv (.t 17) true, none⟩])
  (.seq (.seq (.reg [⟨some 18, .mv (.t 9) false, none⟩, ⟨some 19, .un .not (.t 18), none⟩])
  (.cond (.t 19) (.seq (.reg [⟨some 6, .mv (.c (.int .i64 0)) true, none⟩, ⟨some 7, .mv (.c (.bool false)) true, none⟩])
  (.ret))
  (.skip)))
  (.seq (.reg [⟨some 20, .fa 3 (.t 3), none⟩, ⟨some 21, .load 1 false (.t 20) false, none⟩, ⟨some 22, .mv (.t 2) false, none⟩, ⟨some 23, .ia 6 (.t 21) (.t 22), none⟩, ⟨some 24, .load 6 true (.t 23) false, none⟩, ⟨some 10, .alloc [(.string ⟨#[]⟩), (.int .i64 0), (.int .i64 0), (.int .i64 0), (.int .i64 0), (.slice none 0 0)], none⟩, ⟨none, .store 6 (.t 10) (.t 24), none⟩])
  (.seq (.reg [⟨some 25, .mv (.t 8) false, none⟩, ⟨some 26, .load 6 true (.t 10) false, none⟩, ⟨some 27, .call 35 [(.t 26), (.c (.int .i64 1))] false, none⟩, ⟨some 28, .bin .add (.t 25) (.t 27), none⟩, ⟨some 29, .load 6 true (.t 10) false, none⟩, ⟨some 30, .call 35 [(.t 29), (.c (.int .i64 2))] false, none⟩, ⟨some 31, .bin .add (.t 28) (.t 30), none⟩, ⟨some 6, .mv (.t 31) true, none⟩, ⟨some 7, .mv (.c (.bool true)) true, none⟩])
  (.ret))))), [.t 6, .t 7]⟩
theorem row81 : RowOk Tryz.prog 81 C81 := ⟨Tryz.f81, ⟨[], [], [], []⟩, lvOf [], Tryz.func81, by kernel_rfl, by kernel_rfl⟩
def B82_0 : C := .seq (.seq (.reg [⟨some 23, .mv (.t 10) false, none⟩, ⟨some 24, .fa 3 (.t 4), none⟩, ⟨some 25, .load 1 false (.t 24) false, none⟩, ⟨some 26, .len (.t 25), none⟩, ⟨some 27, .bin .lss (.t 23) (.t 26), none⟩])
  (.cond (.t 27) (.skip)
  (.exit 0)))
  (.seq (.block 1 (.seq (.seq (.reg [⟨some 30, .mv (.t 1) false, none⟩, ⟨some 31, .mv (.t 10) false, none⟩, ⟨some 32, .ia 1 (.t 30) (.t 31), none⟩, ⟨some 33, .load 1 false (.t 32) false, none⟩, ⟨some 34, .bin .lss (.t 33) (.c (.int .i64 0)), none⟩])
  (.cond (.t 34) (.seq (.reg [⟨some 8, .mv (.c (.int .i64 0)) true, none⟩])
  (.ret))
  (.skip)))
  (.seq (.reg [⟨some 35, .mv (.t 10) false, none⟩, ⟨some 36, .mv (.t 2) false, none⟩, ⟨some 37, .bin .neq (.t 35) (.t 36), none⟩])
  (.cond (.t 37) (.reg [⟨some 38, .mv (.t 9) false, none⟩, ⟨some 39, .mv (.t 3) false, none⟩, ⟨some 40, .mv (.t 1) false, none⟩, ⟨some 41, .mv (.t 10) false, none⟩, ⟨some 42, .ia 1 (.t 40) (.t 41), none⟩, ⟨some 43, .load 1 false (.t 42) false, none⟩, ⟨some 44, .fa 3 (.t 4), none⟩, ⟨some 45, .load 1 false (.t 44) false, none⟩, ⟨some 46, .mv (.t 10) false, none⟩, ⟨some 47, .ia 6 (.t 45) (.t 46), none⟩, ⟨some 48, .fa 1 (.t 47), none⟩, ⟨some 49, .load 1 false (.t 48) false, none⟩, ⟨some 50, .load 4 true (.t 4) false, none⟩, ⟨some 51, .mv (.t 10) false, none⟩, ⟨some 52, .mv (.t 2) false, none⟩, ⟨some 53, .call 100 [(.t 50), (.t 51), (.t 52)] false, none⟩, ⟨some 54, .call 99 [(.t 39), (.t 43), (.t 49), (.t 53)] false, none⟩, ⟨some 55, .bin .add (.t 38) (.t 54), none⟩, ⟨some 9, .mv (.t 55) true, none⟩])
  (.skip)))))
  (.reg [⟨some 28, .mv (.t 10) false, none⟩, ⟨some 29, .bin .add (.t 28) (.c (.int .i64 1)), none⟩, ⟨some 10, .mv (.t 29) true, none⟩]))
def L82_0 : C := .loop [1, 2, 3, 4, 9, 10] 1 B82_0
theorem go82_0 (s : Env × Bx) (nb) : evL tab ext nb L82_0 s = (loopIn nb [1, 2, 3, 4, 9, 10] 1 s).bind fun s0 => (evL tab ext nb B82_0 s0).bind (seqG tab ext nb L82_0) := eL_loop _ _ _
/-- swingbridge/swingbridgeref11.Others -/
def C82 : CFun := ⟨68, 4, .seq (.reg [⟨some 4, .box (.t 0), none⟩, ⟨some 8, .mv (.c (.int .i64 0)) true, none⟩])
  (.seq (.seq (.reg [⟨some 11, .load 4 true (.t 4) false, none⟩, ⟨some 12, .mv (.t 2) false, none⟩, ⟨some 13, .call 65 [(.t 11), (.t 12)] false, none⟩, ⟨some 14, .un .not (.t 13), none⟩, ⟨some 15, .mv (.t 14) false, none⟩, ⟨some 16, .mv (.t 1) false, some (15, false)⟩, ⟨some 17, .len (.t 16), some (15, false)⟩, ⟨some 18, .fa 3 (.t 4), some (15, false)⟩, ⟨some 19, .load 1 false (.t 18) false, some (15, false)⟩, ⟨some 20, .len (.t 19), some (15, false)⟩, ⟨some 21, .bin .neq (.t 17) (.t 20), some (15, false)⟩, ⟨some 22, .pick (.t 15) (.c (.bool true)) (.t 21), none⟩])
  (.cond (.t 22) (.seq (.reg [⟨some 8, .mv (.c (.int .i64 0)) true, none⟩])
  (.ret))
  (.skip)))
  (.seq (.reg [⟨some 9, .mv (.c (.int .i64 0)) true, none⟩])
  (.seq (.seq (.reg [⟨some 10, .mv (.c (.int .i64 0)) true, none⟩])
  (.block 0 (L82_0)))
  (.seq (.reg [⟨some 56, .mv (.t 9) false, none⟩, ⟨some 57, .fa 1 (.t 4), none⟩, ⟨some 58, .load 1 false (.t 57) false, none⟩, ⟨some 59, .fa 3 (.t 4), none⟩, ⟨some 60, .load 1 false (.t 59) false, none⟩, ⟨some 61, .mv (.t 2) false, none⟩, ⟨some 62, .ia 6 (.t 60) (.t 61), none⟩, ⟨some 63, .fa 4 (.t 62), none⟩, ⟨some 64, .load 1 false (.t 63) false, none⟩, ⟨some 65, .ia 1 (.t 58) (.t 64), none⟩, ⟨some 66, .load 1 false (.t 65) false, none⟩, ⟨some 67, .bin .quo (.t 56) (.t 66), none⟩, ⟨some 8, .mv (.t 67) true, none⟩])
  (.ret))))), [.t 8]⟩
theorem row82 : RowOk Tryz.prog 82 C82 := ⟨Tryz.f82, ⟨[], [], [], []⟩, lvOf [(0, [1, 2, 3, 4, 9, 10], 1)], Tryz.func82, by kernel_rfl, by kernel_rfl⟩
/-- swingbridge/swingbridgeref11.Fair -/
def C83 : CFun := ⟨26, 3, .seq (.reg [⟨some 3, .box (.t 0), none⟩, ⟨some 6, .mv (.c (.int .i64 0)) true, none⟩, ⟨some 7, .mv (.c (.bool false)) true, none⟩])
  (.seq (.reg [⟨some 11, .load 4 true (.t 3) false, none⟩, ⟨some 12, .mv (.t 1) false, none⟩, ⟨some 13, .mv (.t 2) false, none⟩, ⟨some 14, .call 101 [(.t 11), (.t 12), (.t 13)] false, none⟩, ⟨some 10, .mv (.t 14) false, none⟩, ⟨some 15, .ext (.t 10) 0, none⟩, ⟨some 16, .ext (.t 10) 1, none⟩, ⟨some 8, .alloc [(.int .i64 0), (.int .i64 0), (.int .i64 0)], none⟩, ⟨none, .store 3 (.t 8) (.t 15), none⟩, ⟨some 9, .mv (.t 16) true, none⟩])
  (.seq (.seq (.reg [⟨some 17, .mv (.t 9) false, none⟩, ⟨some 18, .un .not (.t 17), none⟩])
  (.cond (.t 18) (.seq (.reg [⟨some 6, .mv (.c (.int .i64 0)) true, none⟩, ⟨some 7, .mv (.c (.bool false)) true, none⟩])
  (.ret))
  (.skip)))
  (.seq (.reg [⟨some 19, .fa 1 (.t 8), none⟩, ⟨some 20, .load 1 false (.t 19) false, none⟩, ⟨some 21, .load 4 true (.t 3) false, none⟩, ⟨some 22, .mv (.t 1) false, none⟩, ⟨some 23, .call 103 [(.t 21), (.t 22)] false, none⟩, ⟨some 24, .call 102 [(.t 23), (.c (.int .i64 6))] false, none⟩, ⟨some 25, .bin .add (.t 20) (.t 24), none⟩, ⟨some 6, .mv (.t 25) true, none⟩, ⟨some 7, .mv (.c (.bool true)) true, none⟩])
  (.ret)))), [.t 6, .t 7]⟩
theorem row83 : RowOk Tryz.prog 83 C83 := ⟨Tryz.f83, ⟨[], [], [], []⟩, lvOf [], Tryz.func83, by kernel_rfl, by kernel_rfl⟩
def B84_0 : C := .seq (.seq (.reg [⟨some 47, .mv (.t 14) false, none⟩, ⟨some 48, .bin .leq (.t 47) (.c (.int .i64 3000)), none⟩])
  (.cond (.t 48) (.skip)
  (.exit 0)))
  (.block 1 (.seq (.reg [⟨some 49, .mv (.t 13) false, none⟩, ⟨some 50, .load 4 true (.t 4) false, none⟩, ⟨some 51, .mv (.t 1) false, none⟩, ⟨some 52, .mv (.t 2) false, none⟩, ⟨some 53, .mv (.t 12) false, none⟩, ⟨some 54, .mv (.t 14) false, none⟩, ⟨some 55, .call 105 [(.t 50), (.t 51), (.t 52), (.t 53), (.t 54)] false, none⟩, ⟨some 56, .bin .add (.t 49) (.t 55), none⟩, ⟨some 15, .mv (.t 56) true, none⟩])
  (.seq (.seq (.reg [⟨some 57, .mv (.t 15) false, none⟩, ⟨some 58, .mv (.t 14) false, none⟩, ⟨some 59, .bin .eql (.t 57) (.t 58), none⟩])
  (.cond (.t 59) (.seq (.reg [⟨some 60, .mv (.t 14) false, none⟩, ⟨some 8, .mv (.t 60) true, none⟩, ⟨some 9, .mv (.c (.bool true)) true, none⟩])
  (.ret))
  (.skip)))
  (.reg [⟨some 61, .mv (.t 15) false, none⟩, ⟨some 14, .mv (.t 61) true, none⟩]))))
def L84_0 : C := .loop [1, 2, 4, 12, 13, 14] 2 B84_0
theorem go84_0 (s : Env × Bx) (nb) : evL tab ext nb L84_0 s = (loopIn nb [1, 2, 4, 12, 13, 14] 2 s).bind fun s0 => (evL tab ext nb B84_0 s0).bind (seqG tab ext nb L84_0) := eL_loop _ _ _
/-- swingbridge/swingbridgeref11.Agent -/
def C84 : CFun := ⟨62, 4, .seq (.reg [⟨some 4, .box (.t 0), none⟩, ⟨some 8, .mv (.c (.int .i64 0)) true, none⟩, ⟨some 9, .mv (.c (.bool false)) true, none⟩])
  (.seq (.reg [⟨some 17, .load 4 true (.t 4) false, none⟩, ⟨some 18, .mv (.t 2) false, none⟩, ⟨some 19, .mv (.t 3) false, none⟩, ⟨some 20, .call 101 [(.t 17), (.t 18), (.t 19)] false, none⟩, ⟨some 16, .mv (.t 20) false, none⟩, ⟨some 21, .ext (.t 16) 0, none⟩, ⟨some 22, .ext (.t 16) 1, none⟩, ⟨some 10, .alloc [(.int .i64 0), (.int .i64 0), (.int .i64 0)], none⟩, ⟨none, .store 3 (.t 10) (.t 21), none⟩, ⟨some 11, .mv (.t 22) true, none⟩])
  (.seq (.seq (.reg [⟨some 23, .mv (.t 11) false, none⟩, ⟨some 24, .un .not (.t 23), none⟩, ⟨some 25, .mv (.t 24) false, none⟩, ⟨some 26, .mv (.t 1) false, some (25, false)⟩, ⟨some 27, .len (.t 26), some (25, false)⟩, ⟨some 28, .fa 3 (.t 4), some (25, false)⟩, ⟨some 29, .load 1 false (.t 28) false, some (25, false)⟩, ⟨some 30, .len (.t 29), some (25, false)⟩, ⟨some 31, .bin .neq (.t 27) (.t 30), some (25, false)⟩, ⟨some 32, .pick (.t 25) (.c (.bool true)) (.t 31), none⟩])
  (.cond (.t 32) (.seq (.reg [⟨some 8, .mv (.c (.int .i64 0)) true, none⟩, ⟨some 9, .mv (.c (.bool false)) true, none⟩])
  (.ret))
  (.skip)))
  (.seq (.reg [⟨some 33, .fa 2 (.t 4), none⟩, ⟨some 34, .load 1 false (.t 33) false, none⟩, ⟨some 35, .fa 2 (.t 10), none⟩, ⟨some 36, .load 1 false (.t 35) false, none⟩, ⟨some 37, .ia 1 (.t 34) (.t 36), none⟩, ⟨some 38, .load 1 false (.t 37) false, none⟩, ⟨some 12, .mv (.t 38) true, none⟩])
  (.seq (.reg [⟨some 39, .fa 1 (.t 10), none⟩, ⟨some 40, .load 1 false (.t 39) false, none⟩, ⟨some 41, .load 4 true (.t 4) false, none⟩, ⟨some 42, .mv (.t 2) false, none⟩, ⟨some 43, .mv (.t 12) false, none⟩, ⟨some 44, .call 104 [(.t 41), (.t 42), (.t 43)] false, none⟩, ⟨some 45, .bin .add (.t 40) (.t 44), none⟩, ⟨some 13, .mv (.t 45) true, none⟩])
  (.seq (.seq (.reg [⟨some 46, .mv (.t 13) false, none⟩, ⟨some 14, .mv (.t 46) true, none⟩])
  (.block 0 (L84_0)))
  (.seq (.reg [⟨some 8, .mv (.c (.int .i64 0)) true, none⟩, ⟨some 9, .mv (.c (.bool false)) true, none⟩])
  (.ret))))))), [.t 8, .t 9]⟩
theorem row84 : RowOk Tryz.prog 84 C84 := ⟨Tryz.f84, ⟨[], [], [], []⟩, lvOf [(0, [1, 2, 4, 12, 13, 14], 2)], Tryz.func84, by kernel_rfl, by kernel_rfl⟩
/-- swingbridge/swingbridgeref11.Token -/
def C85 : CFun := ⟨24, 3, .seq (.reg [⟨some 3, .box (.t 0), none⟩, ⟨some 6, .mv (.c (.int .i64 0)) true, none⟩, ⟨some 7, .mv (.c (.bool false)) true, none⟩])
  (.seq (.reg [⟨some 11, .load 4 true (.t 3) false, none⟩, ⟨some 12, .mv (.t 1) false, none⟩, ⟨some 13, .mv (.t 2) false, none⟩, ⟨some 14, .call 106 [(.t 11), (.t 12), (.t 13)] false, none⟩, ⟨some 10, .mv (.t 14) false, none⟩, ⟨some 15, .ext (.t 10) 0, none⟩, ⟨some 16, .ext (.t 10) 1, none⟩, ⟨some 8, .mv (.t 15) true, none⟩, ⟨some 9, .mv (.t 16) true, none⟩])
  (.seq (.seq (.reg [⟨some 17, .mv (.t 9) false, none⟩, ⟨some 18, .un .not (.t 17), none⟩])
  (.cond (.t 18) (.seq (.reg [⟨some 6, .mv (.c (.int .i64 0)) true, none⟩, ⟨some 7, .mv (.c (.bool false)) true, none⟩])
  (.ret))
  (.skip)))
  (.seq (.reg [⟨some 19, .mv (.t 8) false, none⟩, ⟨some 20, .load 4 true (.t 3) false, none⟩, ⟨some 21, .mv (.t 1) false, none⟩, ⟨some 22, .call 107 [(.t 20), (.t 21)] false, none⟩, ⟨some 23, .bin .add (.t 19) (.t 22), none⟩, ⟨some 6, .mv (.t 23) true, none⟩, ⟨some 7, .mv (.c (.bool true)) true, none⟩])
  (.ret)))), [.t 6, .t 7]⟩
theorem row85 : RowOk Tryz.prog 85 C85 := ⟨Tryz.f85, ⟨[], [], [], []⟩, lvOf [], Tryz.func85, by kernel_rfl, by kernel_rfl⟩
/-- swingbridge/bound.Own -/
def C87 : CFun := ⟨34, 3, .seq (.reg [⟨some 3, .box (.t 0), none⟩, ⟨some 6, .mv (.c (.int .i64 0)) true, none⟩, ⟨some 7, .mv (.c (.bool false)) true, none⟩])
  (.seq (.reg [⟨some 11, .load 4 true (.t 3) false, none⟩, ⟨some 12, .mv (.t 1) false, none⟩, ⟨some 13, .mv (.t 2) false, none⟩, ⟨some 14, .call 112 [(.t 11), (.t 12), (.t 13)] false, none⟩, ⟨some 10, .mv (.t 14) false, none⟩, ⟨some 15, .ext (.t 10) 0, none⟩, ⟨some 16, .ext (.t 10) 1, none⟩, ⟨some 8, .mv (.t 15) true, none⟩, ⟨some 9, .mv (.t 16) true, none⟩])
  (.seq (.seq (.reg [⟨some 17, .mv (.t 9) false, none⟩, ⟨some 18, .un .not (.t 17), none⟩])
  (.cond (.t 18) (.seq (.reg [⟨some 6, .mv (.c (.int .i64 0)) true, none⟩, ⟨some 7, .mv (.c (.bool false)) true, none⟩])
  (.ret))
  (.skip)))
  (.seq (.reg [⟨some 19, .fa 3 (.t 3), none⟩, ⟨some 20, .load 1 false (.t 19) false, none⟩, ⟨some 21, .mv (.t 2) false, none⟩, ⟨some 22, .ia 6 (.t 20) (.t 21), none⟩, ⟨some 23, .load 6 true (.t 22) false, none⟩, ⟨some 24, .call 46 [(.t 23)] false, none⟩, ⟨some 25, .fa 3 (.t 3), none⟩, ⟨some 26, .load 1 false (.t 25) false, none⟩, ⟨some 27, .mv (.t 2) false, none⟩, ⟨some 28, .ia 6 (.t 26) (.t 27), none⟩, ⟨some 29, .load 6 true (.t 28) false, none⟩, ⟨some 30, .call 47 [(.t 29)] false, none⟩, ⟨some 31, .bin .add (.t 24) (.t 30), none⟩, ⟨some 32, .mv (.t 8) false, none⟩, ⟨some 33, .bin .add (.t 31) (.t 32), none⟩, ⟨some 6, .mv (.t 33) true, none⟩, ⟨some 7, .mv (.c (.bool true)) true, none⟩])
  (.ret)))), [.t 6, .t 7]⟩
theorem row87 : RowOk Tryz.prog 87 C87 := ⟨Tryz.f87, ⟨[], [], [], []⟩, lvOf [], Tryz.func87, by kernel_rfl, by kernel_rfl⟩
def B88_0 : C := .seq (.reg [⟨some 50, .bin .lss (.t 49) (.t 48), none⟩])
  (.seq (.cond (.t 50) (.skip)
  (.exit 0))
  (.seq (.block 1 (.seq (.reg [⟨some 51, .mv (.t 49) false, none⟩, ⟨some 52, .ia 6 (.t 47) (.t 49), none⟩, ⟨some 53, .load 6 true (.t 52) false, none⟩, ⟨some 14, .alloc [(.string ⟨#[]⟩), (.int .i64 0), (.int .i64 0), (.int .i64 0), (.int .i64 0), (.slice none 0 0)], none⟩, ⟨some 13, .mv (.t 51) true, none⟩, ⟨none, .store 6 (.t 14) (.t 53), none⟩])
  (.seq (.seq (.reg [⟨some 54, .mv (.t 13) false, none⟩, ⟨some 55, .mv (.t 2) false, none⟩, ⟨some 56, .bin .eql (.t 54) (.t 55), none⟩])
  (.cond (.t 56) (.exit 1)
  (.skip)))
  (.reg [⟨some 57, .mv (.t 12) false, none⟩, ⟨some 58, .mv (.t 3) false, none⟩, ⟨some 59, .mv (.t 1) false, none⟩, ⟨some 60, .mv (.t 13) false, none⟩, ⟨some 61, .ia 1 (.t 59) (.t 60), none⟩, ⟨some 62, .load 1 false (.t 61) false, none⟩, ⟨some 63, .fa 1 (.t 14), none⟩, ⟨some 64, .load 1 false (.t 63) false, none⟩, ⟨some 65, .load 4 true (.t 4) false, none⟩, ⟨some 66, .mv (.t 2) false, none⟩, ⟨some 67, .mv (.t 13) false, none⟩, ⟨some 68, .call 115 [(.t 65), (.t 66), (.t 67)] false, none⟩, ⟨some 69, .call 114 [(.t 58), (.t 62), (.t 64), (.t 68)] false, none⟩, ⟨some 70, .bin .add (.t 57) (.t 69), none⟩, ⟨some 12, .mv (.t 70) true, none⟩]))))
  (.reg [⟨some 71, .bin .add (.t 49) (.c (.int .i64 1)), none⟩, ⟨some 49, .mv (.t 71) false, none⟩])))
def L88_0 : C := .loop [1, 2, 3, 4, 12, 47, 48, 49] 1 B88_0
theorem go88_0 (s : Env × Bx) (nb) : evL tab ext nb L88_0 s = (loopIn nb [1, 2, 3, 4, 12, 47, 48, 49] 1 s).bind fun s0 => (evL tab ext nb B88_0 s0).bind (seqG tab ext nb L88_0) := eL_loop _ _ _
/-- swingbridge/bound.Others -/
def C88 : CFun := ⟨84, 4, .seq (.reg [⟨some 4, .box (.t 0), none⟩, ⟨some 8, .mv (.c (.int .i64 0)) true, none⟩])
  (.scope (.seq (.reg [⟨some 16, .load 4 true (.t 4) false, none⟩, ⟨some 17, .call 17 [(.t 16)] false, none⟩, ⟨some 15, .mv (.t 17) false, none⟩, ⟨some 18, .ext (.t 15) 0, none⟩, ⟨some 19, .ext (.t 15) 1, none⟩, ⟨some 9, .mv (.t 18) true, none⟩, ⟨some 10, .mv (.t 19) true, none⟩])
  (.seq (.reg [⟨some 11, .mv (.f 113) true, none⟩])
  (.seq (.seq (.reg [⟨some 20, .mv (.t 10) false, none⟩, ⟨some 21, .bin .neq (.t 20) (.c (.int .i64 0)), none⟩, ⟨some 22, .mv (.t 21) false, none⟩, ⟨some 23, .mv (.t 2) false, some (22, false)⟩, ⟨some 24, .bin .lss (.t 23) (.c (.int .i64 0)), some (22, false)⟩, ⟨some 25, .pick (.t 22) (.c (.bool true)) (.t 24), none⟩, ⟨some 26, .mv (.t 25) false, none⟩, ⟨some 27, .mv (.t 2) false, some (26, false)⟩, ⟨some 28, .fa 3 (.t 4), some (26, false)⟩, ⟨some 29, .load 1 false (.t 28) false, some (26, false)⟩, ⟨some 30, .len (.t 29), some (26, false)⟩, ⟨some 31, .bin .geq (.t 27) (.t 30), some (26, false)⟩, ⟨some 32, .pick (.t 26) (.c (.bool true)) (.t 31), none⟩, ⟨some 33, .mv (.t 32) false, none⟩, ⟨some 34, .mv (.t 1) false, some (33, false)⟩, ⟨some 35, .len (.t 34), some (33, false)⟩, ⟨some 36, .fa 3 (.t 4), some (33, false)⟩, ⟨some 37, .load 1 false (.t 36) false, some (33, false)⟩, ⟨some 38, .len (.t 37), some (33, false)⟩, ⟨some 39, .bin .neq (.t 35) (.t 38), some (33, false)⟩, ⟨some 40, .pick (.t 33) (.c (.bool true)) (.t 39), none⟩, ⟨some 41, .mv (.t 40) false, none⟩, ⟨some 42, .mv (.t 1) false, some (41, false)⟩, ⟨some 43, .mv (.t 11) false, some (41, false)⟩, ⟨some 44, .calli 41 [(.t 42), (.t 43)], some (41, false)⟩, ⟨some 45, .pick (.t 41) (.c (.bool true)) (.t 44), none⟩])
  (.cond (.t 45) (.seq (.reg [⟨some 8, .mv (.c (.int .i64 0)) true, none⟩])
  (.ret))
  (.skip)))
  (.seq (.reg [⟨some 12, .mv (.c (.int .i64 0)) true, none⟩])
  (.seq (.skip)
  (.seq (.seq (.reg [⟨some 46, .fa 3 (.t 4), none⟩, ⟨some 47, .load 1 false (.t 46) false, none⟩, ⟨some 48, .len (.t 47), none⟩, ⟨some 49, .mv (.c (.int .i64 0)) false, none⟩])
  (.block 0 (L88_0)))
  (.seq (.reg [⟨some 72, .mv (.t 12) false, none⟩, ⟨some 73, .fa 1 (.t 4), none⟩, ⟨some 74, .load 1 false (.t 73) false, none⟩, ⟨some 75, .fa 3 (.t 4), none⟩, ⟨some 76, .load 1 false (.t 75) false, none⟩, ⟨some 77, .mv (.t 2) false, none⟩, ⟨some 78, .ia 6 (.t 76) (.t 77), none⟩, ⟨some 79, .fa 4 (.t 78), none⟩, ⟨some 80, .load 1 false (.t 79) false, none⟩, ⟨some 81, .ia 1 (.t 74) (.t 80), none⟩, ⟨some 82, .load 1 false (.t 81) false, none⟩, ⟨some 83, .bin .quo (.t 72) (.t 82), none⟩, ⟨some 8, .mv (.t 83) true, none⟩])
  (.ret))))))))), [.t 8]⟩
theorem row88 : RowOk Tryz.prog 88 C88 := ⟨Tryz.f88, ⟨[], [], [], []⟩, lvOf [(0, [1, 2, 3, 4, 12, 47, 48, 49], 1)], Tryz.func88, by kernel_rfl, by kernel_rfl⟩
/-- swingbridge/fair.locked -/
def C89 : CFun := ⟨58, 3, .seq (.reg [⟨some 3, .box (.t 0), none⟩, ⟨some 6, .alloc [(.int .i64 0), (.int .i64 0), (.int .i64 0)], none⟩, ⟨some 7, .mv (.c (.bool false)) true, none⟩])
  (.seq (.seq (.reg [⟨some 12, .load 4 true (.t 3) false, none⟩, ⟨some 13, .call 17 [(.t 12)] false, none⟩, ⟨some 11, .mv (.t 13) false, none⟩, ⟨some 14, .ext (.t 11) 0, none⟩, ⟨some 15, .ext (.t 11) 1, none⟩, ⟨some 8, .mv (.t 14) true, none⟩, ⟨some 9, .mv (.t 15) true, none⟩])
  (.seq (.reg [⟨some 16, .mv (.t 9) false, none⟩, ⟨some 17, .bin .neq (.t 16) (.c (.int .i64 0)), none⟩, ⟨some 18, .mv (.t 17) false, none⟩, ⟨some 19, .mv (.t 1) false, some (18, false)⟩, ⟨some 20, .bin .lss (.t 19) (.c (.int .i64 0)), some (18, false)⟩, ⟨some 21, .pick (.t 18) (.c (.bool true)) (.t 20), none⟩, ⟨some 22, .mv (.t 21) false, none⟩, ⟨some 23, .mv (.t 1) false, some (22, false)⟩, ⟨some 24, .fa 3 (.t 3), some (22, false)⟩, ⟨some 25, .load 1 false (.t 24) false, some (22, false)⟩, ⟨some 26, .len (.t 25), some (22, false)⟩, ⟨some 27, .bin .geq (.t 23) (.t 26), some (22, false)⟩, ⟨some 28, .pick (.t 22) (.c (.bool true)) (.t 27), none⟩, ⟨some 29, .mv (.t 28) false, none⟩, ⟨some 30, .mv (.t 2) false, some (29, false)⟩, ⟨some 31, .bin .lss (.t 30) (.c (.int .i64 0)), some (29, false)⟩, ⟨some 32, .pick (.t 29) (.c (.bool true)) (.t 31), none⟩, ⟨some 33, .mv (.t 32) false, none⟩, ⟨some 34, .mv (.t 2) false, some (33, false)⟩, ⟨some 35, .fa 3 (.t 3), some (33, false)⟩, ⟨some 36, .load 1 false (.t 35) false, some (33, false)⟩, ⟨some 37, .mv (.t 1) false, some (33, false)⟩, ⟨some 38, .ia 6 (.t 36) (.t 37), some (33, false)⟩, ⟨some 39, .fa 5 (.t 38), some (33, false)⟩, ⟨some 40, .load 1 false (.t 39) false, some (33, false)⟩, ⟨some 41, .len (.t 40), some (33, false)⟩, ⟨some 42, .bin .geq (.t 34) (.t 41), some (33, false)⟩, ⟨some 43, .pick (.t 33) (.c (.bool true)) (.t 42), none⟩])
  (.cond (.t 43) (.seq (.reg [⟨some 44, .build [(.int .i64 0), (.int .i64 0), (.int .i64 0)] [], none⟩, ⟨none, .store 3 (.t 6) (.t 44), none⟩, ⟨some 7, .mv (.c (.bool false)) true, none⟩])
  (.ret))
  (.skip))))
  (.seq (.reg [⟨some 45, .fa 3 (.t 3), none⟩, ⟨some 46, .load 1 false (.t 45) false, none⟩, ⟨some 47, .mv (.t 1) false, none⟩, ⟨some 48, .ia 6 (.t 46) (.t 47), none⟩, ⟨some 49, .fa 5 (.t 48), none⟩, ⟨some 50, .load 1 false (.t 49) false, none⟩, ⟨some 51, .mv (.t 2) false, none⟩, ⟨some 52, .ia 3 (.t 50) (.t 51), none⟩, ⟨some 53, .load 3 true (.t 52) false, none⟩, ⟨some 10, .alloc [(.int .i64 0), (.int .i64 0), (.int .i64 0)], none⟩, ⟨none, .store 3 (.t 10) (.t 53), none⟩])
  (.seq (.dreg [(55, 10)] [(6, 10)] [⟨some 54, .load 3 true (.t 10) false, none⟩, ⟨some 55, .fa 0 (.t 10), none⟩, ⟨some 56, .load 1 false (.t 55) false, none⟩, ⟨some 57, .bin .eql (.t 56) (.c (.int .i64 3)), none⟩, ⟨none, .store 3 (.t 6) (.t 54), none⟩, ⟨some 7, .mv (.t 57) true, none⟩])
  (.ret)))), [.cell 6 3, .t 7]⟩
theorem row89 : RowOk Tryz.prog 89 C89 := ⟨Tryz.f89, ⟨[], [], [], []⟩, lvOf [], Tryz.func89, by kernel_rfl, by kernel_rfl⟩
def B90_0 : C := .seq (.reg [⟨some 32, .bin .lss (.t 31) (.t 30), none⟩])
  (.seq (.cond (.t 32) (.skip)
  (.exit 0))
  (.seq (.block 1 (.seq (.reg [⟨some 33, .mv (.t 31) false, none⟩, ⟨some 34, .ia 6 (.t 29) (.t 31), none⟩, ⟨some 35, .load 6 true (.t 34) false, none⟩, ⟨some 9, .alloc [(.string ⟨#[]⟩), (.int .i64 0), (.int .i64 0), (.int .i64 0), (.int .i64 0), (.slice none 0 0)], none⟩, ⟨some 8, .mv (.t 33) true, none⟩, ⟨none, .store 6 (.t 9) (.t 35), none⟩])
  (.seq (.seq (.reg [⟨some 36, .mv (.t 8) false, none⟩, ⟨some 37, .mv (.t 1) false, none⟩, ⟨some 38, .bin .eql (.t 36) (.t 37), none⟩, ⟨some 39, .mv (.t 38) false, none⟩, ⟨some 40, .load 6 true (.t 9) false, some (39, false)⟩, ⟨some 41, .call 116 [(.t 40)] false, some (39, false)⟩, ⟨some 42, .bin .eql (.t 41) (.c (.int .i64 0)), some (39, false)⟩, ⟨some 43, .pick (.t 39) (.c (.bool true)) (.t 42), none⟩])
  (.cond (.t 43) (.exit 1)
  (.skip)))
  (.reg [⟨some 44, .mv (.t 5) true, none⟩, ⟨some 45, .load 6 true (.t 9) false, none⟩, ⟨some 46, .call 116 [(.t 45)] false, none⟩, ⟨some 47, .bsl 1 1 [(.int .i64 0)] [(0, 1, (.t 46))] false, none⟩, ⟨some 48, .app 1 8 (.t 44) (.t 47) false, none⟩, ⟨some 5, .mv (.t 48) true, none⟩]))))
  (.reg [⟨some 49, .bin .add (.t 31) (.c (.int .i64 1)), none⟩, ⟨some 31, .mv (.t 49) false, none⟩])))
def L90_0 : C := .loop [1, 5, 29, 30, 31] 1 B90_0
theorem go90_0 (s : Env × Bx) (nb) : evL tab ext nb L90_0 s = (loopIn nb [1, 5, 29, 30, 31] 1 s).bind fun s0 => (evL tab ext nb B90_0 s0).bind (seqG tab ext nb L90_0) := eL_loop _ _ _
/-- swingbridge/fair.others -/
def C90 : CFun := ⟨51, 2, .seq (.reg [⟨some 2, .box (.t 0), none⟩, ⟨some 4, .mv (.c (.slice none 0 0)) true, none⟩])
  (.scope (.seq (.reg [⟨some 5, .mv (.c (.slice none 0 0)) true, none⟩])
  (.seq (.seq (.reg [⟨some 11, .load 4 true (.t 2) false, none⟩, ⟨some 12, .call 17 [(.t 11)] false, none⟩, ⟨some 10, .mv (.t 12) false, none⟩, ⟨some 13, .ext (.t 10) 0, none⟩, ⟨some 14, .ext (.t 10) 1, none⟩, ⟨some 6, .mv (.t 13) true, none⟩, ⟨some 7, .mv (.t 14) true, none⟩])
  (.seq (.reg [⟨some 15, .mv (.t 7) false, none⟩, ⟨some 16, .bin .neq (.t 15) (.c (.int .i64 0)), none⟩, ⟨some 17, .mv (.t 16) false, none⟩, ⟨some 18, .mv (.t 1) false, some (17, false)⟩, ⟨some 19, .bin .lss (.t 18) (.c (.int .i64 0)), some (17, false)⟩, ⟨some 20, .pick (.t 17) (.c (.bool true)) (.t 19), none⟩, ⟨some 21, .mv (.t 20) false, none⟩, ⟨some 22, .mv (.t 1) false, some (21, false)⟩, ⟨some 23, .fa 3 (.t 2), some (21, false)⟩, ⟨some 24, .load 1 false (.t 23) false, some (21, false)⟩, ⟨some 25, .len (.t 24), some (21, false)⟩, ⟨some 26, .bin .geq (.t 22) (.t 25), some (21, false)⟩, ⟨some 27, .pick (.t 21) (.c (.bool true)) (.t 26), none⟩])
  (.cond (.t 27) (.seq (.reg [⟨some 4, .mv (.c (.slice none 0 0)) true, none⟩])
  (.ret))
  (.skip))))
  (.seq (.skip)
  (.seq (.seq (.reg [⟨some 28, .fa 3 (.t 2), none⟩, ⟨some 29, .load 1 false (.t 28) false, none⟩, ⟨some 30, .len (.t 29), none⟩, ⟨some 31, .mv (.c (.int .i64 0)) false, none⟩])
  (.block 0 (L90_0)))
  (.seq (.reg [⟨some 50, .mv (.t 5) false, none⟩, ⟨some 4, .mv (.t 50) true, none⟩])
  (.ret))))))), [.t 4]⟩
theorem row90 : RowOk Tryz.prog 90 C90 := ⟨Tryz.f90, ⟨[], [], [], []⟩, lvOf [(0, [1, 5, 29, 30, 31], 1)], Tryz.func90, by kernel_rfl, by kernel_rfl⟩
def B91_0 : C := .seq (.reg [⟨some 13, .bin .lss (.t 12) (.t 11), none⟩])
  (.seq (.cond (.t 13) (.skip)
  (.exit 0))
  (.seq (.block 1 (.seq (.reg [⟨some 14, .ia 1 (.t 10) (.t 12), none⟩, ⟨some 15, .load 1 false (.t 14) false, none⟩, ⟨some 7, .mv (.t 15) true, none⟩])
  (.reg [⟨some 16, .mv (.t 5) false, none⟩, ⟨some 17, .mv (.t 7) false, none⟩, ⟨some 18, .bin .add (.t 16) (.t 17), none⟩, ⟨some 5, .mv (.t 18) true, none⟩])))
  (.reg [⟨some 19, .bin .add (.t 12) (.c (.int .i64 1)), none⟩, ⟨some 12, .mv (.t 19) false, none⟩])))
def L91_0 : C := .loop [5, 10, 11, 12] 0 B91_0
theorem go91_0 (s : Env × Bx) (nb) : evL tab ext nb L91_0 s = (loopIn nb [5, 10, 11, 12] 0 s).bind fun s0 => (evL tab ext nb B91_0 s0).bind (seqG tab ext nb L91_0) := eL_loop _ _ _
/-- swingbridge/sorted.Sum -/
def C91 : CFun := ⟨21, 2, .seq (.reg [⟨some 4, .mv (.c (.int .i64 0)) true, none⟩])
  (.seq (.reg [⟨some 5, .mv (.c (.int .i64 0)) true, none⟩])
  (.seq (.seq (.reg [⟨some 8, .mv (.t 0) false, none⟩, ⟨some 9, .mv (.t 1) false, none⟩, ⟨some 10, .call 117 [(.t 8), (.t 9)] false, none⟩, ⟨some 11, .len (.t 10), none⟩, ⟨some 12, .mv (.c (.int .i64 0)) false, none⟩])
  (.block 0 (L91_0)))
  (.seq (.reg [⟨some 20, .mv (.t 5) false, none⟩, ⟨some 4, .mv (.t 20) true, none⟩])
  (.ret)))), [.t 4]⟩
theorem row91 : RowOk Tryz.prog 91 C91 := ⟨Tryz.f91, ⟨[], [], [], []⟩, lvOf [(0, [5, 10, 11, 12], 0)], Tryz.func91, by kernel_rfl, by kernel_rfl⟩
/-- swingbridge/agent.there -/
def C92 : CFun := ⟨25, 2, .seq (.reg [⟨some 2, .box (.t 0), none⟩, ⟨some 4, .mv (.c (.bool false)) true, none⟩])
  (.seq (.reg [⟨some 8, .load 4 true (.t 2) false, none⟩, ⟨some 9, .call 17 [(.t 8)] false, none⟩, ⟨some 7, .mv (.t 9) false, none⟩, ⟨some 10, .ext (.t 7) 0, none⟩, ⟨some 11, .ext (.t 7) 1, none⟩, ⟨some 5, .mv (.t 10) true, none⟩, ⟨some 6, .mv (.t 11) true, none⟩])
  (.seq (.reg [⟨some 12, .mv (.t 6) false, none⟩, ⟨some 13, .bin .eql (.t 12) (.c (.int .i64 0)), none⟩, ⟨some 14, .mv (.t 13) false, none⟩, ⟨some 15, .mv (.t 1) false, some (14, true)⟩, ⟨some 16, .bin .geq (.t 15) (.c (.int .i64 0)), some (14, true)⟩, ⟨some 17, .pick (.t 14) (.t 16) (.c (.bool false)), none⟩, ⟨some 18, .mv (.t 17) false, none⟩, ⟨some 19, .mv (.t 1) false, some (18, true)⟩, ⟨some 20, .fa 3 (.t 2), some (18, true)⟩, ⟨some 21, .load 1 false (.t 20) false, some (18, true)⟩, ⟨some 22, .len (.t 21), some (18, true)⟩, ⟨some 23, .bin .lss (.t 19) (.t 22), some (18, true)⟩, ⟨some 24, .pick (.t 18) (.t 23) (.c (.bool false)), none⟩, ⟨some 4, .mv (.t 24) true, none⟩])
  (.ret))), [.t 4]⟩
theorem row92 : RowOk Tryz.prog 92 C92 := ⟨Tryz.f92, ⟨[], [], [], []⟩, lvOf [], Tryz.func92, by kernel_rfl, by kernel_rfl⟩
def B93_0 : C := .seq (.reg [⟨some 18, .bin .lss (.t 17) (.t 16), none⟩])
  (.seq (.cond (.t 18) (.skip)
  (.exit 0))
  (.seq (.block 1 (.seq (.reg [⟨some 19, .mv (.t 17) false, none⟩, ⟨some 20, .ia 6 (.t 15) (.t 17), none⟩, ⟨some 21, .load 6 true (.t 20) false, none⟩, ⟨some 9, .alloc [(.string ⟨#[]⟩), (.int .i64 0), (.int .i64 0), (.int .i64 0), (.int .i64 0), (.slice none 0 0)], none⟩, ⟨some 8, .mv (.t 19) true, none⟩, ⟨none, .store 6 (.t 9) (.t 21), none⟩])
  (.seq (.seq (.reg [⟨some 22, .fa 3 (.t 9), none⟩, ⟨some 23, .load 1 false (.t 22) false, none⟩, ⟨some 24, .fa 3 (.t 3), none⟩, ⟨some 25, .load 1 false (.t 24) false, none⟩, ⟨some 26, .mv (.t 1) false, none⟩, ⟨some 27, .ia 6 (.t 25) (.t 26), none⟩, ⟨some 28, .fa 3 (.t 27), none⟩, ⟨some 29, .load 1 false (.t 28) false, none⟩, ⟨some 30, .bin .leq (.t 23) (.t 29), none⟩])
  (.cond (.t 30) (.exit 1)
  (.skip)))
  (.reg [⟨some 31, .mv (.t 7) false, none⟩, ⟨some 32, .load 4 true (.t 3) false, none⟩, ⟨some 33, .mv (.t 8) false, none⟩, ⟨some 34, .mv (.t 2) false, none⟩, ⟨some 35, .call 118 [(.t 32), (.t 33), (.t 34)] false, none⟩, ⟨some 36, .mxn true [(.t 31), (.t 35)], none⟩, ⟨some 7, .mv (.t 36) true, none⟩]))))
  (.reg [⟨some 37, .bin .add (.t 17) (.c (.int .i64 1)), none⟩, ⟨some 17, .mv (.t 37) false, none⟩])))
def L93_0 : C := .loop [1, 2, 3, 7, 15, 16, 17] 1 B93_0
theorem go93_0 (s : Env × Bx) (nb) : evL tab ext nb L93_0 s = (loopIn nb [1, 2, 3, 7, 15, 16, 17] 1 s).bind fun s0 => (evL tab ext nb B93_0 s0).bind (seqG tab ext nb L93_0) := eL_loop _ _ _
/-- swingbridge/agent.Lower -/
def C93 : CFun := ⟨39, 3, .seq (.reg [⟨some 3, .box (.t 0), none⟩, ⟨some 6, .mv (.c (.int .i64 0)) true, none⟩])
  (.scope (.seq (.reg [⟨some 7, .mv (.c (.int .i64 0)) true, none⟩])
  (.seq (.seq (.reg [⟨some 10, .load 4 true (.t 3) false, none⟩, ⟨some 11, .mv (.t 1) false, none⟩, ⟨some 12, .call 92 [(.t 10), (.t 11)] false, none⟩, ⟨some 13, .un .not (.t 12), none⟩])
  (.cond (.t 13) (.seq (.reg [⟨some 6, .mv (.c (.int .i64 0)) true, none⟩])
  (.ret))
  (.skip)))
  (.seq (.skip)
  (.seq (.seq (.reg [⟨some 14, .fa 3 (.t 3), none⟩, ⟨some 15, .load 1 false (.t 14) false, none⟩, ⟨some 16, .len (.t 15), none⟩, ⟨some 17, .mv (.c (.int .i64 0)) false, none⟩])
  (.block 0 (L93_0)))
  (.seq (.reg [⟨some 38, .mv (.t 7) false, none⟩, ⟨some 6, .mv (.t 38) true, none⟩])
  (.ret))))))), [.t 6]⟩
theorem row93 : RowOk Tryz.prog 93 C93 := ⟨Tryz.f93, ⟨[], [], [], []⟩, lvOf [(0, [1, 2, 3, 7, 15, 16, 17], 1)], Tryz.func93, by kernel_rfl, by kernel_rfl⟩
def B94_0 : C := .seq (.reg [⟨some 30, .bin .lss (.t 29) (.t 28), none⟩])
  (.seq (.cond (.t 30) (.skip)
  (.exit 0))
  (.seq (.block 1 (.seq (.reg [⟨some 31, .mv (.t 29) false, none⟩, ⟨some 32, .ia 6 (.t 27) (.t 29), none⟩, ⟨some 33, .load 6 true (.t 32) false, none⟩, ⟨some 13, .alloc [(.string ⟨#[]⟩), (.int .i64 0), (.int .i64 0), (.int .i64 0), (.int .i64 0), (.slice none 0 0)], none⟩, ⟨some 12, .mv (.t 31) true, none⟩, ⟨none, .store 6 (.t 13) (.t 33), none⟩])
  (.seq (.reg [⟨some 34, .fa 3 (.t 13), none⟩, ⟨some 35, .load 1 false (.t 34) false, none⟩, ⟨some 36, .fa 3 (.t 5), none⟩, ⟨some 37, .load 1 false (.t 36) false, none⟩, ⟨some 38, .mv (.t 2) false, none⟩, ⟨some 39, .ia 6 (.t 37) (.t 38), none⟩, ⟨some 40, .fa 3 (.t 39), none⟩, ⟨some 41, .load 1 false (.t 40) false, none⟩, ⟨some 42, .bin .lss (.t 35) (.t 41), none⟩])
  (.cond (.t 42) (.reg [⟨some 43, .mv (.t 11) false, none⟩, ⟨some 44, .mv (.t 4) false, none⟩, ⟨some 45, .mv (.t 1) false, none⟩, ⟨some 46, .mv (.t 12) false, none⟩, ⟨some 47, .ia 1 (.t 45) (.t 46), none⟩, ⟨some 48, .load 1 false (.t 47) false, none⟩, ⟨some 49, .fa 1 (.t 13), none⟩, ⟨some 50, .load 1 false (.t 49) false, none⟩, ⟨some 51, .load 4 true (.t 5) false, none⟩, ⟨some 52, .mv (.t 12) false, none⟩, ⟨some 53, .mv (.t 3) false, none⟩, ⟨some 54, .call 119 [(.t 51), (.t 52), (.t 53)] false, none⟩, ⟨some 55, .call 114 [(.t 44), (.t 48), (.t 50), (.t 54)] false, none⟩, ⟨some 56, .bin .add (.t 43) (.t 55), none⟩, ⟨some 11, .mv (.t 56) true, none⟩])
  (.skip)))))
  (.reg [⟨some 57, .bin .add (.t 29) (.c (.int .i64 1)), none⟩, ⟨some 29, .mv (.t 57) false, none⟩])))
def L94_0 : C := .loop [1, 2, 3, 4, 5, 11, 27, 28, 29] 1 B94_0
theorem go94_0 (s : Env × Bx) (nb) : evL tab ext nb L94_0 s = (loopIn nb [1, 2, 3, 4, 5, 11, 27, 28, 29] 1 s).bind fun s0 => (evL tab ext nb B94_0 s0).bind (seqG tab ext nb L94_0) := eL_loop _ _ _
/-- swingbridge/agent.Higher -/
def C94 : CFun := ⟨60, 5, .seq (.reg [⟨some 5, .box (.t 0), none⟩, ⟨some 10, .mv (.c (.int .i64 0)) true, none⟩])
  (.seq (.reg [⟨some 11, .mv (.c (.int .i64 0)) true, none⟩])
  (.seq (.seq (.reg [⟨some 14, .load 4 true (.t 5) false, none⟩, ⟨some 15, .mv (.t 2) false, none⟩, ⟨some 16, .call 92 [(.t 14), (.t 15)] false, none⟩, ⟨some 17, .un .not (.t 16), none⟩, ⟨some 18, .mv (.t 17) false, none⟩, ⟨some 19, .mv (.t 1) false, some (18, false)⟩, ⟨some 20, .len (.t 19), some (18, false)⟩, ⟨some 21, .fa 3 (.t 5), some (18, false)⟩, ⟨some 22, .load 1 false (.t 21) false, some (18, false)⟩, ⟨some 23, .len (.t 22), some (18, false)⟩, ⟨some 24, .bin .neq (.t 20) (.t 23), some (18, false)⟩, ⟨some 25, .pick (.t 18) (.c (.bool true)) (.t 24), none⟩])
  (.cond (.t 25) (.seq (.reg [⟨some 10, .mv (.c (.int .i64 0)) true, none⟩])
  (.ret))
  (.skip)))
  (.seq (.seq (.reg [⟨some 26, .fa 3 (.t 5), none⟩, ⟨some 27, .load 1 false (.t 26) false, none⟩, ⟨some 28, .len (.t 27), none⟩, ⟨some 29, .mv (.c (.int .i64 0)) false, none⟩])
  (.block 0 (L94_0)))
  (.seq (.reg [⟨some 58, .mv (.t 11) false, none⟩, ⟨some 59, .mxn false [(.t 58), (.c (.int .i64 1000000))], none⟩, ⟨some 10, .mv (.t 59) true, none⟩])
  (.ret))))), [.t 10]⟩
theorem row94 : RowOk Tryz.prog 94 C94 := ⟨Tryz.f94, ⟨[], [], [], []⟩, lvOf [(0, [1, 2, 3, 4, 5, 11, 27, 28, 29], 1)], Tryz.func94, by kernel_rfl, by kernel_rfl⟩
/-- swingbridge/token.Inside -/
def C95 : CFun := ⟨46, 3, .seq (.reg [⟨some 3, .box (.t 0), none⟩, ⟨some 6, .mv (.c (.int .i64 0)) true, none⟩, ⟨some 7, .mv (.c (.bool false)) true, none⟩])
  (.seq (.seq (.reg [⟨some 9, .load 4 true (.t 3) false, none⟩, ⟨some 10, .mv (.t 1) false, none⟩, ⟨some 11, .call 120 [(.t 9), (.t 10)] false, none⟩, ⟨some 12, .un .not (.t 11), none⟩, ⟨some 13, .mv (.t 12) false, none⟩, ⟨some 14, .mv (.t 2) false, some (13, false)⟩, ⟨some 15, .bin .lss (.t 14) (.c (.int .i64 0)), some (13, false)⟩, ⟨some 16, .pick (.t 13) (.c (.bool true)) (.t 15), none⟩, ⟨some 17, .mv (.t 16) false, none⟩, ⟨some 18, .mv (.t 2) false, some (17, false)⟩, ⟨some 19, .fa 3 (.t 3), some (17, false)⟩, ⟨some 20, .load 1 false (.t 19) false, some (17, false)⟩, ⟨some 21, .mv (.t 1) false, some (17, false)⟩, ⟨some 22, .ia 6 (.t 20) (.t 21), some (17, false)⟩, ⟨some 23, .fa 5 (.t 22), some (17, false)⟩, ⟨some 24, .load 1 false (.t 23) false, some (17, false)⟩, ⟨some 25, .len (.t 24), some (17, false)⟩, ⟨some 26, .bin .geq (.t 18) (.t 25), some (17, false)⟩, ⟨some 27, .pick (.t 17) (.c (.bool true)) (.t 26), none⟩])
  (.cond (.t 27) (.seq (.reg [⟨some 6, .mv (.c (.int .i64 0)) true, none⟩, ⟨some 7, .mv (.c (.bool false)) true, none⟩])
  (.ret))
  (.skip)))
  (.seq (.reg [⟨some 28, .fa 3 (.t 3), none⟩, ⟨some 29, .load 1 false (.t 28) false, none⟩, ⟨some 30, .mv (.t 1) false, none⟩, ⟨some 31, .ia 6 (.t 29) (.t 30), none⟩, ⟨some 32, .fa 5 (.t 31), none⟩, ⟨some 33, .load 1 false (.t 32) false, none⟩, ⟨some 34, .mv (.t 2) false, none⟩, ⟨some 35, .ia 3 (.t 33) (.t 34), none⟩, ⟨some 36, .load 3 true (.t 35) false, none⟩, ⟨some 8, .alloc [(.int .i64 0), (.int .i64 0), (.int .i64 0)], none⟩, ⟨none, .store 3 (.t 8) (.t 36), none⟩])
  (.seq (.seq (.reg [⟨some 37, .fa 0 (.t 8), none⟩, ⟨some 38, .load 1 false (.t 37) false, none⟩, ⟨some 39, .bin .neq (.t 38) (.c (.int .i64 3)), none⟩])
  (.cond (.t 39) (.seq (.reg [⟨some 6, .mv (.c (.int .i64 0)) true, none⟩, ⟨some 7, .mv (.c (.bool false)) true, none⟩])
  (.ret))
  (.skip)))
  (.seq (.reg [⟨some 40, .fa 1 (.t 8), none⟩, ⟨some 41, .load 1 false (.t 40) false, none⟩, ⟨some 42, .load 4 true (.t 3) false, none⟩, ⟨some 43, .mv (.t 1) false, none⟩, ⟨some 44, .call 121 [(.t 42), (.t 43)] false, none⟩, ⟨some 45, .bin .add (.t 41) (.t 44), none⟩, ⟨some 6, .mv (.t 45) true, none⟩, ⟨some 7, .mv (.c (.bool true)) true, none⟩])
  (.ret))))), [.t 6, .t 7]⟩
theorem row95 : RowOk Tryz.prog 95 C95 := ⟨Tryz.f95, ⟨[], [], [], []⟩, lvOf [], Tryz.func95, by kernel_rfl, by kernel_rfl⟩
def B96_0 : C := .seq (.reg [⟨some 40, .bin .lss (.t 39) (.t 38), none⟩])
  (.seq (.cond (.t 40) (.skip)
  (.exit 0))
  (.seq (.block 1 (.seq (.reg [⟨some 41, .mv (.t 39) false, none⟩, ⟨some 42, .ia 6 (.t 37) (.t 39), none⟩, ⟨some 43, .load 6 true (.t 42) false, none⟩, ⟨some 9, .alloc [(.string ⟨#[]⟩), (.int .i64 0), (.int .i64 0), (.int .i64 0), (.int .i64 0), (.slice none 0 0)], none⟩, ⟨some 8, .mv (.t 41) true, none⟩, ⟨none, .store 6 (.t 9) (.t 43), none⟩])
  (.seq (.reg [⟨some 44, .fa 4 (.t 9), none⟩, ⟨some 45, .load 1 false (.t 44) false, none⟩, ⟨some 46, .mv (.t 5) false, none⟩, ⟨some 47, .bin .eql (.t 45) (.t 46), none⟩, ⟨some 48, .mv (.t 47) false, none⟩, ⟨some 49, .load 6 true (.t 9) false, some (48, true)⟩, ⟨some 50, .call 116 [(.t 49)] false, some (48, true)⟩, ⟨some 51, .bin .gtr (.t 50) (.c (.int .i64 0)), some (48, true)⟩, ⟨some 52, .pick (.t 48) (.t 51) (.c (.bool false)), none⟩])
  (.cond (.t 52) (.reg [⟨some 53, .mv (.t 7) false, none⟩, ⟨some 54, .load 6 true (.t 9) false, none⟩, ⟨some 55, .call 116 [(.t 54)] false, none⟩, ⟨some 56, .load 4 true (.t 2) false, none⟩, ⟨some 57, .mv (.t 8) false, none⟩, ⟨some 58, .call 121 [(.t 56), (.t 57)] false, none⟩, ⟨some 59, .bin .add (.t 55) (.t 58), none⟩, ⟨some 60, .mxn true [(.t 53), (.t 59)], none⟩, ⟨some 7, .mv (.t 60) true, none⟩])
  (.skip)))))
  (.reg [⟨some 61, .bin .add (.t 39) (.c (.int .i64 1)), none⟩, ⟨some 39, .mv (.t 61) false, none⟩])))
def L96_0 : C := .loop [2, 5, 6, 7, 37, 38, 39] 1 B96_0
theorem go96_0 (s : Env × Bx) (nb) : evL tab ext nb L96_0 s = (loopIn nb [2, 5, 6, 7, 37, 38, 39] 1 s).bind fun s0 => (evL tab ext nb B96_0 s0).bind (seqG tab ext nb L96_0) := eL_loop _ _ _
/-- swingbridge/token.Outside -/
def C96 : CFun := ⟨76, 2, .seq (.reg [⟨some 2, .box (.t 0), none⟩, ⟨some 4, .mv (.c (.int .i64 0)) true, none⟩])
  (.seq (.seq (.reg [⟨some 12, .load 4 true (.t 2) false, none⟩, ⟨some 13, .mv (.t 1) false, none⟩, ⟨some 14, .call 120 [(.t 12), (.t 13)] false, none⟩, ⟨some 15, .un .not (.t 14), none⟩, ⟨some 16, .mv (.t 15) false, none⟩, ⟨some 17, .fa 3 (.t 2), some (16, false)⟩, ⟨some 18, .load 1 false (.t 17) false, some (16, false)⟩, ⟨some 19, .mv (.t 1) false, some (16, false)⟩, ⟨some 20, .ia 6 (.t 18) (.t 19), some (16, false)⟩, ⟨some 21, .load 6 true (.t 20) false, some (16, false)⟩, ⟨some 22, .call 116 [(.t 21)] false, some (16, false)⟩, ⟨some 23, .bin .eql (.t 22) (.c (.int .i64 0)), some (16, false)⟩, ⟨some 24, .pick (.t 16) (.c (.bool true)) (.t 23), none⟩])
  (.cond (.t 24) (.seq (.reg [⟨some 4, .mv (.c (.int .i64 0)) true, none⟩])
  (.ret))
  (.skip)))
  (.seq (.reg [⟨some 25, .fa 3 (.t 2), none⟩, ⟨some 26, .load 1 false (.t 25) false, none⟩, ⟨some 27, .mv (.t 1) false, none⟩, ⟨some 28, .ia 6 (.t 26) (.t 27), none⟩, ⟨some 29, .fa 4 (.t 28), none⟩, ⟨some 30, .load 1 false (.t 29) false, none⟩, ⟨some 5, .mv (.t 30) true, none⟩])
  (.seq (.reg [⟨some 31, .fa 1 (.t 2), none⟩, ⟨some 32, .load 1 false (.t 31) false, none⟩, ⟨some 33, .mv (.t 5) false, none⟩, ⟨some 34, .ia 1 (.t 32) (.t 33), none⟩, ⟨some 35, .load 1 false (.t 34) false, none⟩, ⟨some 6, .mv (.t 35) true, none⟩])
  (.seq (.reg [⟨some 7, .mv (.c (.int .i64 0)) true, none⟩])
  (.seq (.seq (.reg [⟨some 36, .fa 3 (.t 2), none⟩, ⟨some 37, .load 1 false (.t 36) false, none⟩, ⟨some 38, .len (.t 37), none⟩, ⟨some 39, .mv (.c (.int .i64 0)) false, none⟩])
  (.block 0 (L96_0)))
  (.seq (.reg [⟨some 63, .load 4 true (.t 2) false, none⟩, ⟨some 64, .mv (.t 5) false, none⟩, ⟨some 65, .call 123 [(.t 63), (.t 64)] false, none⟩, ⟨some 66, .mv (.t 6) false, none⟩, ⟨some 67, .bin .sub (.t 65) (.t 66), none⟩, ⟨some 68, .mxn true [(.t 67), (.c (.int .i64 0))], none⟩, ⟨some 69, .mv (.t 6) false, none⟩, ⟨some 70, .call 122 [(.t 68), (.t 69)] false, none⟩, ⟨some 62, .mv (.t 70) false, none⟩, ⟨some 71, .ext (.t 62) 0, none⟩, ⟨some 72, .ext (.t 62) 1, none⟩, ⟨some 10, .mv (.t 71) true, none⟩, ⟨some 11, .mv (.t 72) true, none⟩])
  (.seq (.reg [⟨some 73, .mv (.t 10) false, none⟩, ⟨some 74, .mv (.t 7) false, none⟩, ⟨some 75, .bin .mul (.t 73) (.t 74), none⟩, ⟨some 4, .mv (.t 75) true, none⟩])
  (.ret)))))))), [.t 4]⟩
theorem row96 : RowOk Tryz.prog 96 C96 := ⟨Tryz.f96, ⟨[], [], [], []⟩, lvOf [(0, [2, 5, 6, 7, 37, 38, 39], 1)], Tryz.func96, by kernel_rfl, by kernel_rfl⟩
def B98_0 : C := .seq (.seq (.reg [⟨some 19, .mv (.t 11) false, none⟩, ⟨some 20, .mv (.t 8) false, none⟩, ⟨some 21, .len (.t 20), none⟩, ⟨some 22, .bin .lss (.t 19) (.t 21), none⟩])
  (.cond (.t 22) (.skip)
  (.exit 0)))
  (.seq (.block 1 (.reg [⟨some 25, .mv (.t 10) false, none⟩, ⟨some 26, .mv (.t 8) false, none⟩, ⟨some 27, .mv (.t 11) false, none⟩, ⟨some 28, .ia 1 (.t 26) (.t 27), none⟩, ⟨some 29, .load 1 false (.t 28) false, none⟩, ⟨some 30, .bin .add (.t 25) (.t 29), none⟩, ⟨some 10, .mv (.t 30) true, none⟩]))
  (.reg [⟨some 23, .mv (.t 11) false, none⟩, ⟨some 24, .bin .add (.t 23) (.c (.int .i64 1)), none⟩, ⟨some 11, .mv (.t 24) true, none⟩]))
def L98_0 : C := .loop [8, 9, 10, 11] 1 B98_0
theorem go98_0 (s : Env × Bx) (nb) : evL tab ext nb L98_0 s = (loopIn nb [8, 9, 10, 11] 1 s).bind fun s0 => (evL tab ext nb B98_0 s0).bind (seqG tab ext nb L98_0) := eL_loop _ _ _
/-- swingbridge/swingbridgeref11.WaitSum -/
def C98 : CFun := ⟨33, 3, .seq (.reg [⟨some 3, .box (.t 0), none⟩, ⟨some 6, .mv (.c (.int .i64 0)) true, none⟩, ⟨some 7, .mv (.c (.bool false)) true, none⟩])
  (.seq (.reg [⟨some 13, .load 4 true (.t 3) false, none⟩, ⟨some 14, .mv (.t 1) false, none⟩, ⟨some 15, .mv (.t 2) false, none⟩, ⟨some 16, .call 37 [(.t 13), (.t 14), (.t 15)] false, none⟩, ⟨some 12, .mv (.t 16) false, none⟩, ⟨some 17, .ext (.t 12) 0, none⟩, ⟨some 18, .ext (.t 12) 1, none⟩, ⟨some 8, .mv (.t 17) true, none⟩, ⟨some 9, .mv (.t 18) true, none⟩])
  (.seq (.reg [⟨some 10, .mv (.c (.int .i64 0)) true, none⟩])
  (.seq (.seq (.reg [⟨some 11, .mv (.c (.int .i64 0)) true, none⟩])
  (.block 0 (L98_0)))
  (.seq (.reg [⟨some 31, .mv (.t 10) false, none⟩, ⟨some 32, .mv (.t 9) false, none⟩, ⟨some 6, .mv (.t 31) true, none⟩, ⟨some 7, .mv (.t 32) true, none⟩])
  (.ret))))), [.t 6, .t 7]⟩
theorem row98 : RowOk Tryz.prog 98 C98 := ⟨Tryz.f98, ⟨[], [], [], []⟩, lvOf [(0, [8, 9, 10, 11], 1)], Tryz.func98, by kernel_rfl, by kernel_rfl⟩
/-- swingbridge/swingbridgeref11.Work -/
def C99 : CFun := ⟨18, 4, .seq (.reg [⟨some 8, .mv (.c (.int .i64 0)) true, none⟩])
  (.seq (.reg [⟨some 9, .mv (.t 0) false, none⟩, ⟨some 10, .mv (.t 1) false, none⟩, ⟨some 11, .mv (.t 2) false, none⟩, ⟨some 12, .call 124 [(.t 9), (.t 10), (.t 11)] false, none⟩, ⟨some 13, .mv (.t 3) false, none⟩, ⟨some 14, .mxn false [(.t 13), (.c (.int .i64 1073741824))], none⟩, ⟨some 15, .mxn true [(.c (.int .i64 0)), (.t 14)], none⟩, ⟨some 16, .bin .mul (.t 12) (.t 15), none⟩, ⟨some 17, .mxn false [(.t 16), (.c (.int .i64 1000000))], none⟩, ⟨some 8, .mv (.t 17) true, none⟩])
  (.ret)), [.t 8]⟩
theorem row99 : RowOk Tryz.prog 99 C99 := ⟨Tryz.f99, ⟨[], [], [], []⟩, lvOf [], Tryz.func99, by kernel_rfl, by kernel_rfl⟩
/-- swingbridge/swingbridgeref11.lock -/
def C101 : CFun := ⟨50, 3, .seq (.reg [⟨some 3, .box (.t 0), none⟩, ⟨some 6, .alloc [(.int .i64 0), (.int .i64 0), (.int .i64 0)], none⟩, ⟨some 7, .mv (.c (.bool false)) true, none⟩])
  (.seq (.seq (.reg [⟨some 8, .load 4 true (.t 3) false, none⟩, ⟨some 9, .mv (.t 1) false, none⟩, ⟨some 10, .call 65 [(.t 8), (.t 9)] false, none⟩, ⟨some 11, .un .not (.t 10), none⟩, ⟨some 12, .mv (.t 11) false, none⟩, ⟨some 13, .mv (.t 2) false, some (12, false)⟩, ⟨some 14, .bin .lss (.t 13) (.c (.int .i64 0)), some (12, false)⟩, ⟨some 15, .pick (.t 12) (.c (.bool true)) (.t 14), none⟩, ⟨some 16, .mv (.t 15) false, none⟩, ⟨some 17, .mv (.t 2) false, some (16, false)⟩, ⟨some 18, .fa 3 (.t 3), some (16, false)⟩, ⟨some 19, .load 1 false (.t 18) false, some (16, false)⟩, ⟨some 20, .mv (.t 1) false, some (16, false)⟩, ⟨some 21, .ia 6 (.t 19) (.t 20), some (16, false)⟩, ⟨some 22, .fa 5 (.t 21), some (16, false)⟩, ⟨some 23, .load 1 false (.t 22) false, some (16, false)⟩, ⟨some 24, .len (.t 23), some (16, false)⟩, ⟨some 25, .bin .geq (.t 17) (.t 24), some (16, false)⟩, ⟨some 26, .pick (.t 16) (.c (.bool true)) (.t 25), none⟩, ⟨some 27, .mv (.t 26) false, none⟩, ⟨some 28, .fa 3 (.t 3), some (27, false)⟩, ⟨some 29, .load 1 false (.t 28) false, some (27, false)⟩, ⟨some 30, .mv (.t 1) false, some (27, false)⟩, ⟨some 31, .ia 6 (.t 29) (.t 30), some (27, false)⟩, ⟨some 32, .fa 5 (.t 31), some (27, false)⟩, ⟨some 33, .load 1 false (.t 32) false, some (27, false)⟩, ⟨some 34, .mv (.t 2) false, some (27, false)⟩, ⟨some 35, .ia 3 (.t 33) (.t 34), some (27, false)⟩, ⟨some 36, .fa 0 (.t 35), some (27, false)⟩, ⟨some 37, .load 1 false (.t 36) false, some (27, false)⟩, ⟨some 38, .bin .neq (.t 37) (.c (.int .i64 3)), some (27, false)⟩, ⟨some 39, .pick (.t 27) (.c (.bool true)) (.t 38), none⟩])
  (.cond (.t 39) (.seq (.reg [⟨some 40, .build [(.int .i64 0), (.int .i64 0), (.int .i64 0)] [], none⟩, ⟨none, .store 3 (.t 6) (.t 40), none⟩, ⟨some 7, .mv (.c (.bool false)) true, none⟩])
  (.ret))
  (.skip)))
  (.seq (.reg [⟨some 41, .fa 3 (.t 3), none⟩, ⟨some 42, .load 1 false (.t 41) false, none⟩, ⟨some 43, .mv (.t 1) false, none⟩, ⟨some 44, .ia 6 (.t 42) (.t 43), none⟩, ⟨some 45, .fa 5 (.t 44), none⟩, ⟨some 46, .load 1 false (.t 45) false, none⟩, ⟨some 47, .mv (.t 2) false, none⟩, ⟨some 48, .ia 3 (.t 46) (.t 47), none⟩, ⟨some 49, .load 3 true (.t 48) false, none⟩, ⟨none, .store 3 (.t 6) (.t 49), none⟩, ⟨some 7, .mv (.c (.bool true)) true, none⟩])
  (.ret))), [.cell 6 3, .t 7]⟩
theorem row101 : RowOk Tryz.prog 101 C101 := ⟨Tryz.f101, ⟨[], [], [], []⟩, lvOf [], Tryz.func101, by kernel_rfl, by kernel_rfl⟩
def B102_0 : C := .seq (.seq (.reg [⟨some 11, .mv (.t 7) false, none⟩, ⟨some 12, .mv (.t 5) false, none⟩, ⟨some 13, .len (.t 12), none⟩, ⟨some 14, .bin .lss (.t 11) (.t 13), none⟩])
  (.cond (.t 14) (.skip)
  (.exit 0)))
  (.seq (.block 1 (.reg [⟨some 17, .mv (.t 6) false, none⟩, ⟨some 18, .mv (.t 5) false, none⟩, ⟨some 19, .mv (.t 7) false, none⟩, ⟨some 20, .ia 1 (.t 18) (.t 19), none⟩, ⟨some 21, .load 1 false (.t 20) false, none⟩, ⟨some 22, .bin .add (.t 17) (.t 21), none⟩, ⟨some 6, .mv (.t 22) true, none⟩]))
  (.reg [⟨some 15, .mv (.t 7) false, none⟩, ⟨some 16, .bin .add (.t 15) (.c (.int .i64 1)), none⟩, ⟨some 7, .mv (.t 16) true, none⟩]))
def L102_0 : C := .loop [5, 6, 7] 0 B102_0
theorem go102_0 (s : Env × Bx) (nb) : evL tab ext nb L102_0 s = (loopIn nb [5, 6, 7] 0 s).bind fun s0 => (evL tab ext nb B102_0 s0).bind (seqG tab ext nb L102_0) := eL_loop _ _ _
/-- swingbridge/swingbridgeref2.Sum -/
def C102 : CFun := ⟨24, 2, .seq (.reg [⟨some 4, .mv (.c (.int .i64 0)) true, none⟩])
  (.seq (.reg [⟨some 8, .mv (.t 0) false, none⟩, ⟨some 9, .mv (.t 1) false, none⟩, ⟨some 10, .call 126 [(.t 8), (.t 9)] false, none⟩, ⟨some 5, .mv (.t 10) true, none⟩])
  (.seq (.reg [⟨some 6, .mv (.c (.int .i64 0)) true, none⟩])
  (.seq (.seq (.reg [⟨some 7, .mv (.c (.int .i64 0)) true, none⟩])
  (.block 0 (L102_0)))
  (.seq (.reg [⟨some 23, .mv (.t 6) false, none⟩, ⟨some 4, .mv (.t 23) true, none⟩])
  (.ret))))), [.t 4]⟩
theorem row102 : RowOk Tryz.prog 102 C102 := ⟨Tryz.f102, ⟨[], [], [], []⟩, lvOf [(0, [5, 6, 7], 0)], Tryz.func102, by kernel_rfl, by kernel_rfl⟩
def B103_0 : C := .seq (.seq (.reg [⟨some 7, .mv (.t 6) false, none⟩, ⟨some 8, .fa 3 (.t 2), none⟩, ⟨some 9, .load 1 false (.t 8) false, none⟩, ⟨some 10, .len (.t 9), none⟩, ⟨some 11, .bin .lss (.t 7) (.t 10), none⟩])
  (.cond (.t 11) (.skip)
  (.exit 0)))
  (.seq (.block 1 (.seq (.reg [⟨some 14, .mv (.t 6) false, none⟩, ⟨some 15, .mv (.t 1) false, none⟩, ⟨some 16, .bin .neq (.t 14) (.t 15), none⟩])
  (.cond (.t 16) (.reg [⟨some 17, .mv (.t 5) true, none⟩, ⟨some 18, .fa 3 (.t 2), none⟩, ⟨some 19, .load 1 false (.t 18) false, none⟩, ⟨some 20, .mv (.t 6) false, none⟩, ⟨some 21, .ia 6 (.t 19) (.t 20), none⟩, ⟨some 22, .load 6 true (.t 21) false, none⟩, ⟨some 23, .call 66 [(.t 22)] false, none⟩, ⟨some 24, .bsl 1 1 [(.int .i64 0)] [(0, 1, (.t 23))] false, none⟩, ⟨some 25, .app 1 8 (.t 17) (.t 24) false, none⟩, ⟨some 5, .mv (.t 25) true, none⟩])
  (.skip))))
  (.reg [⟨some 12, .mv (.t 6) false, none⟩, ⟨some 13, .bin .add (.t 12) (.c (.int .i64 1)), none⟩, ⟨some 6, .mv (.t 13) true, none⟩]))
def L103_0 : C := .loop [1, 2, 5, 6] 1 B103_0
theorem go103_0 (s : Env × Bx) (nb) : evL tab ext nb L103_0 s = (loopIn nb [1, 2, 5, 6] 1 s).bind fun s0 => (evL tab ext nb B103_0 s0).bind (seqG tab ext nb L103_0) := eL_loop _ _ _
/-- swingbridge/swingbridgeref11.others -/
def C103 : CFun := ⟨27, 2, .seq (.reg [⟨some 2, .box (.t 0), none⟩, ⟨some 4, .mv (.c (.slice none 0 0)) true, none⟩])
  (.seq (.reg [⟨some 5, .mv (.c (.slice none 0 0)) true, none⟩])
  (.seq (.seq (.reg [⟨some 6, .mv (.c (.int .i64 0)) true, none⟩])
  (.block 0 (L103_0)))
  (.seq (.reg [⟨some 26, .mv (.t 5) false, none⟩, ⟨some 4, .mv (.t 26) true, none⟩])
  (.ret)))), [.t 4]⟩
theorem row103 : RowOk Tryz.prog 103 C103 := ⟨Tryz.f103, ⟨[], [], [], []⟩, lvOf [(0, [1, 2, 5, 6], 1)], Tryz.func103, by kernel_rfl, by kernel_rfl⟩
def B104_0 : C := .seq (.seq (.reg [⟨some 11, .mv (.t 8) false, none⟩, ⟨some 12, .fa 3 (.t 3), none⟩, ⟨some 13, .load 1 false (.t 12) false, none⟩, ⟨some 14, .len (.t 13), none⟩, ⟨some 15, .bin .lss (.t 11) (.t 14), none⟩, ⟨some 16, .mv (.t 15) false, none⟩, ⟨some 17, .load 4 true (.t 3) false, some (16, true)⟩, ⟨some 18, .mv (.t 1) false, some (16, true)⟩, ⟨some 19, .call 65 [(.t 17), (.t 18)] false, some (16, true)⟩, ⟨some 20, .pick (.t 16) (.t 19) (.c (.bool false)), none⟩])
  (.cond (.t 20) (.skip)
  (.exit 0)))
  (.seq (.block 1 (.seq (.reg [⟨some 23, .fa 3 (.t 3), none⟩, ⟨some 24, .load 1 false (.t 23) false, none⟩, ⟨some 25, .mv (.t 8) false, none⟩, ⟨some 26, .ia 6 (.t 24) (.t 25), none⟩, ⟨some 27, .fa 3 (.t 26), none⟩, ⟨some 28, .load 1 false (.t 27) false, none⟩, ⟨some 29, .fa 3 (.t 3), none⟩, ⟨some 30, .load 1 false (.t 29) false, none⟩, ⟨some 31, .mv (.t 1) false, none⟩, ⟨some 32, .ia 6 (.t 30) (.t 31), none⟩, ⟨some 33, .fa 3 (.t 32), none⟩, ⟨some 34, .load 1 false (.t 33) false, none⟩, ⟨some 35, .bin .gtr (.t 28) (.t 34), none⟩])
  (.cond (.t 35) (.seq (.reg [⟨some 37, .load 4 true (.t 3) false, none⟩, ⟨some 38, .mv (.t 8) false, none⟩, ⟨some 39, .mv (.t 2) false, none⟩, ⟨some 40, .call 125 [(.t 37), (.t 38), (.t 39)] false, none⟩, ⟨some 36, .mv (.t 40) false, none⟩, ⟨some 41, .ext (.t 36) 0, none⟩, ⟨some 42, .ext (.t 36) 1, none⟩, ⟨some 9, .mv (.t 41) true, none⟩, ⟨some 10, .mv (.t 42) true, none⟩])
  (.reg [⟨some 43, .mv (.t 7) false, none⟩, ⟨some 44, .mv (.t 10) false, none⟩, ⟨some 45, .mxn true [(.t 43), (.t 44)], none⟩, ⟨some 7, .mv (.t 45) true, none⟩]))
  (.skip))))
  (.reg [⟨some 21, .mv (.t 8) false, none⟩, ⟨some 22, .bin .add (.t 21) (.c (.int .i64 1)), none⟩, ⟨some 8, .mv (.t 22) true, none⟩]))
def L104_0 : C := .loop [1, 2, 3, 7, 8] 1 B104_0
theorem go104_0 (s : Env × Bx) (nb) : evL tab ext nb L104_0 s = (loopIn nb [1, 2, 3, 7, 8] 1 s).bind fun s0 => (evL tab ext nb B104_0 s0).bind (seqG tab ext nb L104_0) := eL_loop _ _ _
/-- swingbridge/swingbridgeref11.Lower -/
def C104 : CFun := ⟨47, 3, .seq (.reg [⟨some 3, .box (.t 0), none⟩, ⟨some 6, .mv (.c (.int .i64 0)) true, none⟩])
  (.seq (.reg [⟨some 7, .mv (.c (.int .i64 0)) true, none⟩])
  (.seq (.seq (.reg [⟨some 8, .mv (.c (.int .i64 0)) true, none⟩])
  (.block 0 (L104_0)))
  (.seq (.reg [⟨some 46, .mv (.t 7) false, none⟩, ⟨some 6, .mv (.t 46) true, none⟩])
  (.ret)))), [.t 6]⟩
theorem row104 : RowOk Tryz.prog 104 C104 := ⟨Tryz.f104, ⟨[], [], [], []⟩, lvOf [(0, [1, 2, 3, 7, 8], 1)], Tryz.func104, by kernel_rfl, by kernel_rfl⟩
def B105_0 : C := .seq (.seq (.reg [⟨some 27, .mv (.t 12) false, none⟩, ⟨some 28, .fa 3 (.t 5), none⟩, ⟨some 29, .load 1 false (.t 28) false, none⟩, ⟨some 30, .len (.t 29), none⟩, ⟨some 31, .bin .lss (.t 27) (.t 30), none⟩])
  (.cond (.t 31) (.skip)
  (.exit 0)))
  (.seq (.block 1 (.seq (.reg [⟨some 34, .fa 3 (.t 5), none⟩, ⟨some 35, .load 1 false (.t 34) false, none⟩, ⟨some 36, .mv (.t 12) false, none⟩, ⟨some 37, .ia 6 (.t 35) (.t 36), none⟩, ⟨some 38, .fa 3 (.t 37), none⟩, ⟨some 39, .load 1 false (.t 38) false, none⟩, ⟨some 40, .fa 3 (.t 5), none⟩, ⟨some 41, .load 1 false (.t 40) false, none⟩, ⟨some 42, .mv (.t 2) false, none⟩, ⟨some 43, .ia 6 (.t 41) (.t 42), none⟩, ⟨some 44, .fa 3 (.t 43), none⟩, ⟨some 45, .load 1 false (.t 44) false, none⟩, ⟨some 46, .bin .lss (.t 39) (.t 45), none⟩])
  (.cond (.t 46) (.seq (.reg [⟨some 48, .load 4 true (.t 5) false, none⟩, ⟨some 49, .mv (.t 12) false, none⟩, ⟨some 50, .mv (.t 3) false, none⟩, ⟨some 51, .call 125 [(.t 48), (.t 49), (.t 50)] false, none⟩, ⟨some 47, .mv (.t 51) false, none⟩, ⟨some 52, .ext (.t 47) 0, none⟩, ⟨some 53, .ext (.t 47) 1, none⟩, ⟨some 13, .mv (.t 52) true, none⟩, ⟨some 14, .mv (.t 53) true, none⟩])
  (.reg [⟨some 54, .mv (.t 11) false, none⟩, ⟨some 55, .mv (.t 4) false, none⟩, ⟨some 56, .mv (.t 1) false, none⟩, ⟨some 57, .mv (.t 12) false, none⟩, ⟨some 58, .ia 1 (.t 56) (.t 57), none⟩, ⟨some 59, .load 1 false (.t 58) false, none⟩, ⟨some 60, .fa 3 (.t 5), none⟩, ⟨some 61, .load 1 false (.t 60) false, none⟩, ⟨some 62, .mv (.t 12) false, none⟩, ⟨some 63, .ia 6 (.t 61) (.t 62), none⟩, ⟨some 64, .fa 1 (.t 63), none⟩, ⟨some 65, .load 1 false (.t 64) false, none⟩, ⟨some 66, .mv (.t 13) false, none⟩, ⟨some 67, .call 99 [(.t 55), (.t 59), (.t 65), (.t 66)] false, none⟩, ⟨some 68, .bin .add (.t 54) (.t 67), none⟩, ⟨some 69, .mxn false [(.t 68), (.c (.int .i64 1000000))], none⟩, ⟨some 11, .mv (.t 69) true, none⟩]))
  (.skip))))
  (.reg [⟨some 32, .mv (.t 12) false, none⟩, ⟨some 33, .bin .add (.t 32) (.c (.int .i64 1)), none⟩, ⟨some 12, .mv (.t 33) true, none⟩]))
def L105_0 : C := .loop [1, 2, 3, 4, 5, 11, 12] 1 B105_0
theorem go105_0 (s : Env × Bx) (nb) : evL tab ext nb L105_0 s = (loopIn nb [1, 2, 3, 4, 5, 11, 12] 1 s).bind fun s0 => (evL tab ext nb B105_0 s0).bind (seqG tab ext nb L105_0) := eL_loop _ _ _
/-- swingbridge/swingbridgeref11.Higher -/
def C105 : CFun := ⟨71, 5, .seq (.reg [⟨some 5, .box (.t 0), none⟩, ⟨some 10, .mv (.c (.int .i64 0)) true, none⟩])
  (.seq (.reg [⟨some 11, .mv (.c (.int .i64 0)) true, none⟩])
  (.seq (.seq (.reg [⟨some 15, .load 4 true (.t 5) false, none⟩, ⟨some 16, .mv (.t 2) false, none⟩, ⟨some 17, .call 65 [(.t 15), (.t 16)] false, none⟩, ⟨some 18, .un .not (.t 17), none⟩, ⟨some 19, .mv (.t 18) false, none⟩, ⟨some 20, .mv (.t 1) false, some (19, false)⟩, ⟨some 21, .len (.t 20), some (19, false)⟩, ⟨some 22, .fa 3 (.t 5), some (19, false)⟩, ⟨some 23, .load 1 false (.t 22) false, some (19, false)⟩, ⟨some 24, .len (.t 23), some (19, false)⟩, ⟨some 25, .bin .neq (.t 21) (.t 24), some (19, false)⟩, ⟨some 26, .pick (.t 19) (.c (.bool true)) (.t 25), none⟩])
  (.cond (.t 26) (.seq (.reg [⟨some 10, .mv (.c (.int .i64 0)) true, none⟩])
  (.ret))
  (.skip)))
  (.seq (.seq (.reg [⟨some 12, .mv (.c (.int .i64 0)) true, none⟩])
  (.block 0 (L105_0)))
  (.seq (.reg [⟨some 70, .mv (.t 11) false, none⟩, ⟨some 10, .mv (.t 70) true, none⟩])
  (.ret))))), [.t 10]⟩
theorem row105 : RowOk Tryz.prog 105 C105 := ⟨Tryz.f105, ⟨[], [], [], []⟩, lvOf [(0, [1, 2, 3, 4, 5, 11, 12], 1)], Tryz.func105, by kernel_rfl, by kernel_rfl⟩
/-- swingbridge/swingbridgeref11.Inside -/
def C106 : CFun := ⟨25, 3, .seq (.reg [⟨some 3, .box (.t 0), none⟩, ⟨some 6, .mv (.c (.int .i64 0)) true, none⟩, ⟨some 7, .mv (.c (.bool false)) true, none⟩])
  (.seq (.reg [⟨some 11, .load 4 true (.t 3) false, none⟩, ⟨some 12, .mv (.t 1) false, none⟩, ⟨some 13, .mv (.t 2) false, none⟩, ⟨some 14, .call 101 [(.t 11), (.t 12), (.t 13)] false, none⟩, ⟨some 10, .mv (.t 14) false, none⟩, ⟨some 15, .ext (.t 10) 0, none⟩, ⟨some 16, .ext (.t 10) 1, none⟩, ⟨some 8, .alloc [(.int .i64 0), (.int .i64 0), (.int .i64 0)], none⟩, ⟨none, .store 3 (.t 8) (.t 15), none⟩, ⟨some 9, .mv (.t 16) true, none⟩])
  (.seq (.seq (.reg [⟨some 17, .mv (.t 9) false, none⟩, ⟨some 18, .un .not (.t 17), none⟩])
  (.cond (.t 18) (.seq (.reg [⟨some 6, .mv (.c (.int .i64 0)) true, none⟩, ⟨some 7, .mv (.c (.bool false)) true, none⟩])
  (.ret))
  (.skip)))
  (.seq (.reg [⟨some 19, .fa 1 (.t 8), none⟩, ⟨some 20, .load 1 false (.t 19) false, none⟩, ⟨some 21, .load 4 true (.t 3) false, none⟩, ⟨some 22, .mv (.t 1) false, none⟩, ⟨some 23, .call 127 [(.t 21), (.t 22)] false, none⟩, ⟨some 24, .bin .add (.t 20) (.t 23), none⟩, ⟨some 6, .mv (.t 24) true, none⟩, ⟨some 7, .mv (.c (.bool true)) true, none⟩])
  (.ret)))), [.t 6, .t 7]⟩
theorem row106 : RowOk Tryz.prog 106 C106 := ⟨Tryz.f106, ⟨[], [], [], []⟩, lvOf [], Tryz.func106, by kernel_rfl, by kernel_rfl⟩
def B107_0 : C := .seq (.seq (.reg [⟨some 28, .mv (.t 7) false, none⟩, ⟨some 29, .fa 3 (.t 2), none⟩, ⟨some 30, .load 1 false (.t 29) false, none⟩, ⟨some 31, .len (.t 30), none⟩, ⟨some 32, .bin .lss (.t 28) (.t 31), none⟩])
  (.cond (.t 32) (.skip)
  (.exit 0)))
  (.seq (.block 1 (.seq (.reg [⟨some 35, .fa 3 (.t 2), none⟩, ⟨some 36, .load 1 false (.t 35) false, none⟩, ⟨some 37, .mv (.t 7) false, none⟩, ⟨some 38, .ia 6 (.t 36) (.t 37), none⟩, ⟨some 39, .load 6 true (.t 38) false, none⟩, ⟨some 40, .call 66 [(.t 39)] false, none⟩, ⟨some 8, .mv (.t 40) true, none⟩])
  (.seq (.reg [⟨some 41, .fa 3 (.t 2), none⟩, ⟨some 42, .load 1 false (.t 41) false, none⟩, ⟨some 43, .mv (.t 7) false, none⟩, ⟨some 44, .ia 6 (.t 42) (.t 43), none⟩, ⟨some 45, .fa 4 (.t 44), none⟩, ⟨some 46, .load 1 false (.t 45) false, none⟩, ⟨some 47, .mv (.t 5) false, none⟩, ⟨some 48, .bin .eql (.t 46) (.t 47), none⟩, ⟨some 49, .mv (.t 48) false, none⟩, ⟨some 50, .mv (.t 8) false, some (49, true)⟩, ⟨some 51, .bin .gtr (.t 50) (.c (.int .i64 0)), some (49, true)⟩, ⟨some 52, .pick (.t 49) (.t 51) (.c (.bool false)), none⟩])
  (.cond (.t 52) (.reg [⟨some 53, .mv (.t 6) false, none⟩, ⟨some 54, .mv (.t 8) false, none⟩, ⟨some 55, .load 4 true (.t 2) false, none⟩, ⟨some 56, .mv (.t 7) false, none⟩, ⟨some 57, .call 127 [(.t 55), (.t 56)] false, none⟩, ⟨some 58, .bin .add (.t 54) (.t 57), none⟩, ⟨some 59, .mxn true [(.t 53), (.t 58)], none⟩, ⟨some 6, .mv (.t 59) true, none⟩])
  (.skip)))))
  (.reg [⟨some 33, .mv (.t 7) false, none⟩, ⟨some 34, .bin .add (.t 33) (.c (.int .i64 1)), none⟩, ⟨some 7, .mv (.t 34) true, none⟩]))
def L107_0 : C := .loop [2, 5, 6, 7] 1 B107_0
theorem go107_0 (s : Env × Bx) (nb) : evL tab ext nb L107_0 s = (loopIn nb [2, 5, 6, 7] 1 s).bind fun s0 => (evL tab ext nb B107_0 s0).bind (seqG tab ext nb L107_0) := eL_loop _ _ _
/-- swingbridge/swingbridgeref11.Outside -/
def C107 : CFun := ⟨78, 2, .seq (.reg [⟨some 2, .box (.t 0), none⟩, ⟨some 4, .mv (.c (.int .i64 0)) true, none⟩])
  (.seq (.seq (.reg [⟨some 9, .load 4 true (.t 2) false, none⟩, ⟨some 10, .mv (.t 1) false, none⟩, ⟨some 11, .call 65 [(.t 9), (.t 10)] false, none⟩, ⟨some 12, .un .not (.t 11), none⟩, ⟨some 13, .mv (.t 12) false, none⟩, ⟨some 14, .fa 3 (.t 2), some (13, false)⟩, ⟨some 15, .load 1 false (.t 14) false, some (13, false)⟩, ⟨some 16, .mv (.t 1) false, some (13, false)⟩, ⟨some 17, .ia 6 (.t 15) (.t 16), some (13, false)⟩, ⟨some 18, .load 6 true (.t 17) false, some (13, false)⟩, ⟨some 19, .call 66 [(.t 18)] false, some (13, false)⟩, ⟨some 20, .bin .eql (.t 19) (.c (.int .i64 0)), some (13, false)⟩, ⟨some 21, .pick (.t 13) (.c (.bool true)) (.t 20), none⟩])
  (.cond (.t 21) (.seq (.reg [⟨some 4, .mv (.c (.int .i64 0)) true, none⟩])
  (.ret))
  (.skip)))
  (.seq (.reg [⟨some 22, .fa 3 (.t 2), none⟩, ⟨some 23, .load 1 false (.t 22) false, none⟩, ⟨some 24, .mv (.t 1) false, none⟩, ⟨some 25, .ia 6 (.t 23) (.t 24), none⟩, ⟨some 26, .fa 4 (.t 25), none⟩, ⟨some 27, .load 1 false (.t 26) false, none⟩, ⟨some 5, .mv (.t 27) true, none⟩])
  (.seq (.reg [⟨some 6, .mv (.c (.int .i64 0)) true, none⟩])
  (.seq (.seq (.reg [⟨some 7, .mv (.c (.int .i64 0)) true, none⟩])
  (.block 0 (L107_0)))
  (.seq (.reg [⟨some 60, .load 4 true (.t 2) false, none⟩, ⟨some 61, .mv (.t 5) false, none⟩, ⟨some 62, .call 129 [(.t 60), (.t 61)] false, none⟩, ⟨some 63, .fa 1 (.t 2), none⟩, ⟨some 64, .load 1 false (.t 63) false, none⟩, ⟨some 65, .mv (.t 5) false, none⟩, ⟨some 66, .ia 1 (.t 64) (.t 65), none⟩, ⟨some 67, .load 1 false (.t 66) false, none⟩, ⟨some 68, .bin .sub (.t 62) (.t 67), none⟩, ⟨some 69, .mxn true [(.c (.int .i64 0)), (.t 68)], none⟩, ⟨some 70, .fa 1 (.t 2), none⟩, ⟨some 71, .load 1 false (.t 70) false, none⟩, ⟨some 72, .mv (.t 5) false, none⟩, ⟨some 73, .ia 1 (.t 71) (.t 72), none⟩, ⟨some 74, .load 1 false (.t 73) false, none⟩, ⟨some 75, .call 128 [(.t 69), (.t 74)] false, none⟩, ⟨some 76, .mv (.t 6) false, none⟩, ⟨some 77, .bin .mul (.t 75) (.t 76), none⟩, ⟨some 4, .mv (.t 77) true, none⟩])
  (.ret)))))), [.t 4]⟩
theorem row107 : RowOk Tryz.prog 107 C107 := ⟨Tryz.f107, ⟨[], [], [], []⟩, lvOf [(0, [2, 5, 6, 7], 1)], Tryz.func107, by kernel_rfl, by kernel_rfl⟩
/-- internal/strconv.small -/
def C108 : CFun := ⟨15, 1, .seq (.reg [⟨some 2, .mv (.c (.string ⟨#[]⟩)) true, none⟩])
  (.seq (.seq (.reg [⟨some 3, .mv (.t 0) false, none⟩, ⟨some 4, .bin .lss (.t 3) (.c (.int .i64 10)), none⟩])
  (.cond (.t 4) (.seq (.reg [⟨some 5, .mv (.t 0) false, none⟩, ⟨some 6, .mv (.t 0) false, none⟩, ⟨some 7, .bin .add (.t 6) (.c (.int .i64 1)), none⟩, ⟨some 8, .sslc (.c (.string ⟨#[48, 49, 50, 51, 52, 53, 54, 55, 56, 57, 97, 98, 99, 100, 101, 102, 103, 104, 105, 106, 107, 108, 109, 110, 111, 112, 113, 114, 115, 116, 117, 118, 119, 120, 121, 122]⟩)) (some (.t 5)) (some (.t 7)), none⟩, ⟨some 2, .mv (.t 8) true, none⟩])
  (.ret))
  (.skip)))
  (.seq (.reg [⟨some 9, .mv (.t 0) false, none⟩, ⟨some 10, .bin .mul (.t 9) (.c (.int .i64 2)), none⟩, ⟨some 11, .mv (.t 0) false, none⟩, ⟨some 12, .bin .mul (.t 11) (.c (.int .i64 2)), none⟩, ⟨some 13, .bin .add (.t 12) (.c (.int .i64 2)), none⟩, ⟨some 14, .sslc (.c (.string ⟨#[48, 48, 48, 49, 48, 50, 48, 51, 48, 52, 48, 53, 48, 54, 48, 55, 48, 56, 48, 57, 49, 48, 49, 49, 49, 50, 49, 51, 49, 52, 49, 53, 49, 54, 49, 55, 49, 56, 49, 57, 50, 48, 50, 49, 50, 50, 50, 51, 50, 52, 50, 53, 50, 54, 50, 55, 50, 56, 50, 57, 51, 48, 51, 49, 51, 50, 51, 51, 51, 52, 51, 53, 51, 54, 51, 55, 51, 56, 51, 57, 52, 48, 52, 49, 52, 50, 52, 51, 52, 52, 52, 53, 52, 54, 52, 55, 52, 56, 52, 57, 53, 48, 53, 49, 53, 50, 53, 51, 53, 52, 53, 53, 53, 54, 53, 55, 53, 56, 53, 57, 54, 48, 54, 49, 54, 50, 54, 51, 54, 52, 54, 53, 54, 54, 54, 55, 54, 56, 54, 57, 55, 48, 55, 49, 55, 50, 55, 51, 55, 52, 55, 53, 55, 54, 55, 55, 55, 56, 55, 57, 56, 48, 56, 49, 56, 50, 56, 51, 56, 52, 56, 53, 56, 54, 56, 55, 56, 56, 56, 57, 57, 48, 57, 49, 57, 50, 57, 51, 57, 52, 57, 53, 57, 54, 57, 55, 57, 56, 57, 57]⟩)) (some (.t 10)) (some (.t 13)), none⟩, ⟨some 2, .mv (.t 14) true, none⟩])
  (.ret))), [.t 2]⟩
theorem row108 : RowOk Tryz.prog 108 C108 := ⟨Tryz.f108, ⟨[], [], [], []⟩, lvOf [], Tryz.func108, by kernel_rfl, by kernel_rfl⟩
def B110_0 : C := .seq (.seq (.reg [⟨some 19, .mv (.t 4) false, none⟩, ⟨some 20, .bin .geq (.t 19) (.c (.int .i64 8)), none⟩])
  (.cond (.t 20) (.skip)
  (.exit 0)))
  (.block 1 (.seq (.reg [⟨some 21, .mv (.t 1) false, none⟩, ⟨some 22, .bin .rem (.t 21) (.c (.int .u64 100000000)), none⟩, ⟨some 23, .conv .u32 (.t 22), none⟩, ⟨some 5, .mv (.t 23) true, none⟩])
  (.seq (.reg [⟨some 24, .mv (.t 1) false, none⟩, ⟨some 25, .bin .quo (.t 24) (.c (.int .u64 100000000)), none⟩, ⟨some 1, .mv (.t 25) true, none⟩])
  (.seq (.reg [⟨some 26, .mv (.t 5) false, none⟩, ⟨some 27, .bin .quo (.t 26) (.c (.int .u32 10000)), none⟩, ⟨some 28, .mv (.t 5) false, none⟩, ⟨some 29, .bin .rem (.t 28) (.c (.int .u32 10000)), none⟩, ⟨some 6, .mv (.t 27) true, none⟩, ⟨some 7, .mv (.t 29) true, none⟩])
  (.seq (.reg [⟨some 30, .mv (.t 7) false, none⟩, ⟨some 31, .bin .quo (.t 30) (.c (.int .u32 100)), none⟩, ⟨some 32, .bin .mul (.t 31) (.c (.int .u32 2)), none⟩, ⟨some 33, .mv (.t 7) false, none⟩, ⟨some 34, .bin .rem (.t 33) (.c (.int .u32 100)), none⟩, ⟨some 35, .bin .mul (.t 34) (.c (.int .u32 2)), none⟩, ⟨some 8, .mv (.t 32) true, none⟩, ⟨some 9, .mv (.t 35) true, none⟩])
  (.seq (.reg [⟨some 36, .mv (.t 6) false, none⟩, ⟨some 37, .bin .quo (.t 36) (.c (.int .u32 100)), none⟩, ⟨some 38, .bin .mul (.t 37) (.c (.int .u32 2)), none⟩, ⟨some 39, .mv (.t 6) false, none⟩, ⟨some 40, .bin .rem (.t 39) (.c (.int .u32 100)), none⟩, ⟨some 41, .bin .mul (.t 40) (.c (.int .u32 2)), none⟩, ⟨some 10, .mv (.t 38) true, none⟩, ⟨some 11, .mv (.t 41) true, none⟩])
  (.seq (.reg [⟨some 42, .mv (.t 0) false, none⟩, ⟨some 43, .mv (.t 4) false, none⟩, ⟨some 44, .bin .sub (.t 43) (.c (.int .i64 1)), none⟩, ⟨some 45, .mv (.t 0) false, none⟩, ⟨some 46, .mv (.t 4) false, none⟩, ⟨some 47, .bin .sub (.t 46) (.c (.int .i64 2)), none⟩, ⟨some 48, .mv (.t 9) false, none⟩, ⟨some 49, .bin .add (.t 48) (.c (.int .u32 1)), none⟩, ⟨some 50, .ix (.c (.string ⟨#[48, 48, 48, 49, 48, 50, 48, 51, 48, 52, 48, 53, 48, 54, 48, 55, 48, 56, 48, 57, 49, 48, 49, 49, 49, 50, 49, 51, 49, 52, 49, 53, 49, 54, 49, 55, 49, 56, 49, 57, 50, 48, 50, 49, 50, 50, 50, 51, 50, 52, 50, 53, 50, 54, 50, 55, 50, 56, 50, 57, 51, 48, 51, 49, 51, 50, 51, 51, 51, 52, 51, 53, 51, 54, 51, 55, 51, 56, 51, 57, 52, 48, 52, 49, 52, 50, 52, 51, 52, 52, 52, 53, 52, 54, 52, 55, 52, 56, 52, 57, 53, 48, 53, 49, 53, 50, 53, 51, 53, 52, 53, 53, 53, 54, 53, 55, 53, 56, 53, 57, 54, 48, 54, 49, 54, 50, 54, 51, 54, 52, 54, 53, 54, 54, 54, 55, 54, 56, 54, 57, 55, 48, 55, 49, 55, 50, 55, 51, 55, 52, 55, 53, 55, 54, 55, 55, 55, 56, 55, 57, 56, 48, 56, 49, 56, 50, 56, 51, 56, 52, 56, 53, 56, 54, 56, 55, 56, 56, 56, 57, 57, 48, 57, 49, 57, 50, 57, 51, 57, 52, 57, 53, 57, 54, 57, 55, 57, 56, 57, 57]⟩)) (.t 49), none⟩, ⟨some 51, .mv (.t 9) false, none⟩, ⟨some 52, .ix (.c (.string ⟨#[48, 48, 48, 49, 48, 50, 48, 51, 48, 52, 48, 53, 48, 54, 48, 55, 48, 56, 48, 57, 49, 48, 49, 49, 49, 50, 49, 51, 49, 52, 49, 53, 49, 54, 49, 55, 49, 56, 49, 57, 50, 48, 50, 49, 50, 50, 50, 51, 50, 52, 50, 53, 50, 54, 50, 55, 50, 56, 50, 57, 51, 48, 51, 49, 51, 50, 51, 51, 51, 52, 51, 53, 51, 54, 51, 55, 51, 56, 51, 57, 52, 48, 52, 49, 52, 50, 52, 51, 52, 52, 52, 53, 52, 54, 52, 55, 52, 56, 52, 57, 53, 48, 53, 49, 53, 50, 53, 51, 53, 52, 53, 53, 53, 54, 53, 55, 53, 56, 53, 57, 54, 48, 54, 49, 54, 50, 54, 51, 54, 52, 54, 53, 54, 54, 54, 55, 54, 56, 54, 57, 55, 48, 55, 49, 55, 50, 55, 51, 55, 52, 55, 53, 55, 54, 55, 55, 55, 56, 55, 57, 56, 48, 56, 49, 56, 50, 56, 51, 56, 52, 56, 53, 56, 54, 56, 55, 56, 56, 56, 57, 57, 48, 57, 49, 57, 50, 57, 51, 57, 52, 57, 53, 57, 54, 57, 55, 57, 56, 57, 57]⟩)) (.t 51), none⟩, ⟨some 53, .ia 1 (.t 42) (.t 44), none⟩, ⟨none, .store 1 (.t 53) (.t 50), none⟩, ⟨some 54, .ia 1 (.t 45) (.t 47), none⟩, ⟨none, .store 1 (.t 54) (.t 52), none⟩])
  (.seq (.reg [⟨some 55, .mv (.t 0) false, none⟩, ⟨some 56, .mv (.t 4) false, none⟩, ⟨some 57, .bin .sub (.t 56) (.c (.int .i64 3)), none⟩, ⟨some 58, .mv (.t 0) false, none⟩, ⟨some 59, .mv (.t 4) false, none⟩, ⟨some 60, .bin .sub (.t 59) (.c (.int .i64 4)), none⟩, ⟨some 61, .mv (.t 8) false, none⟩, ⟨some 62, .bin .add (.t 61) (.c (.int .u32 1)), none⟩, ⟨some 63, .ix (.c (.string ⟨#[48, 48, 48, 49, 48, 50, 48, 51, 48, 52, 48, 53, 48, 54, 48, 55, 48, 56, 48, 57, 49, 48, 49, 49, 49, 50, 49, 51, 49, 52, 49, 53, 49, 54, 49, 55, 49, 56, 49, 57, 50, 48, 50, 49, 50, 50, 50, 51, 50, 52, 50, 53, 50, 54, 50, 55, 50, 56, 50, 57, 51, 48, 51, 49, 51, 50, 51, 51, 51, 52, 51, 53, 51, 54, 51, 55, 51, 56, 51, 57, 52, 48, 52, 49, 52, 50, 52, 51, 52, 52, 52, 53, 52, 54, 52, 55, 52, 56, 52, 57, 53, 48, 53, 49, 53, 50, 53, 51, 53, 52, 53, 53, 53, 54, 53, 55, 53, 56, 53, 57, 54, 48, 54, 49, 54, 50, 54, 51, 54, 52, 54, 53, 54, 54, 54, 55, 54, 56, 54, 57, 55, 48, 55, 49, 55, 50, 55, 51, 55, 52, 55, 53, 55, 54, 55, 55, 55, 56, 55, 57, 56, 48, 56, 49, 56, 50, 56, 51, 56, 52, 56, 53, 56, 54, 56, 55, 56, 56, 56, 57, 57, 48, 57, 49, 57, 50, 57, 51, 57, 52, 57, 53, 57, 54, 57, 55, 57, 56, 57, 57]⟩)) (.t 62), none⟩, ⟨some 64, .mv (.t 8) false, none⟩, ⟨some 65, .ix (.c (.string ⟨#[48, 48, 48, 49, 48, 50, 48, 51, 48, 52, 48, 53, 48, 54, 48, 55, 48, 56, 48, 57, 49, 48, 49, 49, 49, 50, 49, 51, 49, 52, 49, 53, 49, 54, 49, 55, 49, 56, 49, 57, 50, 48, 50, 49, 50, 50, 50, 51, 50, 52, 50, 53, 50, 54, 50, 55, 50, 56, 50, 57, 51, 48, 51, 49, 51, 50, 51, 51, 51, 52, 51, 53, 51, 54, 51, 55, 51, 56, 51, 57, 52, 48, 52, 49, 52, 50, 52, 51, 52, 52, 52, 53, 52, 54, 52, 55, 52, 56, 52, 57, 53, 48, 53, 49, 53, 50, 53, 51, 53, 52, 53, 53, 53, 54, 53, 55, 53, 56, 53, 57, 54, 48, 54, 49, 54, 50, 54, 51, 54, 52, 54, 53, 54, 54, 54, 55, 54, 56, 54, 57, 55, 48, 55, 49, 55, 50, 55, 51, 55, 52, 55, 53, 55, 54, 55, 55, 55, 56, 55, 57, 56, 48, 56, 49, 56, 50, 56, 51, 56, 52, 56, 53, 56, 54, 56, 55, 56, 56, 56, 57, 57, 48, 57, 49, 57, 50, 57, 51, 57, 52, 57, 53, 57, 54, 57, 55, 57, 56, 57, 57]⟩)) (.t 64), none⟩, ⟨some 66, .ia 1 (.t 55) (.t 57), none⟩, ⟨none, .store 1 (.t 66) (.t 63), none⟩, ⟨some 67, .ia 1 (.t 58) (.t 60), none⟩, ⟨none, .store 1 (.t 67) (.t 65), none⟩])
  (.seq (.reg [⟨some 68, .mv (.t 0) false, none⟩, ⟨some 69, .mv (.t 4) false, none⟩, ⟨some 70, .bin .sub (.t 69) (.c (.int .i64 5)), none⟩, ⟨some 71, .mv (.t 0) false, none⟩, ⟨some 72, .mv (.t 4) false, none⟩, ⟨some 73, .bin .sub (.t 72) (.c (.int .i64 6)), none⟩, ⟨some 74, .mv (.t 11) false, none⟩, ⟨some 75, .bin .add (.t 74) (.c (.int .u32 1)), none⟩, ⟨some 76, .ix (.c (.string ⟨#[48, 48, 48, 49, 48, 50, 48, 51, 48, 52, 48, 53, 48, 54, 48, 55, 48, 56, 48, 57, 49, 48, 49, 49, 49, 50, 49, 51, 49, 52, 49, 53, 49, 54, 49, 55, 49, 56, 49, 57, 50, 48, 50, 49, 50, 50, 50, 51, 50, 52, 50, 53, 50, 54, 50, 55, 50, 56, 50, 57, 51, 48, 51, 49, 51, 50, 51, 51, 51, 52, 51, 53, 51, 54, 51, 55, 51, 56, 51, 57, 52, 48, 52, 49, 52, 50, 52, 51, 52, 52, 52, 53, 52, 54, 52, 55, 52, 56, 52, 57, 53, 48, 53, 49, 53, 50, 53, 51, 53, 52, 53, 53, 53, 54, 53, 55, 53, 56, 53, 57, 54, 48, 54, 49, 54, 50, 54, 51, 54, 52, 54, 53, 54, 54, 54, 55, 54, 56, 54, 57, 55, 48, 55, 49, 55, 50, 55, 51, 55, 52, 55, 53, 55, 54, 55, 55, 55, 56, 55, 57, 56, 48, 56, 49, 56, 50, 56, 51, 56, 52, 56, 53, 56, 54, 56, 55, 56, 56, 56, 57, 57, 48, 57, 49, 57, 50, 57, 51, 57, 52, 57, 53, 57, 54, 57, 55, 57, 56, 57, 57]⟩)) (.t 75), none⟩, ⟨some 77, .mv (.t 11) false, none⟩, ⟨some 78, .ix (.c (.string ⟨#[48, 48, 48, 49, 48, 50, 48, 51, 48, 52, 48, 53, 48, 54, 48, 55, 48, 56, 48, 57, 49, 48, 49, 49, 49, 50, 49, 51, 49, 52, 49, 53, 49, 54, 49, 55, 49, 56, 49, 57, 50, 48, 50, 49, 50, 50, 50, 51, 50, 52, 50, 53, 50, 54, 50, 55, 50, 56, 50, 57, 51, 48, 51, 49, 51, 50, 51, 51, 51, 52, 51, 53, 51, 54, 51, 55, 51, 56, 51, 57, 52, 48, 52, 49, 52, 50, 52, 51, 52, 52, 52, 53, 52, 54, 52, 55, 52, 56, 52, 57, 53, 48, 53, 49, 53, 50, 53, 51, 53, 52, 53, 53, 53, 54, 53, 55, 53, 56, 53, 57, 54, 48, 54, 49, 54, 50, 54, 51, 54, 52, 54, 53, 54, 54, 54, 55, 54, 56, 54, 57, 55, 48, 55, 49, 55, 50, 55, 51, 55, 52, 55, 53, 55, 54, 55, 55, 55, 56, 55, 57, 56, 48, 56, 49, 56, 50, 56, 51, 56, 52, 56, 53, 56, 54, 56, 55, 56, 56, 56, 57, 57, 48, 57, 49, 57, 50, 57, 51, 57, 52, 57, 53, 57, 54, 57, 55, 57, 56, 57, 57]⟩)) (.t 77), none⟩, ⟨some 79, .ia 1 (.t 68) (.t 70), none⟩, ⟨none, .store 1 (.t 79) (.t 76), none⟩, ⟨some 80, .ia 1 (.t 71) (.t 73), none⟩, ⟨none, .store 1 (.t 80) (.t 78), none⟩])
  (.seq (.reg [⟨some 81, .mv (.t 0) false, none⟩, ⟨some 82, .mv (.t 4) false, none⟩, ⟨some 83, .bin .sub (.t 82) (.c (.int .i64 7)), none⟩, ⟨some 84, .mv (.t 0) false, none⟩, ⟨some 85, .mv (.t 4) false, none⟩, ⟨some 86, .bin .sub (.t 85) (.c (.int .i64 8)), none⟩, ⟨some 87, .mv (.t 10) false, none⟩, ⟨some 88, .bin .add (.t 87) (.c (.int .u32 1)), none⟩, ⟨some 89, .ix (.c (.string ⟨#[48, 48, 48, 49, 48, 50, 48, 51, 48, 52, 48, 53, 48, 54, 48, 55, 48, 56, 48, 57, 49, 48, 49, 49, 49, 50, 49, 51, 49, 52, 49, 53, 49, 54, 49, 55, 49, 56, 49, 57, 50, 48, 50, 49, 50, 50, 50, 51, 50, 52, 50, 53, 50, 54, 50, 55, 50, 56, 50, 57, 51, 48, 51, 49, 51, 50, 51, 51, 51, 52, 51, 53, 51, 54, 51, 55, 51, 56, 51, 57, 52, 48, 52, 49, 52, 50, 52, 51, 52, 52, 52, 53, 52, 54, 52, 55, 52, 56, 52, 57, 53, 48, 53, 49, 53, 50, 53, 51, 53, 52, 53, 53, 53, 54, 53, 55, 53, 56, 53, 57, 54, 48, 54, 49, 54, 50, 54, 51, 54, 52, 54, 53, 54, 54, 54, 55, 54, 56, 54, 57, 55, 48, 55, 49, 55, 50, 55, 51, 55, 52, 55, 53, 55, 54, 55, 55, 55, 56, 55, 57, 56, 48, 56, 49, 56, 50, 56, 51, 56, 52, 56, 53, 56, 54, 56, 55, 56, 56, 56, 57, 57, 48, 57, 49, 57, 50, 57, 51, 57, 52, 57, 53, 57, 54, 57, 55, 57, 56, 57, 57]⟩)) (.t 88), none⟩, ⟨some 90, .mv (.t 10) false, none⟩, ⟨some 91, .ix (.c (.string ⟨#[48, 48, 48, 49, 48, 50, 48, 51, 48, 52, 48, 53, 48, 54, 48, 55, 48, 56, 48, 57, 49, 48, 49, 49, 49, 50, 49, 51, 49, 52, 49, 53, 49, 54, 49, 55, 49, 56, 49, 57, 50, 48, 50, 49, 50, 50, 50, 51, 50, 52, 50, 53, 50, 54, 50, 55, 50, 56, 50, 57, 51, 48, 51, 49, 51, 50, 51, 51, 51, 52, 51, 53, 51, 54, 51, 55, 51, 56, 51, 57, 52, 48, 52, 49, 52, 50, 52, 51, 52, 52, 52, 53, 52, 54, 52, 55, 52, 56, 52, 57, 53, 48, 53, 49, 53, 50, 53, 51, 53, 52, 53, 53, 53, 54, 53, 55, 53, 56, 53, 57, 54, 48, 54, 49, 54, 50, 54, 51, 54, 52, 54, 53, 54, 54, 54, 55, 54, 56, 54, 57, 55, 48, 55, 49, 55, 50, 55, 51, 55, 52, 55, 53, 55, 54, 55, 55, 55, 56, 55, 57, 56, 48, 56, 49, 56, 50, 56, 51, 56, 52, 56, 53, 56, 54, 56, 55, 56, 56, 56, 57, 57, 48, 57, 49, 57, 50, 57, 51, 57, 52, 57, 53, 57, 54, 57, 55, 57, 56, 57, 57]⟩)) (.t 90), none⟩, ⟨some 92, .ia 1 (.t 81) (.t 83), none⟩, ⟨none, .store 1 (.t 92) (.t 89), none⟩, ⟨some 93, .ia 1 (.t 84) (.t 86), none⟩, ⟨none, .store 1 (.t 93) (.t 91), none⟩])
  (.reg [⟨some 94, .mv (.t 4) false, none⟩, ⟨some 95, .bin .sub (.t 94) (.c (.int .i64 8)), none⟩, ⟨some 4, .mv (.t 95) true, none⟩])))))))))))
def L110_0 : C := .loop [0, 1, 4] 0 B110_0
theorem go110_0 (s : Env × Bx) (nb) : evL tab ext nb L110_0 s = (loopIn nb [0, 1, 4] 0 s).bind fun s0 => (evL tab ext nb B110_0 s0).bind (seqG tab ext nb L110_0) := eL_loop _ _ _
/-- internal/strconv.formatBase10 -/
def C110 : CFun := ⟨167, 2, .seq (.reg [⟨some 17, .mv (.t 0) false, none⟩, ⟨some 18, .len (.t 17), none⟩, ⟨some 4, .mv (.t 18) true, none⟩])
  (.seq (.block 0 (L110_0))
  (.seq (.reg [⟨some 96, .mv (.t 1) false, none⟩, ⟨some 97, .conv .u32 (.t 96), none⟩, ⟨some 12, .mv (.t 97) true, none⟩])
  (.seq (.seq (.reg [⟨some 98, .mv (.t 4) false, none⟩, ⟨some 99, .bin .geq (.t 98) (.c (.int .i64 4)), none⟩])
  (.cond (.t 99) (.seq (.reg [⟨some 100, .mv (.t 12) false, none⟩, ⟨some 101, .bin .rem (.t 100) (.c (.int .u32 10000)), none⟩, ⟨some 13, .mv (.t 101) true, none⟩])
  (.seq (.reg [⟨some 102, .mv (.t 12) false, none⟩, ⟨some 103, .bin .quo (.t 102) (.c (.int .u32 10000)), none⟩, ⟨some 12, .mv (.t 103) true, none⟩])
  (.seq (.reg [⟨some 104, .mv (.t 13) false, none⟩, ⟨some 105, .bin .quo (.t 104) (.c (.int .u32 100)), none⟩, ⟨some 106, .bin .mul (.t 105) (.c (.int .u32 2)), none⟩, ⟨some 107, .mv (.t 13) false, none⟩, ⟨some 108, .bin .rem (.t 107) (.c (.int .u32 100)), none⟩, ⟨some 109, .bin .mul (.t 108) (.c (.int .u32 2)), none⟩, ⟨some 14, .mv (.t 106) true, none⟩, ⟨some 15, .mv (.t 109) true, none⟩])
  (.seq (.reg [⟨some 110, .mv (.t 0) false, none⟩, ⟨some 111, .mv (.t 4) false, none⟩, ⟨some 112, .bin .sub (.t 111) (.c (.int .i64 1)), none⟩, ⟨some 113, .mv (.t 0) false, none⟩, ⟨some 114, .mv (.t 4) false, none⟩, ⟨some 115, .bin .sub (.t 114) (.c (.int .i64 2)), none⟩, ⟨some 116, .mv (.t 15) false, none⟩, ⟨some 117, .bin .add (.t 116) (.c (.int .u32 1)), none⟩, ⟨some 118, .ix (.c (.string ⟨#[48, 48, 48, 49, 48, 50, 48, 51, 48, 52, 48, 53, 48, 54, 48, 55, 48, 56, 48, 57, 49, 48, 49, 49, 49, 50, 49, 51, 49, 52, 49, 53, 49, 54, 49, 55, 49, 56, 49, 57, 50, 48, 50, 49, 50, 50, 50, 51, 50, 52, 50, 53, 50, 54, 50, 55, 50, 56, 50, 57, 51, 48, 51, 49, 51, 50, 51, 51, 51, 52, 51, 53, 51, 54, 51, 55, 51, 56, 51, 57, 52, 48, 52, 49, 52, 50, 52, 51, 52, 52, 52, 53, 52, 54, 52, 55, 52, 56, 52, 57, 53, 48, 53, 49, 53, 50, 53, 51, 53, 52, 53, 53, 53, 54, 53, 55, 53, 56, 53, 57, 54, 48, 54, 49, 54, 50, 54, 51, 54, 52, 54, 53, 54, 54, 54, 55, 54, 56, 54, 57, 55, 48, 55, 49, 55, 50, 55, 51, 55, 52, 55, 53, 55, 54, 55, 55, 55, 56, 55, 57, 56, 48, 56, 49, 56, 50, 56, 51, 56, 52, 56, 53, 56, 54, 56, 55, 56, 56, 56, 57, 57, 48, 57, 49, 57, 50, 57, 51, 57, 52, 57, 53, 57, 54, 57, 55, 57, 56, 57, 57]⟩)) (.t 117), none⟩, ⟨some 119, .mv (.t 15) false, none⟩, ⟨some 120, .ix (.c (.string ⟨#[48, 48, 48, 49, 48, 50, 48, 51, 48, 52, 48, 53, 48, 54, 48, 55, 48, 56, 48, 57, 49, 48, 49, 49, 49, 50, 49, 51, 49, 52, 49, 53, 49, 54, 49, 55, 49, 56, 49, 57, 50, 48, 50, 49, 50, 50, 50, 51, 50, 52, 50, 53, 50, 54, 50, 55, 50, 56, 50, 57, 51, 48, 51, 49, 51, 50, 51, 51, 51, 52, 51, 53, 51, 54, 51, 55, 51, 56, 51, 57, 52, 48, 52, 49, 52, 50, 52, 51, 52, 52, 52, 53, 52, 54, 52, 55, 52, 56, 52, 57, 53, 48, 53, 49, 53, 50, 53, 51, 53, 52, 53, 53, 53, 54, 53, 55, 53, 56, 53, 57, 54, 48, 54, 49, 54, 50, 54, 51, 54, 52, 54, 53, 54, 54, 54, 55, 54, 56, 54, 57, 55, 48, 55, 49, 55, 50, 55, 51, 55, 52, 55, 53, 55, 54, 55, 55, 55, 56, 55, 57, 56, 48, 56, 49, 56, 50, 56, 51, 56, 52, 56, 53, 56, 54, 56, 55, 56, 56, 56, 57, 57, 48, 57, 49, 57, 50, 57, 51, 57, 52, 57, 53, 57, 54, 57, 55, 57, 56, 57, 57]⟩)) (.t 119), none⟩, ⟨some 121, .ia 1 (.t 110) (.t 112), none⟩, ⟨none, .store 1 (.t 121) (.t 118), none⟩, ⟨some 122, .ia 1 (.t 113) (.t 115), none⟩, ⟨none, .store 1 (.t 122) (.t 120), none⟩])
  (.seq (.reg [⟨some 123, .mv (.t 0) false, none⟩, ⟨some 124, .mv (.t 4) false, none⟩, ⟨some 125, .bin .sub (.t 124) (.c (.int .i64 3)), none⟩, ⟨some 126, .mv (.t 0) false, none⟩, ⟨some 127, .mv (.t 4) false, none⟩, ⟨some 128, .bin .sub (.t 127) (.c (.int .i64 4)), none⟩, ⟨some 129, .mv (.t 14) false, none⟩, ⟨some 130, .bin .add (.t 129) (.c (.int .u32 1)), none⟩, ⟨some 131, .ix (.c (.string ⟨#[48, 48, 48, 49, 48, 50, 48, 51, 48, 52, 48, 53, 48, 54, 48, 55, 48, 56, 48, 57, 49, 48, 49, 49, 49, 50, 49, 51, 49, 52, 49, 53, 49, 54, 49, 55, 49, 56, 49, 57, 50, 48, 50, 49, 50, 50, 50, 51, 50, 52, 50, 53, 50, 54, 50, 55, 50, 56, 50, 57, 51, 48, 51, 49, 51, 50, 51, 51, 51, 52, 51, 53, 51, 54, 51, 55, 51, 56, 51, 57, 52, 48, 52, 49, 52, 50, 52, 51, 52, 52, 52, 53, 52, 54, 52, 55, 52, 56, 52, 57, 53, 48, 53, 49, 53, 50, 53, 51, 53, 52, 53, 53, 53, 54, 53, 55, 53, 56, 53, 57, 54, 48, 54, 49, 54, 50, 54, 51, 54, 52, 54, 53, 54, 54, 54, 55, 54, 56, 54, 57, 55, 48, 55, 49, 55, 50, 55, 51, 55, 52, 55, 53, 55, 54, 55, 55, 55, 56, 55, 57, 56, 48, 56, 49, 56, 50, 56, 51, 56, 52, 56, 53, 56, 54, 56, 55, 56, 56, 56, 57, 57, 48, 57, 49, 57, 50, 57, 51, 57, 52, 57, 53, 57, 54, 57, 55, 57, 56, 57, 57]⟩)) (.t 130), none⟩, ⟨some 132, .mv (.t 14) false, none⟩, ⟨some 133, .ix (.c (.string ⟨#[48, 48, 48, 49, 48, 50, 48, 51, 48, 52, 48, 53, 48, 54, 48, 55, 48, 56, 48, 57, 49, 48, 49, 49, 49, 50, 49, 51, 49, 52, 49, 53, 49, 54, 49, 55, 49, 56, 49, 57, 50, 48, 50, 49, 50, 50, 50, 51, 50, 52, 50, 53, 50, 54, 50, 55, 50, 56, 50, 57, 51, 48, 51, 49, 51, 50, 51, 51, 51, 52, 51, 53, 51, 54, 51, 55, 51, 56, 51, 57, 52, 48, 52, 49, 52, 50, 52, 51, 52, 52, 52, 53, 52, 54, 52, 55, 52, 56, 52, 57, 53, 48, 53, 49, 53, 50, 53, 51, 53, 52, 53, 53, 53, 54, 53, 55, 53, 56, 53, 57, 54, 48, 54, 49, 54, 50, 54, 51, 54, 52, 54, 53, 54, 54, 54, 55, 54, 56, 54, 57, 55, 48, 55, 49, 55, 50, 55, 51, 55, 52, 55, 53, 55, 54, 55, 55, 55, 56, 55, 57, 56, 48, 56, 49, 56, 50, 56, 51, 56, 52, 56, 53, 56, 54, 56, 55, 56, 56, 56, 57, 57, 48, 57, 49, 57, 50, 57, 51, 57, 52, 57, 53, 57, 54, 57, 55, 57, 56, 57, 57]⟩)) (.t 132), none⟩, ⟨some 134, .ia 1 (.t 123) (.t 125), none⟩, ⟨none, .store 1 (.t 134) (.t 131), none⟩, ⟨some 135, .ia 1 (.t 126) (.t 128), none⟩, ⟨none, .store 1 (.t 135) (.t 133), none⟩])
  (.reg [⟨some 136, .mv (.t 4) false, none⟩, ⟨some 137, .bin .sub (.t 136) (.c (.int .i64 4)), none⟩, ⟨some 4, .mv (.t 137) true, none⟩]))))))
  (.skip)))
  (.seq (.seq (.reg [⟨some 138, .mv (.t 4) false, none⟩, ⟨some 139, .bin .geq (.t 138) (.c (.int .i64 2)), none⟩])
  (.cond (.t 139) (.seq (.reg [⟨some 140, .mv (.t 12) false, none⟩, ⟨some 141, .bin .rem (.t 140) (.c (.int .u32 100)), none⟩, ⟨some 142, .bin .mul (.t 141) (.c (.int .u32 2)), none⟩, ⟨some 16, .mv (.t 142) true, none⟩])
  (.seq (.reg [⟨some 143, .mv (.t 12) false, none⟩, ⟨some 144, .bin .quo (.t 143) (.c (.int .u32 100)), none⟩, ⟨some 12, .mv (.t 144) true, none⟩])
  (.seq (.reg [⟨some 145, .mv (.t 0) false, none⟩, ⟨some 146, .mv (.t 4) false, none⟩, ⟨some 147, .bin .sub (.t 146) (.c (.int .i64 1)), none⟩, ⟨some 148, .mv (.t 0) false, none⟩, ⟨some 149, .mv (.t 4) false, none⟩, ⟨some 150, .bin .sub (.t 149) (.c (.int .i64 2)), none⟩, ⟨some 151, .mv (.t 16) false, none⟩, ⟨some 152, .bin .add (.t 151) (.c (.int .u32 1)), none⟩, ⟨some 153, .ix (.c (.string ⟨#[48, 48, 48, 49, 48, 50, 48, 51, 48, 52, 48, 53, 48, 54, 48, 55, 48, 56, 48, 57, 49, 48, 49, 49, 49, 50, 49, 51, 49, 52, 49, 53, 49, 54, 49, 55, 49, 56, 49, 57, 50, 48, 50, 49, 50, 50, 50, 51, 50, 52, 50, 53, 50, 54, 50, 55, 50, 56, 50, 57, 51, 48, 51, 49, 51, 50, 51, 51, 51, 52, 51, 53, 51, 54, 51, 55, 51, 56, 51, 57, 52, 48, 52, 49, 52, 50, 52, 51, 52, 52, 52, 53, 52, 54, 52, 55, 52, 56, 52, 57, 53, 48, 53, 49, 53, 50, 53, 51, 53, 52, 53, 53, 53, 54, 53, 55, 53, 56, 53, 57, 54, 48, 54, 49, 54, 50, 54, 51, 54, 52, 54, 53, 54, 54, 54, 55, 54, 56, 54, 57, 55, 48, 55, 49, 55, 50, 55, 51, 55, 52, 55, 53, 55, 54, 55, 55, 55, 56, 55, 57, 56, 48, 56, 49, 56, 50, 56, 51, 56, 52, 56, 53, 56, 54, 56, 55, 56, 56, 56, 57, 57, 48, 57, 49, 57, 50, 57, 51, 57, 52, 57, 53, 57, 54, 57, 55, 57, 56, 57, 57]⟩)) (.t 152), none⟩, ⟨some 154, .mv (.t 16) false, none⟩, ⟨some 155, .ix (.c (.string ⟨#[48, 48, 48, 49, 48, 50, 48, 51, 48, 52, 48, 53, 48, 54, 48, 55, 48, 56, 48, 57, 49, 48, 49, 49, 49, 50, 49, 51, 49, 52, 49, 53, 49, 54, 49, 55, 49, 56, 49, 57, 50, 48, 50, 49, 50, 50, 50, 51, 50, 52, 50, 53, 50, 54, 50, 55, 50, 56, 50, 57, 51, 48, 51, 49, 51, 50, 51, 51, 51, 52, 51, 53, 51, 54, 51, 55, 51, 56, 51, 57, 52, 48, 52, 49, 52, 50, 52, 51, 52, 52, 52, 53, 52, 54, 52, 55, 52, 56, 52, 57, 53, 48, 53, 49, 53, 50, 53, 51, 53, 52, 53, 53, 53, 54, 53, 55, 53, 56, 53, 57, 54, 48, 54, 49, 54, 50, 54, 51, 54, 52, 54, 53, 54, 54, 54, 55, 54, 56, 54, 57, 55, 48, 55, 49, 55, 50, 55, 51, 55, 52, 55, 53, 55, 54, 55, 55, 55, 56, 55, 57, 56, 48, 56, 49, 56, 50, 56, 51, 56, 52, 56, 53, 56, 54, 56, 55, 56, 56, 56, 57, 57, 48, 57, 49, 57, 50, 57, 51, 57, 52, 57, 53, 57, 54, 57, 55, 57, 56, 57, 57]⟩)) (.t 154), none⟩, ⟨some 156, .ia 1 (.t 145) (.t 147), none⟩, ⟨none, .store 1 (.t 156) (.t 153), none⟩, ⟨some 157, .ia 1 (.t 148) (.t 150), none⟩, ⟨none, .store 1 (.t 157) (.t 155), none⟩])
  (.reg [⟨some 158, .mv (.t 4) false, none⟩, ⟨some 159, .bin .sub (.t 158) (.c (.int .i64 2)), none⟩, ⟨some 4, .mv (.t 159) true, none⟩]))))
  (.skip)))
  (.seq (.reg [⟨some 160, .mv (.t 4) false, none⟩, ⟨some 161, .bin .gtr (.t 160) (.c (.int .i64 0)), none⟩])
  (.cond (.t 161) (.reg [⟨some 162, .mv (.t 0) false, none⟩, ⟨some 163, .mv (.t 12) false, none⟩, ⟨some 164, .bin .add (.c (.int .u32 48)) (.t 163), none⟩, ⟨some 165, .conv .u8 (.t 164), none⟩, ⟨some 166, .ia 1 (.t 162) (.c (.int .i64 0)), none⟩, ⟨none, .store 1 (.t 166) (.t 165), none⟩])
  (.skip))))))), []⟩
theorem row110 : RowOk Tryz.prog 110 C110 := ⟨Tryz.f110, ⟨[], [], [], []⟩, lvOf [(0, [0, 1, 4], 0)], Tryz.func110, by kernel_rfl, by kernel_rfl⟩
def B112_0 : C := .seq (.reg [⟨some 23, .bin .lss (.t 22) (.t 21), none⟩])
  (.seq (.cond (.t 23) (.skip)
  (.exit 0))
  (.seq (.block 1 (.seq (.reg [⟨some 24, .ia 1 (.t 20) (.t 22), none⟩, ⟨some 25, .load 1 false (.t 24) false, none⟩, ⟨some 12, .mv (.t 25) true, none⟩])
  (.reg [⟨some 26, .mv (.t 10) false, none⟩, ⟨some 27, .mv (.t 12) false, none⟩, ⟨some 28, .bin .add (.t 26) (.t 27), none⟩, ⟨some 10, .mv (.t 28) true, none⟩])))
  (.reg [⟨some 29, .bin .add (.t 22) (.c (.int .i64 1)), none⟩, ⟨some 22, .mv (.t 29) false, none⟩])))
def L112_0 : C := .loop [9, 10, 20, 21, 22] 1 B112_0
theorem go112_0 (s : Env × Bx) (nb) : evL tab ext nb L112_0 s = (loopIn nb [9, 10, 20, 21, 22] 1 s).bind fun s0 => (evL tab ext nb B112_0 s0).bind (seqG tab ext nb L112_0) := eL_loop _ _ _
/-- swingbridge/wait.Sum -/
def C112 : CFun := ⟨32, 3, .seq (.reg [⟨some 3, .box (.t 0), none⟩, ⟨some 6, .mv (.c (.int .i64 0)) true, none⟩, ⟨some 7, .mv (.c (.bool false)) true, none⟩])
  (.seq (.reg [⟨some 14, .load 4 true (.t 3) false, none⟩, ⟨some 15, .mv (.t 1) false, none⟩, ⟨some 16, .mv (.t 2) false, none⟩, ⟨some 17, .call 30 [(.t 14), (.t 15), (.t 16)] false, none⟩, ⟨some 13, .mv (.t 17) false, none⟩, ⟨some 18, .ext (.t 13) 0, none⟩, ⟨some 19, .ext (.t 13) 1, none⟩, ⟨some 8, .mv (.t 18) true, none⟩, ⟨some 9, .mv (.t 19) true, none⟩])
  (.seq (.reg [⟨some 10, .mv (.c (.int .i64 0)) true, none⟩])
  (.seq (.seq (.reg [⟨some 20, .mv (.t 8) false, none⟩, ⟨some 21, .len (.t 20), none⟩, ⟨some 22, .mv (.c (.int .i64 0)) false, none⟩])
  (.block 0 (L112_0)))
  (.seq (.reg [⟨some 30, .mv (.t 10) false, none⟩, ⟨some 31, .mv (.t 9) false, none⟩, ⟨some 6, .mv (.t 30) true, none⟩, ⟨some 7, .mv (.t 31) true, none⟩])
  (.ret))))), [.t 6, .t 7]⟩
theorem row112 : RowOk Tryz.prog 112 C112 := ⟨Tryz.f112, ⟨[], [], [], []⟩, lvOf [(0, [9, 10, 20, 21, 22], 1)], Tryz.func112, by kernel_rfl, by kernel_rfl⟩
/-- swingbridge/bound.Others$1 -/
def C113 : CFun := ⟨5, 1, .seq (.reg [⟨some 2, .mv (.c (.bool false)) true, none⟩])
  (.seq (.reg [⟨some 3, .mv (.t 0) false, none⟩, ⟨some 4, .bin .lss (.t 3) (.c (.int .i64 0)), none⟩, ⟨some 2, .mv (.t 4) true, none⟩])
  (.ret)), [.t 2]⟩
theorem row113 : RowOk Tryz.prog 113 C113 := ⟨Tryz.f113, ⟨[], [], [], []⟩, lvOf [], Tryz.func113, by kernel_rfl, by kernel_rfl⟩
/-- swingbridge/count.Work -/
def C114 : CFun := ⟨19, 4, .seq (.reg [⟨some 8, .mv (.c (.int .i64 0)) true, none⟩])
  (.seq (.reg [⟨some 9, .mv (.t 0) false, none⟩, ⟨some 10, .mv (.t 1) false, none⟩, ⟨some 11, .mv (.t 2) false, none⟩, ⟨some 12, .call 136 [(.t 9), (.t 10), (.t 11)] false, none⟩, ⟨some 13, .mv (.t 3) false, none⟩, ⟨some 14, .mxn true [(.t 13), (.c (.int .i64 0))], none⟩, ⟨some 15, .call 135 [(.t 12), (.t 14)] false, none⟩, ⟨some 16, .ext (.t 15) 0, none⟩, ⟨some 17, .ext (.t 15) 1, none⟩, ⟨some 18, .call 134 [(.t 16), (.t 17)] false, none⟩, ⟨some 8, .mv (.t 18) true, none⟩])
  (.ret)), [.t 8]⟩
theorem row114 : RowOk Tryz.prog 114 C114 := ⟨Tryz.f114, ⟨[], [], [], []⟩, lvOf [], Tryz.func114, by kernel_rfl, by kernel_rfl⟩
def B116_0 : C := .seq (.reg [⟨some 10, .bin .lss (.t 9) (.t 8), none⟩])
  (.seq (.cond (.t 10) (.skip)
  (.exit 0))
  (.seq (.block 1 (.seq (.reg [⟨some 11, .ia 3 (.t 7) (.t 9), none⟩, ⟨some 12, .load 3 true (.t 11) false, none⟩, ⟨some 5, .alloc [(.int .i64 0), (.int .i64 0), (.int .i64 0)], none⟩, ⟨none, .store 3 (.t 5) (.t 12), none⟩])
  (.seq (.reg [⟨some 13, .fa 0 (.t 5), none⟩, ⟨some 14, .load 1 false (.t 13) false, none⟩, ⟨some 15, .bin .eql (.t 14) (.c (.int .i64 3)), none⟩])
  (.cond (.t 15) (.reg [⟨some 16, .mv (.t 3) false, none⟩, ⟨some 17, .fa 1 (.t 5), none⟩, ⟨some 18, .load 1 false (.t 17) false, none⟩, ⟨some 19, .mxn true [(.t 16), (.t 18)], none⟩, ⟨some 3, .mv (.t 19) true, none⟩])
  (.skip)))))
  (.reg [⟨some 20, .bin .add (.t 9) (.c (.int .i64 1)), none⟩, ⟨some 9, .mv (.t 20) false, none⟩])))
def L116_0 : C := .loop [3, 7, 8, 9] 1 B116_0
theorem go116_0 (s : Env × Bx) (nb) : evL tab ext nb L116_0 s = (loopIn nb [3, 7, 8, 9] 1 s).bind fun s0 => (evL tab ext nb B116_0 s0).bind (seqG tab ext nb L116_0) := eL_loop _ _ _
/-- swingbridge/demand.Longest -/
def C116 : CFun := ⟨22, 1, .seq (.reg [⟨some 1, .box (.t 0), none⟩, ⟨some 2, .mv (.c (.int .i64 0)) true, none⟩])
  (.seq (.reg [⟨some 3, .mv (.c (.int .i64 0)) true, none⟩])
  (.seq (.seq (.reg [⟨some 6, .fa 5 (.t 1), none⟩, ⟨some 7, .load 1 false (.t 6) false, none⟩, ⟨some 8, .len (.t 7), none⟩, ⟨some 9, .mv (.c (.int .i64 0)) false, none⟩])
  (.block 0 (L116_0)))
  (.seq (.reg [⟨some 21, .mv (.t 3) false, none⟩, ⟨some 2, .mv (.t 21) true, none⟩])
  (.ret)))), [.t 2]⟩
theorem row116 : RowOk Tryz.prog 116 C116 := ⟨Tryz.f116, ⟨[], [], [], []⟩, lvOf [(0, [3, 7, 8, 9], 1)], Tryz.func116, by kernel_rfl, by kernel_rfl⟩
/-- swingbridge/sorted.Top -/
def C117 : CFun := ⟨17, 2, .seq (.reg [⟨some 4, .mv (.c (.slice none 0 0)) true, none⟩])
  (.seq (.reg [⟨some 6, .mv (.t 0) false, none⟩, ⟨some 7, .calli 137 [(.t 6)], none⟩, ⟨some 5, .mv (.t 7) true, none⟩])
  (.seq (.reg [⟨some 8, .mv (.t 5) false, none⟩, ⟨some 9, .calli 19 [(.t 8), (.f 138)], none⟩])
  (.seq (.reg [⟨some 10, .mv (.t 5) false, none⟩, ⟨some 11, .mv (.t 1) false, none⟩, ⟨some 12, .mxn true [(.t 11), (.c (.int .i64 0))], none⟩, ⟨some 13, .mv (.t 5) false, none⟩, ⟨some 14, .len (.t 13), none⟩, ⟨some 15, .mxn false [(.t 12), (.t 14)], none⟩, ⟨some 16, .slc 1 (.t 10) none (some (.t 15)) none, none⟩, ⟨some 4, .mv (.t 16) true, none⟩])
  (.ret)))), [.t 4]⟩
theorem row117 : RowOk Tryz.prog 117 C117 := ⟨Tryz.f117, ⟨[], [], [], [137]⟩, lvOf [], Tryz.func117, by kernel_rfl, by kernel_rfl⟩
def B118_0 : C := .seq (.reg [⟨some 16, .bin .lss (.t 15) (.t 14), none⟩])
  (.seq (.cond (.t 16) (.skip)
  (.exit 0))
  (.seq (.block 1 (.seq (.reg [⟨some 17, .ia 1 (.t 13) (.t 15), none⟩, ⟨some 18, .load 1 false (.t 17) false, none⟩, ⟨some 9, .mv (.t 18) true, none⟩])
  (.reg [⟨some 19, .mv (.t 7) false, none⟩, ⟨some 20, .mv (.t 9) false, none⟩, ⟨some 21, .mxn true [(.t 19), (.t 20)], none⟩, ⟨some 7, .mv (.t 21) true, none⟩])))
  (.reg [⟨some 22, .bin .add (.t 15) (.c (.int .i64 1)), none⟩, ⟨some 15, .mv (.t 22) false, none⟩])))
def L118_0 : C := .loop [7, 13, 14, 15] 1 B118_0
theorem go118_0 (s : Env × Bx) (nb) : evL tab ext nb L118_0 s = (loopIn nb [7, 13, 14, 15] 1 s).bind fun s0 => (evL tab ext nb B118_0 s0).bind (seqG tab ext nb L118_0) := eL_loop _ _ _
/-- swingbridge/demand.Most -/
def C118 : CFun := ⟨24, 3, .seq (.reg [⟨some 3, .box (.t 0), none⟩, ⟨some 6, .mv (.c (.int .i64 0)) true, none⟩])
  (.seq (.reg [⟨some 7, .mv (.c (.int .i64 0)) true, none⟩])
  (.seq (.seq (.reg [⟨some 10, .load 4 true (.t 3) false, none⟩, ⟨some 11, .mv (.t 1) false, none⟩, ⟨some 12, .mv (.t 2) false, none⟩, ⟨some 13, .call 140 [(.t 10), (.t 11), (.t 12)] false, none⟩, ⟨some 14, .len (.t 13), none⟩, ⟨some 15, .mv (.c (.int .i64 0)) false, none⟩])
  (.block 0 (L118_0)))
  (.seq (.reg [⟨some 23, .mv (.t 7) false, none⟩, ⟨some 6, .mv (.t 23) true, none⟩])
  (.ret)))), [.t 6]⟩
theorem row118 : RowOk Tryz.prog 118 C118 := ⟨Tryz.f118, ⟨[], [], [], []⟩, lvOf [(0, [7, 13, 14, 15], 1)], Tryz.func118, by kernel_rfl, by kernel_rfl⟩
def B119_0 : C := .seq (.reg [⟨some 16, .bin .lss (.t 15) (.t 14), none⟩])
  (.seq (.cond (.t 16) (.skip)
  (.exit 0))
  (.seq (.block 1 (.seq (.reg [⟨some 17, .ia 1 (.t 13) (.t 15), none⟩, ⟨some 18, .load 1 false (.t 17) false, none⟩, ⟨some 9, .mv (.t 18) true, none⟩])
  (.reg [⟨some 19, .mv (.t 7) false, none⟩, ⟨some 20, .mv (.t 9) false, none⟩, ⟨some 21, .bin .add (.t 19) (.t 20), none⟩, ⟨some 7, .mv (.t 21) true, none⟩])))
  (.reg [⟨some 22, .bin .add (.t 15) (.c (.int .i64 1)), none⟩, ⟨some 15, .mv (.t 22) false, none⟩])))
def L119_0 : C := .loop [7, 13, 14, 15] 1 B119_0
theorem go119_0 (s : Env × Bx) (nb) : evL tab ext nb L119_0 s = (loopIn nb [7, 13, 14, 15] 1 s).bind fun s0 => (evL tab ext nb B119_0 s0).bind (seqG tab ext nb L119_0) := eL_loop _ _ _
/-- swingbridge/demand.At -/
def C119 : CFun := ⟨24, 3, .seq (.reg [⟨some 3, .box (.t 0), none⟩, ⟨some 6, .mv (.c (.int .i64 0)) true, none⟩])
  (.seq (.reg [⟨some 7, .mv (.c (.int .i64 0)) true, none⟩])
  (.seq (.seq (.reg [⟨some 10, .load 4 true (.t 3) false, none⟩, ⟨some 11, .mv (.t 1) false, none⟩, ⟨some 12, .mv (.t 2) false, none⟩, ⟨some 13, .call 140 [(.t 10), (.t 11), (.t 12)] false, none⟩, ⟨some 14, .len (.t 13), none⟩, ⟨some 15, .mv (.c (.int .i64 0)) false, none⟩])
  (.block 0 (L119_0)))
  (.seq (.reg [⟨some 23, .mv (.t 7) false, none⟩, ⟨some 6, .mv (.t 23) true, none⟩])
  (.ret)))), [.t 6]⟩
theorem row119 : RowOk Tryz.prog 119 C119 := ⟨Tryz.f119, ⟨[], [], [], []⟩, lvOf [(0, [7, 13, 14, 15], 1)], Tryz.func119, by kernel_rfl, by kernel_rfl⟩
/-- swingbridge/token.there -/
def C120 : CFun := ⟨25, 2, .seq (.reg [⟨some 2, .box (.t 0), none⟩, ⟨some 4, .mv (.c (.bool false)) true, none⟩])
  (.seq (.reg [⟨some 8, .load 4 true (.t 2) false, none⟩, ⟨some 9, .call 17 [(.t 8)] false, none⟩, ⟨some 7, .mv (.t 9) false, none⟩, ⟨some 10, .ext (.t 7) 0, none⟩, ⟨some 11, .ext (.t 7) 1, none⟩, ⟨some 5, .mv (.t 10) true, none⟩, ⟨some 6, .mv (.t 11) true, none⟩])
  (.seq (.reg [⟨some 12, .mv (.t 6) false, none⟩, ⟨some 13, .bin .eql (.t 12) (.c (.int .i64 0)), none⟩, ⟨some 14, .mv (.t 13) false, none⟩, ⟨some 15, .mv (.t 1) false, some (14, true)⟩, ⟨some 16, .bin .geq (.t 15) (.c (.int .i64 0)), some (14, true)⟩, ⟨some 17, .pick (.t 14) (.t 16) (.c (.bool false)), none⟩, ⟨some 18, .mv (.t 17) false, none⟩, ⟨some 19, .mv (.t 1) false, some (18, true)⟩, ⟨some 20, .fa 3 (.t 2), some (18, true)⟩, ⟨some 21, .load 1 false (.t 20) false, some (18, true)⟩, ⟨some 22, .len (.t 21), some (18, true)⟩, ⟨some 23, .bin .lss (.t 19) (.t 22), some (18, true)⟩, ⟨some 24, .pick (.t 18) (.t 23) (.c (.bool false)), none⟩, ⟨some 4, .mv (.t 24) true, none⟩])
  (.ret))), [.t 4]⟩
theorem row120 : RowOk Tryz.prog 120 C120 := ⟨Tryz.f120, ⟨[], [], [], []⟩, lvOf [], Tryz.func120, by kernel_rfl, by kernel_rfl⟩
def B121_0 : C := .seq (.reg [⟨some 12, .bin .lss (.t 11) (.t 10), none⟩])
  (.seq (.cond (.t 12) (.skip)
  (.exit 0))
  (.seq (.block 1 (.seq (.reg [⟨some 13, .mv (.t 11) false, none⟩, ⟨some 14, .ia 6 (.t 9) (.t 11), none⟩, ⟨some 15, .load 6 true (.t 14) false, none⟩, ⟨some 7, .alloc [(.string ⟨#[]⟩), (.int .i64 0), (.int .i64 0), (.int .i64 0), (.int .i64 0), (.slice none 0 0)], none⟩, ⟨some 6, .mv (.t 13) true, none⟩, ⟨none, .store 6 (.t 7) (.t 15), none⟩])
  (.seq (.seq (.reg [⟨some 16, .mv (.t 6) false, none⟩, ⟨some 17, .mv (.t 1) false, none⟩, ⟨some 18, .bin .eql (.t 16) (.t 17), none⟩])
  (.cond (.t 18) (.exit 1)
  (.skip)))
  (.reg [⟨some 19, .mv (.t 5) true, none⟩, ⟨some 20, .load 6 true (.t 7) false, none⟩, ⟨some 21, .call 116 [(.t 20)] false, none⟩, ⟨some 22, .bsl 1 1 [(.int .i64 0)] [(0, 1, (.t 21))] false, none⟩, ⟨some 23, .app 1 8 (.t 19) (.t 22) false, none⟩, ⟨some 5, .mv (.t 23) true, none⟩]))))
  (.reg [⟨some 24, .bin .add (.t 11) (.c (.int .i64 1)), none⟩, ⟨some 11, .mv (.t 24) false, none⟩])))
def L121_0 : C := .loop [1, 2, 5, 9, 10, 11] 1 B121_0
theorem go121_0 (s : Env × Bx) (nb) : evL tab ext nb L121_0 s = (loopIn nb [1, 2, 5, 9, 10, 11] 1 s).bind fun s0 => (evL tab ext nb B121_0 s0).bind (seqG tab ext nb L121_0) := eL_loop _ _ _
/-- swingbridge/token.others -/
def C121 : CFun := ⟨30, 2, .seq (.reg [⟨some 2, .box (.t 0), none⟩, ⟨some 4, .mv (.c (.int .i64 0)) true, none⟩])
  (.scope (.seq (.reg [⟨some 5, .mv (.c (.slice none 0 0)) true, none⟩])
  (.seq (.skip)
  (.seq (.seq (.reg [⟨some 8, .fa 3 (.t 2), none⟩, ⟨some 9, .load 1 false (.t 8) false, none⟩, ⟨some 10, .len (.t 9), none⟩, ⟨some 11, .mv (.c (.int .i64 0)) false, none⟩])
  (.block 0 (L121_0)))
  (.seq (.reg [⟨some 25, .mv (.t 5) false, none⟩, ⟨some 26, .load 4 true (.t 2) false, none⟩, ⟨some 27, .call 141 [(.t 26)] false, none⟩, ⟨some 28, .bin .sub (.t 27) (.c (.int .i64 1)), none⟩, ⟨some 29, .call 91 [(.t 25), (.t 28)] false, none⟩, ⟨some 4, .mv (.t 29) true, none⟩])
  (.ret)))))), [.t 4]⟩
theorem row121 : RowOk Tryz.prog 121 C121 := ⟨Tryz.f121, ⟨[], [], [], []⟩, lvOf [(0, [1, 2, 5, 9, 10, 11], 1)], Tryz.func121, by kernel_rfl, by kernel_rfl⟩
/-- swingbridge/calc.Up -/
def C122 : CFun := ⟨39, 2, .seq (.reg [⟨some 4, .mv (.c (.int .i64 0)) true, none⟩, ⟨some 5, .mv (.c (.bool false)) true, none⟩])
  (.seq (.seq (.reg [⟨some 9, .mv (.t 1) false, none⟩, ⟨some 10, .bin .eql (.t 9) (.c (.int .i64 0)), none⟩])
  (.cond (.t 10) (.seq (.reg [⟨some 4, .mv (.c (.int .i64 0)) true, none⟩, ⟨some 5, .mv (.c (.bool false)) true, none⟩])
  (.ret))
  (.skip)))
  (.seq (.reg [⟨some 11, .mv (.t 0) false, none⟩, ⟨some 12, .bin .lss (.t 11) (.c (.int .i64 0)), none⟩, ⟨some 13, .mv (.t 1) false, none⟩, ⟨some 14, .bin .lss (.t 13) (.c (.int .i64 0)), none⟩, ⟨some 15, .eqb true (.t 12) (.t 14), none⟩, ⟨some 6, .mv (.t 15) true, none⟩])
  (.seq (.reg [⟨some 16, .mv (.t 0) false, none⟩, ⟨some 17, .call 142 [(.t 16)] false, none⟩, ⟨some 18, .mv (.t 1) false, none⟩, ⟨some 19, .call 142 [(.t 18)] false, none⟩, ⟨some 20, .bin .quo (.t 17) (.t 19), none⟩, ⟨some 21, .mv (.t 0) false, none⟩, ⟨some 22, .call 142 [(.t 21)] false, none⟩, ⟨some 23, .mv (.t 1) false, none⟩, ⟨some 24, .call 142 [(.t 23)] false, none⟩, ⟨some 25, .bin .rem (.t 22) (.t 24), none⟩, ⟨some 7, .mv (.t 20) true, none⟩, ⟨some 8, .mv (.t 25) true, none⟩])
  (.seq (.seq (.reg [⟨some 26, .mv (.t 8) false, none⟩, ⟨some 27, .bin .gtr (.t 26) (.c (.int .u64 0)), none⟩, ⟨some 28, .mv (.t 27) false, none⟩, ⟨some 29, .mv (.t 6) false, some (28, true)⟩, ⟨some 30, .un .not (.t 29), some (28, true)⟩, ⟨some 31, .pick (.t 28) (.t 30) (.c (.bool false)), none⟩])
  (.cond (.t 31) (.reg [⟨some 32, .mv (.t 7) false, none⟩, ⟨some 33, .bin .add (.t 32) (.c (.int .u64 1)), none⟩, ⟨some 7, .mv (.t 33) true, none⟩])
  (.skip)))
  (.seq (.reg [⟨some 34, .mv (.t 7) false, none⟩, ⟨some 35, .mv (.t 6) false, none⟩, ⟨some 36, .call 143 [(.t 34), (.t 35)] false, none⟩, ⟨some 37, .ext (.t 36) 0, none⟩, ⟨some 38, .ext (.t 36) 1, none⟩, ⟨some 4, .mv (.t 37) true, none⟩, ⟨some 5, .mv (.t 38) true, none⟩])
  (.ret)))))), [.t 4, .t 5]⟩
theorem row122 : RowOk Tryz.prog 122 C122 := ⟨Tryz.f122, ⟨[], [], [], []⟩, lvOf [], Tryz.func122, by kernel_rfl, by kernel_rfl⟩
def B123_0 : C := .seq (.reg [⟨some 12, .bin .lss (.t 11) (.t 10), none⟩])
  (.seq (.cond (.t 12) (.skip)
  (.exit 0))
  (.seq (.block 1 (.seq (.reg [⟨some 13, .mv (.t 11) false, none⟩, ⟨some 14, .ia 6 (.t 9) (.t 11), none⟩, ⟨some 15, .load 6 true (.t 14) false, none⟩, ⟨some 7, .alloc [(.string ⟨#[]⟩), (.int .i64 0), (.int .i64 0), (.int .i64 0), (.int .i64 0), (.slice none 0 0)], none⟩, ⟨some 6, .mv (.t 13) true, none⟩, ⟨none, .store 6 (.t 7) (.t 15), none⟩])
  (.seq (.reg [⟨some 16, .load 4 true (.t 2) false, none⟩, ⟨some 17, .mv (.t 6) false, none⟩, ⟨some 18, .call 144 [(.t 16), (.t 17)] false, none⟩, ⟨some 19, .mv (.t 18) false, none⟩, ⟨some 20, .fa 4 (.t 7), some (19, true)⟩, ⟨some 21, .load 1 false (.t 20) false, some (19, true)⟩, ⟨some 22, .mv (.t 1) false, some (19, true)⟩, ⟨some 23, .bin .eql (.t 21) (.t 22), some (19, true)⟩, ⟨some 24, .pick (.t 19) (.t 23) (.c (.bool false)), none⟩, ⟨some 25, .mv (.t 24) false, none⟩, ⟨some 26, .load 6 true (.t 7) false, some (25, true)⟩, ⟨some 27, .call 116 [(.t 26)] false, some (25, true)⟩, ⟨some 28, .bin .gtr (.t 27) (.c (.int .i64 0)), some (25, true)⟩, ⟨some 29, .pick (.t 25) (.t 28) (.c (.bool false)), none⟩])
  (.cond (.t 29) (.reg [⟨some 30, .mv (.t 5) false, none⟩, ⟨some 31, .bin .add (.t 30) (.c (.int .i64 1)), none⟩, ⟨some 5, .mv (.t 31) true, none⟩])
  (.skip)))))
  (.reg [⟨some 32, .bin .add (.t 11) (.c (.int .i64 1)), none⟩, ⟨some 11, .mv (.t 32) false, none⟩])))
def L123_0 : C := .loop [1, 2, 5, 9, 10, 11] 1 B123_0
theorem go123_0 (s : Env × Bx) (nb) : evL tab ext nb L123_0 s = (loopIn nb [1, 2, 5, 9, 10, 11] 1 s).bind fun s0 => (evL tab ext nb B123_0 s0).bind (seqG tab ext nb L123_0) := eL_loop _ _ _
/-- swingbridge/demand.Askers -/
def C123 : CFun := ⟨34, 2, .seq (.reg [⟨some 2, .box (.t 0), none⟩, ⟨some 4, .mv (.c (.int .i64 0)) true, none⟩])
  (.seq (.reg [⟨some 5, .mv (.c (.int .i64 0)) true, none⟩])
  (.seq (.seq (.reg [⟨some 8, .fa 3 (.t 2), none⟩, ⟨some 9, .load 1 false (.t 8) false, none⟩, ⟨some 10, .len (.t 9), none⟩, ⟨some 11, .mv (.c (.int .i64 0)) false, none⟩])
  (.block 0 (L123_0)))
  (.seq (.reg [⟨some 33, .mv (.t 5) false, none⟩, ⟨some 4, .mv (.t 33) true, none⟩])
  (.ret)))), [.t 4]⟩
theorem row123 : RowOk Tryz.prog 123 C123 := ⟨Tryz.f123, ⟨[], [], [], []⟩, lvOf [(0, [1, 2, 5, 9, 10, 11], 1)], Tryz.func123, by kernel_rfl, by kernel_rfl⟩
/-- swingbridge/swingbridgeref11.Jobs -/
def C124 : CFun := ⟨54, 3, .seq (.reg [⟨some 6, .mv (.c (.int .i64 0)) true, none⟩])
  (.seq (.seq (.reg [⟨some 10, .mv (.t 0) false, none⟩, ⟨some 11, .bin .lss (.t 10) (.c (.int .i64 1)), none⟩, ⟨some 12, .mv (.t 11) false, none⟩, ⟨some 13, .mv (.t 1) false, some (12, false)⟩, ⟨some 14, .bin .lss (.t 13) (.c (.int .i64 0)), some (12, false)⟩, ⟨some 15, .pick (.t 12) (.c (.bool true)) (.t 14), none⟩, ⟨some 16, .mv (.t 15) false, none⟩, ⟨some 17, .mv (.t 2) false, some (16, false)⟩, ⟨some 18, .bin .lss (.t 17) (.c (.int .i64 1)), some (16, false)⟩, ⟨some 19, .pick (.t 16) (.c (.bool true)) (.t 18), none⟩])
  (.cond (.t 19) (.seq (.reg [⟨some 6, .mv (.c (.int .i64 0)) true, none⟩])
  (.ret))
  (.skip)))
  (.seq (.reg [⟨some 20, .mv (.t 0) false, none⟩, ⟨some 21, .mv (.t 2) false, none⟩, ⟨some 22, .bin .quo (.t 20) (.t 21), none⟩, ⟨some 23, .mxn false [(.t 22), (.c (.int .i64 1000000))], none⟩, ⟨some 24, .mv (.t 1) false, none⟩, ⟨some 25, .mv (.t 2) false, none⟩, ⟨some 26, .bin .quo (.t 24) (.t 25), none⟩, ⟨some 27, .mxn false [(.t 26), (.c (.int .i64 1000000))], none⟩, ⟨some 28, .bin .add (.t 23) (.t 27), none⟩, ⟨some 7, .mv (.t 28) true, none⟩])
  (.seq (.reg [⟨some 29, .mv (.t 0) false, none⟩, ⟨some 30, .mv (.t 2) false, none⟩, ⟨some 31, .bin .rem (.t 29) (.t 30), none⟩, ⟨some 32, .mv (.t 1) false, none⟩, ⟨some 33, .mv (.t 2) false, none⟩, ⟨some 34, .bin .rem (.t 32) (.t 33), none⟩, ⟨some 8, .mv (.t 31) true, none⟩, ⟨some 9, .mv (.t 34) true, none⟩])
  (.seq (.block 0 (.seq (.reg [⟨some 36, .mv (.t 8) false, none⟩, ⟨some 37, .mv (.t 2) false, none⟩, ⟨some 38, .mv (.t 9) false, none⟩, ⟨some 39, .bin .sub (.t 37) (.t 38), none⟩, ⟨some 40, .bin .gtr (.t 36) (.t 39), none⟩, ⟨some 35, .mv (.t 40) true, none⟩])
  (.cond (.t 35) (.reg [⟨some 41, .mv (.t 7) false, none⟩, ⟨some 42, .bin .add (.t 41) (.c (.int .i64 2)), none⟩, ⟨some 7, .mv (.t 42) true, none⟩])
  (.seq (.reg [⟨some 44, .mv (.t 8) false, none⟩, ⟨some 45, .bin .gtr (.t 44) (.c (.int .i64 0)), none⟩, ⟨some 46, .mv (.t 45) false, none⟩, ⟨some 47, .mv (.t 9) false, some (46, false)⟩, ⟨some 48, .bin .gtr (.t 47) (.c (.int .i64 0)), some (46, false)⟩, ⟨some 49, .pick (.t 46) (.c (.bool true)) (.t 48), none⟩, ⟨some 43, .mv (.t 49) true, none⟩])
  (.cond (.t 43) (.reg [⟨some 50, .mv (.t 7) false, none⟩, ⟨some 51, .bin .add (.t 50) (.c (.int .i64 1)), none⟩, ⟨some 7, .mv (.t 51) true, none⟩])
  (.skip))))))
  (.seq (.reg [⟨some 52, .mv (.t 7) false, none⟩, ⟨some 53, .mxn false [(.t 52), (.c (.int .i64 1000000))], none⟩, ⟨some 6, .mv (.t 53) true, none⟩])
  (.ret)))))), [.t 6]⟩
theorem row124 : RowOk Tryz.prog 124 C124 := ⟨Tryz.f124, ⟨[], [], [], []⟩, lvOf [], Tryz.func124, by kernel_rfl, by kernel_rfl⟩
def B125_0 : C := .seq (.seq (.reg [⟨some 21, .mv (.t 11) false, none⟩, ⟨some 22, .fa 5 (.t 10), none⟩, ⟨some 23, .load 1 false (.t 22) false, none⟩, ⟨some 24, .len (.t 23), none⟩, ⟨some 25, .bin .lss (.t 21) (.t 24), none⟩])
  (.cond (.t 25) (.skip)
  (.exit 0)))
  (.seq (.block 1 (.seq (.reg [⟨some 28, .fa 5 (.t 10), none⟩, ⟨some 29, .load 1 false (.t 28) false, none⟩, ⟨some 30, .mv (.t 11) false, none⟩, ⟨some 31, .ia 3 (.t 29) (.t 30), none⟩, ⟨some 32, .fa 0 (.t 31), none⟩, ⟨some 33, .load 1 false (.t 32) false, none⟩, ⟨some 34, .bin .eql (.t 33) (.c (.int .i64 3)), none⟩, ⟨some 35, .mv (.t 34) false, none⟩, ⟨some 36, .fa 2 (.t 3), some (35, true)⟩, ⟨some 37, .load 1 false (.t 36) false, some (35, true)⟩, ⟨some 38, .fa 5 (.t 10), some (35, true)⟩, ⟨some 39, .load 1 false (.t 38) false, some (35, true)⟩, ⟨some 40, .mv (.t 11) false, some (35, true)⟩, ⟨some 41, .ia 3 (.t 39) (.t 40), some (35, true)⟩, ⟨some 42, .fa 2 (.t 41), some (35, true)⟩, ⟨some 43, .load 1 false (.t 42) false, some (35, true)⟩, ⟨some 44, .ia 1 (.t 37) (.t 43), some (35, true)⟩, ⟨some 45, .load 1 false (.t 44) false, some (35, true)⟩, ⟨some 46, .mv (.t 2) false, some (35, true)⟩, ⟨some 47, .bin .eql (.t 45) (.t 46), some (35, true)⟩, ⟨some 48, .pick (.t 35) (.t 47) (.c (.bool false)), none⟩])
  (.cond (.t 48) (.reg [⟨some 49, .mv (.t 8) false, none⟩, ⟨some 50, .fa 5 (.t 10), none⟩, ⟨some 51, .load 1 false (.t 50) false, none⟩, ⟨some 52, .mv (.t 11) false, none⟩, ⟨some 53, .ia 3 (.t 51) (.t 52), none⟩, ⟨some 54, .fa 1 (.t 53), none⟩, ⟨some 55, .load 1 false (.t 54) false, none⟩, ⟨some 56, .bin .add (.t 49) (.t 55), none⟩, ⟨some 57, .mv (.t 9) false, none⟩, ⟨some 58, .fa 5 (.t 10), none⟩, ⟨some 59, .load 1 false (.t 58) false, none⟩, ⟨some 60, .mv (.t 11) false, none⟩, ⟨some 61, .ia 3 (.t 59) (.t 60), none⟩, ⟨some 62, .fa 1 (.t 61), none⟩, ⟨some 63, .load 1 false (.t 62) false, none⟩, ⟨some 64, .mxn true [(.t 57), (.t 63)], none⟩, ⟨some 8, .mv (.t 56) true, none⟩, ⟨some 9, .mv (.t 64) true, none⟩])
  (.skip))))
  (.reg [⟨some 26, .mv (.t 11) false, none⟩, ⟨some 27, .bin .add (.t 26) (.c (.int .i64 1)), none⟩, ⟨some 11, .mv (.t 27) true, none⟩]))
def L125_0 : C := .loop [2, 3, 8, 9, 10, 11] 2 B125_0
theorem go125_0 (s : Env × Bx) (nb) : evL tab ext nb L125_0 s = (loopIn nb [2, 3, 8, 9, 10, 11] 2 s).bind fun s0 => (evL tab ext nb B125_0 s0).bind (seqG tab ext nb L125_0) := eL_loop _ _ _
/-- swingbridge/swingbridgeref11.At -/
def C125 : CFun := ⟨67, 3, .seq (.reg [⟨some 3, .box (.t 0), none⟩, ⟨some 6, .mv (.c (.int .i64 0)) true, none⟩, ⟨some 7, .mv (.c (.int .i64 0)) true, none⟩])
  (.seq (.reg [⟨some 8, .mv (.c (.int .i64 0)) true, none⟩, ⟨some 9, .mv (.c (.int .i64 0)) true, none⟩])
  (.seq (.seq (.reg [⟨some 12, .load 4 true (.t 3) false, none⟩, ⟨some 13, .mv (.t 1) false, none⟩, ⟨some 14, .call 65 [(.t 12), (.t 13)] false, none⟩, ⟨some 15, .un .not (.t 14), none⟩])
  (.cond (.t 15) (.seq (.reg [⟨some 6, .mv (.c (.int .i64 0)) true, none⟩, ⟨some 7, .mv (.c (.int .i64 0)) true, none⟩])
  (.ret))
  (.skip)))
  (.seq (.reg [⟨some 16, .fa 3 (.t 3), none⟩, ⟨some 17, .load 1 false (.t 16) false, none⟩, ⟨some 18, .mv (.t 1) false, none⟩, ⟨some 19, .ia 6 (.t 17) (.t 18), none⟩, ⟨some 20, .load 6 true (.t 19) false, none⟩, ⟨some 10, .alloc [(.string ⟨#[]⟩), (.int .i64 0), (.int .i64 0), (.int .i64 0), (.int .i64 0), (.slice none 0 0)], none⟩, ⟨none, .store 6 (.t 10) (.t 20), none⟩])
  (.seq (.seq (.reg [⟨some 11, .mv (.c (.int .i64 0)) true, none⟩])
  (.block 0 (L125_0)))
  (.seq (.reg [⟨some 65, .mv (.t 8) false, none⟩, ⟨some 66, .mv (.t 9) false, none⟩, ⟨some 6, .mv (.t 65) true, none⟩, ⟨some 7, .mv (.t 66) true, none⟩])
  (.ret)))))), [.t 6, .t 7]⟩
theorem row125 : RowOk Tryz.prog 125 C125 := ⟨Tryz.f125, ⟨[], [], [], []⟩, lvOf [(0, [2, 3, 8, 9, 10, 11], 2)], Tryz.func125, by kernel_rfl, by kernel_rfl⟩
def B126_2 : C := .seq (.seq (.reg [⟨some 20, .mv (.t 8) false, none⟩, ⟨some 21, .mv (.t 5) false, none⟩, ⟨some 22, .len (.t 21), none⟩, ⟨some 23, .bin .lss (.t 20) (.t 22), none⟩])
  (.cond (.t 23) (.skip)
  (.exit 2)))
  (.seq (.block 3 (.seq (.reg [⟨some 26, .mv (.t 5) false, none⟩, ⟨some 27, .mv (.t 8) false, none⟩, ⟨some 28, .ia 1 (.t 26) (.t 27), none⟩, ⟨some 29, .load 1 false (.t 28) false, none⟩, ⟨some 30, .mv (.t 5) false, none⟩, ⟨some 31, .mv (.t 7) false, none⟩, ⟨some 32, .ia 1 (.t 30) (.t 31), none⟩, ⟨some 33, .load 1 false (.t 32) false, none⟩, ⟨some 34, .bin .gtr (.t 29) (.t 33), none⟩])
  (.cond (.t 34) (.reg [⟨some 35, .mv (.t 8) false, none⟩, ⟨some 7, .mv (.t 35) true, none⟩])
  (.skip))))
  (.reg [⟨some 24, .mv (.t 8) false, none⟩, ⟨some 25, .bin .add (.t 24) (.c (.int .i64 1)), none⟩, ⟨some 8, .mv (.t 25) true, none⟩]))
def L126_2 : C := .loop [1, 5, 6, 7, 8] 0 B126_2
theorem go126_2 (s : Env × Bx) (nb) : evL tab ext nb L126_2 s = (loopIn nb [1, 5, 6, 7, 8] 0 s).bind fun s0 => (evL tab ext nb B126_2 s0).bind (seqG tab ext nb L126_2) := eL_loop _ _ _
def B126_0 : C := .seq (.seq (.reg [⟨some 11, .mv (.t 6) false, none⟩, ⟨some 12, .len (.t 11), none⟩, ⟨some 13, .mv (.t 1) false, none⟩, ⟨some 14, .bin .lss (.t 12) (.t 13), none⟩, ⟨some 15, .mv (.t 14) false, none⟩, ⟨some 16, .mv (.t 5) false, some (15, true)⟩, ⟨some 17, .len (.t 16), some (15, true)⟩, ⟨some 18, .bin .gtr (.t 17) (.c (.int .i64 0)), some (15, true)⟩, ⟨some 19, .pick (.t 15) (.t 18) (.c (.bool false)), none⟩])
  (.cond (.t 19) (.skip)
  (.exit 0)))
  (.block 1 (.seq (.reg [⟨some 7, .mv (.c (.int .i64 0)) true, none⟩])
  (.seq (.seq (.reg [⟨some 8, .mv (.c (.int .i64 1)) true, none⟩])
  (.block 2 (L126_2)))
  (.seq (.reg [⟨some 36, .mv (.t 6) true, none⟩, ⟨some 37, .mv (.t 5) false, none⟩, ⟨some 38, .mv (.t 7) false, none⟩, ⟨some 39, .ia 1 (.t 37) (.t 38), none⟩, ⟨some 40, .load 1 false (.t 39) false, none⟩, ⟨some 41, .bsl 1 1 [(.int .i64 0)] [(0, 1, (.t 40))] false, none⟩, ⟨some 42, .app 1 8 (.t 36) (.t 41) false, none⟩, ⟨some 6, .mv (.t 42) true, none⟩])
  (.reg [⟨some 43, .mv (.t 5) false, none⟩, ⟨some 44, .mv (.t 7) false, none⟩, ⟨some 45, .slc 1 (.t 43) none (some (.t 44)) none, none⟩, ⟨some 46, .app 1 8 (.c (.slice none 0 0)) (.t 45) false, none⟩, ⟨some 47, .mv (.t 5) false, none⟩, ⟨some 48, .mv (.t 7) false, none⟩, ⟨some 49, .bin .add (.t 48) (.c (.int .i64 1)), none⟩, ⟨some 50, .slc 1 (.t 47) (some (.t 49)) none none, none⟩, ⟨some 51, .app 1 8 (.t 46) (.t 50) false, none⟩, ⟨some 5, .mv (.t 51) true, none⟩])))))
def L126_0 : C := .loop [1, 5, 6] 0 B126_0
theorem go126_0 (s : Env × Bx) (nb) : evL tab ext nb L126_0 s = (loopIn nb [1, 5, 6] 0 s).bind fun s0 => (evL tab ext nb B126_0 s0).bind (seqG tab ext nb L126_0) := eL_loop _ _ _
/-- swingbridge/swingbridgeref2.Top -/
def C126 : CFun := ⟨53, 2, .seq (.reg [⟨some 4, .mv (.c (.slice none 0 0)) true, none⟩])
  (.seq (.reg [⟨some 9, .mv (.t 0) false, none⟩, ⟨some 10, .app 1 8 (.c (.slice none 0 0)) (.t 9) false, none⟩, ⟨some 5, .mv (.t 10) true, none⟩])
  (.seq (.reg [⟨some 6, .mv (.c (.slice none 0 0)) true, none⟩])
  (.seq (.block 0 (L126_0))
  (.seq (.reg [⟨some 52, .mv (.t 6) false, none⟩, ⟨some 4, .mv (.t 52) true, none⟩])
  (.ret))))), [.t 4]⟩
theorem row126 : RowOk Tryz.prog 126 C126 := ⟨Tryz.f126, ⟨[], [], [], []⟩, lvOf [(0, [1, 5, 6], 0), (2, [1, 5, 6, 7, 8], 0)], Tryz.func126, by kernel_rfl, by kernel_rfl⟩
/-- swingbridge/swingbridgeref11.inside -/
def C127 : CFun := ⟨12, 2, .seq (.reg [⟨some 2, .box (.t 0), none⟩, ⟨some 4, .mv (.c (.int .i64 0)) true, none⟩])
  (.seq (.reg [⟨some 5, .load 4 true (.t 2) false, none⟩, ⟨some 6, .mv (.t 1) false, none⟩, ⟨some 7, .call 103 [(.t 5), (.t 6)] false, none⟩, ⟨some 8, .load 4 true (.t 2) false, none⟩, ⟨some 9, .call 145 [(.t 8)] false, none⟩, ⟨some 10, .bin .sub (.t 9) (.c (.int .i64 1)), none⟩, ⟨some 11, .call 102 [(.t 7), (.t 10)] false, none⟩, ⟨some 4, .mv (.t 11) true, none⟩])
  (.ret)), [.t 4]⟩
theorem row127 : RowOk Tryz.prog 127 C127 := ⟨Tryz.f127, ⟨[], [], [], []⟩, lvOf [], Tryz.func127, by kernel_rfl, by kernel_rfl⟩
/-- swingbridge/swingbridgeref11.up -/
def C128 : CFun := ⟨11, 2, .seq (.reg [⟨some 4, .mv (.c (.int .i64 0)) true, none⟩])
  (.seq (.reg [⟨some 5, .mv (.t 0) false, none⟩, ⟨some 6, .mv (.t 1) false, none⟩, ⟨some 7, .bin .add (.t 5) (.t 6), none⟩, ⟨some 8, .bin .sub (.t 7) (.c (.int .i64 1)), none⟩, ⟨some 9, .mv (.t 1) false, none⟩, ⟨some 10, .bin .quo (.t 8) (.t 9), none⟩, ⟨some 4, .mv (.t 10) true, none⟩])
  (.ret)), [.t 4]⟩
theorem row128 : RowOk Tryz.prog 128 C128 := ⟨Tryz.f128, ⟨[], [], [], []⟩, lvOf [], Tryz.func128, by kernel_rfl, by kernel_rfl⟩
def B129_0 : C := .seq (.seq (.reg [⟨some 7, .mv (.t 6) false, none⟩, ⟨some 8, .fa 3 (.t 2), none⟩, ⟨some 9, .load 1 false (.t 8) false, none⟩, ⟨some 10, .len (.t 9), none⟩, ⟨some 11, .bin .lss (.t 7) (.t 10), none⟩, ⟨some 12, .mv (.t 11) false, none⟩, ⟨some 13, .load 4 true (.t 2) false, some (12, true)⟩, ⟨some 14, .call 12 [(.t 13)] false, some (12, true)⟩, ⟨some 15, .pick (.t 12) (.t 14) (.c (.bool false)), none⟩])
  (.cond (.t 15) (.skip)
  (.exit 0)))
  (.seq (.block 1 (.seq (.reg [⟨some 18, .fa 3 (.t 2), none⟩, ⟨some 19, .load 1 false (.t 18) false, none⟩, ⟨some 20, .mv (.t 6) false, none⟩, ⟨some 21, .ia 6 (.t 19) (.t 20), none⟩, ⟨some 22, .fa 4 (.t 21), none⟩, ⟨some 23, .load 1 false (.t 22) false, none⟩, ⟨some 24, .mv (.t 1) false, none⟩, ⟨some 25, .bin .eql (.t 23) (.t 24), none⟩, ⟨some 26, .mv (.t 25) false, none⟩, ⟨some 27, .fa 3 (.t 2), some (26, true)⟩, ⟨some 28, .load 1 false (.t 27) false, some (26, true)⟩, ⟨some 29, .mv (.t 6) false, some (26, true)⟩, ⟨some 30, .ia 6 (.t 28) (.t 29), some (26, true)⟩, ⟨some 31, .load 6 true (.t 30) false, some (26, true)⟩, ⟨some 32, .call 66 [(.t 31)] false, some (26, true)⟩, ⟨some 33, .bin .gtr (.t 32) (.c (.int .i64 0)), some (26, true)⟩, ⟨some 34, .pick (.t 26) (.t 33) (.c (.bool false)), none⟩])
  (.cond (.t 34) (.reg [⟨some 35, .mv (.t 5) false, none⟩, ⟨some 36, .bin .add (.t 35) (.c (.int .i64 1)), none⟩, ⟨some 5, .mv (.t 36) true, none⟩])
  (.skip))))
  (.reg [⟨some 16, .mv (.t 6) false, none⟩, ⟨some 17, .bin .add (.t 16) (.c (.int .i64 1)), none⟩, ⟨some 6, .mv (.t 17) true, none⟩]))
def L129_0 : C := .loop [1, 2, 5, 6] 1 B129_0
theorem go129_0 (s : Env × Bx) (nb) : evL tab ext nb L129_0 s = (loopIn nb [1, 2, 5, 6] 1 s).bind fun s0 => (evL tab ext nb B129_0 s0).bind (seqG tab ext nb L129_0) := eL_loop _ _ _
/-- swingbridge/swingbridgeref11.Askers -/
def C129 : CFun := ⟨38, 2, .seq (.reg [⟨some 2, .box (.t 0), none⟩, ⟨some 4, .mv (.c (.int .i64 0)) true, none⟩])
  (.seq (.reg [⟨some 5, .mv (.c (.int .i64 0)) true, none⟩])
  (.seq (.seq (.reg [⟨some 6, .mv (.c (.int .i64 0)) true, none⟩])
  (.block 0 (L129_0)))
  (.seq (.reg [⟨some 37, .mv (.t 5) false, none⟩, ⟨some 4, .mv (.t 37) true, none⟩])
  (.ret)))), [.t 4]⟩
theorem row129 : RowOk Tryz.prog 129 C129 := ⟨Tryz.f129, ⟨[], [], [], []⟩, lvOf [(0, [1, 2, 5, 6], 1)], Tryz.func129, by kernel_rfl, by kernel_rfl⟩
/-- internal/strconv.log10Pow2 -/
def C130 : CFun := ⟨6, 1, .seq (.reg [⟨some 2, .mv (.c (.int .i64 0)) true, none⟩])
  (.seq (.reg [⟨some 3, .mv (.t 0) false, none⟩, ⟨some 4, .bin .mul (.t 3) (.c (.int .i64 78913)), none⟩, ⟨some 5, .bin .shr (.t 4) (.c (.int .u64 18)), none⟩, ⟨some 2, .mv (.t 5) true, none⟩])
  (.ret)), [.t 2]⟩
theorem row130 : RowOk Tryz.prog 130 C130 := ⟨Tryz.f130, ⟨[], [], [], []⟩, lvOf [], Tryz.func130, by kernel_rfl, by kernel_rfl⟩
/-- internal/strconv.bool2[int] -/
def C131 : CFun := ⟨4, 1, .seq (.reg [⟨some 2, .mv (.c (.int .i64 0)) true, none⟩])
  (.seq (.seq (.reg [⟨some 3, .mv (.t 0) false, none⟩])
  (.cond (.t 3) (.seq (.reg [⟨some 2, .mv (.c (.int .i64 1)) true, none⟩])
  (.ret))
  (.skip)))
  (.seq (.reg [⟨some 2, .mv (.c (.int .i64 0)) true, none⟩])
  (.ret))), [.t 2]⟩
theorem row131 : RowOk Tryz.prog 131 C131 := ⟨Tryz.f131, ⟨[], [], [], []⟩, lvOf [], Tryz.func131, by kernel_rfl, by kernel_rfl⟩
/-- internal/strconv.isPowerOfTwo -/
def C132 : CFun := ⟨8, 1, .seq (.reg [⟨some 2, .mv (.c (.bool false)) true, none⟩])
  (.seq (.reg [⟨some 3, .mv (.t 0) false, none⟩, ⟨some 4, .mv (.t 0) false, none⟩, ⟨some 5, .bin .sub (.t 4) (.c (.int .i64 1)), none⟩, ⟨some 6, .bin .and (.t 3) (.t 5), none⟩, ⟨some 7, .bin .eql (.t 6) (.c (.int .i64 0)), none⟩, ⟨some 2, .mv (.t 7) true, none⟩])
  (.ret)), [.t 2]⟩
theorem row132 : RowOk Tryz.prog 132 C132 := ⟨Tryz.f132, ⟨[], [], [], []⟩, lvOf [], Tryz.func132, by kernel_rfl, by kernel_rfl⟩
/-- math/bits.TrailingZeros -/
def C133 : CFun := ⟨8, 1, .seq (.reg [⟨some 2, .mv (.c (.int .i64 0)) true, none⟩])
  (.seq (.cond (.c (.bool false)) (.seq (.reg [⟨some 3, .mv (.t 0) false, none⟩, ⟨some 4, .conv .u32 (.t 3), none⟩, ⟨some 5, .call 146 [(.t 4)] false, none⟩, ⟨some 2, .mv (.t 5) true, none⟩])
  (.ret))
  (.skip))
  (.seq (.reg [⟨some 6, .mv (.t 0) false, none⟩, ⟨some 7, .call 147 [(.t 6)] false, none⟩, ⟨some 2, .mv (.t 7) true, none⟩])
  (.ret))), [.t 2]⟩
theorem row133 : RowOk Tryz.prog 133 C133 := ⟨Tryz.f133, ⟨[], [], [], []⟩, lvOf [], Tryz.func133, by kernel_rfl, by kernel_rfl⟩
/-- swingbridge/count.held -/
def C134 : CFun := ⟨9, 2, .seq (.reg [⟨some 4, .mv (.c (.int .i64 0)) true, none⟩])
  (.seq (.seq (.reg [⟨some 5, .mv (.t 1) false, none⟩, ⟨some 6, .un .not (.t 5), none⟩])
  (.cond (.t 6) (.seq (.reg [⟨some 4, .mv (.c (.int .i64 1000000)) true, none⟩])
  (.ret))
  (.skip)))
  (.seq (.reg [⟨some 7, .mv (.t 0) false, none⟩, ⟨some 8, .mxn false [(.t 7), (.c (.int .i64 1000000))], none⟩, ⟨some 4, .mv (.t 8) true, none⟩])
  (.ret))), [.t 4]⟩
theorem row134 : RowOk Tryz.prog 134 C134 := ⟨Tryz.f134, ⟨[], [], [], []⟩, lvOf [], Tryz.func134, by kernel_rfl, by kernel_rfl⟩
/-- swingbridge/calc.Mul -/
def C135 : CFun := ⟨27, 2, .seq (.reg [⟨some 4, .mv (.c (.int .i64 0)) true, none⟩, ⟨some 5, .mv (.c (.bool false)) true, none⟩])
  (.seq (.reg [⟨some 9, .mv (.t 0) false, none⟩, ⟨some 10, .call 142 [(.t 9)] false, none⟩, ⟨some 11, .mv (.t 1) false, none⟩, ⟨some 12, .call 142 [(.t 11)] false, none⟩, ⟨some 13, .call 148 [(.t 10), (.t 12)] false, none⟩, ⟨some 8, .mv (.t 13) false, none⟩, ⟨some 14, .ext (.t 8) 0, none⟩, ⟨some 15, .ext (.t 8) 1, none⟩, ⟨some 6, .mv (.t 14) true, none⟩, ⟨some 7, .mv (.t 15) true, none⟩])
  (.seq (.seq (.reg [⟨some 16, .mv (.t 6) false, none⟩, ⟨some 17, .bin .gtr (.t 16) (.c (.int .u64 0)), none⟩])
  (.cond (.t 17) (.seq (.reg [⟨some 4, .mv (.c (.int .i64 0)) true, none⟩, ⟨some 5, .mv (.c (.bool false)) true, none⟩])
  (.ret))
  (.skip)))
  (.seq (.reg [⟨some 18, .mv (.t 7) false, none⟩, ⟨some 19, .mv (.t 0) false, none⟩, ⟨some 20, .bin .lss (.t 19) (.c (.int .i64 0)), none⟩, ⟨some 21, .mv (.t 1) false, none⟩, ⟨some 22, .bin .lss (.t 21) (.c (.int .i64 0)), none⟩, ⟨some 23, .eqb true (.t 20) (.t 22), none⟩, ⟨some 24, .call 143 [(.t 18), (.t 23)] false, none⟩, ⟨some 25, .ext (.t 24) 0, none⟩, ⟨some 26, .ext (.t 24) 1, none⟩, ⟨some 4, .mv (.t 25) true, none⟩, ⟨some 5, .mv (.t 26) true, none⟩])
  (.ret)))), [.t 4, .t 5]⟩
theorem row135 : RowOk Tryz.prog 135 C135 := ⟨Tryz.f135, ⟨[], [], [], []⟩, lvOf [], Tryz.func135, by kernel_rfl, by kernel_rfl⟩
/-- swingbridge/count.Jobs -/
def C136 : CFun := ⟨36, 3, .seq (.reg [⟨some 6, .mv (.c (.int .i64 0)) true, none⟩])
  (.seq (.seq (.reg [⟨some 9, .mv (.t 0) false, none⟩, ⟨some 10, .bin .lss (.t 9) (.c (.int .i64 1)), none⟩, ⟨some 11, .mv (.t 10) false, none⟩, ⟨some 12, .mv (.t 1) false, some (11, false)⟩, ⟨some 13, .bin .lss (.t 12) (.c (.int .i64 0)), some (11, false)⟩, ⟨some 14, .pick (.t 11) (.c (.bool true)) (.t 13), none⟩, ⟨some 15, .mv (.t 14) false, none⟩, ⟨some 16, .mv (.t 2) false, some (15, false)⟩, ⟨some 17, .bin .lss (.t 16) (.c (.int .i64 1)), some (15, false)⟩, ⟨some 18, .pick (.t 15) (.c (.bool true)) (.t 17), none⟩])
  (.cond (.t 18) (.seq (.reg [⟨some 6, .mv (.c (.int .i64 0)) true, none⟩])
  (.ret))
  (.skip)))
  (.seq (.reg [⟨some 20, .mv (.t 0) false, none⟩, ⟨some 21, .mv (.t 1) false, none⟩, ⟨some 22, .call 149 [(.t 20), (.t 21)] false, none⟩, ⟨some 19, .mv (.t 22) false, none⟩, ⟨some 23, .ext (.t 19) 0, none⟩, ⟨some 24, .ext (.t 19) 1, none⟩, ⟨some 7, .mv (.t 23) true, none⟩, ⟨some 8, .mv (.t 24) true, none⟩])
  (.seq (.seq (.reg [⟨some 25, .mv (.t 8) false, none⟩])
  (.cond (.t 25) (.seq (.reg [⟨some 26, .mv (.t 7) false, none⟩, ⟨some 27, .mv (.t 2) false, none⟩, ⟨some 28, .call 122 [(.t 26), (.t 27)] false, none⟩, ⟨some 29, .ext (.t 28) 0, none⟩, ⟨some 30, .ext (.t 28) 1, none⟩, ⟨some 31, .call 134 [(.t 29), (.t 30)] false, none⟩, ⟨some 6, .mv (.t 31) true, none⟩])
  (.ret))
  (.skip)))
  (.seq (.reg [⟨some 32, .mv (.t 0) false, none⟩, ⟨some 33, .mv (.t 1) false, none⟩, ⟨some 34, .mv (.t 2) false, none⟩, ⟨some 35, .call 150 [(.t 32), (.t 33), (.t 34)] false, none⟩, ⟨some 6, .mv (.t 35) true, none⟩])
  (.ret))))), [.t 6]⟩
theorem row136 : RowOk Tryz.prog 136 C136 := ⟨Tryz.f136, ⟨[], [], [], []⟩, lvOf [], Tryz.func136, by kernel_rfl, by kernel_rfl⟩
/-- slices.Clone[[]int,int] -/
def C137 : CFun := ⟨8, 1, .seq (.reg [⟨some 2, .mv (.c (.slice none 0 0)) true, none⟩])
  (.seq (.seq (.reg [⟨some 3, .mv (.t 0) false, none⟩, ⟨some 4, .isnil false (.t 3), none⟩])
  (.cond (.t 4) (.seq (.reg [⟨some 2, .mv (.c (.slice none 0 0)) true, none⟩])
  (.ret))
  (.skip)))
  (.seq (.reg [⟨some 5, .bsl 1 0 [] [] false, none⟩, ⟨some 6, .mv (.t 0) false, none⟩, ⟨some 7, .app 1 8 (.t 5) (.t 6) true, none⟩, ⟨some 2, .mv (.t 7) true, none⟩])
  (.ret))), [.t 2]⟩
theorem row137 : RowOk Tryz.prog 137 C137 := ⟨Tryz.f137, ⟨[], [7], [], []⟩, lvOf [], Tryz.func137, by kernel_rfl, by kernel_rfl⟩
/-- swingbridge/sorted.Top$1 -/
def C138 : CFun := ⟨8, 2, .seq (.reg [⟨some 4, .mv (.c (.int .i64 0)) true, none⟩])
  (.seq (.reg [⟨some 5, .mv (.t 1) false, none⟩, ⟨some 6, .mv (.t 0) false, none⟩, ⟨some 7, .call 139 [(.t 5), (.t 6)] false, none⟩, ⟨some 4, .mv (.t 7) true, none⟩])
  (.ret)), [.t 4]⟩
theorem row138 : RowOk Tryz.prog 138 C138 := ⟨Tryz.f138, ⟨[], [], [], []⟩, lvOf [], Tryz.func138, by kernel_rfl, by kernel_rfl⟩
/-- cmp.Compare[int] -/
def C139 : CFun := ⟨20, 2, .seq (.reg [⟨some 4, .mv (.c (.int .i64 0)) true, none⟩])
  (.seq (.reg [⟨some 7, .mv (.t 0) false, none⟩, ⟨some 8, .call 151 [(.t 7)] false, none⟩, ⟨some 5, .mv (.t 8) true, none⟩])
  (.seq (.reg [⟨some 9, .mv (.t 1) false, none⟩, ⟨some 10, .call 151 [(.t 9)] false, none⟩, ⟨some 6, .mv (.t 10) true, none⟩])
  (.seq (.seq (.reg [⟨some 11, .mv (.t 5) false, none⟩])
  (.cond (.t 11) (.seq (.seq (.reg [⟨some 12, .mv (.t 6) false, none⟩])
  (.cond (.t 12) (.seq (.reg [⟨some 4, .mv (.c (.int .i64 0)) true, none⟩])
  (.ret))
  (.skip)))
  (.seq (.reg [⟨some 4, .mv (.c (.int .i64 (-1))) true, none⟩])
  (.ret)))
  (.skip)))
  (.seq (.seq (.reg [⟨some 13, .mv (.t 6) false, none⟩])
  (.cond (.t 13) (.seq (.reg [⟨some 4, .mv (.c (.int .i64 1)) true, none⟩])
  (.ret))
  (.skip)))
  (.seq (.seq (.reg [⟨some 14, .mv (.t 0) false, none⟩, ⟨some 15, .mv (.t 1) false, none⟩, ⟨some 16, .bin .lss (.t 14) (.t 15), none⟩])
  (.cond (.t 16) (.seq (.reg [⟨some 4, .mv (.c (.int .i64 (-1))) true, none⟩])
  (.ret))
  (.skip)))
  (.seq (.seq (.reg [⟨some 17, .mv (.t 0) false, none⟩, ⟨some 18, .mv (.t 1) false, none⟩, ⟨some 19, .bin .gtr (.t 17) (.t 18), none⟩])
  (.cond (.t 19) (.seq (.reg [⟨some 4, .mv (.c (.int .i64 1)) true, none⟩])
  (.ret))
  (.skip)))
  (.seq (.reg [⟨some 4, .mv (.c (.int .i64 0)) true, none⟩])
  (.ret)))))))), [.t 4]⟩
theorem row139 : RowOk Tryz.prog 139 C139 := ⟨Tryz.f139, ⟨[], [], [], []⟩, lvOf [], Tryz.func139, by kernel_rfl, by kernel_rfl⟩
def B140_0 : C := .seq (.reg [⟨some 22, .bin .lss (.t 21) (.t 20), none⟩])
  (.seq (.cond (.t 22) (.skip)
  (.exit 0))
  (.seq (.block 1 (.seq (.reg [⟨some 23, .ia 3 (.t 19) (.t 21), none⟩, ⟨some 24, .load 3 true (.t 23) false, none⟩, ⟨some 9, .alloc [(.int .i64 0), (.int .i64 0), (.int .i64 0)], none⟩, ⟨none, .store 3 (.t 9) (.t 24), none⟩])
  (.seq (.reg [⟨some 25, .fa 0 (.t 9), none⟩, ⟨some 26, .load 1 false (.t 25) false, none⟩, ⟨some 27, .bin .eql (.t 26) (.c (.int .i64 3)), none⟩, ⟨some 28, .mv (.t 27) false, none⟩, ⟨some 29, .fa 2 (.t 3), some (28, true)⟩, ⟨some 30, .load 1 false (.t 29) false, some (28, true)⟩, ⟨some 31, .fa 2 (.t 9), some (28, true)⟩, ⟨some 32, .load 1 false (.t 31) false, some (28, true)⟩, ⟨some 33, .ia 1 (.t 30) (.t 32), some (28, true)⟩, ⟨some 34, .load 1 false (.t 33) false, some (28, true)⟩, ⟨some 35, .mv (.t 2) false, some (28, true)⟩, ⟨some 36, .bin .eql (.t 34) (.t 35), some (28, true)⟩, ⟨some 37, .pick (.t 28) (.t 36) (.c (.bool false)), none⟩])
  (.cond (.t 37) (.reg [⟨some 38, .mv (.t 7) true, none⟩, ⟨some 39, .fa 1 (.t 9), none⟩, ⟨some 40, .load 1 false (.t 39) false, none⟩, ⟨some 41, .bsl 1 1 [(.int .i64 0)] [(0, 1, (.t 40))] false, none⟩, ⟨some 42, .app 1 8 (.t 38) (.t 41) false, none⟩, ⟨some 7, .mv (.t 42) true, none⟩])
  (.skip)))))
  (.reg [⟨some 43, .bin .add (.t 21) (.c (.int .i64 1)), none⟩, ⟨some 21, .mv (.t 43) false, none⟩])))
def L140_0 : C := .loop [2, 3, 7, 19, 20, 21] 1 B140_0
theorem go140_0 (s : Env × Bx) (nb) : evL tab ext nb L140_0 s = (loopIn nb [2, 3, 7, 19, 20, 21] 1 s).bind fun s0 => (evL tab ext nb B140_0 s0).bind (seqG tab ext nb L140_0) := eL_loop _ _ _
/-- swingbridge/demand.homed -/
def C140 : CFun := ⟨45, 3, .seq (.reg [⟨some 3, .box (.t 0), none⟩, ⟨some 6, .mv (.c (.slice none 0 0)) true, none⟩])
  (.seq (.reg [⟨some 7, .mv (.c (.slice none 0 0)) true, none⟩])
  (.seq (.seq (.reg [⟨some 10, .load 4 true (.t 3) false, none⟩, ⟨some 11, .mv (.t 1) false, none⟩, ⟨some 12, .call 144 [(.t 10), (.t 11)] false, none⟩, ⟨some 13, .un .not (.t 12), none⟩])
  (.cond (.t 13) (.seq (.reg [⟨some 6, .mv (.c (.slice none 0 0)) true, none⟩])
  (.ret))
  (.skip)))
  (.seq (.seq (.reg [⟨some 14, .fa 3 (.t 3), none⟩, ⟨some 15, .load 1 false (.t 14) false, none⟩, ⟨some 16, .mv (.t 1) false, none⟩, ⟨some 17, .ia 6 (.t 15) (.t 16), none⟩, ⟨some 18, .fa 5 (.t 17), none⟩, ⟨some 19, .load 1 false (.t 18) false, none⟩, ⟨some 20, .len (.t 19), none⟩, ⟨some 21, .mv (.c (.int .i64 0)) false, none⟩])
  (.block 0 (L140_0)))
  (.seq (.reg [⟨some 44, .mv (.t 7) false, none⟩, ⟨some 6, .mv (.t 44) true, none⟩])
  (.ret))))), [.t 6]⟩
theorem row140 : RowOk Tryz.prog 140 C140 := ⟨Tryz.f140, ⟨[], [], [], []⟩, lvOf [(0, [2, 3, 7, 19, 20, 21], 1)], Tryz.func140, by kernel_rfl, by kernel_rfl⟩
def B141_0 : C := .seq (.reg [⟨some 12, .bin .lss (.t 11) (.t 10), none⟩])
  (.seq (.cond (.t 12) (.skip)
  (.exit 0))
  (.seq (.block 1 (.seq (.reg [⟨some 13, .ia 1 (.t 9) (.t 11), none⟩, ⟨some 14, .load 1 false (.t 13) false, none⟩, ⟨some 5, .mv (.t 14) true, none⟩])
  (.reg [⟨some 15, .mv (.t 3) false, none⟩, ⟨some 16, .mv (.t 5) false, none⟩, ⟨some 17, .bin .add (.t 15) (.t 16), none⟩, ⟨some 3, .mv (.t 17) true, none⟩])))
  (.reg [⟨some 18, .bin .add (.t 11) (.c (.int .i64 1)), none⟩, ⟨some 11, .mv (.t 18) false, none⟩])))
def L141_0 : C := .loop [3, 9, 10, 11] 1 B141_0
theorem go141_0 (s : Env × Bx) (nb) : evL tab ext nb L141_0 s = (loopIn nb [3, 9, 10, 11] 1 s).bind fun s0 => (evL tab ext nb B141_0 s0).bind (seqG tab ext nb L141_0) := eL_loop _ _ _
/-- swingbridge/demand.Cores -/
def C141 : CFun := ⟨20, 1, .seq (.reg [⟨some 1, .box (.t 0), none⟩, ⟨some 2, .mv (.c (.int .i64 0)) true, none⟩])
  (.seq (.reg [⟨some 3, .mv (.c (.int .i64 0)) true, none⟩])
  (.seq (.seq (.reg [⟨some 6, .load 4 true (.t 1) false, none⟩, ⟨some 7, .call 144 [(.t 6), (.c (.int .i64 0))] false, none⟩])
  (.cond (.t 7) (.seq (.reg [⟨some 8, .fa 1 (.t 1), none⟩, ⟨some 9, .load 1 false (.t 8) false, none⟩, ⟨some 10, .len (.t 9), none⟩, ⟨some 11, .mv (.c (.int .i64 0)) false, none⟩])
  (.block 0 (L141_0)))
  (.skip)))
  (.seq (.reg [⟨some 19, .mv (.t 3) false, none⟩, ⟨some 2, .mv (.t 19) true, none⟩])
  (.ret)))), [.t 2]⟩
theorem row141 : RowOk Tryz.prog 141 C141 := ⟨Tryz.f141, ⟨[], [], [], []⟩, lvOf [(0, [3, 9, 10, 11], 1)], Tryz.func141, by kernel_rfl, by kernel_rfl⟩
/-- swingbridge/calc.size -/
def C142 : CFun := ⟨10, 1, .seq (.reg [⟨some 2, .mv (.c (.int .u64 0)) true, none⟩])
  (.seq (.seq (.reg [⟨some 3, .mv (.t 0) false, none⟩, ⟨some 4, .bin .lss (.t 3) (.c (.int .i64 0)), none⟩])
  (.cond (.t 4) (.seq (.reg [⟨some 5, .mv (.t 0) false, none⟩, ⟨some 6, .conv .u64 (.t 5), none⟩, ⟨some 7, .un .neg (.t 6), none⟩, ⟨some 2, .mv (.t 7) true, none⟩])
  (.ret))
  (.skip)))
  (.seq (.reg [⟨some 8, .mv (.t 0) false, none⟩, ⟨some 9, .conv .u64 (.t 8), none⟩, ⟨some 2, .mv (.t 9) true, none⟩])
  (.ret))), [.t 2]⟩
theorem row142 : RowOk Tryz.prog 142 C142 := ⟨Tryz.f142, ⟨[], [], [], []⟩, lvOf [], Tryz.func142, by kernel_rfl, by kernel_rfl⟩
/-- swingbridge/calc.signed -/
def C143 : CFun := ⟨27, 2, .seq (.reg [⟨some 4, .mv (.c (.int .i64 0)) true, none⟩, ⟨some 5, .mv (.c (.bool false)) true, none⟩])
  (.seq (.block 0 (.seq (.reg [⟨some 7, .mv (.t 0) false, none⟩, ⟨some 8, .bin .eql (.t 7) (.c (.int .u64 0)), none⟩, ⟨some 6, .mv (.t 8) true, none⟩])
  (.cond (.t 6) (.seq (.reg [⟨some 4, .mv (.c (.int .i64 0)) true, none⟩, ⟨some 5, .mv (.c (.bool true)) true, none⟩])
  (.ret))
  (.seq (.reg [⟨some 10, .mv (.t 1) false, none⟩, ⟨some 11, .mv (.t 10) false, none⟩, ⟨some 12, .mv (.t 0) false, some (11, true)⟩, ⟨some 13, .bin .leq (.t 12) (.c (.int .u64 9223372036854775808)), some (11, true)⟩, ⟨some 14, .pick (.t 11) (.t 13) (.c (.bool false)), none⟩, ⟨some 9, .mv (.t 14) true, none⟩])
  (.cond (.t 9) (.seq (.reg [⟨some 15, .mv (.t 0) false, none⟩, ⟨some 16, .un .neg (.t 15), none⟩, ⟨some 17, .conv .i64 (.t 16), none⟩, ⟨some 4, .mv (.t 17) true, none⟩, ⟨some 5, .mv (.c (.bool true)) true, none⟩])
  (.ret))
  (.seq (.reg [⟨some 19, .mv (.t 1) false, none⟩, ⟨some 20, .un .not (.t 19), none⟩, ⟨some 21, .mv (.t 20) false, none⟩, ⟨some 22, .mv (.t 0) false, some (21, true)⟩, ⟨some 23, .bin .leq (.t 22) (.c (.int .u64 9223372036854775807)), some (21, true)⟩, ⟨some 24, .pick (.t 21) (.t 23) (.c (.bool false)), none⟩, ⟨some 18, .mv (.t 24) true, none⟩])
  (.cond (.t 18) (.seq (.reg [⟨some 25, .mv (.t 0) false, none⟩, ⟨some 26, .conv .i64 (.t 25), none⟩, ⟨some 4, .mv (.t 26) true, none⟩, ⟨some 5, .mv (.c (.bool true)) true, none⟩])
  (.ret))
  (.skip))))))))
  (.seq (.reg [⟨some 4, .mv (.c (.int .i64 0)) true, none⟩, ⟨some 5, .mv (.c (.bool false)) true, none⟩])
  (.ret))), [.t 4, .t 5]⟩
theorem row143 : RowOk Tryz.prog 143 C143 := ⟨Tryz.f143, ⟨[], [], [], []⟩, lvOf [], Tryz.func143, by kernel_rfl, by kernel_rfl⟩
/-- swingbridge/demand.there -/
def C144 : CFun := ⟨25, 2, .seq (.reg [⟨some 2, .box (.t 0), none⟩, ⟨some 4, .mv (.c (.bool false)) true, none⟩])
  (.seq (.reg [⟨some 8, .load 4 true (.t 2) false, none⟩, ⟨some 9, .call 17 [(.t 8)] false, none⟩, ⟨some 7, .mv (.t 9) false, none⟩, ⟨some 10, .ext (.t 7) 0, none⟩, ⟨some 11, .ext (.t 7) 1, none⟩, ⟨some 5, .mv (.t 10) true, none⟩, ⟨some 6, .mv (.t 11) true, none⟩])
  (.seq (.reg [⟨some 12, .mv (.t 6) false, none⟩, ⟨some 13, .bin .eql (.t 12) (.c (.int .i64 0)), none⟩, ⟨some 14, .mv (.t 13) false, none⟩, ⟨some 15, .mv (.t 1) false, some (14, true)⟩, ⟨some 16, .bin .geq (.t 15) (.c (.int .i64 0)), some (14, true)⟩, ⟨some 17, .pick (.t 14) (.t 16) (.c (.bool false)), none⟩, ⟨some 18, .mv (.t 17) false, none⟩, ⟨some 19, .mv (.t 1) false, some (18, true)⟩, ⟨some 20, .fa 3 (.t 2), some (18, true)⟩, ⟨some 21, .load 1 false (.t 20) false, some (18, true)⟩, ⟨some 22, .len (.t 21), some (18, true)⟩, ⟨some 23, .bin .lss (.t 19) (.t 22), some (18, true)⟩, ⟨some 24, .pick (.t 18) (.t 23) (.c (.bool false)), none⟩, ⟨some 4, .mv (.t 24) true, none⟩])
  (.ret))), [.t 4]⟩
theorem row144 : RowOk Tryz.prog 144 C144 := ⟨Tryz.f144, ⟨[], [], [], []⟩, lvOf [], Tryz.func144, by kernel_rfl, by kernel_rfl⟩
def B145_0 : C := .seq (.seq (.reg [⟨some 5, .mv (.t 4) false, none⟩, ⟨some 6, .fa 1 (.t 1), none⟩, ⟨some 7, .load 1 false (.t 6) false, none⟩, ⟨some 8, .len (.t 7), none⟩, ⟨some 9, .bin .lss (.t 5) (.t 8), none⟩, ⟨some 10, .mv (.t 9) false, none⟩, ⟨some 11, .load 4 true (.t 1) false, some (10, true)⟩, ⟨some 12, .call 12 [(.t 11)] false, some (10, true)⟩, ⟨some 13, .pick (.t 10) (.t 12) (.c (.bool false)), none⟩])
  (.cond (.t 13) (.skip)
  (.exit 0)))
  (.seq (.block 1 (.reg [⟨some 16, .mv (.t 3) false, none⟩, ⟨some 17, .fa 1 (.t 1), none⟩, ⟨some 18, .load 1 false (.t 17) false, none⟩, ⟨some 19, .mv (.t 4) false, none⟩, ⟨some 20, .ia 1 (.t 18) (.t 19), none⟩, ⟨some 21, .load 1 false (.t 20) false, none⟩, ⟨some 22, .bin .add (.t 16) (.t 21), none⟩, ⟨some 3, .mv (.t 22) true, none⟩]))
  (.reg [⟨some 14, .mv (.t 4) false, none⟩, ⟨some 15, .bin .add (.t 14) (.c (.int .i64 1)), none⟩, ⟨some 4, .mv (.t 15) true, none⟩]))
def L145_0 : C := .loop [1, 3, 4] 1 B145_0
theorem go145_0 (s : Env × Bx) (nb) : evL tab ext nb L145_0 s = (loopIn nb [1, 3, 4] 1 s).bind fun s0 => (evL tab ext nb B145_0 s0).bind (seqG tab ext nb L145_0) := eL_loop _ _ _
/-- swingbridge/swingbridgeref11.Cores -/
def C145 : CFun := ⟨24, 1, .seq (.reg [⟨some 1, .box (.t 0), none⟩, ⟨some 2, .mv (.c (.int .i64 0)) true, none⟩])
  (.seq (.reg [⟨some 3, .mv (.c (.int .i64 0)) true, none⟩])
  (.seq (.seq (.reg [⟨some 4, .mv (.c (.int .i64 0)) true, none⟩])
  (.block 0 (L145_0)))
  (.seq (.reg [⟨some 23, .mv (.t 3) false, none⟩, ⟨some 2, .mv (.t 23) true, none⟩])
  (.ret)))), [.t 2]⟩
theorem row145 : RowOk Tryz.prog 145 C145 := ⟨Tryz.f145, ⟨[], [], [], []⟩, lvOf [(0, [1, 3, 4], 1)], Tryz.func145, by kernel_rfl, by kernel_rfl⟩
/-- math/bits.Mul64 -/
def C148 : CFun := ⟨51, 2, .seq (.reg [⟨some 4, .mv (.c (.int .u64 0)) true, none⟩, ⟨some 5, .mv (.c (.int .u64 0)) true, none⟩])
  (.seq (.reg [⟨some 14, .mv (.t 0) false, none⟩, ⟨some 15, .bin .and (.t 14) (.c (.int .u64 4294967295)), none⟩, ⟨some 6, .mv (.t 15) true, none⟩])
  (.seq (.reg [⟨some 16, .mv (.t 0) false, none⟩, ⟨some 17, .bin .shr (.t 16) (.c (.int .u64 32)), none⟩, ⟨some 7, .mv (.t 17) true, none⟩])
  (.seq (.reg [⟨some 18, .mv (.t 1) false, none⟩, ⟨some 19, .bin .and (.t 18) (.c (.int .u64 4294967295)), none⟩, ⟨some 8, .mv (.t 19) true, none⟩])
  (.seq (.reg [⟨some 20, .mv (.t 1) false, none⟩, ⟨some 21, .bin .shr (.t 20) (.c (.int .u64 32)), none⟩, ⟨some 9, .mv (.t 21) true, none⟩])
  (.seq (.reg [⟨some 22, .mv (.t 6) false, none⟩, ⟨some 23, .mv (.t 8) false, none⟩, ⟨some 24, .bin .mul (.t 22) (.t 23), none⟩, ⟨some 10, .mv (.t 24) true, none⟩])
  (.seq (.reg [⟨some 25, .mv (.t 7) false, none⟩, ⟨some 26, .mv (.t 8) false, none⟩, ⟨some 27, .bin .mul (.t 25) (.t 26), none⟩, ⟨some 28, .mv (.t 10) false, none⟩, ⟨some 29, .bin .shr (.t 28) (.c (.int .u64 32)), none⟩, ⟨some 30, .bin .add (.t 27) (.t 29), none⟩, ⟨some 11, .mv (.t 30) true, none⟩])
  (.seq (.reg [⟨some 31, .mv (.t 11) false, none⟩, ⟨some 32, .bin .and (.t 31) (.c (.int .u64 4294967295)), none⟩, ⟨some 12, .mv (.t 32) true, none⟩])
  (.seq (.reg [⟨some 33, .mv (.t 11) false, none⟩, ⟨some 34, .bin .shr (.t 33) (.c (.int .u64 32)), none⟩, ⟨some 13, .mv (.t 34) true, none⟩])
  (.seq (.reg [⟨some 35, .mv (.t 12) false, none⟩, ⟨some 36, .mv (.t 6) false, none⟩, ⟨some 37, .mv (.t 9) false, none⟩, ⟨some 38, .bin .mul (.t 36) (.t 37), none⟩, ⟨some 39, .bin .add (.t 35) (.t 38), none⟩, ⟨some 12, .mv (.t 39) true, none⟩])
  (.seq (.reg [⟨some 40, .mv (.t 7) false, none⟩, ⟨some 41, .mv (.t 9) false, none⟩, ⟨some 42, .bin .mul (.t 40) (.t 41), none⟩, ⟨some 43, .mv (.t 13) false, none⟩, ⟨some 44, .bin .add (.t 42) (.t 43), none⟩, ⟨some 45, .mv (.t 12) false, none⟩, ⟨some 46, .bin .shr (.t 45) (.c (.int .u64 32)), none⟩, ⟨some 47, .bin .add (.t 44) (.t 46), none⟩, ⟨some 4, .mv (.t 47) true, none⟩])
  (.seq (.reg [⟨some 48, .mv (.t 0) false, none⟩, ⟨some 49, .mv (.t 1) false, none⟩, ⟨some 50, .bin .mul (.t 48) (.t 49), none⟩, ⟨some 5, .mv (.t 50) true, none⟩])
  (.ret)))))))))))), [.t 4, .t 5]⟩
theorem row148 : RowOk Tryz.prog 148 C148 := ⟨Tryz.f148, ⟨[], [], [], []⟩, lvOf [], Tryz.func148, by kernel_rfl, by kernel_rfl⟩
/-- swingbridge/calc.Add -/
def C149 : CFun := ⟨23, 2, .seq (.reg [⟨some 4, .mv (.c (.int .i64 0)) true, none⟩, ⟨some 5, .mv (.c (.bool false)) true, none⟩])
  (.seq (.reg [⟨some 7, .mv (.t 0) false, none⟩, ⟨some 8, .mv (.t 1) false, none⟩, ⟨some 9, .bin .add (.t 7) (.t 8), none⟩, ⟨some 6, .mv (.t 9) true, none⟩])
  (.seq (.seq (.reg [⟨some 10, .mv (.t 0) false, none⟩, ⟨some 11, .bin .lss (.t 10) (.c (.int .i64 0)), none⟩, ⟨some 12, .mv (.t 1) false, none⟩, ⟨some 13, .bin .lss (.t 12) (.c (.int .i64 0)), none⟩, ⟨some 14, .eqb false (.t 11) (.t 13), none⟩, ⟨some 15, .mv (.t 14) false, none⟩, ⟨some 16, .mv (.t 6) false, some (15, true)⟩, ⟨some 17, .bin .lss (.t 16) (.c (.int .i64 0)), some (15, true)⟩, ⟨some 18, .mv (.t 0) false, some (15, true)⟩, ⟨some 19, .bin .lss (.t 18) (.c (.int .i64 0)), some (15, true)⟩, ⟨some 20, .eqb true (.t 17) (.t 19), some (15, true)⟩, ⟨some 21, .pick (.t 15) (.t 20) (.c (.bool false)), none⟩])
  (.cond (.t 21) (.seq (.reg [⟨some 4, .mv (.c (.int .i64 0)) true, none⟩, ⟨some 5, .mv (.c (.bool false)) true, none⟩])
  (.ret))
  (.skip)))
  (.seq (.reg [⟨some 22, .mv (.t 6) false, none⟩, ⟨some 4, .mv (.t 22) true, none⟩, ⟨some 5, .mv (.c (.bool true)) true, none⟩])
  (.ret)))), [.t 4, .t 5]⟩
theorem row149 : RowOk Tryz.prog 149 C149 := ⟨Tryz.f149, ⟨[], [], [], []⟩, lvOf [], Tryz.func149, by kernel_rfl, by kernel_rfl⟩
def B150_0 : C := .seq (.reg [⟨some 18, .bin .lss (.t 17) (.t 16), none⟩])
  (.seq (.cond (.t 18) (.skip)
  (.exit 0))
  (.seq (.block 1 (.seq (.reg [⟨some 19, .ia 1 (.t 15) (.t 17), none⟩, ⟨some 20, .load 1 false (.t 19) false, none⟩, ⟨some 11, .mv (.t 20) true, none⟩])
  (.seq (.reg [⟨some 21, .mv (.t 8) false, none⟩, ⟨some 22, .mv (.t 11) false, none⟩, ⟨some 23, .mv (.t 2) false, none⟩, ⟨some 24, .bin .quo (.t 22) (.t 23), none⟩, ⟨some 25, .mxn false [(.t 24), (.c (.int .i64 1000000))], none⟩, ⟨some 26, .bin .add (.t 21) (.t 25), none⟩, ⟨some 8, .mv (.t 26) true, none⟩])
  (.seq (.reg [⟨some 27, .mv (.t 9) false, none⟩, ⟨some 28, .mv (.t 11) false, none⟩, ⟨some 29, .mv (.t 2) false, none⟩, ⟨some 30, .bin .rem (.t 28) (.t 29), none⟩, ⟨some 31, .bin .add (.t 27) (.t 30), none⟩, ⟨some 9, .mv (.t 31) true, none⟩])
  (.seq (.seq (.reg [⟨some 32, .mv (.t 9) false, none⟩, ⟨some 33, .mv (.t 2) false, none⟩, ⟨some 34, .bin .lss (.t 32) (.t 33), none⟩])
  (.cond (.t 34) (.exit 1)
  (.skip)))
  (.seq (.reg [⟨some 35, .mv (.t 9) false, none⟩, ⟨some 36, .mv (.t 2) false, none⟩, ⟨some 37, .bin .sub (.t 35) (.t 36), none⟩, ⟨some 9, .mv (.t 37) true, none⟩])
  (.reg [⟨some 38, .mv (.t 8) false, none⟩, ⟨some 39, .bin .add (.t 38) (.c (.int .i64 1)), none⟩, ⟨some 8, .mv (.t 39) true, none⟩])))))))
  (.reg [⟨some 40, .bin .add (.t 17) (.c (.int .i64 1)), none⟩, ⟨some 17, .mv (.t 40) false, none⟩])))
def L150_0 : C := .loop [2, 8, 9, 15, 16, 17] 0 B150_0
theorem go150_0 (s : Env × Bx) (nb) : evL tab ext nb L150_0 s = (loopIn nb [2, 8, 9, 15, 16, 17] 0 s).bind fun s0 => (evL tab ext nb B150_0 s0).bind (seqG tab ext nb L150_0) := eL_loop _ _ _
/-- swingbridge/count.wide -/
def C150 : CFun := ⟨47, 3, .seq (.reg [⟨some 6, .mv (.c (.int .i64 0)) true, none⟩])
  (.scope (.seq (.reg [⟨some 12, .mv (.t 0) false, none⟩, ⟨some 13, .mv (.t 1) false, none⟩, ⟨some 14, .bsl 1 2 [(.int .i64 0), (.int .i64 0)] [(0, 1, (.t 12)), (1, 1, (.t 13))] false, none⟩, ⟨some 7, .mv (.t 14) true, none⟩])
  (.seq (.reg [⟨some 8, .mv (.c (.int .i64 0)) true, none⟩, ⟨some 9, .mv (.c (.int .i64 0)) true, none⟩])
  (.seq (.skip)
  (.seq (.seq (.reg [⟨some 15, .mv (.t 7) false, none⟩, ⟨some 16, .len (.t 15), none⟩, ⟨some 17, .mv (.c (.int .i64 0)) false, none⟩])
  (.block 0 (L150_0)))
  (.seq (.seq (.reg [⟨some 41, .mv (.t 9) false, none⟩, ⟨some 42, .bin .gtr (.t 41) (.c (.int .i64 0)), none⟩])
  (.cond (.t 42) (.reg [⟨some 43, .mv (.t 8) false, none⟩, ⟨some 44, .bin .add (.t 43) (.c (.int .i64 1)), none⟩, ⟨some 8, .mv (.t 44) true, none⟩])
  (.skip)))
  (.seq (.reg [⟨some 45, .mv (.t 8) false, none⟩, ⟨some 46, .mxn false [(.t 45), (.c (.int .i64 1000000))], none⟩, ⟨some 6, .mv (.t 46) true, none⟩])
  (.ret)))))))), [.t 6]⟩
theorem row150 : RowOk Tryz.prog 150 C150 := ⟨Tryz.f150, ⟨[], [], [], []⟩, lvOf [(0, [2, 8, 9, 15, 16, 17], 0)], Tryz.func150, by kernel_rfl, by kernel_rfl⟩
/-- cmp.isNaN[int] -/
def C151 : CFun := ⟨6, 1, .seq (.reg [⟨some 2, .mv (.c (.bool false)) true, none⟩])
  (.seq (.reg [⟨some 3, .mv (.t 0) false, none⟩, ⟨some 4, .mv (.t 0) false, none⟩, ⟨some 5, .bin .neq (.t 3) (.t 4), none⟩, ⟨some 2, .mv (.t 5) true, none⟩])
  (.ret)), [.t 2]⟩
theorem row151 : RowOk Tryz.prog 151 C151 := ⟨Tryz.f151, ⟨[], [], [], []⟩, lvOf [], Tryz.func151, by kernel_rfl, by kernel_rfl⟩
end Go.Proofs.YtamblgbmdhldbaaGreatDoorEv
