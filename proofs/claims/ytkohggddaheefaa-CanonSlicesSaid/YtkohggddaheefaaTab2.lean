/- The seat's functions in compact code; each row is checked against the program. -/
import Derived.Test.YtkohggddaheefaaEv4
import Derived.Test.YtkohggddaheefaaProg
import Derived.KernelRfl
namespace Go.Proofs.YtkohggddaheefaaEv
open Go
set_option maxRecDepth 100000
variable {tab : Nat → Option CFun} {ext : CallF}
def B57_0 : C := .seq (.seq (.reg [⟨some 48, .mv (.t 5) false, none⟩, ⟨some 49, .fa 5 (.t 2), none⟩, ⟨some 50, .load 1 false (.t 49) false, none⟩, ⟨some 51, .len (.t 50), none⟩, ⟨some 52, .bin .lss (.t 48) (.t 51), none⟩])
  (.cond (.t 52) (.skip)
  (.exit 0)))
  (.seq (.block 1 (.seq (.reg [⟨some 55, .fa 5 (.t 2), none⟩, ⟨some 56, .load 1 false (.t 55) false, none⟩, ⟨some 57, .mv (.t 5) false, none⟩, ⟨some 58, .ia 3 (.t 56) (.t 57), none⟩, ⟨some 59, .load 3 true (.t 58) false, none⟩, ⟨some 60, .fa 5 (.t 3), none⟩, ⟨some 61, .load 1 false (.t 60) false, none⟩, ⟨some 62, .mv (.t 5) false, none⟩, ⟨some 63, .ia 3 (.t 61) (.t 62), none⟩, ⟨some 64, .load 3 true (.t 63) false, none⟩, ⟨some 65, .eqs true 3 (.t 59) (.t 64), none⟩])
  (.cond (.t 65) (.seq (.reg [⟨some 4, .mv (.c (.bool false)) true, none⟩])
  (.ret))
  (.skip))))
  (.reg [⟨some 53, .mv (.t 5) false, none⟩, ⟨some 54, .bin .add (.t 53) (.c (.int .i64 1)), none⟩, ⟨some 5, .mv (.t 54) true, none⟩]))
def L57_0 : C := .loop [2, 3, 5] 2 B57_0
theorem go57_0 (s : Env × Bx) (nb) : evL tab ext nb L57_0 s = (loopIn nb [2, 3, 5] 2 s).bind fun s0 => (evL tab ext nb B57_0 s0).bind (seqG tab ext nb L57_0) := eL_loop _ _ _
/-- swingbridge/swingbridgeref7.SameTask -/
def C57 : CFun := ⟨66, 2, .seq (.reg [⟨some 2, .box (.t 0), none⟩, ⟨some 3, .box (.t 1), none⟩, ⟨some 4, .mv (.c (.bool false)) true, none⟩])
  (.seq (.seq (.reg [⟨some 6, .fa 0 (.t 2), none⟩, ⟨some 7, .load 1 false (.t 6) false, none⟩, ⟨some 8, .fa 0 (.t 3), none⟩, ⟨some 9, .load 1 false (.t 8) false, none⟩, ⟨some 10, .bin .neq (.t 7) (.t 9), none⟩, ⟨some 11, .mv (.t 10) false, none⟩, ⟨some 12, .fa 1 (.t 2), some (11, false)⟩, ⟨some 13, .load 1 false (.t 12) false, some (11, false)⟩, ⟨some 14, .fa 1 (.t 3), some (11, false)⟩, ⟨some 15, .load 1 false (.t 14) false, some (11, false)⟩, ⟨some 16, .bin .neq (.t 13) (.t 15), some (11, false)⟩, ⟨some 17, .pick (.t 11) (.c (.bool true)) (.t 16), none⟩, ⟨some 18, .mv (.t 17) false, none⟩, ⟨some 19, .fa 2 (.t 2), some (18, false)⟩, ⟨some 20, .load 1 false (.t 19) false, some (18, false)⟩, ⟨some 21, .fa 2 (.t 3), some (18, false)⟩, ⟨some 22, .load 1 false (.t 21) false, some (18, false)⟩, ⟨some 23, .bin .neq (.t 20) (.t 22), some (18, false)⟩, ⟨some 24, .pick (.t 18) (.c (.bool true)) (.t 23), none⟩, ⟨some 25, .mv (.t 24) false, none⟩, ⟨some 26, .fa 3 (.t 2), some (25, false)⟩, ⟨some 27, .load 1 false (.t 26) false, some (25, false)⟩, ⟨some 28, .fa 3 (.t 3), some (25, false)⟩, ⟨some 29, .load 1 false (.t 28) false, some (25, false)⟩, ⟨some 30, .bin .neq (.t 27) (.t 29), some (25, false)⟩, ⟨some 31, .pick (.t 25) (.c (.bool true)) (.t 30), none⟩, ⟨some 32, .mv (.t 31) false, none⟩, ⟨some 33, .fa 4 (.t 2), some (32, false)⟩, ⟨some 34, .load 1 false (.t 33) false, some (32, false)⟩, ⟨some 35, .fa 4 (.t 3), some (32, false)⟩, ⟨some 36, .load 1 false (.t 35) false, some (32, false)⟩, ⟨some 37, .bin .neq (.t 34) (.t 36), some (32, false)⟩, ⟨some 38, .pick (.t 32) (.c (.bool true)) (.t 37), none⟩, ⟨some 39, .mv (.t 38) false, none⟩, ⟨some 40, .fa 5 (.t 2), some (39, false)⟩, ⟨some 41, .load 1 false (.t 40) false, some (39, false)⟩, ⟨some 42, .len (.t 41), some (39, false)⟩, ⟨some 43, .fa 5 (.t 3), some (39, false)⟩, ⟨some 44, .load 1 false (.t 43) false, some (39, false)⟩, ⟨some 45, .len (.t 44), some (39, false)⟩, ⟨some 46, .bin .neq (.t 42) (.t 45), some (39, false)⟩, ⟨some 47, .pick (.t 39) (.c (.bool true)) (.t 46), none⟩])
  (.cond (.t 47) (.seq (.reg [⟨some 4, .mv (.c (.bool false)) true, none⟩])
  (.ret))
  (.skip)))
  (.seq (.seq (.reg [⟨some 5, .mv (.c (.int .i64 0)) true, none⟩])
  (.block 0 (L57_0)))
  (.seq (.reg [⟨some 4, .mv (.c (.bool true)) true, none⟩])
  (.ret)))), [.t 4]⟩
theorem row57 : RowOk Try.prog 57 C57 := ⟨Try.f57, ⟨[], [], [], []⟩, lvOf [(0, [2, 3, 5], 2)], Try.func57, by kernel_rfl, by kernel_rfl⟩
/-- slices.Clone[[]int,int] -/
def C58 : CFun := ⟨8, 1, .seq (.reg [⟨some 2, .mv (.c (.slice none 0 0)) true, none⟩])
  (.seq (.seq (.reg [⟨some 3, .mv (.t 0) false, none⟩, ⟨some 4, .isnil false (.t 3), none⟩])
  (.cond (.t 4) (.seq (.reg [⟨some 2, .mv (.c (.slice none 0 0)) true, none⟩])
  (.ret))
  (.skip)))
  (.seq (.reg [⟨some 5, .bsl 1 0 [] [] false, none⟩, ⟨some 6, .mv (.t 0) false, none⟩, ⟨some 7, .app 1 8 (.t 5) (.t 6) true, none⟩, ⟨some 2, .mv (.t 7) true, none⟩])
  (.ret))), [.t 2]⟩
theorem row58 : RowOk Try.prog 58 C58 := ⟨Try.f58, ⟨[], [7], [], []⟩, lvOf [], Try.func58, by kernel_rfl, by kernel_rfl⟩
/-- slices.Clone[[]swingbridge/api.Task,swingbridge/api.Task] -/
def C59 : CFun := ⟨8, 1, .seq (.reg [⟨some 2, .mv (.c (.slice none 0 0)) true, none⟩])
  (.seq (.seq (.reg [⟨some 3, .mv (.t 0) false, none⟩, ⟨some 4, .isnil false (.t 3), none⟩])
  (.cond (.t 4) (.seq (.reg [⟨some 2, .mv (.c (.slice none 0 0)) true, none⟩])
  (.ret))
  (.skip)))
  (.seq (.reg [⟨some 5, .bsl 6 0 [] [] false, none⟩, ⟨some 6, .mv (.t 0) false, none⟩, ⟨some 7, .app 6 72 (.t 5) (.t 6) true, none⟩, ⟨some 2, .mv (.t 7) true, none⟩])
  (.ret))), [.t 2]⟩
theorem row59 : RowOk Try.prog 59 C59 := ⟨Try.f59, ⟨[], [7], [], []⟩, lvOf [], Try.func59, by kernel_rfl, by kernel_rfl⟩
/-- slices.Clone[[]swingbridge/api.Part,swingbridge/api.Part] -/
def C60 : CFun := ⟨8, 1, .seq (.reg [⟨some 2, .mv (.c (.slice none 0 0)) true, none⟩])
  (.seq (.seq (.reg [⟨some 3, .mv (.t 0) false, none⟩, ⟨some 4, .isnil false (.t 3), none⟩])
  (.cond (.t 4) (.seq (.reg [⟨some 2, .mv (.c (.slice none 0 0)) true, none⟩])
  (.ret))
  (.skip)))
  (.seq (.reg [⟨some 5, .bsl 3 0 [] [] false, none⟩, ⟨some 6, .mv (.t 0) false, none⟩, ⟨some 7, .app 3 24 (.t 5) (.t 6) true, none⟩, ⟨some 2, .mv (.t 7) true, none⟩])
  (.ret))), [.t 2]⟩
theorem row60 : RowOk Try.prog 60 C60 := ⟨Try.f60, ⟨[], [7], [], []⟩, lvOf [], Try.func60, by kernel_rfl, by kernel_rfl⟩
/-- swingbridge/swingbridgelaw11.two -/
def C61 : CFun := ⟨31, 5, .seq (.reg [⟨some 10, .alloc [(.int .i64 0), (.slice none 0 0), (.slice none 0 0), (.slice none 0 0)], none⟩])
  (.seq (.reg [⟨some 12, .mv (.t 0) false, none⟩, ⟨some 13, .mv (.t 1) false, none⟩, ⟨some 14, .build [(.int .i64 0), (.int .i64 0), (.int .i64 0)] [(0, 1, (.c (.int .i64 1))), (1, 1, (.t 13))], none⟩, ⟨some 15, .mv (.t 2) false, none⟩, ⟨some 16, .build [(.int .i64 0), (.int .i64 0), (.int .i64 0)] [(0, 1, (.c (.int .i64 3))), (1, 1, (.t 15))], none⟩, ⟨some 17, .bsl 3 2 [(.int .i64 0), (.int .i64 0), (.int .i64 0), (.int .i64 0), (.int .i64 0), (.int .i64 0)] [(0, 3, (.t 14)), (3, 3, (.t 16))] false, none⟩, ⟨some 18, .call 80 [(.t 12), (.t 17)] true, none⟩, ⟨some 11, .alloc [(.int .i64 0), (.slice none 0 0), (.slice none 0 0), (.slice none 0 0)], none⟩, ⟨none, .store 4 (.t 11) (.t 18), none⟩])
  (.seq (.reg [⟨some 19, .fa 3 (.t 11), none⟩, ⟨some 20, .load 1 false (.t 19) true, none⟩, ⟨some 21, .mv (.t 3) false, none⟩, ⟨some 22, .build [(.int .i64 0), (.int .i64 0), (.int .i64 0)] [(0, 1, (.c (.int .i64 1))), (1, 1, (.t 21))], none⟩, ⟨some 23, .mv (.t 4) false, none⟩, ⟨some 24, .build [(.int .i64 0), (.int .i64 0), (.int .i64 0)] [(0, 1, (.c (.int .i64 3))), (1, 1, (.t 23))], none⟩, ⟨some 25, .bsl 3 2 [(.int .i64 0), (.int .i64 0), (.int .i64 0), (.int .i64 0), (.int .i64 0), (.int .i64 0)] [(0, 3, (.t 22)), (3, 3, (.t 24))] false, none⟩, ⟨some 26, .build [(.string ⟨#[]⟩), (.int .i64 0), (.int .i64 0), (.int .i64 0), (.int .i64 0), (.slice none 0 0)] [(0, 1, (.c (.string ⟨#[98]⟩))), (1, 1, (.c (.int .i64 200))), (2, 1, (.c (.int .i64 200))), (3, 1, (.c (.int .i64 2))), (5, 1, (.t 25))], none⟩, ⟨some 27, .bsl 6 1 [(.string ⟨#[]⟩), (.int .i64 0), (.int .i64 0), (.int .i64 0), (.int .i64 0), (.slice none 0 0)] [(0, 6, (.t 26))] false, none⟩, ⟨some 28, .app 6 72 (.t 20) (.t 27) false, none⟩, ⟨some 29, .fa 3 (.t 11), none⟩, ⟨none, .store 1 (.t 29) (.t 28), none⟩])
  (.seq (.reg [⟨some 30, .load 4 true (.t 11) false, none⟩, ⟨none, .store 4 (.t 10) (.t 30), none⟩])
  (.ret)))), [.cell 10 4]⟩
theorem row61 : RowOk Try.prog 61 C61 := ⟨Try.f61, ⟨[], [], [80], []⟩, lvOf [], Try.func61, by kernel_rfl, by kernel_rfl⟩
/-- swingbridge/demand.there -/
def C62 : CFun := ⟨25, 2, .seq (.reg [⟨some 2, .box (.t 0), none⟩, ⟨some 4, .mv (.c (.bool false)) true, none⟩])
  (.seq (.reg [⟨some 8, .load 4 true (.t 2) false, none⟩, ⟨some 9, .call 17 [(.t 8)] false, none⟩, ⟨some 7, .mv (.t 9) false, none⟩, ⟨some 10, .ext (.t 7) 0, none⟩, ⟨some 11, .ext (.t 7) 1, none⟩, ⟨some 5, .mv (.t 10) true, none⟩, ⟨some 6, .mv (.t 11) true, none⟩])
  (.seq (.reg [⟨some 12, .mv (.t 6) false, none⟩, ⟨some 13, .bin .eql (.t 12) (.c (.int .i64 0)), none⟩, ⟨some 14, .mv (.t 13) false, none⟩, ⟨some 15, .mv (.t 1) false, some (14, true)⟩, ⟨some 16, .bin .geq (.t 15) (.c (.int .i64 0)), some (14, true)⟩, ⟨some 17, .pick (.t 14) (.t 16) (.c (.bool false)), none⟩, ⟨some 18, .mv (.t 17) false, none⟩, ⟨some 19, .mv (.t 1) false, some (18, true)⟩, ⟨some 20, .fa 3 (.t 2), some (18, true)⟩, ⟨some 21, .load 1 false (.t 20) false, some (18, true)⟩, ⟨some 22, .len (.t 21), some (18, true)⟩, ⟨some 23, .bin .lss (.t 19) (.t 22), some (18, true)⟩, ⟨some 24, .pick (.t 18) (.t 23) (.c (.bool false)), none⟩, ⟨some 4, .mv (.t 24) true, none⟩])
  (.ret))), [.t 4]⟩
theorem row62 : RowOk Try.prog 62 C62 := ⟨Try.f62, ⟨[], [], [], []⟩, lvOf [], Try.func62, by kernel_rfl, by kernel_rfl⟩
def B63_0 : C := .seq (.reg [⟨some 22, .bin .lss (.t 21) (.t 20), none⟩])
  (.seq (.cond (.t 22) (.skip)
  (.exit 0))
  (.seq (.block 1 (.seq (.reg [⟨some 23, .ia 3 (.t 19) (.t 21), none⟩, ⟨some 24, .load 3 true (.t 23) false, none⟩, ⟨some 9, .alloc [(.int .i64 0), (.int .i64 0), (.int .i64 0)], none⟩, ⟨none, .store 3 (.t 9) (.t 24), none⟩])
  (.seq (.reg [⟨some 25, .fa 0 (.t 9), none⟩, ⟨some 26, .load 1 false (.t 25) false, none⟩, ⟨some 27, .bin .eql (.t 26) (.c (.int .i64 3)), none⟩, ⟨some 28, .mv (.t 27) false, none⟩, ⟨some 29, .fa 2 (.t 3), some (28, true)⟩, ⟨some 30, .load 1 false (.t 29) false, some (28, true)⟩, ⟨some 31, .fa 2 (.t 9), some (28, true)⟩, ⟨some 32, .load 1 false (.t 31) false, some (28, true)⟩, ⟨some 33, .ia 1 (.t 30) (.t 32), some (28, true)⟩, ⟨some 34, .load 1 false (.t 33) false, some (28, true)⟩, ⟨some 35, .mv (.t 2) false, some (28, true)⟩, ⟨some 36, .bin .eql (.t 34) (.t 35), some (28, true)⟩, ⟨some 37, .pick (.t 28) (.t 36) (.c (.bool false)), none⟩])
  (.cond (.t 37) (.reg [⟨some 38, .mv (.t 7) true, none⟩, ⟨some 39, .fa 1 (.t 9), none⟩, ⟨some 40, .load 1 false (.t 39) false, none⟩, ⟨some 41, .bsl 1 1 [(.int .i64 0)] [(0, 1, (.t 40))] false, none⟩, ⟨some 42, .app 1 8 (.t 38) (.t 41) false, none⟩, ⟨some 7, .mv (.t 42) true, none⟩])
  (.skip)))))
  (.reg [⟨some 43, .bin .add (.t 21) (.c (.int .i64 1)), none⟩, ⟨some 21, .mv (.t 43) false, none⟩])))
def L63_0 : C := .loop [2, 3, 7, 19, 20, 21] 1 B63_0
theorem go63_0 (s : Env × Bx) (nb) : evL tab ext nb L63_0 s = (loopIn nb [2, 3, 7, 19, 20, 21] 1 s).bind fun s0 => (evL tab ext nb B63_0 s0).bind (seqG tab ext nb L63_0) := eL_loop _ _ _
/-- swingbridge/demand.homed -/
def C63 : CFun := ⟨45, 3, .seq (.reg [⟨some 3, .box (.t 0), none⟩, ⟨some 6, .mv (.c (.slice none 0 0)) true, none⟩])
  (.seq (.reg [⟨some 7, .mv (.c (.slice none 0 0)) true, none⟩])
  (.seq (.seq (.reg [⟨some 10, .load 4 true (.t 3) false, none⟩, ⟨some 11, .mv (.t 1) false, none⟩, ⟨some 12, .call 62 [(.t 10), (.t 11)] false, none⟩, ⟨some 13, .un .not (.t 12), none⟩])
  (.cond (.t 13) (.seq (.reg [⟨some 6, .mv (.c (.slice none 0 0)) true, none⟩])
  (.ret))
  (.skip)))
  (.seq (.seq (.reg [⟨some 14, .fa 3 (.t 3), none⟩, ⟨some 15, .load 1 false (.t 14) false, none⟩, ⟨some 16, .mv (.t 1) false, none⟩, ⟨some 17, .ia 6 (.t 15) (.t 16), none⟩, ⟨some 18, .fa 5 (.t 17), none⟩, ⟨some 19, .load 1 false (.t 18) false, none⟩, ⟨some 20, .len (.t 19), none⟩, ⟨some 21, .mv (.c (.int .i64 0)) false, none⟩])
  (.block 0 (L63_0)))
  (.seq (.reg [⟨some 44, .mv (.t 7) false, none⟩, ⟨some 6, .mv (.t 44) true, none⟩])
  (.ret))))), [.t 6]⟩
theorem row63 : RowOk Try.prog 63 C63 := ⟨Try.f63, ⟨[], [], [], []⟩, lvOf [(0, [2, 3, 7, 19, 20, 21], 1)], Try.func63, by kernel_rfl, by kernel_rfl⟩
def B64_0 : C := .seq (.reg [⟨some 12, .bin .lss (.t 11) (.t 10), none⟩])
  (.seq (.cond (.t 12) (.skip)
  (.exit 0))
  (.seq (.block 1 (.seq (.reg [⟨some 13, .ia 3 (.t 9) (.t 11), none⟩, ⟨some 14, .load 3 true (.t 13) false, none⟩, ⟨some 7, .alloc [(.int .i64 0), (.int .i64 0), (.int .i64 0)], none⟩, ⟨none, .store 3 (.t 7) (.t 14), none⟩])
  (.seq (.seq (.reg [⟨some 15, .fa 0 (.t 7), none⟩, ⟨some 16, .load 1 false (.t 15) false, none⟩, ⟨some 17, .mv (.t 1) false, none⟩, ⟨some 18, .bin .neq (.t 16) (.t 17), none⟩])
  (.cond (.t 18) (.exit 1)
  (.skip)))
  (.reg [⟨some 19, .mv (.t 5) false, none⟩, ⟨some 20, .fa 1 (.t 7), none⟩, ⟨some 21, .load 1 false (.t 20) false, none⟩, ⟨some 22, .bin .add (.t 19) (.t 21), none⟩, ⟨some 5, .mv (.t 22) true, none⟩]))))
  (.reg [⟨some 23, .bin .add (.t 11) (.c (.int .i64 1)), none⟩, ⟨some 11, .mv (.t 23) false, none⟩])))
def L64_0 : C := .loop [1, 5, 9, 10, 11] 1 B64_0
theorem go64_0 (s : Env × Bx) (nb) : evL tab ext nb L64_0 s = (loopIn nb [1, 5, 9, 10, 11] 1 s).bind fun s0 => (evL tab ext nb B64_0 s0).bind (seqG tab ext nb L64_0) := eL_loop _ _ _
/-- swingbridge/demand.all -/
def C64 : CFun := ⟨25, 2, .seq (.reg [⟨some 2, .box (.t 0), none⟩, ⟨some 4, .mv (.c (.int .i64 0)) true, none⟩])
  (.scope (.seq (.reg [⟨some 5, .mv (.c (.int .i64 0)) true, none⟩])
  (.seq (.skip)
  (.seq (.seq (.reg [⟨some 8, .fa 5 (.t 2), none⟩, ⟨some 9, .load 1 false (.t 8) false, none⟩, ⟨some 10, .len (.t 9), none⟩, ⟨some 11, .mv (.c (.int .i64 0)) false, none⟩])
  (.block 0 (L64_0)))
  (.seq (.reg [⟨some 24, .mv (.t 5) false, none⟩, ⟨some 4, .mv (.t 24) true, none⟩])
  (.ret)))))), [.t 4]⟩
theorem row64 : RowOk Try.prog 64 C64 := ⟨Try.f64, ⟨[], [], [], []⟩, lvOf [(0, [1, 5, 9, 10, 11], 1)], Try.func64, by kernel_rfl, by kernel_rfl⟩
/-- swingbridge/turn.compare -/
def C65 : CFun := ⟨46, 2, .seq (.reg [⟨some 2, .box (.t 0), none⟩, ⟨some 3, .box (.t 1), none⟩, ⟨some 4, .mv (.c (.int .i64 0)) true, none⟩])
  (.seq (.reg [⟨some 7, .fa 2 (.t 2), none⟩, ⟨some 8, .load 1 false (.t 7) false, none⟩, ⟨some 9, .bin .gtr (.t 8) (.c (.int .i64 0)), none⟩, ⟨some 10, .fa 2 (.t 3), none⟩, ⟨some 11, .load 1 false (.t 10) false, none⟩, ⟨some 12, .bin .gtr (.t 11) (.c (.int .i64 0)), none⟩, ⟨some 5, .mv (.t 9) true, none⟩, ⟨some 6, .mv (.t 12) true, none⟩])
  (.seq (.block 0 (.seq (.reg [⟨some 14, .mv (.t 5) false, none⟩, ⟨some 15, .mv (.t 14) false, none⟩, ⟨some 16, .mv (.t 6) false, some (15, true)⟩, ⟨some 17, .pick (.t 15) (.t 16) (.c (.bool false)), none⟩, ⟨some 13, .mv (.t 17) true, none⟩])
  (.cond (.t 13) (.seq (.reg [⟨some 18, .fa 2 (.t 2), none⟩, ⟨some 19, .load 1 false (.t 18) false, none⟩, ⟨some 20, .fa 2 (.t 3), none⟩, ⟨some 21, .load 1 false (.t 20) false, none⟩, ⟨some 22, .call 82 [(.t 19), (.t 21)] false, none⟩, ⟨some 23, .fa 0 (.t 2), none⟩, ⟨some 24, .load 1 false (.t 23) false, none⟩, ⟨some 25, .fa 0 (.t 3), none⟩, ⟨some 26, .load 1 false (.t 25) false, none⟩, ⟨some 27, .call 82 [(.t 24), (.t 26)] false, none⟩, ⟨some 28, .bsl 1 2 [(.int .i64 0), (.int .i64 0)] [(0, 1, (.t 22)), (1, 1, (.t 27))] false, none⟩, ⟨some 29, .call 81 [(.t 28)] false, none⟩, ⟨some 4, .mv (.t 29) true, none⟩])
  (.ret))
  (.seq (.reg [⟨some 31, .mv (.t 5) false, none⟩, ⟨some 30, .mv (.t 31) true, none⟩])
  (.cond (.t 30) (.seq (.reg [⟨some 4, .mv (.c (.int .i64 (-1))) true, none⟩])
  (.ret))
  (.seq (.reg [⟨some 33, .mv (.t 6) false, none⟩, ⟨some 32, .mv (.t 33) true, none⟩])
  (.cond (.t 32) (.seq (.reg [⟨some 4, .mv (.c (.int .i64 1)) true, none⟩])
  (.ret))
  (.skip))))))))
  (.seq (.reg [⟨some 34, .fa 1 (.t 2), none⟩, ⟨some 35, .load 1 false (.t 34) false, none⟩, ⟨some 36, .fa 1 (.t 3), none⟩, ⟨some 37, .load 1 false (.t 36) false, none⟩, ⟨some 38, .call 82 [(.t 35), (.t 37)] false, none⟩, ⟨some 39, .fa 0 (.t 2), none⟩, ⟨some 40, .load 1 false (.t 39) false, none⟩, ⟨some 41, .fa 0 (.t 3), none⟩, ⟨some 42, .load 1 false (.t 41) false, none⟩, ⟨some 43, .call 82 [(.t 40), (.t 42)] false, none⟩, ⟨some 44, .bsl 1 2 [(.int .i64 0), (.int .i64 0)] [(0, 1, (.t 38)), (1, 1, (.t 43))] false, none⟩, ⟨some 45, .call 81 [(.t 44)] false, none⟩, ⟨some 4, .mv (.t 45) true, none⟩])
  (.ret)))), [.t 4]⟩
theorem row65 : RowOk Try.prog 65 C65 := ⟨Try.f65, ⟨[], [], [], []⟩, lvOf [], Try.func65, by kernel_rfl, by kernel_rfl⟩
/-- slices.Clone[[]swingbridge/api.Who,swingbridge/api.Who] -/
def C66 : CFun := ⟨8, 1, .seq (.reg [⟨some 2, .mv (.c (.slice none 0 0)) true, none⟩])
  (.seq (.seq (.reg [⟨some 3, .mv (.t 0) false, none⟩, ⟨some 4, .isnil false (.t 3), none⟩])
  (.cond (.t 4) (.seq (.reg [⟨some 2, .mv (.c (.slice none 0 0)) true, none⟩])
  (.ret))
  (.skip)))
  (.seq (.reg [⟨some 5, .bsl 3 0 [] [] false, none⟩, ⟨some 6, .mv (.t 0) false, none⟩, ⟨some 7, .app 3 24 (.t 5) (.t 6) true, none⟩, ⟨some 2, .mv (.t 7) true, none⟩])
  (.ret))), [.t 2]⟩
theorem row66 : RowOk Try.prog 66 C66 := ⟨Try.f66, ⟨[], [7], [], []⟩, lvOf [], Try.func66, by kernel_rfl, by kernel_rfl⟩
/-- slices.SortStableFunc[[]swingbridge/api.Who,swingbridge/api.Who] -/
def C67 : CFun := ⟨9, 2, .reg [⟨some 4, .mv (.t 0) false, none⟩, ⟨some 5, .mv (.t 0) false, none⟩, ⟨some 6, .len (.t 5), none⟩, ⟨some 7, .mv (.t 1) false, none⟩, ⟨some 8, .calli 83 [(.t 4), (.t 6), (.t 7)], none⟩], []⟩
theorem row67 : RowOk Try.prog 67 C67 := ⟨Try.f67, ⟨[], [], [], []⟩, lvOf [], Try.func67, by kernel_rfl, by kernel_rfl⟩
/-- swingbridge/sorted.Sort -/
def C68 : CFun := ⟨9, 1, .seq (.reg [⟨some 2, .mv (.c (.slice none 0 0)) true, none⟩])
  (.seq (.reg [⟨some 4, .mv (.t 0) false, none⟩, ⟨some 5, .calli 84 [(.t 4)], none⟩, ⟨some 3, .mv (.t 5) true, none⟩])
  (.seq (.reg [⟨some 6, .mv (.t 3) false, none⟩, ⟨some 7, .calli 85 [(.t 6), (.f 86)], none⟩])
  (.seq (.reg [⟨some 8, .mv (.t 3) false, none⟩, ⟨some 2, .mv (.t 8) true, none⟩])
  (.ret)))), [.t 2]⟩
theorem row68 : RowOk Try.prog 68 C68 := ⟨Try.f68, ⟨[], [], [], [84]⟩, lvOf [], Try.func68, by kernel_rfl, by kernel_rfl⟩
def B69_0 : C := .seq (.reg [⟨some 17, .bin .lss (.t 16) (.t 15), none⟩])
  (.seq (.cond (.t 17) (.skip)
  (.exit 0))
  (.seq (.block 1 (.seq (.reg [⟨some 18, .ia 1 (.t 14) (.t 16), none⟩, ⟨some 19, .load 1 false (.t 18) false, none⟩, ⟨some 8, .mv (.t 19) true, none⟩])
  (.reg [⟨some 20, .fa 3 (.t 5), none⟩, ⟨some 21, .load 1 false (.t 20) true, none⟩, ⟨some 22, .mv (.t 6) false, none⟩, ⟨some 23, .mv (.t 8) false, none⟩, ⟨some 24, .ia 6 (.t 22) (.t 23), none⟩, ⟨some 25, .load 6 true (.t 24) false, none⟩, ⟨some 26, .bsl 6 1 [(.string ⟨#[]⟩), (.int .i64 0), (.int .i64 0), (.int .i64 0), (.int .i64 0), (.slice none 0 0)] [(0, 6, (.t 25))] false, none⟩, ⟨some 27, .app 6 72 (.t 21) (.t 26) false, none⟩, ⟨some 28, .fa 3 (.t 5), none⟩, ⟨none, .store 1 (.t 28) (.t 27), none⟩])))
  (.reg [⟨some 29, .bin .add (.t 16) (.c (.int .i64 1)), none⟩, ⟨some 16, .mv (.t 29) false, none⟩])))
def L69_0 : C := .loop [4, 5, 6, 14, 15, 16] 3 B69_0
theorem go69_0 (s : Env × Bx) (nb) : evL tab ext nb L69_0 s = (loopIn nb [4, 5, 6, 14, 15, 16] 3 s).bind fun s0 => (evL tab ext nb B69_0 s0).bind (seqG tab ext nb L69_0) := eL_loop _ _ _
/-- swingbridge/canon.picked -/
def C69 : CFun := ⟨31, 2, .seq (.reg [⟨some 2, .box (.t 0), none⟩, ⟨some 4, .alloc [(.int .i64 0), (.slice none 0 0), (.slice none 0 0), (.slice none 0 0)], none⟩])
  (.seq (.reg [⟨some 9, .load 4 true (.t 2) false, none⟩, ⟨some 10, .call 21 [(.t 9)] false, none⟩, ⟨some 5, .alloc [(.int .i64 0), (.slice none 0 0), (.slice none 0 0), (.slice none 0 0)], none⟩, ⟨none, .store 4 (.t 5) (.t 10), none⟩])
  (.seq (.reg [⟨some 11, .fa 3 (.t 5), none⟩, ⟨some 12, .load 1 false (.t 11) false, none⟩, ⟨some 6, .mv (.t 12) true, none⟩])
  (.seq (.reg [⟨some 13, .fa 3 (.t 5), none⟩, ⟨none, .store 1 (.t 13) (.c (.slice none 0 0)), none⟩])
  (.seq (.seq (.reg [⟨some 14, .mv (.t 1) false, none⟩, ⟨some 15, .len (.t 14), none⟩, ⟨some 16, .mv (.c (.int .i64 0)) false, none⟩])
  (.block 0 (L69_0)))
  (.seq (.reg [⟨some 30, .load 4 true (.t 5) false, none⟩, ⟨none, .store 4 (.t 4) (.t 30), none⟩])
  (.ret)))))), [.cell 4 4]⟩
theorem row69 : RowOk Try.prog 69 C69 := ⟨Try.f69, ⟨[], [], [], []⟩, lvOf [(0, [4, 5, 6, 14, 15, 16], 3)], Try.func69, by kernel_rfl, by kernel_rfl⟩
def B70_0 : C := .seq (.reg [⟨some 14, .bin .lss (.t 13) (.t 12), none⟩])
  (.seq (.cond (.t 14) (.skip)
  (.exit 0))
  (.seq (.block 1 (.seq (.reg [⟨some 15, .mv (.t 13) false, none⟩, ⟨some 5, .mv (.t 15) true, none⟩])
  (.seq (.reg [⟨some 16, .mv (.t 0) false, none⟩, ⟨some 17, .mv (.t 5) false, none⟩, ⟨some 18, .ia 3 (.t 16) (.t 17), none⟩, ⟨some 19, .load 3 true (.t 18) false, none⟩, ⟨some 20, .mv (.t 1) false, none⟩, ⟨some 21, .mv (.t 5) false, none⟩, ⟨some 22, .ia 3 (.t 20) (.t 21), none⟩, ⟨some 23, .load 3 true (.t 22) false, none⟩, ⟨some 24, .eqs true 3 (.t 19) (.t 23), none⟩])
  (.cond (.t 24) (.seq (.reg [⟨some 4, .mv (.c (.bool false)) true, none⟩])
  (.ret))
  (.skip)))))
  (.reg [⟨some 25, .bin .add (.t 13) (.c (.int .i64 1)), none⟩, ⟨some 13, .mv (.t 25) false, none⟩])))
def L70_0 : C := .loop [0, 1, 12, 13] 0 B70_0
theorem go70_0 (s : Env × Bx) (nb) : evL tab ext nb L70_0 s = (loopIn nb [0, 1, 12, 13] 0 s).bind fun s0 => (evL tab ext nb B70_0 s0).bind (seqG tab ext nb L70_0) := eL_loop _ _ _
/-- slices.Equal[[]swingbridge/api.Part,swingbridge/api.Part] -/
def C70 : CFun := ⟨26, 2, .seq (.reg [⟨some 4, .mv (.c (.bool false)) true, none⟩])
  (.seq (.seq (.reg [⟨some 6, .mv (.t 0) false, none⟩, ⟨some 7, .len (.t 6), none⟩, ⟨some 8, .mv (.t 1) false, none⟩, ⟨some 9, .len (.t 8), none⟩, ⟨some 10, .bin .neq (.t 7) (.t 9), none⟩])
  (.cond (.t 10) (.seq (.reg [⟨some 4, .mv (.c (.bool false)) true, none⟩])
  (.ret))
  (.skip)))
  (.seq (.seq (.reg [⟨some 11, .mv (.t 0) false, none⟩, ⟨some 12, .len (.t 11), none⟩, ⟨some 13, .mv (.c (.int .i64 0)) false, none⟩])
  (.block 0 (L70_0)))
  (.seq (.reg [⟨some 4, .mv (.c (.bool true)) true, none⟩])
  (.ret)))), [.t 4]⟩
theorem row70 : RowOk Try.prog 70 C70 := ⟨Try.f70, ⟨[], [], [], []⟩, lvOf [(0, [0, 1, 12, 13], 0)], Try.func70, by kernel_rfl, by kernel_rfl⟩
/-- swingbridge/task.placed$1 -/
def C71 : CFun := ⟨6, 1, .seq (.reg [⟨some 2, .mv (.c (.bool false)) true, none⟩])
  (.seq (.reg [⟨some 3, .mv (.t 0) false, none⟩, ⟨some 4, .call 49 [(.t 3), (.c (.int .i64 1)), (.c (.int .i64 3))] false, none⟩, ⟨some 5, .un .not (.t 4), none⟩, ⟨some 2, .mv (.t 5) true, none⟩])
  (.ret)), [.t 2]⟩
theorem row71 : RowOk Try.prog 71 C71 := ⟨Try.f71, ⟨[], [], [], []⟩, lvOf [], Try.func71, by kernel_rfl, by kernel_rfl⟩
/-- swingbridge/task.placed$2 -/
def C72 : CFun := ⟨11, 2, .seq (.reg [⟨some 3, .mv (.c (.bool false)) true, none⟩])
  (.seq (.reg [⟨some 4, .mv (.t 0) false, none⟩, ⟨some 5, .fa 1 (.t 1), none⟩, ⟨some 6, .load 1 false (.t 5) false, none⟩, ⟨some 7, .len (.t 6), none⟩, ⟨some 8, .bin .sub (.t 7) (.c (.int .i64 1)), none⟩, ⟨some 9, .call 49 [(.t 4), (.c (.int .i64 0)), (.t 8)] false, none⟩, ⟨some 10, .un .not (.t 9), none⟩, ⟨some 3, .mv (.t 10) true, none⟩])
  (.ret)), [.t 3]⟩
theorem row72 : RowOk Try.prog 72 C72 := ⟨Try.f72, ⟨[], [], [], []⟩, lvOf [], Try.func72, by kernel_rfl, by kernel_rfl⟩
/-- slices.ContainsFunc[[]int,int] -/
def C73 : CFun := ⟨9, 2, .seq (.reg [⟨some 4, .mv (.c (.bool false)) true, none⟩])
  (.seq (.reg [⟨some 5, .mv (.t 0) false, none⟩, ⟨some 6, .mv (.t 1) false, none⟩, ⟨some 7, .calli 87 [(.t 5), (.t 6)], none⟩, ⟨some 8, .bin .geq (.t 7) (.c (.int .i64 0)), none⟩, ⟨some 4, .mv (.t 8) true, none⟩])
  (.ret)), [.t 4]⟩
theorem row73 : RowOk Try.prog 73 C73 := ⟨Try.f73, ⟨[], [], [], []⟩, lvOf [], Try.func73, by kernel_rfl, by kernel_rfl⟩
/-- swingbridge/task.one$1 -/
def C74 : CFun := ⟨16, 2, .seq (.reg [⟨some 2, .box (.t 0), none⟩, ⟨some 3, .mv (.c (.bool false)) true, none⟩])
  (.seq (.reg [⟨some 4, .fa 0 (.t 2), none⟩, ⟨some 5, .load 1 false (.t 4) false, none⟩, ⟨some 6, .fa 0 (.t 1), none⟩, ⟨some 7, .load 1 false (.t 6) false, none⟩, ⟨some 8, .bin .eql (.t 5) (.t 7), none⟩, ⟨some 9, .mv (.t 8) false, none⟩, ⟨some 10, .fa 3 (.t 2), some (9, false)⟩, ⟨some 11, .load 1 false (.t 10) false, some (9, false)⟩, ⟨some 12, .fa 3 (.t 1), some (9, false)⟩, ⟨some 13, .load 1 false (.t 12) false, some (9, false)⟩, ⟨some 14, .bin .eql (.t 11) (.t 13), some (9, false)⟩, ⟨some 15, .pick (.t 9) (.c (.bool true)) (.t 14), none⟩, ⟨some 3, .mv (.t 15) true, none⟩])
  (.ret)), [.t 3]⟩
theorem row74 : RowOk Try.prog 74 C74 := ⟨Try.f74, ⟨[], [], [], []⟩, lvOf [], Try.func74, by kernel_rfl, by kernel_rfl⟩
def B75_0 : C := .seq (.reg [⟨some 9, .bin .lss (.t 8) (.t 7), none⟩])
  (.seq (.cond (.t 9) (.skip)
  (.exit 0))
  (.seq (.block 1 (.seq (.reg [⟨some 10, .mv (.t 8) false, none⟩, ⟨some 3, .mv (.t 10) true, none⟩])
  (.seq (.reg [⟨some 11, .mv (.t 0) false, none⟩, ⟨some 12, .mv (.t 3) false, none⟩, ⟨some 13, .ix (.t 11) (.t 12), none⟩, ⟨some 4, .mv (.t 13) true, none⟩])
  (.seq (.reg [⟨some 14, .mv (.t 4) false, none⟩, ⟨some 15, .bin .geq (.t 14) (.c (.int .u8 48)), none⟩, ⟨some 16, .mv (.t 15) false, none⟩, ⟨some 17, .mv (.t 4) false, some (16, true)⟩, ⟨some 18, .bin .leq (.t 17) (.c (.int .u8 57)), some (16, true)⟩, ⟨some 19, .pick (.t 16) (.t 18) (.c (.bool false)), none⟩, ⟨some 5, .mv (.t 19) true, none⟩])
  (.seq (.reg [⟨some 20, .mv (.t 4) false, none⟩, ⟨some 21, .bin .lss (.t 20) (.c (.int .u8 97)), none⟩, ⟨some 22, .mv (.t 21) false, none⟩, ⟨some 23, .mv (.t 4) false, some (22, false)⟩, ⟨some 24, .bin .gtr (.t 23) (.c (.int .u8 122)), some (22, false)⟩, ⟨some 25, .pick (.t 22) (.c (.bool true)) (.t 24), none⟩, ⟨some 26, .mv (.t 25) false, none⟩, ⟨some 27, .mv (.t 3) false, some (26, true)⟩, ⟨some 28, .bin .eql (.t 27) (.c (.int .i64 0)), some (26, true)⟩, ⟨some 29, .mv (.t 28) false, some (26, true)⟩, ⟨some 30, .mv (.t 5) false, some (29, false)⟩, ⟨some 31, .un .not (.t 30), some (29, false)⟩, ⟨some 32, .pick (.t 29) (.c (.bool true)) (.t 31), some (26, true)⟩, ⟨some 33, .pick (.t 26) (.t 32) (.c (.bool false)), none⟩])
  (.cond (.t 33) (.seq (.reg [⟨some 2, .mv (.c (.bool false)) true, none⟩])
  (.ret))
  (.skip)))))))
  (.reg [⟨some 34, .bin .add (.t 8) (.c (.int .i64 1)), none⟩, ⟨some 8, .mv (.t 34) false, none⟩])))
def L75_0 : C := .loop [0, 7, 8] 0 B75_0
theorem go75_0 (s : Env × Bx) (nb) : evL tab ext nb L75_0 s = (loopIn nb [0, 7, 8] 0 s).bind fun s0 => (evL tab ext nb B75_0 s0).bind (seqG tab ext nb L75_0) := eL_loop _ _ _
/-- swingbridge/words.Name -/
def C75 : CFun := ⟨42, 1, .seq (.reg [⟨some 2, .mv (.c (.bool false)) true, none⟩])
  (.seq (.seq (.reg [⟨some 6, .mv (.t 0) false, none⟩, ⟨some 7, .slen (.t 6), none⟩, ⟨some 8, .mv (.c (.int .i64 0)) false, none⟩])
  (.block 0 (L75_0)))
  (.seq (.reg [⟨some 35, .mv (.t 0) false, none⟩, ⟨some 36, .bin .neq (.t 35) (.c (.string ⟨#[]⟩)), none⟩, ⟨some 37, .mv (.t 36) false, none⟩, ⟨some 38, .mv (.t 0) false, some (37, true)⟩, ⟨some 39, .slen (.t 38), some (37, true)⟩, ⟨some 40, .bin .leq (.t 39) (.c (.int .i64 8)), some (37, true)⟩, ⟨some 41, .pick (.t 37) (.t 40) (.c (.bool false)), none⟩, ⟨some 2, .mv (.t 41) true, none⟩])
  (.ret))), [.t 2]⟩
theorem row75 : RowOk Try.prog 75 C75 := ⟨Try.f75, ⟨[], [], [], []⟩, lvOf [(0, [0, 7, 8], 0)], Try.func75, by kernel_rfl, by kernel_rfl⟩
/-- slices.ContainsFunc[[]swingbridge/api.Task,swingbridge/api.Task] -/
def C76 : CFun := ⟨9, 2, .seq (.reg [⟨some 4, .mv (.c (.bool false)) true, none⟩])
  (.seq (.reg [⟨some 5, .mv (.t 0) false, none⟩, ⟨some 6, .mv (.t 1) false, none⟩, ⟨some 7, .calli 88 [(.t 5), (.t 6)], none⟩, ⟨some 8, .bin .geq (.t 7) (.c (.int .i64 0)), none⟩, ⟨some 4, .mv (.t 8) true, none⟩])
  (.ret)), [.t 4]⟩
theorem row76 : RowOk Try.prog 76 C76 := ⟨Try.f76, ⟨[], [], [], []⟩, lvOf [], Try.func76, by kernel_rfl, by kernel_rfl⟩
def B77_0 : C := .seq (.reg [⟨some 10, .bin .lss (.t 9) (.t 8), none⟩])
  (.seq (.cond (.t 10) (.skip)
  (.exit 0))
  (.seq (.block 1 (.seq (.reg [⟨some 11, .ia 3 (.t 7) (.t 9), none⟩, ⟨some 12, .load 3 true (.t 11) false, none⟩, ⟨some 6, .alloc [(.int .i64 0), (.int .i64 0), (.int .i64 0)], none⟩, ⟨none, .store 3 (.t 6) (.t 12), none⟩])
  (.seq (.block 2 (.seq (.reg [⟨some 14, .fa 0 (.t 6), none⟩, ⟨some 15, .load 1 false (.t 14) false, none⟩, ⟨some 16, .call 49 [(.t 15), (.c (.int .i64 1)), (.c (.int .i64 3))] false, none⟩, ⟨some 17, .un .not (.t 16), none⟩, ⟨some 18, .mv (.t 17) false, none⟩, ⟨some 19, .fa 1 (.t 6), some (18, false)⟩, ⟨some 20, .load 1 false (.t 19) false, some (18, false)⟩, ⟨some 21, .call 49 [(.t 20), (.c (.int .i64 1)), (.c (.int .i64 60))] false, some (18, false)⟩, ⟨some 22, .un .not (.t 21), some (18, false)⟩, ⟨some 23, .pick (.t 18) (.c (.bool true)) (.t 22), none⟩, ⟨some 13, .mv (.t 23) true, none⟩])
  (.cond (.t 13) (.seq (.reg [⟨some 4, .mv (.c (.bool false)) true, none⟩])
  (.ret))
  (.seq (.reg [⟨some 25, .fa 0 (.t 6), none⟩, ⟨some 26, .load 1 false (.t 25) false, none⟩, ⟨some 27, .bin .eql (.t 26) (.c (.int .i64 3)), none⟩, ⟨some 28, .mv (.t 27) false, none⟩, ⟨some 29, .fa 2 (.t 6), some (28, true)⟩, ⟨some 30, .load 1 false (.t 29) false, some (28, true)⟩, ⟨some 31, .fa 2 (.t 2), some (28, true)⟩, ⟨some 32, .load 1 false (.t 31) false, some (28, true)⟩, ⟨some 33, .len (.t 32), some (28, true)⟩, ⟨some 34, .bin .sub (.t 33) (.c (.int .i64 1)), some (28, true)⟩, ⟨some 35, .call 49 [(.t 30), (.c (.int .i64 0)), (.t 34)] false, some (28, true)⟩, ⟨some 36, .pick (.t 28) (.t 35) (.c (.bool false)), none⟩, ⟨some 24, .mv (.t 36) true, none⟩])
  (.cond (.t 24) (.exit 1)
  (.seq (.reg [⟨some 38, .fa 0 (.t 6), none⟩, ⟨some 39, .load 1 false (.t 38) false, none⟩, ⟨some 40, .bin .neq (.t 39) (.c (.int .i64 3)), none⟩, ⟨some 41, .mv (.t 40) false, none⟩, ⟨some 42, .fa 2 (.t 6), some (41, true)⟩, ⟨some 43, .load 1 false (.t 42) false, some (41, true)⟩, ⟨some 44, .bin .eql (.t 43) (.c (.int .i64 0)), some (41, true)⟩, ⟨some 45, .pick (.t 41) (.t 44) (.c (.bool false)), none⟩, ⟨some 37, .mv (.t 45) true, none⟩])
  (.cond (.t 37) (.exit 1)
  (.skip))))))))
  (.seq (.reg [⟨some 4, .mv (.c (.bool false)) true, none⟩])
  (.ret)))))
  (.reg [⟨some 46, .bin .add (.t 9) (.c (.int .i64 1)), none⟩, ⟨some 9, .mv (.t 46) false, none⟩])))
def L77_0 : C := .loop [1, 2, 7, 8, 9] 1 B77_0
theorem go77_0 (s : Env × Bx) (nb) : evL tab ext nb L77_0 s = (loopIn nb [1, 2, 7, 8, 9] 1 s).bind fun s0 => (evL tab ext nb B77_0 s0).bind (seqG tab ext nb L77_0) := eL_loop _ _ _
/-- swingbridge/task.parted -/
def C77 : CFun := ⟨50, 2, .seq (.reg [⟨some 2, .box (.t 0), none⟩, ⟨some 4, .mv (.c (.bool false)) true, none⟩])
  (.scope (.seq (.skip)
  (.seq (.seq (.reg [⟨some 7, .mv (.t 1) false, none⟩, ⟨some 8, .len (.t 7), none⟩, ⟨some 9, .mv (.c (.int .i64 0)) false, none⟩])
  (.block 0 (L77_0)))
  (.seq (.reg [⟨some 47, .mv (.t 1) false, none⟩, ⟨some 48, .len (.t 47), none⟩, ⟨some 49, .call 49 [(.t 48), (.c (.int .i64 1)), (.c (.int .i64 6))] false, none⟩, ⟨some 4, .mv (.t 49) true, none⟩])
  (.ret))))), [.t 4]⟩
theorem row77 : RowOk Try.prog 77 C77 := ⟨Try.f77, ⟨[], [], [], []⟩, lvOf [(0, [1, 2, 7, 8, 9], 1)], Try.func77, by kernel_rfl, by kernel_rfl⟩
def B78_0 : C := .seq (.seq (.reg [⟨some 5, .mv (.t 3) false, none⟩, ⟨some 6, .mv (.t 0) false, none⟩, ⟨some 7, .slen (.t 6), none⟩, ⟨some 8, .bin .lss (.t 5) (.t 7), none⟩])
  (.cond (.t 8) (.skip)
  (.exit 0)))
  (.seq (.block 1 (.seq (.reg [⟨some 11, .mv (.t 0) false, none⟩, ⟨some 12, .mv (.t 3) false, none⟩, ⟨some 13, .ix (.t 11) (.t 12), none⟩, ⟨some 4, .mv (.t 13) true, none⟩])
  (.seq (.reg [⟨some 14, .mv (.t 4) false, none⟩, ⟨some 15, .bin .lss (.t 14) (.c (.int .u8 97)), none⟩, ⟨some 16, .mv (.t 15) false, none⟩, ⟨some 17, .mv (.t 4) false, some (16, false)⟩, ⟨some 18, .bin .gtr (.t 17) (.c (.int .u8 122)), some (16, false)⟩, ⟨some 19, .pick (.t 16) (.c (.bool true)) (.t 18), none⟩, ⟨some 20, .mv (.t 19) false, none⟩, ⟨some 21, .mv (.t 4) false, some (20, true)⟩, ⟨some 22, .bin .lss (.t 21) (.c (.int .u8 48)), some (20, true)⟩, ⟨some 23, .mv (.t 22) false, some (20, true)⟩, ⟨some 24, .mv (.t 4) false, some (23, false)⟩, ⟨some 25, .bin .gtr (.t 24) (.c (.int .u8 57)), some (23, false)⟩, ⟨some 26, .pick (.t 23) (.c (.bool true)) (.t 25), some (20, true)⟩, ⟨some 27, .mv (.t 26) false, some (20, true)⟩, ⟨some 28, .mv (.t 3) false, some (27, false)⟩, ⟨some 29, .bin .eql (.t 28) (.c (.int .i64 0)), some (27, false)⟩, ⟨some 30, .pick (.t 27) (.c (.bool true)) (.t 29), some (20, true)⟩, ⟨some 31, .pick (.t 20) (.t 30) (.c (.bool false)), none⟩])
  (.cond (.t 31) (.seq (.reg [⟨some 2, .mv (.c (.bool false)) true, none⟩])
  (.ret))
  (.skip)))))
  (.reg [⟨some 9, .mv (.t 3) false, none⟩, ⟨some 10, .bin .add (.t 9) (.c (.int .i64 1)), none⟩, ⟨some 3, .mv (.t 10) true, none⟩]))
def L78_0 : C := .loop [0, 3] 0 B78_0
theorem go78_0 (s : Env × Bx) (nb) : evL tab ext nb L78_0 s = (loopIn nb [0, 3] 0 s).bind fun s0 => (evL tab ext nb B78_0 s0).bind (seqG tab ext nb L78_0) := eL_loop _ _ _
/-- swingbridge/swingbridgeref7.Name -/
def C78 : CFun := ⟨40, 1, .seq (.reg [⟨some 2, .mv (.c (.bool false)) true, none⟩])
  (.seq (.seq (.reg [⟨some 3, .mv (.c (.int .i64 0)) true, none⟩])
  (.block 0 (L78_0)))
  (.seq (.reg [⟨some 32, .mv (.t 0) false, none⟩, ⟨some 33, .slen (.t 32), none⟩, ⟨some 34, .bin .geq (.t 33) (.c (.int .i64 1)), none⟩, ⟨some 35, .mv (.t 34) false, none⟩, ⟨some 36, .mv (.t 0) false, some (35, true)⟩, ⟨some 37, .slen (.t 36), some (35, true)⟩, ⟨some 38, .bin .leq (.t 37) (.c (.int .i64 8)), some (35, true)⟩, ⟨some 39, .pick (.t 35) (.t 38) (.c (.bool false)), none⟩, ⟨some 2, .mv (.t 39) true, none⟩])
  (.ret))), [.t 2]⟩
theorem row78 : RowOk Try.prog 78 C78 := ⟨Try.f78, ⟨[], [], [], []⟩, lvOf [(0, [0, 3], 0)], Try.func78, by kernel_rfl, by kernel_rfl⟩
/-- swingbridge/swingbridgeref7.part -/
def C79 : CFun := ⟨49, 2, .seq (.reg [⟨some 2, .box (.t 0), none⟩, ⟨some 3, .box (.t 1), none⟩, ⟨some 4, .mv (.c (.bool false)) true, none⟩])
  (.seq (.seq (.reg [⟨some 5, .fa 0 (.t 3), none⟩, ⟨some 6, .load 1 false (.t 5) false, none⟩, ⟨some 7, .bin .lss (.t 6) (.c (.int .i64 1)), none⟩, ⟨some 8, .mv (.t 7) false, none⟩, ⟨some 9, .fa 0 (.t 3), some (8, false)⟩, ⟨some 10, .load 1 false (.t 9) false, some (8, false)⟩, ⟨some 11, .bin .gtr (.t 10) (.c (.int .i64 3)), some (8, false)⟩, ⟨some 12, .pick (.t 8) (.c (.bool true)) (.t 11), none⟩, ⟨some 13, .mv (.t 12) false, none⟩, ⟨some 14, .fa 1 (.t 3), some (13, false)⟩, ⟨some 15, .load 1 false (.t 14) false, some (13, false)⟩, ⟨some 16, .bin .lss (.t 15) (.c (.int .i64 1)), some (13, false)⟩, ⟨some 17, .pick (.t 13) (.c (.bool true)) (.t 16), none⟩, ⟨some 18, .mv (.t 17) false, none⟩, ⟨some 19, .fa 1 (.t 3), some (18, false)⟩, ⟨some 20, .load 1 false (.t 19) false, some (18, false)⟩, ⟨some 21, .bin .gtr (.t 20) (.c (.int .i64 60)), some (18, false)⟩, ⟨some 22, .pick (.t 18) (.c (.bool true)) (.t 21), none⟩])
  (.cond (.t 22) (.seq (.reg [⟨some 4, .mv (.c (.bool false)) true, none⟩])
  (.ret))
  (.skip)))
  (.seq (.reg [⟨some 23, .fa 0 (.t 3), none⟩, ⟨some 24, .load 1 false (.t 23) false, none⟩, ⟨some 25, .bin .eql (.t 24) (.c (.int .i64 3)), none⟩, ⟨some 26, .mv (.t 25) false, none⟩, ⟨some 27, .fa 2 (.t 3), some (26, true)⟩, ⟨some 28, .load 1 false (.t 27) false, some (26, true)⟩, ⟨some 29, .bin .geq (.t 28) (.c (.int .i64 0)), some (26, true)⟩, ⟨some 30, .pick (.t 26) (.t 29) (.c (.bool false)), none⟩, ⟨some 31, .mv (.t 30) false, none⟩, ⟨some 32, .fa 2 (.t 3), some (31, true)⟩, ⟨some 33, .load 1 false (.t 32) false, some (31, true)⟩, ⟨some 34, .fa 2 (.t 2), some (31, true)⟩, ⟨some 35, .load 1 false (.t 34) false, some (31, true)⟩, ⟨some 36, .len (.t 35), some (31, true)⟩, ⟨some 37, .bin .lss (.t 33) (.t 36), some (31, true)⟩, ⟨some 38, .pick (.t 31) (.t 37) (.c (.bool false)), none⟩, ⟨some 39, .mv (.t 38) false, none⟩, ⟨some 40, .fa 0 (.t 3), some (39, false)⟩, ⟨some 41, .load 1 false (.t 40) false, some (39, false)⟩, ⟨some 42, .bin .neq (.t 41) (.c (.int .i64 3)), some (39, false)⟩, ⟨some 43, .mv (.t 42) false, some (39, false)⟩, ⟨some 44, .fa 2 (.t 3), some (43, true)⟩, ⟨some 45, .load 1 false (.t 44) false, some (43, true)⟩, ⟨some 46, .bin .eql (.t 45) (.c (.int .i64 0)), some (43, true)⟩, ⟨some 47, .pick (.t 43) (.t 46) (.c (.bool false)), some (39, false)⟩, ⟨some 48, .pick (.t 39) (.c (.bool true)) (.t 47), none⟩, ⟨some 4, .mv (.t 48) true, none⟩])
  (.ret))), [.t 4]⟩
theorem row79 : RowOk Try.prog 79 C79 := ⟨Try.f79, ⟨[], [], [], []⟩, lvOf [], Try.func79, by kernel_rfl, by kernel_rfl⟩
/-- swingbridge/swingbridgelaw11.one -/
def C80 : CFun := ⟨12, 2, .seq (.reg [⟨some 4, .alloc [(.int .i64 0), (.slice none 0 0), (.slice none 0 0), (.slice none 0 0)], none⟩])
  (.seq (.reg [⟨some 5, .mv (.t 0) false, none⟩, ⟨some 6, .bsl 1 1 [(.int .i64 0)] [(0, 1, (.c (.int .i64 1)))] false, none⟩, ⟨some 7, .bsl 1 1 [(.int .i64 0)] [(0, 1, (.c (.int .i64 0)))] false, none⟩, ⟨some 8, .mv (.t 1) false, none⟩, ⟨some 9, .build [(.string ⟨#[]⟩), (.int .i64 0), (.int .i64 0), (.int .i64 0), (.int .i64 0), (.slice none 0 0)] [(0, 1, (.c (.string ⟨#[97]⟩))), (1, 1, (.c (.int .i64 100))), (2, 1, (.c (.int .i64 100))), (3, 1, (.c (.int .i64 1))), (5, 1, (.t 8))], none⟩, ⟨some 10, .bsl 6 1 [(.string ⟨#[]⟩), (.int .i64 0), (.int .i64 0), (.int .i64 0), (.int .i64 0), (.slice none 0 0)] [(0, 6, (.t 9))] false, none⟩, ⟨some 11, .build [(.int .i64 0), (.slice none 0 0), (.slice none 0 0), (.slice none 0 0)] [(0, 1, (.t 5)), (1, 1, (.t 6)), (2, 1, (.t 7)), (3, 1, (.t 10))], none⟩, ⟨none, .store 4 (.t 4) (.t 11), none⟩])
  (.ret)), [.cell 4 4]⟩
theorem row80 : RowOk Try.prog 80 C80 := ⟨Try.f80, ⟨[], [], [], []⟩, lvOf [], Try.func80, by kernel_rfl, by kernel_rfl⟩
def B81_0 : C := .seq (.reg [⟨some 9, .bin .lss (.t 8) (.t 7), none⟩])
  (.seq (.cond (.t 9) (.skip)
  (.exit 0))
  (.seq (.block 1 (.seq (.reg [⟨some 10, .ia 1 (.t 6) (.t 8), none⟩, ⟨some 11, .load 1 false (.t 10) false, none⟩, ⟨some 5, .mv (.t 11) true, none⟩])
  (.seq (.reg [⟨some 12, .mv (.t 5) false, none⟩, ⟨some 13, .mv (.t 3) false, none⟩, ⟨some 14, .bin .neq (.t 12) (.t 13), none⟩])
  (.cond (.t 14) (.seq (.reg [⟨some 15, .mv (.t 5) false, none⟩, ⟨some 2, .mv (.t 15) true, none⟩])
  (.ret))
  (.skip)))))
  (.reg [⟨some 16, .bin .add (.t 8) (.c (.int .i64 1)), none⟩, ⟨some 8, .mv (.t 16) false, none⟩])))
def L81_0 : C := .loop [3, 6, 7, 8] 0 B81_0
theorem go81_0 (s : Env × Bx) (nb) : evL tab ext nb L81_0 s = (loopIn nb [3, 6, 7, 8] 0 s).bind fun s0 => (evL tab ext nb B81_0 s0).bind (seqG tab ext nb L81_0) := eL_loop _ _ _
/-- cmp.Or[int] -/
def C81 : CFun := ⟨18, 1, .seq (.reg [⟨some 2, .mv (.c (.int .i64 0)) true, none⟩])
  (.seq (.reg [⟨some 3, .mv (.c (.int .i64 0)) true, none⟩])
  (.seq (.seq (.reg [⟨some 6, .mv (.t 0) false, none⟩, ⟨some 7, .len (.t 6), none⟩, ⟨some 8, .mv (.c (.int .i64 0)) false, none⟩])
  (.block 0 (L81_0)))
  (.seq (.reg [⟨some 17, .mv (.t 3) false, none⟩, ⟨some 2, .mv (.t 17) true, none⟩])
  (.ret)))), [.t 2]⟩
theorem row81 : RowOk Try.prog 81 C81 := ⟨Try.f81, ⟨[], [], [], []⟩, lvOf [(0, [3, 6, 7, 8], 0)], Try.func81, by kernel_rfl, by kernel_rfl⟩
/-- cmp.Compare[int] -/
def C82 : CFun := ⟨20, 2, .seq (.reg [⟨some 4, .mv (.c (.int .i64 0)) true, none⟩])
  (.seq (.reg [⟨some 7, .mv (.t 0) false, none⟩, ⟨some 8, .call 89 [(.t 7)] false, none⟩, ⟨some 5, .mv (.t 8) true, none⟩])
  (.seq (.reg [⟨some 9, .mv (.t 1) false, none⟩, ⟨some 10, .call 89 [(.t 9)] false, none⟩, ⟨some 6, .mv (.t 10) true, none⟩])
  (.seq (.seq (.reg [⟨some 11, .mv (.t 5) false, none⟩])
  (.cond (.t 11) (.seq (.seq (.reg [⟨some 12, .mv (.t 6) false, none⟩])
  (.cond (.t 12) (.seq (.reg [⟨some 4, .mv (.c (.int .i64 0)) true, none⟩])
  (.ret))
  (.skip)))
  (.seq (.reg [⟨some 4, .mv (.c (.int .i64 (-1))) true, none⟩])
  (.ret)))
  (.skip)))
  (.seq (.seq (.reg [⟨some 13, .mv (.t 6) false, none⟩])
  (.cond (.t 13) (.seq (.reg [⟨some 4, .mv (.c (.int .i64 1)) true, none⟩])
  (.ret))
  (.skip)))
  (.seq (.seq (.reg [⟨some 14, .mv (.t 0) false, none⟩, ⟨some 15, .mv (.t 1) false, none⟩, ⟨some 16, .bin .lss (.t 14) (.t 15), none⟩])
  (.cond (.t 16) (.seq (.reg [⟨some 4, .mv (.c (.int .i64 (-1))) true, none⟩])
  (.ret))
  (.skip)))
  (.seq (.seq (.reg [⟨some 17, .mv (.t 0) false, none⟩, ⟨some 18, .mv (.t 1) false, none⟩, ⟨some 19, .bin .gtr (.t 17) (.t 18), none⟩])
  (.cond (.t 19) (.seq (.reg [⟨some 4, .mv (.c (.int .i64 1)) true, none⟩])
  (.ret))
  (.skip)))
  (.seq (.reg [⟨some 4, .mv (.c (.int .i64 0)) true, none⟩])
  (.ret)))))))), [.t 4]⟩
theorem row82 : RowOk Try.prog 82 C82 := ⟨Try.f82, ⟨[], [], [], []⟩, lvOf [], Try.func82, by kernel_rfl, by kernel_rfl⟩
def B83_0 : C := .seq (.seq (.reg [⟨some 11, .mv (.t 8) false, none⟩, ⟨some 12, .mv (.t 1) false, none⟩, ⟨some 13, .bin .leq (.t 11) (.t 12), none⟩])
  (.cond (.t 13) (.skip)
  (.exit 0)))
  (.block 1 (.seq (.reg [⟨some 14, .mv (.t 0) false, none⟩, ⟨some 15, .mv (.t 7) false, none⟩, ⟨some 16, .mv (.t 8) false, none⟩, ⟨some 17, .mv (.t 2) false, none⟩, ⟨some 18, .calli 90 [(.t 14), (.t 15), (.t 16), (.t 17)], none⟩])
  (.seq (.reg [⟨some 19, .mv (.t 8) false, none⟩, ⟨some 7, .mv (.t 19) true, none⟩])
  (.reg [⟨some 20, .mv (.t 8) false, none⟩, ⟨some 21, .mv (.t 6) false, none⟩, ⟨some 22, .bin .add (.t 20) (.t 21), none⟩, ⟨some 8, .mv (.t 22) true, none⟩]))))
def L83_0 : C := .loop [0, 1, 2, 6, 7, 8] 0 B83_0
theorem go83_0 (s : Env × Bx) (nb) : evL tab ext nb L83_0 s = (loopIn nb [0, 1, 2, 6, 7, 8] 0 s).bind fun s0 => (evL tab ext nb B83_0 s0).bind (seqG tab ext nb L83_0) := eL_loop _ _ _
def B83_4 : C := .seq (.seq (.reg [⟨some 33, .mv (.t 8) false, none⟩, ⟨some 34, .mv (.t 1) false, none⟩, ⟨some 35, .bin .leq (.t 33) (.t 34), none⟩])
  (.cond (.t 35) (.skip)
  (.exit 4)))
  (.block 5 (.seq (.reg [⟨some 36, .mv (.t 0) false, none⟩, ⟨some 37, .mv (.t 7) false, none⟩, ⟨some 38, .mv (.t 7) false, none⟩, ⟨some 39, .mv (.t 6) false, none⟩, ⟨some 40, .bin .add (.t 38) (.t 39), none⟩, ⟨some 41, .mv (.t 8) false, none⟩, ⟨some 42, .mv (.t 2) false, none⟩, ⟨some 43, .calli 91 [(.t 36), (.t 37), (.t 40), (.t 41), (.t 42)], none⟩])
  (.seq (.reg [⟨some 44, .mv (.t 8) false, none⟩, ⟨some 7, .mv (.t 44) true, none⟩])
  (.reg [⟨some 45, .mv (.t 8) false, none⟩, ⟨some 46, .mv (.t 6) false, none⟩, ⟨some 47, .bin .mul (.c (.int .i64 2)) (.t 46), none⟩, ⟨some 48, .bin .add (.t 45) (.t 47), none⟩, ⟨some 8, .mv (.t 48) true, none⟩]))))
def L83_4 : C := .loop [0, 1, 2, 6, 7, 8] 0 B83_4
theorem go83_4 (s : Env × Bx) (nb) : evL tab ext nb L83_4 s = (loopIn nb [0, 1, 2, 6, 7, 8] 0 s).bind fun s0 => (evL tab ext nb B83_4 s0).bind (seqG tab ext nb L83_4) := eL_loop _ _ _
def B83_2 : C := .seq (.seq (.reg [⟨some 28, .mv (.t 6) false, none⟩, ⟨some 29, .mv (.t 1) false, none⟩, ⟨some 30, .bin .lss (.t 28) (.t 29), none⟩])
  (.cond (.t 30) (.skip)
  (.exit 2)))
  (.block 3 (.seq (.reg [⟨some 31, .mv (.t 6) false, none⟩, ⟨some 32, .bin .mul (.c (.int .i64 2)) (.t 31), none⟩, ⟨some 7, .mv (.c (.int .i64 0)) true, none⟩, ⟨some 8, .mv (.t 32) true, none⟩])
  (.seq (.block 4 (L83_4))
  (.seq (.seq (.reg [⟨some 49, .mv (.t 7) false, none⟩, ⟨some 50, .mv (.t 6) false, none⟩, ⟨some 51, .bin .add (.t 49) (.t 50), none⟩, ⟨some 9, .mv (.t 51) true, none⟩])
  (.seq (.reg [⟨some 52, .mv (.t 9) false, none⟩, ⟨some 53, .mv (.t 1) false, none⟩, ⟨some 54, .bin .lss (.t 52) (.t 53), none⟩])
  (.cond (.t 54) (.reg [⟨some 55, .mv (.t 0) false, none⟩, ⟨some 56, .mv (.t 7) false, none⟩, ⟨some 57, .mv (.t 9) false, none⟩, ⟨some 58, .mv (.t 1) false, none⟩, ⟨some 59, .mv (.t 2) false, none⟩, ⟨some 60, .calli 91 [(.t 55), (.t 56), (.t 57), (.t 58), (.t 59)], none⟩])
  (.skip))))
  (.reg [⟨some 61, .mv (.t 6) false, none⟩, ⟨some 62, .bin .mul (.t 61) (.c (.int .i64 2)), none⟩, ⟨some 6, .mv (.t 62) true, none⟩])))))
def L83_2 : C := .loop [0, 1, 2, 6] 0 B83_2
theorem go83_2 (s : Env × Bx) (nb) : evL tab ext nb L83_2 s = (loopIn nb [0, 1, 2, 6] 0 s).bind fun s0 => (evL tab ext nb B83_2 s0).bind (seqG tab ext nb L83_2) := eL_loop _ _ _
/-- slices.stableCmpFunc[swingbridge/api.Who] -/
def C83 : CFun := ⟨63, 3, .seq (.reg [⟨some 6, .mv (.c (.int .i64 20)) true, none⟩])
  (.seq (.reg [⟨some 10, .mv (.t 6) false, none⟩, ⟨some 7, .mv (.c (.int .i64 0)) true, none⟩, ⟨some 8, .mv (.t 10) true, none⟩])
  (.seq (.block 0 (L83_0))
  (.seq (.reg [⟨some 23, .mv (.t 0) false, none⟩, ⟨some 24, .mv (.t 7) false, none⟩, ⟨some 25, .mv (.t 1) false, none⟩, ⟨some 26, .mv (.t 2) false, none⟩, ⟨some 27, .calli 90 [(.t 23), (.t 24), (.t 25), (.t 26)], none⟩])
  (.block 2 (L83_2))))), []⟩
theorem row83 : RowOk Try.prog 83 C83 := ⟨Try.f83, ⟨[], [], [], []⟩, lvOf [(0, [0, 1, 2, 6, 7, 8], 0), (2, [0, 1, 2, 6], 0), (4, [0, 1, 2, 6, 7, 8], 0)], Try.func83, by kernel_rfl, by kernel_rfl⟩
/-- slices.Clone[[]swingbridge/api.Item,swingbridge/api.Item] -/
def C84 : CFun := ⟨8, 1, .seq (.reg [⟨some 2, .mv (.c (.slice none 0 0)) true, none⟩])
  (.seq (.seq (.reg [⟨some 3, .mv (.t 0) false, none⟩, ⟨some 4, .isnil false (.t 3), none⟩])
  (.cond (.t 4) (.seq (.reg [⟨some 2, .mv (.c (.slice none 0 0)) true, none⟩])
  (.ret))
  (.skip)))
  (.seq (.reg [⟨some 5, .bsl 2 0 [] [] false, none⟩, ⟨some 6, .mv (.t 0) false, none⟩, ⟨some 7, .app 2 16 (.t 5) (.t 6) true, none⟩, ⟨some 2, .mv (.t 7) true, none⟩])
  (.ret))), [.t 2]⟩
theorem row84 : RowOk Try.prog 84 C84 := ⟨Try.f84, ⟨[], [7], [], []⟩, lvOf [], Try.func84, by kernel_rfl, by kernel_rfl⟩
/-- slices.SortStableFunc[[]swingbridge/api.Item,swingbridge/api.Item] -/
def C85 : CFun := ⟨9, 2, .reg [⟨some 4, .mv (.t 0) false, none⟩, ⟨some 5, .mv (.t 0) false, none⟩, ⟨some 6, .len (.t 5), none⟩, ⟨some 7, .mv (.t 1) false, none⟩, ⟨some 8, .calli 92 [(.t 4), (.t 6), (.t 7)], none⟩], []⟩
theorem row85 : RowOk Try.prog 85 C85 := ⟨Try.f85, ⟨[], [], [], []⟩, lvOf [], Try.func85, by kernel_rfl, by kernel_rfl⟩
/-- swingbridge/sorted.compare -/
def C86 : CFun := ⟨10, 2, .seq (.reg [⟨some 2, .box (.t 0), none⟩, ⟨some 3, .box (.t 1), none⟩, ⟨some 4, .mv (.c (.int .i64 0)) true, none⟩])
  (.seq (.reg [⟨some 5, .fa 0 (.t 2), none⟩, ⟨some 6, .load 1 false (.t 5) false, none⟩, ⟨some 7, .fa 0 (.t 3), none⟩, ⟨some 8, .load 1 false (.t 7) false, none⟩, ⟨some 9, .call 82 [(.t 6), (.t 8)] false, none⟩, ⟨some 4, .mv (.t 9) true, none⟩])
  (.ret)), [.t 4]⟩
theorem row86 : RowOk Try.prog 86 C86 := ⟨Try.f86, ⟨[], [], [], []⟩, lvOf [], Try.func86, by kernel_rfl, by kernel_rfl⟩
def B87_0 : C := .seq (.reg [⟨some 9, .bin .lss (.t 8) (.t 7), none⟩])
  (.seq (.cond (.t 9) (.skip)
  (.exit 0))
  (.seq (.block 1 (.seq (.reg [⟨some 10, .mv (.t 8) false, none⟩, ⟨some 5, .mv (.t 10) true, none⟩])
  (.seq (.reg [⟨some 11, .mv (.t 1) false, none⟩, ⟨some 12, .mv (.t 0) false, none⟩, ⟨some 13, .mv (.t 5) false, none⟩, ⟨some 14, .ia 1 (.t 12) (.t 13), none⟩, ⟨some 15, .load 1 false (.t 14) false, none⟩, ⟨some 16, .callv (.t 11) [(.t 15)], none⟩])
  (.cond (.t 16) (.seq (.reg [⟨some 17, .mv (.t 5) false, none⟩, ⟨some 4, .mv (.t 17) true, none⟩])
  (.ret))
  (.skip)))))
  (.reg [⟨some 18, .bin .add (.t 8) (.c (.int .i64 1)), none⟩, ⟨some 8, .mv (.t 18) false, none⟩])))
def L87_0 : C := .loop [0, 1, 7, 8] 0 B87_0
theorem go87_0 (s : Env × Bx) (nb) : evL tab ext nb L87_0 s = (loopIn nb [0, 1, 7, 8] 0 s).bind fun s0 => (evL tab ext nb B87_0 s0).bind (seqG tab ext nb L87_0) := eL_loop _ _ _
/-- slices.IndexFunc[[]int,int] -/
def C87 : CFun := ⟨19, 2, .seq (.reg [⟨some 4, .mv (.c (.int .i64 0)) true, none⟩])
  (.seq (.seq (.reg [⟨some 6, .mv (.t 0) false, none⟩, ⟨some 7, .len (.t 6), none⟩, ⟨some 8, .mv (.c (.int .i64 0)) false, none⟩])
  (.block 0 (L87_0)))
  (.seq (.reg [⟨some 4, .mv (.c (.int .i64 (-1))) true, none⟩])
  (.ret))), [.t 4]⟩
theorem row87 : RowOk Try.prog 87 C87 := ⟨Try.f87, ⟨[], [], [], []⟩, lvOf [(0, [0, 1, 7, 8], 0)], Try.func87, by kernel_rfl, by kernel_rfl⟩
def B88_0 : C := .seq (.reg [⟨some 9, .bin .lss (.t 8) (.t 7), none⟩])
  (.seq (.cond (.t 9) (.skip)
  (.exit 0))
  (.seq (.block 1 (.seq (.reg [⟨some 10, .mv (.t 8) false, none⟩, ⟨some 5, .mv (.t 10) true, none⟩])
  (.seq (.reg [⟨some 11, .mv (.t 1) false, none⟩, ⟨some 12, .mv (.t 0) false, none⟩, ⟨some 13, .mv (.t 5) false, none⟩, ⟨some 14, .ia 6 (.t 12) (.t 13), none⟩, ⟨some 15, .load 6 true (.t 14) false, none⟩, ⟨some 16, .callv (.t 11) [(.t 15)], none⟩])
  (.cond (.t 16) (.seq (.reg [⟨some 17, .mv (.t 5) false, none⟩, ⟨some 4, .mv (.t 17) true, none⟩])
  (.ret))
  (.skip)))))
  (.reg [⟨some 18, .bin .add (.t 8) (.c (.int .i64 1)), none⟩, ⟨some 8, .mv (.t 18) false, none⟩])))
def L88_0 : C := .loop [0, 1, 7, 8] 0 B88_0
theorem go88_0 (s : Env × Bx) (nb) : evL tab ext nb L88_0 s = (loopIn nb [0, 1, 7, 8] 0 s).bind fun s0 => (evL tab ext nb B88_0 s0).bind (seqG tab ext nb L88_0) := eL_loop _ _ _
/-- slices.IndexFunc[[]swingbridge/api.Task,swingbridge/api.Task] -/
def C88 : CFun := ⟨19, 2, .seq (.reg [⟨some 4, .mv (.c (.int .i64 0)) true, none⟩])
  (.seq (.seq (.reg [⟨some 6, .mv (.t 0) false, none⟩, ⟨some 7, .len (.t 6), none⟩, ⟨some 8, .mv (.c (.int .i64 0)) false, none⟩])
  (.block 0 (L88_0)))
  (.seq (.reg [⟨some 4, .mv (.c (.int .i64 (-1))) true, none⟩])
  (.ret))), [.t 4]⟩
theorem row88 : RowOk Try.prog 88 C88 := ⟨Try.f88, ⟨[], [], [], []⟩, lvOf [(0, [0, 1, 7, 8], 0)], Try.func88, by kernel_rfl, by kernel_rfl⟩
/-- cmp.isNaN[int] -/
def C89 : CFun := ⟨6, 1, .seq (.reg [⟨some 2, .mv (.c (.bool false)) true, none⟩])
  (.seq (.reg [⟨some 3, .mv (.t 0) false, none⟩, ⟨some 4, .mv (.t 0) false, none⟩, ⟨some 5, .bin .neq (.t 3) (.t 4), none⟩, ⟨some 2, .mv (.t 5) true, none⟩])
  (.ret)), [.t 2]⟩
theorem row89 : RowOk Try.prog 89 C89 := ⟨Try.f89, ⟨[], [], [], []⟩, lvOf [], Try.func89, by kernel_rfl, by kernel_rfl⟩
def B90_2 : C := .seq (.seq (.reg [⟨some 18, .mv (.t 9) false, none⟩, ⟨some 19, .mv (.t 1) false, none⟩, ⟨some 20, .bin .gtr (.t 18) (.t 19), none⟩, ⟨some 21, .mv (.t 20) false, none⟩, ⟨some 22, .mv (.t 3) false, some (21, true)⟩, ⟨some 23, .mv (.t 0) false, some (21, true)⟩, ⟨some 24, .mv (.t 9) false, some (21, true)⟩, ⟨some 25, .ia 3 (.t 23) (.t 24), some (21, true)⟩, ⟨some 26, .load 3 true (.t 25) false, some (21, true)⟩, ⟨some 27, .mv (.t 0) false, some (21, true)⟩, ⟨some 28, .mv (.t 9) false, some (21, true)⟩, ⟨some 29, .bin .sub (.t 28) (.c (.int .i64 1)), some (21, true)⟩, ⟨some 30, .ia 3 (.t 27) (.t 29), some (21, true)⟩, ⟨some 31, .load 3 true (.t 30) false, some (21, true)⟩, ⟨some 32, .callv (.t 22) [(.t 26), (.t 31)], some (21, true)⟩, ⟨some 33, .bin .lss (.t 32) (.c (.int .i64 0)), some (21, true)⟩, ⟨some 34, .pick (.t 21) (.t 33) (.c (.bool false)), none⟩])
  (.cond (.t 34) (.skip)
  (.exit 2)))
  (.seq (.block 3 (.reg [⟨some 37, .mv (.t 0) false, none⟩, ⟨some 38, .mv (.t 9) false, none⟩, ⟨some 39, .mv (.t 0) false, none⟩, ⟨some 40, .mv (.t 9) false, none⟩, ⟨some 41, .bin .sub (.t 40) (.c (.int .i64 1)), none⟩, ⟨some 42, .mv (.t 0) false, none⟩, ⟨some 43, .mv (.t 9) false, none⟩, ⟨some 44, .bin .sub (.t 43) (.c (.int .i64 1)), none⟩, ⟨some 45, .ia 3 (.t 42) (.t 44), none⟩, ⟨some 46, .load 3 true (.t 45) false, none⟩, ⟨some 47, .mv (.t 0) false, none⟩, ⟨some 48, .mv (.t 9) false, none⟩, ⟨some 49, .ia 3 (.t 47) (.t 48), none⟩, ⟨some 50, .load 3 true (.t 49) false, none⟩, ⟨some 51, .ia 3 (.t 37) (.t 38), none⟩, ⟨none, .store 3 (.t 51) (.t 46), none⟩, ⟨some 52, .ia 3 (.t 39) (.t 41), none⟩, ⟨none, .store 3 (.t 52) (.t 50), none⟩]))
  (.reg [⟨some 35, .mv (.t 9) false, none⟩, ⟨some 36, .bin .sub (.t 35) (.c (.int .i64 1)), none⟩, ⟨some 9, .mv (.t 36) true, none⟩]))
def L90_2 : C := .loop [0, 1, 2, 3, 8, 9] 0 B90_2
theorem go90_2 (s : Env × Bx) (nb) : evL tab ext nb L90_2 s = (loopIn nb [0, 1, 2, 3, 8, 9] 0 s).bind fun s0 => (evL tab ext nb B90_2 s0).bind (seqG tab ext nb L90_2) := eL_loop _ _ _
def B90_0 : C := .seq (.seq (.reg [⟨some 12, .mv (.t 8) false, none⟩, ⟨some 13, .mv (.t 2) false, none⟩, ⟨some 14, .bin .lss (.t 12) (.t 13), none⟩])
  (.cond (.t 14) (.skip)
  (.exit 0)))
  (.seq (.block 1 (.seq (.reg [⟨some 17, .mv (.t 8) false, none⟩, ⟨some 9, .mv (.t 17) true, none⟩])
  (.block 2 (L90_2))))
  (.reg [⟨some 15, .mv (.t 8) false, none⟩, ⟨some 16, .bin .add (.t 15) (.c (.int .i64 1)), none⟩, ⟨some 8, .mv (.t 16) true, none⟩]))
def L90_0 : C := .loop [0, 1, 2, 3, 8] 0 B90_0
theorem go90_0 (s : Env × Bx) (nb) : evL tab ext nb L90_0 s = (loopIn nb [0, 1, 2, 3, 8] 0 s).bind fun s0 => (evL tab ext nb B90_0 s0).bind (seqG tab ext nb L90_0) := eL_loop _ _ _
/-- slices.insertionSortCmpFunc[swingbridge/api.Who] -/
def C90 : CFun := ⟨53, 4, .seq (.reg [⟨some 10, .mv (.t 1) false, none⟩, ⟨some 11, .bin .add (.t 10) (.c (.int .i64 1)), none⟩, ⟨some 8, .mv (.t 11) true, none⟩])
  (.block 0 (L90_0)), []⟩
theorem row90 : RowOk Try.prog 90 C90 := ⟨Try.f90, ⟨[], [], [], []⟩, lvOf [(0, [0, 1, 2, 3, 8], 0), (2, [0, 1, 2, 3, 8, 9], 0)], Try.func90, by kernel_rfl, by kernel_rfl⟩
def B91_0 : C := .seq (.seq (.reg [⟨some 31, .mv (.t 10) false, none⟩, ⟨some 32, .mv (.t 11) false, none⟩, ⟨some 33, .bin .lss (.t 31) (.t 32), none⟩])
  (.cond (.t 33) (.skip)
  (.exit 0)))
  (.block 1 (.seq (.reg [⟨some 34, .mv (.t 10) false, none⟩, ⟨some 35, .mv (.t 11) false, none⟩, ⟨some 36, .bin .add (.t 34) (.t 35), none⟩, ⟨some 37, .conv .u64 (.t 36), none⟩, ⟨some 38, .bin .shr (.t 37) (.c (.int .u64 1)), none⟩, ⟨some 39, .conv .i64 (.t 38), none⟩, ⟨some 12, .mv (.t 39) true, none⟩])
  (.seq (.reg [⟨some 40, .mv (.t 4) false, none⟩, ⟨some 41, .mv (.t 0) false, none⟩, ⟨some 42, .mv (.t 12) false, none⟩, ⟨some 43, .ia 3 (.t 41) (.t 42), none⟩, ⟨some 44, .load 3 true (.t 43) false, none⟩, ⟨some 45, .mv (.t 0) false, none⟩, ⟨some 46, .mv (.t 1) false, none⟩, ⟨some 47, .ia 3 (.t 45) (.t 46), none⟩, ⟨some 48, .load 3 true (.t 47) false, none⟩, ⟨some 49, .callv (.t 40) [(.t 44), (.t 48)], none⟩, ⟨some 50, .bin .lss (.t 49) (.c (.int .i64 0)), none⟩])
  (.cond (.t 50) (.reg [⟨some 51, .mv (.t 12) false, none⟩, ⟨some 52, .bin .add (.t 51) (.c (.int .i64 1)), none⟩, ⟨some 10, .mv (.t 52) true, none⟩])
  (.reg [⟨some 53, .mv (.t 12) false, none⟩, ⟨some 11, .mv (.t 53) true, none⟩])))))
def L91_0 : C := .loop [0, 1, 4, 10, 11] 0 B91_0
theorem go91_0 (s : Env × Bx) (nb) : evL tab ext nb L91_0 s = (loopIn nb [0, 1, 4, 10, 11] 0 s).bind fun s0 => (evL tab ext nb B91_0 s0).bind (seqG tab ext nb L91_0) := eL_loop _ _ _
def B91_2 : C := .seq (.seq (.reg [⟨some 55, .mv (.t 13) false, none⟩, ⟨some 56, .mv (.t 10) false, none⟩, ⟨some 57, .bin .sub (.t 56) (.c (.int .i64 1)), none⟩, ⟨some 58, .bin .lss (.t 55) (.t 57), none⟩])
  (.cond (.t 58) (.skip)
  (.exit 2)))
  (.seq (.block 3 (.reg [⟨some 61, .mv (.t 0) false, none⟩, ⟨some 62, .mv (.t 13) false, none⟩, ⟨some 63, .mv (.t 0) false, none⟩, ⟨some 64, .mv (.t 13) false, none⟩, ⟨some 65, .bin .add (.t 64) (.c (.int .i64 1)), none⟩, ⟨some 66, .mv (.t 0) false, none⟩, ⟨some 67, .mv (.t 13) false, none⟩, ⟨some 68, .bin .add (.t 67) (.c (.int .i64 1)), none⟩, ⟨some 69, .ia 3 (.t 66) (.t 68), none⟩, ⟨some 70, .load 3 true (.t 69) false, none⟩, ⟨some 71, .mv (.t 0) false, none⟩, ⟨some 72, .mv (.t 13) false, none⟩, ⟨some 73, .ia 3 (.t 71) (.t 72), none⟩, ⟨some 74, .load 3 true (.t 73) false, none⟩, ⟨some 75, .ia 3 (.t 61) (.t 62), none⟩, ⟨none, .store 3 (.t 75) (.t 70), none⟩, ⟨some 76, .ia 3 (.t 63) (.t 65), none⟩, ⟨none, .store 3 (.t 76) (.t 74), none⟩]))
  (.reg [⟨some 59, .mv (.t 13) false, none⟩, ⟨some 60, .bin .add (.t 59) (.c (.int .i64 1)), none⟩, ⟨some 13, .mv (.t 60) true, none⟩]))
def L91_2 : C := .loop [0, 10, 13] 0 B91_2
theorem go91_2 (s : Env × Bx) (nb) : evL tab ext nb L91_2 s = (loopIn nb [0, 10, 13] 0 s).bind fun s0 => (evL tab ext nb B91_2 s0).bind (seqG tab ext nb L91_2) := eL_loop _ _ _
def B91_4 : C := .seq (.seq (.reg [⟨some 83, .mv (.t 14) false, none⟩, ⟨some 84, .mv (.t 15) false, none⟩, ⟨some 85, .bin .lss (.t 83) (.t 84), none⟩])
  (.cond (.t 85) (.skip)
  (.exit 4)))
  (.block 5 (.seq (.reg [⟨some 86, .mv (.t 14) false, none⟩, ⟨some 87, .mv (.t 15) false, none⟩, ⟨some 88, .bin .add (.t 86) (.t 87), none⟩, ⟨some 89, .conv .u64 (.t 88), none⟩, ⟨some 90, .bin .shr (.t 89) (.c (.int .u64 1)), none⟩, ⟨some 91, .conv .i64 (.t 90), none⟩, ⟨some 16, .mv (.t 91) true, none⟩])
  (.seq (.reg [⟨some 92, .mv (.t 4) false, none⟩, ⟨some 93, .mv (.t 0) false, none⟩, ⟨some 94, .mv (.t 2) false, none⟩, ⟨some 95, .ia 3 (.t 93) (.t 94), none⟩, ⟨some 96, .load 3 true (.t 95) false, none⟩, ⟨some 97, .mv (.t 0) false, none⟩, ⟨some 98, .mv (.t 16) false, none⟩, ⟨some 99, .ia 3 (.t 97) (.t 98), none⟩, ⟨some 100, .load 3 true (.t 99) false, none⟩, ⟨some 101, .callv (.t 92) [(.t 96), (.t 100)], none⟩, ⟨some 102, .bin .lss (.t 101) (.c (.int .i64 0)), none⟩, ⟨some 103, .un .not (.t 102), none⟩])
  (.cond (.t 103) (.reg [⟨some 104, .mv (.t 16) false, none⟩, ⟨some 105, .bin .add (.t 104) (.c (.int .i64 1)), none⟩, ⟨some 14, .mv (.t 105) true, none⟩])
  (.reg [⟨some 106, .mv (.t 16) false, none⟩, ⟨some 15, .mv (.t 106) true, none⟩])))))
def L91_4 : C := .loop [0, 2, 4, 14, 15] 0 B91_4
theorem go91_4 (s : Env × Bx) (nb) : evL tab ext nb L91_4 s = (loopIn nb [0, 2, 4, 14, 15] 0 s).bind fun s0 => (evL tab ext nb B91_4 s0).bind (seqG tab ext nb L91_4) := eL_loop _ _ _
def B91_6 : C := .seq (.seq (.reg [⟨some 108, .mv (.t 17) false, none⟩, ⟨some 109, .mv (.t 14) false, none⟩, ⟨some 110, .bin .gtr (.t 108) (.t 109), none⟩])
  (.cond (.t 110) (.skip)
  (.exit 6)))
  (.seq (.block 7 (.reg [⟨some 113, .mv (.t 0) false, none⟩, ⟨some 114, .mv (.t 17) false, none⟩, ⟨some 115, .mv (.t 0) false, none⟩, ⟨some 116, .mv (.t 17) false, none⟩, ⟨some 117, .bin .sub (.t 116) (.c (.int .i64 1)), none⟩, ⟨some 118, .mv (.t 0) false, none⟩, ⟨some 119, .mv (.t 17) false, none⟩, ⟨some 120, .bin .sub (.t 119) (.c (.int .i64 1)), none⟩, ⟨some 121, .ia 3 (.t 118) (.t 120), none⟩, ⟨some 122, .load 3 true (.t 121) false, none⟩, ⟨some 123, .mv (.t 0) false, none⟩, ⟨some 124, .mv (.t 17) false, none⟩, ⟨some 125, .ia 3 (.t 123) (.t 124), none⟩, ⟨some 126, .load 3 true (.t 125) false, none⟩, ⟨some 127, .ia 3 (.t 113) (.t 114), none⟩, ⟨none, .store 3 (.t 127) (.t 122), none⟩, ⟨some 128, .ia 3 (.t 115) (.t 117), none⟩, ⟨none, .store 3 (.t 128) (.t 126), none⟩]))
  (.reg [⟨some 111, .mv (.t 17) false, none⟩, ⟨some 112, .bin .sub (.t 111) (.c (.int .i64 1)), none⟩, ⟨some 17, .mv (.t 112) true, none⟩]))
def L91_6 : C := .loop [0, 14, 17] 0 B91_6
theorem go91_6 (s : Env × Bx) (nb) : evL tab ext nb L91_6 s = (loopIn nb [0, 14, 17] 0 s).bind fun s0 => (evL tab ext nb B91_6 s0).bind (seqG tab ext nb L91_6) := eL_loop _ _ _
def B91_8 : C := .seq (.seq (.reg [⟨some 149, .mv (.t 20) false, none⟩, ⟨some 150, .mv (.t 21) false, none⟩, ⟨some 151, .bin .lss (.t 149) (.t 150), none⟩])
  (.cond (.t 151) (.skip)
  (.exit 8)))
  (.block 9 (.seq (.reg [⟨some 152, .mv (.t 20) false, none⟩, ⟨some 153, .mv (.t 21) false, none⟩, ⟨some 154, .bin .add (.t 152) (.t 153), none⟩, ⟨some 155, .conv .u64 (.t 154), none⟩, ⟨some 156, .bin .shr (.t 155) (.c (.int .u64 1)), none⟩, ⟨some 157, .conv .i64 (.t 156), none⟩, ⟨some 23, .mv (.t 157) true, none⟩])
  (.seq (.reg [⟨some 158, .mv (.t 4) false, none⟩, ⟨some 159, .mv (.t 0) false, none⟩, ⟨some 160, .mv (.t 22) false, none⟩, ⟨some 161, .mv (.t 23) false, none⟩, ⟨some 162, .bin .sub (.t 160) (.t 161), none⟩, ⟨some 163, .ia 3 (.t 159) (.t 162), none⟩, ⟨some 164, .load 3 true (.t 163) false, none⟩, ⟨some 165, .mv (.t 0) false, none⟩, ⟨some 166, .mv (.t 23) false, none⟩, ⟨some 167, .ia 3 (.t 165) (.t 166), none⟩, ⟨some 168, .load 3 true (.t 167) false, none⟩, ⟨some 169, .callv (.t 158) [(.t 164), (.t 168)], none⟩, ⟨some 170, .bin .lss (.t 169) (.c (.int .i64 0)), none⟩, ⟨some 171, .un .not (.t 170), none⟩])
  (.cond (.t 171) (.reg [⟨some 172, .mv (.t 23) false, none⟩, ⟨some 173, .bin .add (.t 172) (.c (.int .i64 1)), none⟩, ⟨some 20, .mv (.t 173) true, none⟩])
  (.reg [⟨some 174, .mv (.t 23) false, none⟩, ⟨some 21, .mv (.t 174) true, none⟩])))))
def L91_8 : C := .loop [0, 1, 2, 3, 4, 18, 19, 20, 21, 22] 0 B91_8
theorem go91_8 (s : Env × Bx) (nb) : evL tab ext nb L91_8 s = (loopIn nb [0, 1, 2, 3, 4, 18, 19, 20, 21, 22] 0 s).bind fun s0 => (evL tab ext nb B91_8 s0).bind (seqG tab ext nb L91_8) := eL_loop _ _ _
/-- slices.symMergeCmpFunc[swingbridge/api.Who] -/
def C91 : CFun := ⟨220, 5, .seq (.seq (.reg [⟨some 25, .mv (.t 2) false, none⟩, ⟨some 26, .mv (.t 1) false, none⟩, ⟨some 27, .bin .sub (.t 25) (.t 26), none⟩, ⟨some 28, .bin .eql (.t 27) (.c (.int .i64 1)), none⟩])
  (.cond (.t 28) (.seq (.reg [⟨some 29, .mv (.t 2) false, none⟩, ⟨some 10, .mv (.t 29) true, none⟩])
  (.seq (.reg [⟨some 30, .mv (.t 3) false, none⟩, ⟨some 11, .mv (.t 30) true, none⟩])
  (.seq (.block 0 (L91_0))
  (.seq (.seq (.reg [⟨some 54, .mv (.t 1) false, none⟩, ⟨some 13, .mv (.t 54) true, none⟩])
  (.block 2 (L91_2)))
  (.ret)))))
  (.skip)))
  (.seq (.seq (.reg [⟨some 77, .mv (.t 3) false, none⟩, ⟨some 78, .mv (.t 2) false, none⟩, ⟨some 79, .bin .sub (.t 77) (.t 78), none⟩, ⟨some 80, .bin .eql (.t 79) (.c (.int .i64 1)), none⟩])
  (.cond (.t 80) (.seq (.reg [⟨some 81, .mv (.t 1) false, none⟩, ⟨some 14, .mv (.t 81) true, none⟩])
  (.seq (.reg [⟨some 82, .mv (.t 2) false, none⟩, ⟨some 15, .mv (.t 82) true, none⟩])
  (.seq (.block 4 (L91_4))
  (.seq (.seq (.reg [⟨some 107, .mv (.t 2) false, none⟩, ⟨some 17, .mv (.t 107) true, none⟩])
  (.block 6 (L91_6)))
  (.ret)))))
  (.skip)))
  (.seq (.reg [⟨some 129, .mv (.t 1) false, none⟩, ⟨some 130, .mv (.t 3) false, none⟩, ⟨some 131, .bin .add (.t 129) (.t 130), none⟩, ⟨some 132, .conv .u64 (.t 131), none⟩, ⟨some 133, .bin .shr (.t 132) (.c (.int .u64 1)), none⟩, ⟨some 134, .conv .i64 (.t 133), none⟩, ⟨some 18, .mv (.t 134) true, none⟩])
  (.seq (.reg [⟨some 135, .mv (.t 18) false, none⟩, ⟨some 136, .mv (.t 2) false, none⟩, ⟨some 137, .bin .add (.t 135) (.t 136), none⟩, ⟨some 19, .mv (.t 137) true, none⟩])
  (.seq (.reg [⟨some 20, .mv (.c (.int .i64 0)) true, none⟩, ⟨some 21, .mv (.c (.int .i64 0)) true, none⟩])
  (.seq (.seq (.reg [⟨some 138, .mv (.t 2) false, none⟩, ⟨some 139, .mv (.t 18) false, none⟩, ⟨some 140, .bin .gtr (.t 138) (.t 139), none⟩])
  (.cond (.t 140) (.seq (.reg [⟨some 141, .mv (.t 19) false, none⟩, ⟨some 142, .mv (.t 3) false, none⟩, ⟨some 143, .bin .sub (.t 141) (.t 142), none⟩, ⟨some 20, .mv (.t 143) true, none⟩])
  (.reg [⟨some 144, .mv (.t 18) false, none⟩, ⟨some 21, .mv (.t 144) true, none⟩]))
  (.seq (.reg [⟨some 145, .mv (.t 1) false, none⟩, ⟨some 20, .mv (.t 145) true, none⟩])
  (.reg [⟨some 146, .mv (.t 2) false, none⟩, ⟨some 21, .mv (.t 146) true, none⟩]))))
  (.seq (.reg [⟨some 147, .mv (.t 19) false, none⟩, ⟨some 148, .bin .sub (.t 147) (.c (.int .i64 1)), none⟩, ⟨some 22, .mv (.t 148) true, none⟩])
  (.seq (.block 8 (L91_8))
  (.seq (.reg [⟨some 175, .mv (.t 19) false, none⟩, ⟨some 176, .mv (.t 20) false, none⟩, ⟨some 177, .bin .sub (.t 175) (.t 176), none⟩, ⟨some 24, .mv (.t 177) true, none⟩])
  (.seq (.seq (.reg [⟨some 178, .mv (.t 20) false, none⟩, ⟨some 179, .mv (.t 2) false, none⟩, ⟨some 180, .bin .lss (.t 178) (.t 179), none⟩, ⟨some 181, .mv (.t 180) false, none⟩, ⟨some 182, .mv (.t 2) false, some (181, true)⟩, ⟨some 183, .mv (.t 24) false, some (181, true)⟩, ⟨some 184, .bin .lss (.t 182) (.t 183), some (181, true)⟩, ⟨some 185, .pick (.t 181) (.t 184) (.c (.bool false)), none⟩])
  (.cond (.t 185) (.reg [⟨some 186, .mv (.t 0) false, none⟩, ⟨some 187, .mv (.t 20) false, none⟩, ⟨some 188, .mv (.t 2) false, none⟩, ⟨some 189, .mv (.t 24) false, none⟩, ⟨some 190, .mv (.t 4) false, none⟩, ⟨some 191, .calli 93 [(.t 186), (.t 187), (.t 188), (.t 189), (.t 190)], none⟩])
  (.skip)))
  (.seq (.seq (.reg [⟨some 192, .mv (.t 1) false, none⟩, ⟨some 193, .mv (.t 20) false, none⟩, ⟨some 194, .bin .lss (.t 192) (.t 193), none⟩, ⟨some 195, .mv (.t 194) false, none⟩, ⟨some 196, .mv (.t 20) false, some (195, true)⟩, ⟨some 197, .mv (.t 18) false, some (195, true)⟩, ⟨some 198, .bin .lss (.t 196) (.t 197), some (195, true)⟩, ⟨some 199, .pick (.t 195) (.t 198) (.c (.bool false)), none⟩])
  (.cond (.t 199) (.reg [⟨some 200, .mv (.t 0) false, none⟩, ⟨some 201, .mv (.t 1) false, none⟩, ⟨some 202, .mv (.t 20) false, none⟩, ⟨some 203, .mv (.t 18) false, none⟩, ⟨some 204, .mv (.t 4) false, none⟩, ⟨some 205, .calli 91 [(.t 200), (.t 201), (.t 202), (.t 203), (.t 204)], none⟩])
  (.skip)))
  (.seq (.reg [⟨some 206, .mv (.t 18) false, none⟩, ⟨some 207, .mv (.t 24) false, none⟩, ⟨some 208, .bin .lss (.t 206) (.t 207), none⟩, ⟨some 209, .mv (.t 208) false, none⟩, ⟨some 210, .mv (.t 24) false, some (209, true)⟩, ⟨some 211, .mv (.t 3) false, some (209, true)⟩, ⟨some 212, .bin .lss (.t 210) (.t 211), some (209, true)⟩, ⟨some 213, .pick (.t 209) (.t 212) (.c (.bool false)), none⟩])
  (.cond (.t 213) (.reg [⟨some 214, .mv (.t 0) false, none⟩, ⟨some 215, .mv (.t 18) false, none⟩, ⟨some 216, .mv (.t 24) false, none⟩, ⟨some 217, .mv (.t 3) false, none⟩, ⟨some 218, .mv (.t 4) false, none⟩, ⟨some 219, .calli 91 [(.t 214), (.t 215), (.t 216), (.t 217), (.t 218)], none⟩])
  (.skip))))))))))))), []⟩
theorem row91 : RowOk Try.prog 91 C91 := ⟨Try.f91, ⟨[], [], [], []⟩, lvOf [(0, [0, 1, 4, 10, 11], 0), (2, [0, 10, 13], 0), (4, [0, 2, 4, 14, 15], 0), (6, [0, 14, 17], 0), (8, [0, 1, 2, 3, 4, 18, 19, 20, 21, 22], 0)], Try.func91, by kernel_rfl, by kernel_rfl⟩
def B92_0 : C := .seq (.seq (.reg [⟨some 11, .mv (.t 8) false, none⟩, ⟨some 12, .mv (.t 1) false, none⟩, ⟨some 13, .bin .leq (.t 11) (.t 12), none⟩])
  (.cond (.t 13) (.skip)
  (.exit 0)))
  (.block 1 (.seq (.reg [⟨some 14, .mv (.t 0) false, none⟩, ⟨some 15, .mv (.t 7) false, none⟩, ⟨some 16, .mv (.t 8) false, none⟩, ⟨some 17, .mv (.t 2) false, none⟩, ⟨some 18, .calli 94 [(.t 14), (.t 15), (.t 16), (.t 17)], none⟩])
  (.seq (.reg [⟨some 19, .mv (.t 8) false, none⟩, ⟨some 7, .mv (.t 19) true, none⟩])
  (.reg [⟨some 20, .mv (.t 8) false, none⟩, ⟨some 21, .mv (.t 6) false, none⟩, ⟨some 22, .bin .add (.t 20) (.t 21), none⟩, ⟨some 8, .mv (.t 22) true, none⟩]))))
def L92_0 : C := .loop [0, 1, 2, 6, 7, 8] 0 B92_0
theorem go92_0 (s : Env × Bx) (nb) : evL tab ext nb L92_0 s = (loopIn nb [0, 1, 2, 6, 7, 8] 0 s).bind fun s0 => (evL tab ext nb B92_0 s0).bind (seqG tab ext nb L92_0) := eL_loop _ _ _
def B92_4 : C := .seq (.seq (.reg [⟨some 33, .mv (.t 8) false, none⟩, ⟨some 34, .mv (.t 1) false, none⟩, ⟨some 35, .bin .leq (.t 33) (.t 34), none⟩])
  (.cond (.t 35) (.skip)
  (.exit 4)))
  (.block 5 (.seq (.reg [⟨some 36, .mv (.t 0) false, none⟩, ⟨some 37, .mv (.t 7) false, none⟩, ⟨some 38, .mv (.t 7) false, none⟩, ⟨some 39, .mv (.t 6) false, none⟩, ⟨some 40, .bin .add (.t 38) (.t 39), none⟩, ⟨some 41, .mv (.t 8) false, none⟩, ⟨some 42, .mv (.t 2) false, none⟩, ⟨some 43, .calli 95 [(.t 36), (.t 37), (.t 40), (.t 41), (.t 42)], none⟩])
  (.seq (.reg [⟨some 44, .mv (.t 8) false, none⟩, ⟨some 7, .mv (.t 44) true, none⟩])
  (.reg [⟨some 45, .mv (.t 8) false, none⟩, ⟨some 46, .mv (.t 6) false, none⟩, ⟨some 47, .bin .mul (.c (.int .i64 2)) (.t 46), none⟩, ⟨some 48, .bin .add (.t 45) (.t 47), none⟩, ⟨some 8, .mv (.t 48) true, none⟩]))))
def L92_4 : C := .loop [0, 1, 2, 6, 7, 8] 0 B92_4
theorem go92_4 (s : Env × Bx) (nb) : evL tab ext nb L92_4 s = (loopIn nb [0, 1, 2, 6, 7, 8] 0 s).bind fun s0 => (evL tab ext nb B92_4 s0).bind (seqG tab ext nb L92_4) := eL_loop _ _ _
def B92_2 : C := .seq (.seq (.reg [⟨some 28, .mv (.t 6) false, none⟩, ⟨some 29, .mv (.t 1) false, none⟩, ⟨some 30, .bin .lss (.t 28) (.t 29), none⟩])
  (.cond (.t 30) (.skip)
  (.exit 2)))
  (.block 3 (.seq (.reg [⟨some 31, .mv (.t 6) false, none⟩, ⟨some 32, .bin .mul (.c (.int .i64 2)) (.t 31), none⟩, ⟨some 7, .mv (.c (.int .i64 0)) true, none⟩, ⟨some 8, .mv (.t 32) true, none⟩])
  (.seq (.block 4 (L92_4))
  (.seq (.seq (.reg [⟨some 49, .mv (.t 7) false, none⟩, ⟨some 50, .mv (.t 6) false, none⟩, ⟨some 51, .bin .add (.t 49) (.t 50), none⟩, ⟨some 9, .mv (.t 51) true, none⟩])
  (.seq (.reg [⟨some 52, .mv (.t 9) false, none⟩, ⟨some 53, .mv (.t 1) false, none⟩, ⟨some 54, .bin .lss (.t 52) (.t 53), none⟩])
  (.cond (.t 54) (.reg [⟨some 55, .mv (.t 0) false, none⟩, ⟨some 56, .mv (.t 7) false, none⟩, ⟨some 57, .mv (.t 9) false, none⟩, ⟨some 58, .mv (.t 1) false, none⟩, ⟨some 59, .mv (.t 2) false, none⟩, ⟨some 60, .calli 95 [(.t 55), (.t 56), (.t 57), (.t 58), (.t 59)], none⟩])
  (.skip))))
  (.reg [⟨some 61, .mv (.t 6) false, none⟩, ⟨some 62, .bin .mul (.t 61) (.c (.int .i64 2)), none⟩, ⟨some 6, .mv (.t 62) true, none⟩])))))
def L92_2 : C := .loop [0, 1, 2, 6] 0 B92_2
theorem go92_2 (s : Env × Bx) (nb) : evL tab ext nb L92_2 s = (loopIn nb [0, 1, 2, 6] 0 s).bind fun s0 => (evL tab ext nb B92_2 s0).bind (seqG tab ext nb L92_2) := eL_loop _ _ _
/-- slices.stableCmpFunc[swingbridge/api.Item] -/
def C92 : CFun := ⟨63, 3, .seq (.reg [⟨some 6, .mv (.c (.int .i64 20)) true, none⟩])
  (.seq (.reg [⟨some 10, .mv (.t 6) false, none⟩, ⟨some 7, .mv (.c (.int .i64 0)) true, none⟩, ⟨some 8, .mv (.t 10) true, none⟩])
  (.seq (.block 0 (L92_0))
  (.seq (.reg [⟨some 23, .mv (.t 0) false, none⟩, ⟨some 24, .mv (.t 7) false, none⟩, ⟨some 25, .mv (.t 1) false, none⟩, ⟨some 26, .mv (.t 2) false, none⟩, ⟨some 27, .calli 94 [(.t 23), (.t 24), (.t 25), (.t 26)], none⟩])
  (.block 2 (L92_2))))), []⟩
theorem row92 : RowOk Try.prog 92 C92 := ⟨Try.f92, ⟨[], [], [], []⟩, lvOf [(0, [0, 1, 2, 6, 7, 8], 0), (2, [0, 1, 2, 6], 0), (4, [0, 1, 2, 6, 7, 8], 0)], Try.func92, by kernel_rfl, by kernel_rfl⟩
def B93_0 : C := .seq (.seq (.reg [⟨some 18, .mv (.t 10) false, none⟩, ⟨some 19, .mv (.t 11) false, none⟩, ⟨some 20, .bin .neq (.t 18) (.t 19), none⟩])
  (.cond (.t 20) (.skip)
  (.exit 0)))
  (.block 1 (.seq (.reg [⟨some 21, .mv (.t 10) false, none⟩, ⟨some 22, .mv (.t 11) false, none⟩, ⟨some 23, .bin .gtr (.t 21) (.t 22), none⟩])
  (.cond (.t 23) (.seq (.reg [⟨some 24, .mv (.t 0) false, none⟩, ⟨some 25, .mv (.t 2) false, none⟩, ⟨some 26, .mv (.t 10) false, none⟩, ⟨some 27, .bin .sub (.t 25) (.t 26), none⟩, ⟨some 28, .mv (.t 2) false, none⟩, ⟨some 29, .mv (.t 11) false, none⟩, ⟨some 30, .mv (.t 4) false, none⟩, ⟨some 31, .calli 96 [(.t 24), (.t 27), (.t 28), (.t 29), (.t 30)], none⟩])
  (.reg [⟨some 32, .mv (.t 10) false, none⟩, ⟨some 33, .mv (.t 11) false, none⟩, ⟨some 34, .bin .sub (.t 32) (.t 33), none⟩, ⟨some 10, .mv (.t 34) true, none⟩]))
  (.seq (.reg [⟨some 35, .mv (.t 0) false, none⟩, ⟨some 36, .mv (.t 2) false, none⟩, ⟨some 37, .mv (.t 10) false, none⟩, ⟨some 38, .bin .sub (.t 36) (.t 37), none⟩, ⟨some 39, .mv (.t 2) false, none⟩, ⟨some 40, .mv (.t 11) false, none⟩, ⟨some 41, .bin .add (.t 39) (.t 40), none⟩, ⟨some 42, .mv (.t 10) false, none⟩, ⟨some 43, .bin .sub (.t 41) (.t 42), none⟩, ⟨some 44, .mv (.t 10) false, none⟩, ⟨some 45, .mv (.t 4) false, none⟩, ⟨some 46, .calli 96 [(.t 35), (.t 38), (.t 43), (.t 44), (.t 45)], none⟩])
  (.reg [⟨some 47, .mv (.t 11) false, none⟩, ⟨some 48, .mv (.t 10) false, none⟩, ⟨some 49, .bin .sub (.t 47) (.t 48), none⟩, ⟨some 11, .mv (.t 49) true, none⟩])))))
def L93_0 : C := .loop [0, 2, 4, 10, 11] 0 B93_0
theorem go93_0 (s : Env × Bx) (nb) : evL tab ext nb L93_0 s = (loopIn nb [0, 2, 4, 10, 11] 0 s).bind fun s0 => (evL tab ext nb B93_0 s0).bind (seqG tab ext nb L93_0) := eL_loop _ _ _
/-- slices.rotateCmpFunc[swingbridge/api.Who] -/
def C93 : CFun := ⟨58, 5, .seq (.reg [⟨some 12, .mv (.t 2) false, none⟩, ⟨some 13, .mv (.t 1) false, none⟩, ⟨some 14, .bin .sub (.t 12) (.t 13), none⟩, ⟨some 10, .mv (.t 14) true, none⟩])
  (.seq (.reg [⟨some 15, .mv (.t 3) false, none⟩, ⟨some 16, .mv (.t 2) false, none⟩, ⟨some 17, .bin .sub (.t 15) (.t 16), none⟩, ⟨some 11, .mv (.t 17) true, none⟩])
  (.seq (.block 0 (L93_0))
  (.reg [⟨some 50, .mv (.t 0) false, none⟩, ⟨some 51, .mv (.t 2) false, none⟩, ⟨some 52, .mv (.t 10) false, none⟩, ⟨some 53, .bin .sub (.t 51) (.t 52), none⟩, ⟨some 54, .mv (.t 2) false, none⟩, ⟨some 55, .mv (.t 10) false, none⟩, ⟨some 56, .mv (.t 4) false, none⟩, ⟨some 57, .calli 96 [(.t 50), (.t 53), (.t 54), (.t 55), (.t 56)], none⟩]))), []⟩
theorem row93 : RowOk Try.prog 93 C93 := ⟨Try.f93, ⟨[], [], [], []⟩, lvOf [(0, [0, 2, 4, 10, 11], 0)], Try.func93, by kernel_rfl, by kernel_rfl⟩
def B94_2 : C := .seq (.seq (.reg [⟨some 18, .mv (.t 9) false, none⟩, ⟨some 19, .mv (.t 1) false, none⟩, ⟨some 20, .bin .gtr (.t 18) (.t 19), none⟩, ⟨some 21, .mv (.t 20) false, none⟩, ⟨some 22, .mv (.t 3) false, some (21, true)⟩, ⟨some 23, .mv (.t 0) false, some (21, true)⟩, ⟨some 24, .mv (.t 9) false, some (21, true)⟩, ⟨some 25, .ia 2 (.t 23) (.t 24), some (21, true)⟩, ⟨some 26, .load 2 true (.t 25) false, some (21, true)⟩, ⟨some 27, .mv (.t 0) false, some (21, true)⟩, ⟨some 28, .mv (.t 9) false, some (21, true)⟩, ⟨some 29, .bin .sub (.t 28) (.c (.int .i64 1)), some (21, true)⟩, ⟨some 30, .ia 2 (.t 27) (.t 29), some (21, true)⟩, ⟨some 31, .load 2 true (.t 30) false, some (21, true)⟩, ⟨some 32, .callv (.t 22) [(.t 26), (.t 31)], some (21, true)⟩, ⟨some 33, .bin .lss (.t 32) (.c (.int .i64 0)), some (21, true)⟩, ⟨some 34, .pick (.t 21) (.t 33) (.c (.bool false)), none⟩])
  (.cond (.t 34) (.skip)
  (.exit 2)))
  (.seq (.block 3 (.reg [⟨some 37, .mv (.t 0) false, none⟩, ⟨some 38, .mv (.t 9) false, none⟩, ⟨some 39, .mv (.t 0) false, none⟩, ⟨some 40, .mv (.t 9) false, none⟩, ⟨some 41, .bin .sub (.t 40) (.c (.int .i64 1)), none⟩, ⟨some 42, .mv (.t 0) false, none⟩, ⟨some 43, .mv (.t 9) false, none⟩, ⟨some 44, .bin .sub (.t 43) (.c (.int .i64 1)), none⟩, ⟨some 45, .ia 2 (.t 42) (.t 44), none⟩, ⟨some 46, .load 2 true (.t 45) false, none⟩, ⟨some 47, .mv (.t 0) false, none⟩, ⟨some 48, .mv (.t 9) false, none⟩, ⟨some 49, .ia 2 (.t 47) (.t 48), none⟩, ⟨some 50, .load 2 true (.t 49) false, none⟩, ⟨some 51, .ia 2 (.t 37) (.t 38), none⟩, ⟨none, .store 2 (.t 51) (.t 46), none⟩, ⟨some 52, .ia 2 (.t 39) (.t 41), none⟩, ⟨none, .store 2 (.t 52) (.t 50), none⟩]))
  (.reg [⟨some 35, .mv (.t 9) false, none⟩, ⟨some 36, .bin .sub (.t 35) (.c (.int .i64 1)), none⟩, ⟨some 9, .mv (.t 36) true, none⟩]))
def L94_2 : C := .loop [0, 1, 2, 3, 8, 9] 0 B94_2
theorem go94_2 (s : Env × Bx) (nb) : evL tab ext nb L94_2 s = (loopIn nb [0, 1, 2, 3, 8, 9] 0 s).bind fun s0 => (evL tab ext nb B94_2 s0).bind (seqG tab ext nb L94_2) := eL_loop _ _ _
def B94_0 : C := .seq (.seq (.reg [⟨some 12, .mv (.t 8) false, none⟩, ⟨some 13, .mv (.t 2) false, none⟩, ⟨some 14, .bin .lss (.t 12) (.t 13), none⟩])
  (.cond (.t 14) (.skip)
  (.exit 0)))
  (.seq (.block 1 (.seq (.reg [⟨some 17, .mv (.t 8) false, none⟩, ⟨some 9, .mv (.t 17) true, none⟩])
  (.block 2 (L94_2))))
  (.reg [⟨some 15, .mv (.t 8) false, none⟩, ⟨some 16, .bin .add (.t 15) (.c (.int .i64 1)), none⟩, ⟨some 8, .mv (.t 16) true, none⟩]))
def L94_0 : C := .loop [0, 1, 2, 3, 8] 0 B94_0
theorem go94_0 (s : Env × Bx) (nb) : evL tab ext nb L94_0 s = (loopIn nb [0, 1, 2, 3, 8] 0 s).bind fun s0 => (evL tab ext nb B94_0 s0).bind (seqG tab ext nb L94_0) := eL_loop _ _ _
/-- slices.insertionSortCmpFunc[swingbridge/api.Item] -/
def C94 : CFun := ⟨53, 4, .seq (.reg [⟨some 10, .mv (.t 1) false, none⟩, ⟨some 11, .bin .add (.t 10) (.c (.int .i64 1)), none⟩, ⟨some 8, .mv (.t 11) true, none⟩])
  (.block 0 (L94_0)), []⟩
theorem row94 : RowOk Try.prog 94 C94 := ⟨Try.f94, ⟨[], [], [], []⟩, lvOf [(0, [0, 1, 2, 3, 8], 0), (2, [0, 1, 2, 3, 8, 9], 0)], Try.func94, by kernel_rfl, by kernel_rfl⟩
def B95_0 : C := .seq (.seq (.reg [⟨some 31, .mv (.t 10) false, none⟩, ⟨some 32, .mv (.t 11) false, none⟩, ⟨some 33, .bin .lss (.t 31) (.t 32), none⟩])
  (.cond (.t 33) (.skip)
  (.exit 0)))
  (.block 1 (.seq (.reg [⟨some 34, .mv (.t 10) false, none⟩, ⟨some 35, .mv (.t 11) false, none⟩, ⟨some 36, .bin .add (.t 34) (.t 35), none⟩, ⟨some 37, .conv .u64 (.t 36), none⟩, ⟨some 38, .bin .shr (.t 37) (.c (.int .u64 1)), none⟩, ⟨some 39, .conv .i64 (.t 38), none⟩, ⟨some 12, .mv (.t 39) true, none⟩])
  (.seq (.reg [⟨some 40, .mv (.t 4) false, none⟩, ⟨some 41, .mv (.t 0) false, none⟩, ⟨some 42, .mv (.t 12) false, none⟩, ⟨some 43, .ia 2 (.t 41) (.t 42), none⟩, ⟨some 44, .load 2 true (.t 43) false, none⟩, ⟨some 45, .mv (.t 0) false, none⟩, ⟨some 46, .mv (.t 1) false, none⟩, ⟨some 47, .ia 2 (.t 45) (.t 46), none⟩, ⟨some 48, .load 2 true (.t 47) false, none⟩, ⟨some 49, .callv (.t 40) [(.t 44), (.t 48)], none⟩, ⟨some 50, .bin .lss (.t 49) (.c (.int .i64 0)), none⟩])
  (.cond (.t 50) (.reg [⟨some 51, .mv (.t 12) false, none⟩, ⟨some 52, .bin .add (.t 51) (.c (.int .i64 1)), none⟩, ⟨some 10, .mv (.t 52) true, none⟩])
  (.reg [⟨some 53, .mv (.t 12) false, none⟩, ⟨some 11, .mv (.t 53) true, none⟩])))))
def L95_0 : C := .loop [0, 1, 4, 10, 11] 0 B95_0
theorem go95_0 (s : Env × Bx) (nb) : evL tab ext nb L95_0 s = (loopIn nb [0, 1, 4, 10, 11] 0 s).bind fun s0 => (evL tab ext nb B95_0 s0).bind (seqG tab ext nb L95_0) := eL_loop _ _ _
def B95_2 : C := .seq (.seq (.reg [⟨some 55, .mv (.t 13) false, none⟩, ⟨some 56, .mv (.t 10) false, none⟩, ⟨some 57, .bin .sub (.t 56) (.c (.int .i64 1)), none⟩, ⟨some 58, .bin .lss (.t 55) (.t 57), none⟩])
  (.cond (.t 58) (.skip)
  (.exit 2)))
  (.seq (.block 3 (.reg [⟨some 61, .mv (.t 0) false, none⟩, ⟨some 62, .mv (.t 13) false, none⟩, ⟨some 63, .mv (.t 0) false, none⟩, ⟨some 64, .mv (.t 13) false, none⟩, ⟨some 65, .bin .add (.t 64) (.c (.int .i64 1)), none⟩, ⟨some 66, .mv (.t 0) false, none⟩, ⟨some 67, .mv (.t 13) false, none⟩, ⟨some 68, .bin .add (.t 67) (.c (.int .i64 1)), none⟩, ⟨some 69, .ia 2 (.t 66) (.t 68), none⟩, ⟨some 70, .load 2 true (.t 69) false, none⟩, ⟨some 71, .mv (.t 0) false, none⟩, ⟨some 72, .mv (.t 13) false, none⟩, ⟨some 73, .ia 2 (.t 71) (.t 72), none⟩, ⟨some 74, .load 2 true (.t 73) false, none⟩, ⟨some 75, .ia 2 (.t 61) (.t 62), none⟩, ⟨none, .store 2 (.t 75) (.t 70), none⟩, ⟨some 76, .ia 2 (.t 63) (.t 65), none⟩, ⟨none, .store 2 (.t 76) (.t 74), none⟩]))
  (.reg [⟨some 59, .mv (.t 13) false, none⟩, ⟨some 60, .bin .add (.t 59) (.c (.int .i64 1)), none⟩, ⟨some 13, .mv (.t 60) true, none⟩]))
def L95_2 : C := .loop [0, 10, 13] 0 B95_2
theorem go95_2 (s : Env × Bx) (nb) : evL tab ext nb L95_2 s = (loopIn nb [0, 10, 13] 0 s).bind fun s0 => (evL tab ext nb B95_2 s0).bind (seqG tab ext nb L95_2) := eL_loop _ _ _
def B95_4 : C := .seq (.seq (.reg [⟨some 83, .mv (.t 14) false, none⟩, ⟨some 84, .mv (.t 15) false, none⟩, ⟨some 85, .bin .lss (.t 83) (.t 84), none⟩])
  (.cond (.t 85) (.skip)
  (.exit 4)))
  (.block 5 (.seq (.reg [⟨some 86, .mv (.t 14) false, none⟩, ⟨some 87, .mv (.t 15) false, none⟩, ⟨some 88, .bin .add (.t 86) (.t 87), none⟩, ⟨some 89, .conv .u64 (.t 88), none⟩, ⟨some 90, .bin .shr (.t 89) (.c (.int .u64 1)), none⟩, ⟨some 91, .conv .i64 (.t 90), none⟩, ⟨some 16, .mv (.t 91) true, none⟩])
  (.seq (.reg [⟨some 92, .mv (.t 4) false, none⟩, ⟨some 93, .mv (.t 0) false, none⟩, ⟨some 94, .mv (.t 2) false, none⟩, ⟨some 95, .ia 2 (.t 93) (.t 94), none⟩, ⟨some 96, .load 2 true (.t 95) false, none⟩, ⟨some 97, .mv (.t 0) false, none⟩, ⟨some 98, .mv (.t 16) false, none⟩, ⟨some 99, .ia 2 (.t 97) (.t 98), none⟩, ⟨some 100, .load 2 true (.t 99) false, none⟩, ⟨some 101, .callv (.t 92) [(.t 96), (.t 100)], none⟩, ⟨some 102, .bin .lss (.t 101) (.c (.int .i64 0)), none⟩, ⟨some 103, .un .not (.t 102), none⟩])
  (.cond (.t 103) (.reg [⟨some 104, .mv (.t 16) false, none⟩, ⟨some 105, .bin .add (.t 104) (.c (.int .i64 1)), none⟩, ⟨some 14, .mv (.t 105) true, none⟩])
  (.reg [⟨some 106, .mv (.t 16) false, none⟩, ⟨some 15, .mv (.t 106) true, none⟩])))))
def L95_4 : C := .loop [0, 2, 4, 14, 15] 0 B95_4
theorem go95_4 (s : Env × Bx) (nb) : evL tab ext nb L95_4 s = (loopIn nb [0, 2, 4, 14, 15] 0 s).bind fun s0 => (evL tab ext nb B95_4 s0).bind (seqG tab ext nb L95_4) := eL_loop _ _ _
def B95_6 : C := .seq (.seq (.reg [⟨some 108, .mv (.t 17) false, none⟩, ⟨some 109, .mv (.t 14) false, none⟩, ⟨some 110, .bin .gtr (.t 108) (.t 109), none⟩])
  (.cond (.t 110) (.skip)
  (.exit 6)))
  (.seq (.block 7 (.reg [⟨some 113, .mv (.t 0) false, none⟩, ⟨some 114, .mv (.t 17) false, none⟩, ⟨some 115, .mv (.t 0) false, none⟩, ⟨some 116, .mv (.t 17) false, none⟩, ⟨some 117, .bin .sub (.t 116) (.c (.int .i64 1)), none⟩, ⟨some 118, .mv (.t 0) false, none⟩, ⟨some 119, .mv (.t 17) false, none⟩, ⟨some 120, .bin .sub (.t 119) (.c (.int .i64 1)), none⟩, ⟨some 121, .ia 2 (.t 118) (.t 120), none⟩, ⟨some 122, .load 2 true (.t 121) false, none⟩, ⟨some 123, .mv (.t 0) false, none⟩, ⟨some 124, .mv (.t 17) false, none⟩, ⟨some 125, .ia 2 (.t 123) (.t 124), none⟩, ⟨some 126, .load 2 true (.t 125) false, none⟩, ⟨some 127, .ia 2 (.t 113) (.t 114), none⟩, ⟨none, .store 2 (.t 127) (.t 122), none⟩, ⟨some 128, .ia 2 (.t 115) (.t 117), none⟩, ⟨none, .store 2 (.t 128) (.t 126), none⟩]))
  (.reg [⟨some 111, .mv (.t 17) false, none⟩, ⟨some 112, .bin .sub (.t 111) (.c (.int .i64 1)), none⟩, ⟨some 17, .mv (.t 112) true, none⟩]))
def L95_6 : C := .loop [0, 14, 17] 0 B95_6
theorem go95_6 (s : Env × Bx) (nb) : evL tab ext nb L95_6 s = (loopIn nb [0, 14, 17] 0 s).bind fun s0 => (evL tab ext nb B95_6 s0).bind (seqG tab ext nb L95_6) := eL_loop _ _ _
def B95_8 : C := .seq (.seq (.reg [⟨some 149, .mv (.t 20) false, none⟩, ⟨some 150, .mv (.t 21) false, none⟩, ⟨some 151, .bin .lss (.t 149) (.t 150), none⟩])
  (.cond (.t 151) (.skip)
  (.exit 8)))
  (.block 9 (.seq (.reg [⟨some 152, .mv (.t 20) false, none⟩, ⟨some 153, .mv (.t 21) false, none⟩, ⟨some 154, .bin .add (.t 152) (.t 153), none⟩, ⟨some 155, .conv .u64 (.t 154), none⟩, ⟨some 156, .bin .shr (.t 155) (.c (.int .u64 1)), none⟩, ⟨some 157, .conv .i64 (.t 156), none⟩, ⟨some 23, .mv (.t 157) true, none⟩])
  (.seq (.reg [⟨some 158, .mv (.t 4) false, none⟩, ⟨some 159, .mv (.t 0) false, none⟩, ⟨some 160, .mv (.t 22) false, none⟩, ⟨some 161, .mv (.t 23) false, none⟩, ⟨some 162, .bin .sub (.t 160) (.t 161), none⟩, ⟨some 163, .ia 2 (.t 159) (.t 162), none⟩, ⟨some 164, .load 2 true (.t 163) false, none⟩, ⟨some 165, .mv (.t 0) false, none⟩, ⟨some 166, .mv (.t 23) false, none⟩, ⟨some 167, .ia 2 (.t 165) (.t 166), none⟩, ⟨some 168, .load 2 true (.t 167) false, none⟩, ⟨some 169, .callv (.t 158) [(.t 164), (.t 168)], none⟩, ⟨some 170, .bin .lss (.t 169) (.c (.int .i64 0)), none⟩, ⟨some 171, .un .not (.t 170), none⟩])
  (.cond (.t 171) (.reg [⟨some 172, .mv (.t 23) false, none⟩, ⟨some 173, .bin .add (.t 172) (.c (.int .i64 1)), none⟩, ⟨some 20, .mv (.t 173) true, none⟩])
  (.reg [⟨some 174, .mv (.t 23) false, none⟩, ⟨some 21, .mv (.t 174) true, none⟩])))))
def L95_8 : C := .loop [0, 1, 2, 3, 4, 18, 19, 20, 21, 22] 0 B95_8
theorem go95_8 (s : Env × Bx) (nb) : evL tab ext nb L95_8 s = (loopIn nb [0, 1, 2, 3, 4, 18, 19, 20, 21, 22] 0 s).bind fun s0 => (evL tab ext nb B95_8 s0).bind (seqG tab ext nb L95_8) := eL_loop _ _ _
/-- slices.symMergeCmpFunc[swingbridge/api.Item] -/
def C95 : CFun := ⟨220, 5, .seq (.seq (.reg [⟨some 25, .mv (.t 2) false, none⟩, ⟨some 26, .mv (.t 1) false, none⟩, ⟨some 27, .bin .sub (.t 25) (.t 26), none⟩, ⟨some 28, .bin .eql (.t 27) (.c (.int .i64 1)), none⟩])
  (.cond (.t 28) (.seq (.reg [⟨some 29, .mv (.t 2) false, none⟩, ⟨some 10, .mv (.t 29) true, none⟩])
  (.seq (.reg [⟨some 30, .mv (.t 3) false, none⟩, ⟨some 11, .mv (.t 30) true, none⟩])
  (.seq (.block 0 (L95_0))
  (.seq (.seq (.reg [⟨some 54, .mv (.t 1) false, none⟩, ⟨some 13, .mv (.t 54) true, none⟩])
  (.block 2 (L95_2)))
  (.ret)))))
  (.skip)))
  (.seq (.seq (.reg [⟨some 77, .mv (.t 3) false, none⟩, ⟨some 78, .mv (.t 2) false, none⟩, ⟨some 79, .bin .sub (.t 77) (.t 78), none⟩, ⟨some 80, .bin .eql (.t 79) (.c (.int .i64 1)), none⟩])
  (.cond (.t 80) (.seq (.reg [⟨some 81, .mv (.t 1) false, none⟩, ⟨some 14, .mv (.t 81) true, none⟩])
  (.seq (.reg [⟨some 82, .mv (.t 2) false, none⟩, ⟨some 15, .mv (.t 82) true, none⟩])
  (.seq (.block 4 (L95_4))
  (.seq (.seq (.reg [⟨some 107, .mv (.t 2) false, none⟩, ⟨some 17, .mv (.t 107) true, none⟩])
  (.block 6 (L95_6)))
  (.ret)))))
  (.skip)))
  (.seq (.reg [⟨some 129, .mv (.t 1) false, none⟩, ⟨some 130, .mv (.t 3) false, none⟩, ⟨some 131, .bin .add (.t 129) (.t 130), none⟩, ⟨some 132, .conv .u64 (.t 131), none⟩, ⟨some 133, .bin .shr (.t 132) (.c (.int .u64 1)), none⟩, ⟨some 134, .conv .i64 (.t 133), none⟩, ⟨some 18, .mv (.t 134) true, none⟩])
  (.seq (.reg [⟨some 135, .mv (.t 18) false, none⟩, ⟨some 136, .mv (.t 2) false, none⟩, ⟨some 137, .bin .add (.t 135) (.t 136), none⟩, ⟨some 19, .mv (.t 137) true, none⟩])
  (.seq (.reg [⟨some 20, .mv (.c (.int .i64 0)) true, none⟩, ⟨some 21, .mv (.c (.int .i64 0)) true, none⟩])
  (.seq (.seq (.reg [⟨some 138, .mv (.t 2) false, none⟩, ⟨some 139, .mv (.t 18) false, none⟩, ⟨some 140, .bin .gtr (.t 138) (.t 139), none⟩])
  (.cond (.t 140) (.seq (.reg [⟨some 141, .mv (.t 19) false, none⟩, ⟨some 142, .mv (.t 3) false, none⟩, ⟨some 143, .bin .sub (.t 141) (.t 142), none⟩, ⟨some 20, .mv (.t 143) true, none⟩])
  (.reg [⟨some 144, .mv (.t 18) false, none⟩, ⟨some 21, .mv (.t 144) true, none⟩]))
  (.seq (.reg [⟨some 145, .mv (.t 1) false, none⟩, ⟨some 20, .mv (.t 145) true, none⟩])
  (.reg [⟨some 146, .mv (.t 2) false, none⟩, ⟨some 21, .mv (.t 146) true, none⟩]))))
  (.seq (.reg [⟨some 147, .mv (.t 19) false, none⟩, ⟨some 148, .bin .sub (.t 147) (.c (.int .i64 1)), none⟩, ⟨some 22, .mv (.t 148) true, none⟩])
  (.seq (.block 8 (L95_8))
  (.seq (.reg [⟨some 175, .mv (.t 19) false, none⟩, ⟨some 176, .mv (.t 20) false, none⟩, ⟨some 177, .bin .sub (.t 175) (.t 176), none⟩, ⟨some 24, .mv (.t 177) true, none⟩])
  (.seq (.seq (.reg [⟨some 178, .mv (.t 20) false, none⟩, ⟨some 179, .mv (.t 2) false, none⟩, ⟨some 180, .bin .lss (.t 178) (.t 179), none⟩, ⟨some 181, .mv (.t 180) false, none⟩, ⟨some 182, .mv (.t 2) false, some (181, true)⟩, ⟨some 183, .mv (.t 24) false, some (181, true)⟩, ⟨some 184, .bin .lss (.t 182) (.t 183), some (181, true)⟩, ⟨some 185, .pick (.t 181) (.t 184) (.c (.bool false)), none⟩])
  (.cond (.t 185) (.reg [⟨some 186, .mv (.t 0) false, none⟩, ⟨some 187, .mv (.t 20) false, none⟩, ⟨some 188, .mv (.t 2) false, none⟩, ⟨some 189, .mv (.t 24) false, none⟩, ⟨some 190, .mv (.t 4) false, none⟩, ⟨some 191, .calli 97 [(.t 186), (.t 187), (.t 188), (.t 189), (.t 190)], none⟩])
  (.skip)))
  (.seq (.seq (.reg [⟨some 192, .mv (.t 1) false, none⟩, ⟨some 193, .mv (.t 20) false, none⟩, ⟨some 194, .bin .lss (.t 192) (.t 193), none⟩, ⟨some 195, .mv (.t 194) false, none⟩, ⟨some 196, .mv (.t 20) false, some (195, true)⟩, ⟨some 197, .mv (.t 18) false, some (195, true)⟩, ⟨some 198, .bin .lss (.t 196) (.t 197), some (195, true)⟩, ⟨some 199, .pick (.t 195) (.t 198) (.c (.bool false)), none⟩])
  (.cond (.t 199) (.reg [⟨some 200, .mv (.t 0) false, none⟩, ⟨some 201, .mv (.t 1) false, none⟩, ⟨some 202, .mv (.t 20) false, none⟩, ⟨some 203, .mv (.t 18) false, none⟩, ⟨some 204, .mv (.t 4) false, none⟩, ⟨some 205, .calli 95 [(.t 200), (.t 201), (.t 202), (.t 203), (.t 204)], none⟩])
  (.skip)))
  (.seq (.reg [⟨some 206, .mv (.t 18) false, none⟩, ⟨some 207, .mv (.t 24) false, none⟩, ⟨some 208, .bin .lss (.t 206) (.t 207), none⟩, ⟨some 209, .mv (.t 208) false, none⟩, ⟨some 210, .mv (.t 24) false, some (209, true)⟩, ⟨some 211, .mv (.t 3) false, some (209, true)⟩, ⟨some 212, .bin .lss (.t 210) (.t 211), some (209, true)⟩, ⟨some 213, .pick (.t 209) (.t 212) (.c (.bool false)), none⟩])
  (.cond (.t 213) (.reg [⟨some 214, .mv (.t 0) false, none⟩, ⟨some 215, .mv (.t 18) false, none⟩, ⟨some 216, .mv (.t 24) false, none⟩, ⟨some 217, .mv (.t 3) false, none⟩, ⟨some 218, .mv (.t 4) false, none⟩, ⟨some 219, .calli 95 [(.t 214), (.t 215), (.t 216), (.t 217), (.t 218)], none⟩])
  (.skip))))))))))))), []⟩
theorem row95 : RowOk Try.prog 95 C95 := ⟨Try.f95, ⟨[], [], [], []⟩, lvOf [(0, [0, 1, 4, 10, 11], 0), (2, [0, 10, 13], 0), (4, [0, 2, 4, 14, 15], 0), (6, [0, 14, 17], 0), (8, [0, 1, 2, 3, 4, 18, 19, 20, 21, 22], 0)], Try.func95, by kernel_rfl, by kernel_rfl⟩
def B96_0 : C := .seq (.seq (.reg [⟨some 11, .mv (.t 10) false, none⟩, ⟨some 12, .mv (.t 3) false, none⟩, ⟨some 13, .bin .lss (.t 11) (.t 12), none⟩])
  (.cond (.t 13) (.skip)
  (.exit 0)))
  (.seq (.block 1 (.reg [⟨some 16, .mv (.t 0) false, none⟩, ⟨some 17, .mv (.t 1) false, none⟩, ⟨some 18, .mv (.t 10) false, none⟩, ⟨some 19, .bin .add (.t 17) (.t 18), none⟩, ⟨some 20, .mv (.t 0) false, none⟩, ⟨some 21, .mv (.t 2) false, none⟩, ⟨some 22, .mv (.t 10) false, none⟩, ⟨some 23, .bin .add (.t 21) (.t 22), none⟩, ⟨some 24, .mv (.t 0) false, none⟩, ⟨some 25, .mv (.t 2) false, none⟩, ⟨some 26, .mv (.t 10) false, none⟩, ⟨some 27, .bin .add (.t 25) (.t 26), none⟩, ⟨some 28, .ia 3 (.t 24) (.t 27), none⟩, ⟨some 29, .load 3 true (.t 28) false, none⟩, ⟨some 30, .mv (.t 0) false, none⟩, ⟨some 31, .mv (.t 1) false, none⟩, ⟨some 32, .mv (.t 10) false, none⟩, ⟨some 33, .bin .add (.t 31) (.t 32), none⟩, ⟨some 34, .ia 3 (.t 30) (.t 33), none⟩, ⟨some 35, .load 3 true (.t 34) false, none⟩, ⟨some 36, .ia 3 (.t 16) (.t 19), none⟩, ⟨none, .store 3 (.t 36) (.t 29), none⟩, ⟨some 37, .ia 3 (.t 20) (.t 23), none⟩, ⟨none, .store 3 (.t 37) (.t 35), none⟩]))
  (.reg [⟨some 14, .mv (.t 10) false, none⟩, ⟨some 15, .bin .add (.t 14) (.c (.int .i64 1)), none⟩, ⟨some 10, .mv (.t 15) true, none⟩]))
def L96_0 : C := .loop [0, 1, 2, 3, 10] 0 B96_0
theorem go96_0 (s : Env × Bx) (nb) : evL tab ext nb L96_0 s = (loopIn nb [0, 1, 2, 3, 10] 0 s).bind fun s0 => (evL tab ext nb B96_0 s0).bind (seqG tab ext nb L96_0) := eL_loop _ _ _
/-- slices.swapRangeCmpFunc[swingbridge/api.Who] -/
def C96 : CFun := ⟨38, 5, .seq (.reg [⟨some 10, .mv (.c (.int .i64 0)) true, none⟩])
  (.block 0 (L96_0)), []⟩
theorem row96 : RowOk Try.prog 96 C96 := ⟨Try.f96, ⟨[], [], [], []⟩, lvOf [(0, [0, 1, 2, 3, 10], 0)], Try.func96, by kernel_rfl, by kernel_rfl⟩
def B97_0 : C := .seq (.seq (.reg [⟨some 18, .mv (.t 10) false, none⟩, ⟨some 19, .mv (.t 11) false, none⟩, ⟨some 20, .bin .neq (.t 18) (.t 19), none⟩])
  (.cond (.t 20) (.skip)
  (.exit 0)))
  (.block 1 (.seq (.reg [⟨some 21, .mv (.t 10) false, none⟩, ⟨some 22, .mv (.t 11) false, none⟩, ⟨some 23, .bin .gtr (.t 21) (.t 22), none⟩])
  (.cond (.t 23) (.seq (.reg [⟨some 24, .mv (.t 0) false, none⟩, ⟨some 25, .mv (.t 2) false, none⟩, ⟨some 26, .mv (.t 10) false, none⟩, ⟨some 27, .bin .sub (.t 25) (.t 26), none⟩, ⟨some 28, .mv (.t 2) false, none⟩, ⟨some 29, .mv (.t 11) false, none⟩, ⟨some 30, .mv (.t 4) false, none⟩, ⟨some 31, .calli 98 [(.t 24), (.t 27), (.t 28), (.t 29), (.t 30)], none⟩])
  (.reg [⟨some 32, .mv (.t 10) false, none⟩, ⟨some 33, .mv (.t 11) false, none⟩, ⟨some 34, .bin .sub (.t 32) (.t 33), none⟩, ⟨some 10, .mv (.t 34) true, none⟩]))
  (.seq (.reg [⟨some 35, .mv (.t 0) false, none⟩, ⟨some 36, .mv (.t 2) false, none⟩, ⟨some 37, .mv (.t 10) false, none⟩, ⟨some 38, .bin .sub (.t 36) (.t 37), none⟩, ⟨some 39, .mv (.t 2) false, none⟩, ⟨some 40, .mv (.t 11) false, none⟩, ⟨some 41, .bin .add (.t 39) (.t 40), none⟩, ⟨some 42, .mv (.t 10) false, none⟩, ⟨some 43, .bin .sub (.t 41) (.t 42), none⟩, ⟨some 44, .mv (.t 10) false, none⟩, ⟨some 45, .mv (.t 4) false, none⟩, ⟨some 46, .calli 98 [(.t 35), (.t 38), (.t 43), (.t 44), (.t 45)], none⟩])
  (.reg [⟨some 47, .mv (.t 11) false, none⟩, ⟨some 48, .mv (.t 10) false, none⟩, ⟨some 49, .bin .sub (.t 47) (.t 48), none⟩, ⟨some 11, .mv (.t 49) true, none⟩])))))
def L97_0 : C := .loop [0, 2, 4, 10, 11] 0 B97_0
theorem go97_0 (s : Env × Bx) (nb) : evL tab ext nb L97_0 s = (loopIn nb [0, 2, 4, 10, 11] 0 s).bind fun s0 => (evL tab ext nb B97_0 s0).bind (seqG tab ext nb L97_0) := eL_loop _ _ _
/-- slices.rotateCmpFunc[swingbridge/api.Item] -/
def C97 : CFun := ⟨58, 5, .seq (.reg [⟨some 12, .mv (.t 2) false, none⟩, ⟨some 13, .mv (.t 1) false, none⟩, ⟨some 14, .bin .sub (.t 12) (.t 13), none⟩, ⟨some 10, .mv (.t 14) true, none⟩])
  (.seq (.reg [⟨some 15, .mv (.t 3) false, none⟩, ⟨some 16, .mv (.t 2) false, none⟩, ⟨some 17, .bin .sub (.t 15) (.t 16), none⟩, ⟨some 11, .mv (.t 17) true, none⟩])
  (.seq (.block 0 (L97_0))
  (.reg [⟨some 50, .mv (.t 0) false, none⟩, ⟨some 51, .mv (.t 2) false, none⟩, ⟨some 52, .mv (.t 10) false, none⟩, ⟨some 53, .bin .sub (.t 51) (.t 52), none⟩, ⟨some 54, .mv (.t 2) false, none⟩, ⟨some 55, .mv (.t 10) false, none⟩, ⟨some 56, .mv (.t 4) false, none⟩, ⟨some 57, .calli 98 [(.t 50), (.t 53), (.t 54), (.t 55), (.t 56)], none⟩]))), []⟩
theorem row97 : RowOk Try.prog 97 C97 := ⟨Try.f97, ⟨[], [], [], []⟩, lvOf [(0, [0, 2, 4, 10, 11], 0)], Try.func97, by kernel_rfl, by kernel_rfl⟩
def B98_0 : C := .seq (.seq (.reg [⟨some 11, .mv (.t 10) false, none⟩, ⟨some 12, .mv (.t 3) false, none⟩, ⟨some 13, .bin .lss (.t 11) (.t 12), none⟩])
  (.cond (.t 13) (.skip)
  (.exit 0)))
  (.seq (.block 1 (.reg [⟨some 16, .mv (.t 0) false, none⟩, ⟨some 17, .mv (.t 1) false, none⟩, ⟨some 18, .mv (.t 10) false, none⟩, ⟨some 19, .bin .add (.t 17) (.t 18), none⟩, ⟨some 20, .mv (.t 0) false, none⟩, ⟨some 21, .mv (.t 2) false, none⟩, ⟨some 22, .mv (.t 10) false, none⟩, ⟨some 23, .bin .add (.t 21) (.t 22), none⟩, ⟨some 24, .mv (.t 0) false, none⟩, ⟨some 25, .mv (.t 2) false, none⟩, ⟨some 26, .mv (.t 10) false, none⟩, ⟨some 27, .bin .add (.t 25) (.t 26), none⟩, ⟨some 28, .ia 2 (.t 24) (.t 27), none⟩, ⟨some 29, .load 2 true (.t 28) false, none⟩, ⟨some 30, .mv (.t 0) false, none⟩, ⟨some 31, .mv (.t 1) false, none⟩, ⟨some 32, .mv (.t 10) false, none⟩, ⟨some 33, .bin .add (.t 31) (.t 32), none⟩, ⟨some 34, .ia 2 (.t 30) (.t 33), none⟩, ⟨some 35, .load 2 true (.t 34) false, none⟩, ⟨some 36, .ia 2 (.t 16) (.t 19), none⟩, ⟨none, .store 2 (.t 36) (.t 29), none⟩, ⟨some 37, .ia 2 (.t 20) (.t 23), none⟩, ⟨none, .store 2 (.t 37) (.t 35), none⟩]))
  (.reg [⟨some 14, .mv (.t 10) false, none⟩, ⟨some 15, .bin .add (.t 14) (.c (.int .i64 1)), none⟩, ⟨some 10, .mv (.t 15) true, none⟩]))
def L98_0 : C := .loop [0, 1, 2, 3, 10] 0 B98_0
theorem go98_0 (s : Env × Bx) (nb) : evL tab ext nb L98_0 s = (loopIn nb [0, 1, 2, 3, 10] 0 s).bind fun s0 => (evL tab ext nb B98_0 s0).bind (seqG tab ext nb L98_0) := eL_loop _ _ _
/-- slices.swapRangeCmpFunc[swingbridge/api.Item] -/
def C98 : CFun := ⟨38, 5, .seq (.reg [⟨some 10, .mv (.c (.int .i64 0)) true, none⟩])
  (.block 0 (L98_0)), []⟩
theorem row98 : RowOk Try.prog 98 C98 := ⟨Try.f98, ⟨[], [], [], []⟩, lvOf [(0, [0, 1, 2, 3, 10], 0)], Try.func98, by kernel_rfl, by kernel_rfl⟩
end Go.Proofs.YtkohggddaheefaaEv
