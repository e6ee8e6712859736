/- Functions that are run in two orders. -/
import Derived.Test.YtclebnamhpgdmaaT1
import Derived.Test.YtclebnamhpgdmaaProg
import Derived.KernelRfl
namespace Go.Proofs.YtclebnamhpgdmaaEv
open Go
set_option maxRecDepth 100000
variable {tab : Nat → Option CFun} {ext : CallF}
/-- swingbridge/bound.each: in two orders -/
def C36a : CFun := ⟨54, 3, .seq (.reg [⟨some 3, .box (.t 0), none⟩, ⟨some 6, .mv (.c (.int .i64 0)) true, none⟩])
  (.seq (.dreg [(7, 0), (8, 0)] [] [⟨some 11, .fa 3 (.t 3), none⟩, ⟨some 12, .load 1 false (.t 11) false, none⟩, ⟨some 13, .mv (.t 1) false, none⟩, ⟨some 14, .ia 6 (.t 12) (.t 13), none⟩, ⟨some 15, .load 6 true (.t 14) false, none⟩, ⟨some 16, .fa 3 (.t 3), none⟩, ⟨some 17, .load 1 false (.t 16) false, none⟩, ⟨some 18, .mv (.t 2) false, none⟩, ⟨some 19, .ia 6 (.t 17) (.t 18), none⟩, ⟨some 20, .load 6 true (.t 19) false, none⟩, ⟨some 7, .alloc [(.string ⟨#[]⟩), (.int .i64 0), (.int .i64 0), (.int .i64 0), (.int .i64 0), (.slice none 0 0)], none⟩, ⟨some 8, .alloc [(.string ⟨#[]⟩), (.int .i64 0), (.int .i64 0), (.int .i64 0), (.int .i64 0), (.slice none 0 0)], none⟩, ⟨none, .store 6 (.t 7) (.t 15), none⟩, ⟨none, .store 6 (.t 8) (.t 20), none⟩])
  (.seq (.reg [⟨some 21, .fa 4 (.t 7), none⟩, ⟨some 22, .load 1 false (.t 21) false, none⟩, ⟨some 23, .fa 4 (.t 8), none⟩, ⟨some 24, .load 1 false (.t 23) false, none⟩, ⟨some 25, .bin .eql (.t 22) (.t 24), none⟩, ⟨some 9, .mv (.t 25) true, none⟩])
  (.seq (.reg [⟨some 10, .mv (.c (.int .i64 0)) true, none⟩])
  (.seq (.seq (.reg [⟨some 26, .mv (.t 9) false, none⟩, ⟨some 27, .mv (.t 26) false, none⟩, ⟨some 28, .fa 3 (.t 8), some (27, true)⟩, ⟨some 29, .load 1 false (.t 28) false, some (27, true)⟩, ⟨some 30, .fa 3 (.t 7), some (27, true)⟩, ⟨some 31, .load 1 false (.t 30) false, some (27, true)⟩, ⟨some 32, .bin .lss (.t 29) (.t 31), some (27, true)⟩, ⟨some 33, .pick (.t 27) (.t 32) (.c (.bool false)), none⟩])
  (.cond (.t 33) (.reg [⟨some 34, .load 6 true (.t 8) false, none⟩, ⟨some 35, .call 30 [(.t 34)] false, none⟩, ⟨some 10, .mv (.t 35) true, none⟩])
  (.skip)))
  (.seq (.block 0 (.seq (.reg [⟨some 37, .fa 0 (.t 3), none⟩, ⟨some 38, .load 1 false (.t 37) false, none⟩, ⟨some 39, .bin .eql (.t 38) (.c (.int .i64 2)), none⟩, ⟨some 36, .mv (.t 39) true, none⟩])
  (.cond (.t 36) (.reg [⟨some 40, .mv (.t 10) false, none⟩, ⟨some 41, .load 4 true (.t 3) false, none⟩, ⟨some 42, .mv (.t 2) false, none⟩, ⟨some 43, .fa 4 (.t 7), none⟩, ⟨some 44, .load 1 false (.t 43) false, none⟩, ⟨some 45, .call 50 [(.t 41), (.t 42), (.t 44)] false, none⟩, ⟨some 46, .bin .add (.t 40) (.t 45), none⟩, ⟨some 10, .mv (.t 46) true, none⟩])
  (.seq (.reg [⟨some 48, .mv (.t 9) false, none⟩, ⟨some 47, .mv (.t 48) true, none⟩])
  (.cond (.t 47) (.reg [⟨some 49, .mv (.t 10) false, none⟩, ⟨some 50, .load 6 true (.t 8) false, none⟩, ⟨some 51, .call 51 [(.t 50)] false, none⟩, ⟨some 52, .bin .add (.t 49) (.t 51), none⟩, ⟨some 10, .mv (.t 52) true, none⟩])
  (.skip))))))
  (.seq (.reg [⟨some 53, .mv (.t 10) false, none⟩, ⟨some 6, .mv (.t 53) true, none⟩])
  (.ret))))))), [.t 6]⟩
def C36b : CFun := ⟨54, 3, .seq (.reg [⟨some 3, .box (.t 0), none⟩, ⟨some 6, .mv (.c (.int .i64 0)) true, none⟩])
  (.seq (.dreg [(7, 0), (8, 0)] [] [⟨some 11, .fa 3 (.t 3), none⟩, ⟨some 12, .load 1 false (.t 11) false, none⟩, ⟨some 13, .mv (.t 1) false, none⟩, ⟨some 14, .ia 6 (.t 12) (.t 13), none⟩, ⟨some 15, .load 6 true (.t 14) false, none⟩, ⟨some 16, .fa 3 (.t 3), none⟩, ⟨some 17, .load 1 false (.t 16) false, none⟩, ⟨some 18, .mv (.t 2) false, none⟩, ⟨some 19, .ia 6 (.t 17) (.t 18), none⟩, ⟨some 20, .load 6 true (.t 19) false, none⟩, ⟨some 8, .alloc [(.string ⟨#[]⟩), (.int .i64 0), (.int .i64 0), (.int .i64 0), (.int .i64 0), (.slice none 0 0)], none⟩, ⟨some 7, .alloc [(.string ⟨#[]⟩), (.int .i64 0), (.int .i64 0), (.int .i64 0), (.int .i64 0), (.slice none 0 0)], none⟩, ⟨none, .store 6 (.t 7) (.t 15), none⟩, ⟨none, .store 6 (.t 8) (.t 20), none⟩])
  (.seq (.reg [⟨some 21, .fa 4 (.t 7), none⟩, ⟨some 22, .load 1 false (.t 21) false, none⟩, ⟨some 23, .fa 4 (.t 8), none⟩, ⟨some 24, .load 1 false (.t 23) false, none⟩, ⟨some 25, .bin .eql (.t 22) (.t 24), none⟩, ⟨some 9, .mv (.t 25) true, none⟩])
  (.seq (.reg [⟨some 10, .mv (.c (.int .i64 0)) true, none⟩])
  (.seq (.seq (.reg [⟨some 26, .mv (.t 9) false, none⟩, ⟨some 27, .mv (.t 26) false, none⟩, ⟨some 28, .fa 3 (.t 8), some (27, true)⟩, ⟨some 29, .load 1 false (.t 28) false, some (27, true)⟩, ⟨some 30, .fa 3 (.t 7), some (27, true)⟩, ⟨some 31, .load 1 false (.t 30) false, some (27, true)⟩, ⟨some 32, .bin .lss (.t 29) (.t 31), some (27, true)⟩, ⟨some 33, .pick (.t 27) (.t 32) (.c (.bool false)), none⟩])
  (.cond (.t 33) (.reg [⟨some 34, .load 6 true (.t 8) false, none⟩, ⟨some 35, .call 30 [(.t 34)] false, none⟩, ⟨some 10, .mv (.t 35) true, none⟩])
  (.skip)))
  (.seq (.block 0 (.seq (.reg [⟨some 37, .fa 0 (.t 3), none⟩, ⟨some 38, .load 1 false (.t 37) false, none⟩, ⟨some 39, .bin .eql (.t 38) (.c (.int .i64 2)), none⟩, ⟨some 36, .mv (.t 39) true, none⟩])
  (.cond (.t 36) (.reg [⟨some 40, .mv (.t 10) false, none⟩, ⟨some 41, .load 4 true (.t 3) false, none⟩, ⟨some 42, .mv (.t 2) false, none⟩, ⟨some 43, .fa 4 (.t 7), none⟩, ⟨some 44, .load 1 false (.t 43) false, none⟩, ⟨some 45, .call 50 [(.t 41), (.t 42), (.t 44)] false, none⟩, ⟨some 46, .bin .add (.t 40) (.t 45), none⟩, ⟨some 10, .mv (.t 46) true, none⟩])
  (.seq (.reg [⟨some 48, .mv (.t 9) false, none⟩, ⟨some 47, .mv (.t 48) true, none⟩])
  (.cond (.t 47) (.reg [⟨some 49, .mv (.t 10) false, none⟩, ⟨some 50, .load 6 true (.t 8) false, none⟩, ⟨some 51, .call 51 [(.t 50)] false, none⟩, ⟨some 52, .bin .add (.t 49) (.t 51), none⟩, ⟨some 10, .mv (.t 52) true, none⟩])
  (.skip))))))
  (.seq (.reg [⟨some 53, .mv (.t 10) false, none⟩, ⟨some 6, .mv (.t 53) true, none⟩])
  (.ret))))))), [.t 6]⟩
theorem row2_36 : Row2Ok Try.prog 36 C36a C36b := ⟨Try.f36, ⟨[], [], [], []⟩, lvOf [], (some ⟨true, 10, 11, [0, 1, 2, 3, 4, 5, 6, 7, 8, 9, 10, 11, 12, 13], [0, 1, 2, 3, 4, 5, 6, 7, 8, 9, 11, 10, 12, 13]⟩), Try.func36, by kernel_rfl, by kernel_rfl⟩
end Go.Proofs.YtclebnamhpgdmaaEv
