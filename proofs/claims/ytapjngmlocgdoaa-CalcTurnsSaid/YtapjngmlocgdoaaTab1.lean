/- The seat's functions in compact code; each row is checked against the program. -/
import Derived.Test.YtapjngmlocgdoaaEv4
import Derived.Test.YtapjngmlocgdoaaProg
import Derived.KernelRfl
namespace Go.Proofs.YtapjngmlocgdoaaEv
open Go
set_option maxRecDepth 100000
variable {tab : Nat → Option CFun} {ext : CallF}
/-- swingbridge/swingbridgelaw1.CalcTurns -/
def C6 : CFun := ⟨65, 3, .seq (.reg [⟨some 6, .mv (.c (.bool false)) true, none⟩])
  (.seq (.seq (.reg [⟨some 13, .call 14 [] false, none⟩, ⟨some 14, .un .not (.t 13), none⟩])
  (.cond (.t 14) (.seq (.reg [⟨some 6, .mv (.c (.bool false)) true, none⟩])
  (.ret))
  (.skip)))
  (.seq (.seq (.reg [⟨some 15, .mv (.t 0) false, none⟩, ⟨some 16, .len (.t 15), none⟩, ⟨some 17, .bin .gtr (.t 16) (.c (.int .i64 60)), none⟩, ⟨some 18, .mv (.t 17) false, none⟩, ⟨some 19, .mv (.t 0) false, some (18, false)⟩, ⟨some 20, .len (.t 19), some (18, false)⟩, ⟨some 21, .bin .eql (.t 20) (.c (.int .i64 0)), some (18, false)⟩, ⟨some 22, .pick (.t 18) (.c (.bool true)) (.t 21), none⟩, ⟨some 23, .mv (.t 22) false, none⟩, ⟨some 24, .mv (.t 2) false, some (23, false)⟩, ⟨some 25, .bin .eql (.t 24) (.c (.int .i64 (-9223372036854775808))), some (23, false)⟩, ⟨some 26, .pick (.t 23) (.c (.bool true)) (.t 25), none⟩])
  (.cond (.t 26) (.seq (.reg [⟨some 6, .mv (.c (.bool true)) true, none⟩])
  (.ret))
  (.skip)))
  (.seq (.reg [⟨some 27, .mv (.t 1) false, none⟩, ⟨some 28, .conv .i64 (.t 27), none⟩, ⟨some 29, .mv (.t 0) false, none⟩, ⟨some 30, .len (.t 29), none⟩, ⟨some 31, .bin .rem (.t 28) (.t 30), none⟩, ⟨some 7, .mv (.t 31) true, none⟩])
  (.seq (.reg [⟨some 32, .mv (.t 0) false, none⟩, ⟨some 33, .mv (.t 7) false, none⟩, ⟨some 34, .slc 1 (.t 32) (some (.t 33)) none none, none⟩, ⟨some 35, .app 1 8 (.c (.slice none 0 0)) (.t 34) false, none⟩, ⟨some 36, .mv (.t 2) false, none⟩, ⟨some 37, .bsl 1 1 [(.int .i64 0)] [(0, 1, (.t 36))] false, none⟩, ⟨some 38, .app 1 8 (.t 35) (.t 37) false, none⟩, ⟨some 39, .mv (.t 0) false, none⟩, ⟨some 40, .mv (.t 7) false, none⟩, ⟨some 41, .slc 1 (.t 39) none (some (.t 40)) none, none⟩, ⟨some 42, .app 1 8 (.t 38) (.t 41) false, none⟩, ⟨some 43, .mv (.t 2) false, none⟩, ⟨some 44, .un .neg (.t 43), none⟩, ⟨some 45, .bsl 1 1 [(.int .i64 0)] [(0, 1, (.t 44))] false, none⟩, ⟨some 46, .app 1 8 (.t 42) (.t 45) false, none⟩, ⟨some 8, .mv (.t 46) true, none⟩])
  (.seq (.reg [⟨some 48, .mv (.t 0) false, none⟩, ⟨some 49, .call 23 [(.t 48)] false, none⟩, ⟨some 47, .mv (.t 49) false, none⟩, ⟨some 50, .ext (.t 47) 0, none⟩, ⟨some 51, .ext (.t 47) 1, none⟩, ⟨some 9, .mv (.t 50) true, none⟩, ⟨some 10, .mv (.t 51) true, none⟩])
  (.seq (.reg [⟨some 53, .mv (.t 8) false, none⟩, ⟨some 54, .call 23 [(.t 53)] false, none⟩, ⟨some 52, .mv (.t 54) false, none⟩, ⟨some 55, .ext (.t 52) 0, none⟩, ⟨some 56, .ext (.t 52) 1, none⟩, ⟨some 11, .mv (.t 55) true, none⟩, ⟨some 12, .mv (.t 56) true, none⟩])
  (.seq (.reg [⟨some 57, .mv (.t 9) false, none⟩, ⟨some 58, .mv (.t 11) false, none⟩, ⟨some 59, .bin .eql (.t 57) (.t 58), none⟩, ⟨some 60, .mv (.t 59) false, none⟩, ⟨some 61, .mv (.t 10) false, some (60, true)⟩, ⟨some 62, .mv (.t 12) false, some (60, true)⟩, ⟨some 63, .eqb false (.t 61) (.t 62), some (60, true)⟩, ⟨some 64, .pick (.t 60) (.t 63) (.c (.bool false)), none⟩, ⟨some 6, .mv (.t 64) true, none⟩])
  (.ret)))))))), [.t 6]⟩
theorem row6 : RowOk Try.prog 6 C6 := ⟨Try.f6, ⟨[], [], [], []⟩, lvOf [], Try.func6, by kernel_rfl, by kernel_rfl⟩
end Go.Proofs.YtapjngmlocgdoaaEv
