/- Other code of functions whose answers are written to. -/
import Derived.Test.YtclebnamhpgdmaaT1
import Derived.Test.YtclebnamhpgdmaaProg
import Derived.KernelRfl
namespace Go.Proofs.YtclebnamhpgdmaaEv
open Go
set_option maxRecDepth 100000
variable {tab : Nat → Option CFun} {ext : CallF}
/-- swingbridge/swingbridgelaw17.two -/
def C20h : CFun := ⟨31, 5, .seq (.reg [⟨some 10, .alloc [(.int .i64 0), (.slice none 0 0), (.slice none 0 0), (.slice none 0 0)], none⟩])
  (.seq (.reg [⟨some 12, .mv (.t 0) false, none⟩, ⟨some 13, .mv (.t 1) false, none⟩, ⟨some 14, .build [(.int .i64 0), (.int .i64 0), (.int .i64 0)] [(0, 1, (.c (.int .i64 1))), (1, 1, (.t 13))], none⟩, ⟨some 15, .mv (.t 2) false, none⟩, ⟨some 16, .build [(.int .i64 0), (.int .i64 0), (.int .i64 0)] [(0, 1, (.c (.int .i64 3))), (1, 1, (.t 15))], none⟩, ⟨some 17, .bsl 3 2 [(.int .i64 0), (.int .i64 0), (.int .i64 0), (.int .i64 0), (.int .i64 0), (.int .i64 0)] [(0, 3, (.t 14)), (3, 3, (.t 16))] false, none⟩, ⟨some 18, .call 19 [(.t 12), (.t 17)] true, none⟩, ⟨some 11, .alloc [(.int .i64 0), (.slice none 0 0), (.slice none 0 0), (.slice none 0 0)], none⟩, ⟨none, .store 4 (.t 11) (.t 18), none⟩])
  (.seq (.reg [⟨some 19, .fa 3 (.t 11), none⟩, ⟨some 20, .load 1 false (.t 19) true, none⟩, ⟨some 21, .mv (.t 3) false, none⟩, ⟨some 22, .build [(.int .i64 0), (.int .i64 0), (.int .i64 0)] [(0, 1, (.c (.int .i64 1))), (1, 1, (.t 21))], none⟩, ⟨some 23, .mv (.t 4) false, none⟩, ⟨some 24, .build [(.int .i64 0), (.int .i64 0), (.int .i64 0)] [(0, 1, (.c (.int .i64 3))), (1, 1, (.t 23))], none⟩, ⟨some 25, .bsl 3 2 [(.int .i64 0), (.int .i64 0), (.int .i64 0), (.int .i64 0), (.int .i64 0), (.int .i64 0)] [(0, 3, (.t 22)), (3, 3, (.t 24))] false, none⟩, ⟨some 26, .build [(.string ⟨#[]⟩), (.int .i64 0), (.int .i64 0), (.int .i64 0), (.int .i64 0), (.slice none 0 0)] [(0, 1, (.c (.string ⟨#[98]⟩))), (1, 1, (.c (.int .i64 200))), (2, 1, (.c (.int .i64 200))), (3, 1, (.c (.int .i64 2))), (5, 1, (.t 25))], none⟩, ⟨some 27, .bsl 6 1 [(.string ⟨#[]⟩), (.int .i64 0), (.int .i64 0), (.int .i64 0), (.int .i64 0), (.slice none 0 0)] [(0, 6, (.t 26))] false, none⟩, ⟨some 28, .app 6 72 (.t 20) (.t 27) true, none⟩, ⟨some 29, .fa 3 (.t 11), none⟩, ⟨none, .store 1 (.t 29) (.t 28), none⟩])
  (.seq (.reg [⟨some 30, .load 4 true (.t 11) false, none⟩, ⟨none, .store 4 (.t 10) (.t 30), none⟩])
  (.ret)))), [.cell 10 4]⟩
theorem row20h : RowOk Try.prog 20 C20h := ⟨Try.f20, ⟨[], [28], [19], []⟩, lvOf [], Try.func20, by kernel_rfl, by kernel_rfl⟩
end Go.Proofs.YtclebnamhpgdmaaEv
