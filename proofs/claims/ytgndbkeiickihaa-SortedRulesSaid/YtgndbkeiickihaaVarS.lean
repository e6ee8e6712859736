/- Other code of functions whose answers are written to. -/
import Derived.Test.YtgndbkeiickihaaT1
import Derived.Test.YtgndbkeiickihaaProg
import Derived.KernelRfl
namespace Go.Proofs.YtgndbkeiickihaaEv
open Go
set_option maxRecDepth 100000
variable {tab : Nat → Option CFun} {ext : CallF}
/-- slices.SortFunc[[]int,int] -/
def C36s : CFun := ⟨14, 2, .seq (.reg [⟨some 5, .mv (.t 0) false, none⟩, ⟨some 6, .len (.t 5), none⟩, ⟨some 4, .mv (.t 6) true, none⟩])
  (.reg [⟨some 7, .mv (.t 0) false, none⟩, ⟨some 8, .mv (.t 4) false, none⟩, ⟨some 9, .mv (.t 4) false, none⟩, ⟨some 10, .conv .u64 (.t 9), none⟩, ⟨some 11, .call 51 [(.t 10)] false, none⟩, ⟨some 12, .mv (.t 1) false, none⟩, ⟨some 13, .calli 50 [(.t 7), (.c (.int .i64 0)), (.t 8), (.t 11), (.t 12)], none⟩]), []⟩
theorem row36s : RowOk Try.prog 36 C36s := ⟨Try.f36, ⟨[], [], [], []⟩, lvOf [], Try.func36, by kernel_rfl, by kernel_rfl⟩
end Go.Proofs.YtgndbkeiickihaaEv
