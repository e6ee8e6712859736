/- Other code of functions whose answers are written to. -/
import Derived.Test.YtgndbkeiickihaaT1
import Derived.Test.YtgndbkeiickihaaProg
import Derived.KernelRfl
namespace Go.Proofs.YtgndbkeiickihaaEv
open Go
set_option maxRecDepth 100000
variable {tab : Nat → Option CFun} {ext : CallF}
def B16v_0 : C := .seq (.seq (.reg [⟨some 11, .mv (.t 6) false, none⟩, ⟨some 12, .bin .gtr (.t 11) (.c (.int .i64 0)), none⟩])
  (.cond (.t 12) (.skip)
  (.exit 0)))
  (.block 1 (.seq (.seq (.reg [⟨some 13, .mv (.t 5) false, none⟩, ⟨some 14, .mv (.t 6) false, none⟩, ⟨some 15, .bin .sub (.t 14) (.c (.int .i64 1)), none⟩, ⟨some 16, .ia 2 (.t 13) (.t 15), none⟩, ⟨some 17, .fa 0 (.t 16), none⟩, ⟨some 18, .load 1 false (.t 17) false, none⟩, ⟨some 19, .fa 0 (.t 3), none⟩, ⟨some 20, .load 1 false (.t 19) false, none⟩, ⟨some 21, .bin .leq (.t 18) (.t 20), none⟩])
  (.cond (.t 21) (.exit 0)
  (.skip)))
  (.reg [⟨some 22, .mv (.t 6) false, none⟩, ⟨some 23, .bin .sub (.t 22) (.c (.int .i64 1)), none⟩, ⟨some 6, .mv (.t 23) true, none⟩])))
def L16v_0 : C := .loop [3, 5, 6] 2 B16v_0
theorem go16v_0 (s : Env × Bx) (nb) : evL tab ext nb L16v_0 s = (loopIn nb [3, 5, 6] 2 s).bind fun s0 => (evL tab ext nb B16v_0 s0).bind (seqG tab ext nb L16v_0) := eL_loop _ _ _
/-- swingbridge/sorted.Put -/
def C16v : CFun := ⟨29, 2, .seq (.reg [⟨some 3, .box (.t 1), none⟩, ⟨some 4, .mv (.c (.slice none 0 0)) true, none⟩])
  (.scope (.seq (.reg [⟨some 7, .mv (.t 0) false, none⟩, ⟨some 8, .call 13 [(.t 7)] false, none⟩, ⟨some 5, .mv (.t 8) true, none⟩])
  (.seq (.reg [⟨some 9, .mv (.t 5) false, none⟩, ⟨some 10, .len (.t 9), none⟩, ⟨some 6, .mv (.t 10) true, none⟩])
  (.seq (.skip)
  (.seq (.block 0 (L16v_0))
  (.seq (.reg [⟨some 24, .mv (.t 5) false, none⟩, ⟨some 25, .mv (.t 6) false, none⟩, ⟨some 26, .load 2 true (.t 3) false, none⟩, ⟨some 27, .bsl 2 1 [(.int .i64 0), (.int .i64 0)] [(0, 2, (.t 26))] true, none⟩, ⟨some 28, .call 34 [(.t 24), (.t 25), (.t 27)] false, none⟩, ⟨some 4, .mv (.t 28) true, none⟩])
  (.ret))))))), [.t 4]⟩
theorem row16v : RowOk Try.prog 16 C16v := ⟨Try.f16, ⟨[], [27], [], []⟩, lvOf [(0, [3, 5, 6], 2)], Try.func16, by kernel_rfl, by kernel_rfl⟩
end Go.Proofs.YtgndbkeiickihaaEv
