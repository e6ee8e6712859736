/- The first pieces of a function, compiled. -/
import Derived.Test.YtkohggddaheefaaStartW
import Derived.Test.YtkohggddaheefaaProg
import Derived.KernelRfl
namespace Go.Proofs.YtkohggddaheefaaEv
open Go
set_option maxRecDepth 100000
variable {tab : Nat → Option CFun} {ext : CallF}
def B14p_0 : C := .seq (.seq (.reg [⟨some 23, .mv (.t 6) false, none⟩, ⟨some 24, .fa 3 (.t 2), none⟩, ⟨some 25, .load 1 false (.t 24) false, none⟩, ⟨some 26, .len (.t 25), none⟩, ⟨some 27, .bin .lss (.t 23) (.t 26), none⟩])
  (.cond (.t 27) (.skip)
  (.exit 0)))
  (.seq (.block 1 (.seq (.reg [⟨some 30, .fa 3 (.t 2), none⟩, ⟨some 31, .load 1 false (.t 30) false, none⟩, ⟨some 32, .mv (.t 6) false, none⟩, ⟨some 33, .ia 6 (.t 31) (.t 32), none⟩, ⟨some 34, .load 6 true (.t 33) false, none⟩, ⟨some 7, .alloc [(.string ⟨#[]⟩), (.int .i64 0), (.int .i64 0), (.int .i64 0), (.int .i64 0), (.slice none 0 0)], none⟩, ⟨none, .store 6 (.t 7) (.t 34), none⟩])
  (.seq (.reg [⟨some 35, .fa 5 (.t 7), none⟩, ⟨some 36, .load 1 false (.t 35) false, none⟩, ⟨some 37, .app 3 24 (.c (.slice none 0 0)) (.t 36) false, none⟩, ⟨some 38, .fa 5 (.t 7), none⟩, ⟨none, .store 1 (.t 38) (.t 37), none⟩])
  (.reg [⟨some 39, .fa 3 (.t 5), none⟩, ⟨some 40, .load 1 false (.t 39) true, none⟩, ⟨some 41, .load 6 true (.t 7) false, none⟩, ⟨some 42, .bsl 6 1 [(.string ⟨#[]⟩), (.int .i64 0), (.int .i64 0), (.int .i64 0), (.int .i64 0), (.slice none 0 0)] [(0, 6, (.t 41))] false, none⟩, ⟨some 43, .app 6 72 (.t 40) (.t 42) false, none⟩, ⟨some 44, .fa 3 (.t 5), none⟩, ⟨none, .store 1 (.t 44) (.t 43), none⟩]))))
  (.reg [⟨some 28, .mv (.t 6) false, none⟩, ⟨some 29, .bin .add (.t 28) (.c (.int .i64 1)), none⟩, ⟨some 6, .mv (.t 29) true, none⟩]))
def L14p_0 : C := .loop [1, 2, 4, 5, 6] 2 B14p_0
theorem go14p_0 (s : Env × Bx) (nb) : evL tab ext nb L14p_0 s = (loopIn nb [1, 2, 4, 5, 6] 2 s).bind fun s0 => (evL tab ext nb B14p_0 s0).bind (seqG tab ext nb L14p_0) := eL_loop _ _ _
/-- swingbridge/swingbridgelaw10.CanonSlices -/
def C14p : CFun := ⟨121, 2, .seq (.reg [⟨some 2, .box (.t 0), none⟩, ⟨some 4, .mv (.c (.bool false)) true, none⟩])
  (.seq (.seq (.reg [⟨some 11, .call 40 [] false, none⟩, ⟨some 12, .un .not (.t 11), none⟩])
  (.cond (.t 12) (.seq (.reg [⟨some 4, .mv (.c (.bool false)) true, none⟩])
  (.ret))
  (.skip)))
  (.seq (.seq (.reg [⟨some 13, .load 4 true (.t 2) false, none⟩, ⟨some 14, .call 41 [(.t 13)] false, none⟩, ⟨some 15, .un .not (.t 14), none⟩, ⟨some 16, .mv (.t 15) false, none⟩, ⟨some 17, .load 4 true (.t 2) false, some (16, false)⟩, ⟨some 18, .call 22 [(.t 17)] false, some (16, false)⟩, ⟨some 19, .un .not (.t 18), some (16, false)⟩, ⟨some 20, .pick (.t 16) (.c (.bool true)) (.t 19), none⟩])
  (.cond (.t 20) (.seq (.reg [⟨some 4, .mv (.c (.bool true)) true, none⟩])
  (.ret))
  (.skip)))
  (.seq (.reg [⟨some 21, .load 4 true (.t 2) false, none⟩, ⟨some 5, .alloc [(.int .i64 0), (.slice none 0 0), (.slice none 0 0), (.slice none 0 0)], none⟩, ⟨none, .store 4 (.t 5) (.t 21), none⟩])
  (.seq (.reg [⟨some 22, .fa 3 (.t 5), none⟩, ⟨none, .store 1 (.t 22) (.c (.slice none 0 0)), none⟩])
  (.seq (.seq (.reg [⟨some 6, .mv (.c (.int .i64 0)) true, none⟩])
  (.block 0 (L14p_0)))
  (.seq (.reg [⟨some 1, .mv (.t 1) false, none⟩, ⟨some 2, .mv (.t 2) false, none⟩, ⟨some 5, .mv (.t 5) false, none⟩])
  (.ret))))))), [.t 4]⟩
theorem comp14p : comp Try.prog 121 ⟨[], [], [], []⟩ (lvOf [(0, [1, 2, 4, 5, 6], 2)]) 0 (cdPre 5 (Try.f14.body.getD .skip)) = some (C.pre 5 C14p.body) := by kernel_rfl
theorem deep14p : cdDeep 5 (Try.f14.body.getD .skip) = true := by kernel_rfl
end Go.Proofs.YtkohggddaheefaaEv
