/- The seat's functions in compact code; each row is checked against the program. -/
import Derived.Test.YtamblgbmdhldbaaGreatDoorEv4
import Derived.Test.YtamblgbmdhldbaaGreatDoorProg
import Derived.KernelRfl
namespace Go.Proofs.YtamblgbmdhldbaaGreatDoorEv
open Go
set_option maxRecDepth 100000
variable {tab : Nat → Option CFun} {ext : CallF}
/-- swingbridge/swingbridgelaw19.ReportTells -/
def C3 : CFun := ⟨30, 1, .seq (.reg [⟨some 1, .box (.t 0), none⟩, ⟨some 2, .mv (.c (.bool false)) true, none⟩])
  (.seq (.seq (.reg [⟨some 7, .call 7 [] false, none⟩, ⟨some 8, .un .not (.t 7), none⟩])
  (.cond (.t 8) (.seq (.reg [⟨some 2, .mv (.c (.bool false)) true, none⟩])
  (.ret))
  (.skip)))
  (.seq (.seq (.reg [⟨some 9, .load 4 true (.t 1) false, none⟩, ⟨some 10, .call 8 [(.t 9)] false, none⟩, ⟨some 11, .un .not (.t 10), none⟩])
  (.cond (.t 11) (.seq (.reg [⟨some 2, .mv (.c (.bool true)) true, none⟩])
  (.ret))
  (.skip)))
  (.seq (.reg [⟨some 13, .load 4 true (.t 1) false, none⟩, ⟨some 14, .call 9 [(.t 13)] false, none⟩, ⟨some 12, .mv (.t 14) false, none⟩, ⟨some 15, .ext (.t 12) 0, none⟩, ⟨some 16, .ext (.t 12) 1, none⟩, ⟨some 3, .mv (.t 15) true, none⟩, ⟨some 4, .mv (.t 16) true, none⟩])
  (.seq (.reg [⟨some 18, .load 4 true (.t 1) false, none⟩, ⟨some 19, .call 10 [(.t 18)] false, none⟩, ⟨some 17, .mv (.t 19) false, none⟩, ⟨some 20, .ext (.t 17) 0, none⟩, ⟨some 21, .ext (.t 17) 1, none⟩, ⟨some 5, .mv (.t 20) true, none⟩, ⟨some 6, .mv (.t 21) true, none⟩])
  (.seq (.reg [⟨some 22, .mv (.t 3) false, none⟩, ⟨some 23, .mv (.t 5) false, none⟩, ⟨some 24, .call 11 [(.t 22), (.t 23)] false, none⟩, ⟨some 25, .mv (.t 24) false, none⟩, ⟨some 26, .mv (.t 4) false, some (25, true)⟩, ⟨some 27, .mv (.t 6) false, some (25, true)⟩, ⟨some 28, .bin .eql (.t 26) (.t 27), some (25, true)⟩, ⟨some 29, .pick (.t 25) (.t 28) (.c (.bool false)), none⟩, ⟨some 2, .mv (.t 29) true, none⟩])
  (.ret)))))), [.t 2]⟩
theorem row3 : RowOk Tryz.prog 3 C3 := ⟨Tryz.f3, ⟨[], [], [], []⟩, lvOf [], Tryz.func3, by kernel_rfl, by kernel_rfl⟩
/-- swingbridge/swingbridgelaw19.ReportTurns -/
def C4 : CFun := ⟨92, 2, .seq (.reg [⟨some 2, .box (.t 0), none⟩, ⟨some 4, .mv (.c (.bool false)) true, none⟩])
  (.seq (.seq (.reg [⟨some 11, .call 7 [] false, none⟩, ⟨some 12, .un .not (.t 11), none⟩])
  (.cond (.t 12) (.seq (.reg [⟨some 4, .mv (.c (.bool false)) true, none⟩])
  (.ret))
  (.skip)))
  (.seq (.seq (.reg [⟨some 13, .load 4 true (.t 2) false, none⟩, ⟨some 14, .call 8 [(.t 13)] false, none⟩, ⟨some 15, .un .not (.t 14), none⟩, ⟨some 16, .mv (.t 15) false, none⟩, ⟨some 17, .load 4 true (.t 2) false, some (16, false)⟩, ⟨some 18, .call 12 [(.t 17)] false, some (16, false)⟩, ⟨some 19, .un .not (.t 18), some (16, false)⟩, ⟨some 20, .pick (.t 16) (.c (.bool true)) (.t 19), none⟩])
  (.cond (.t 20) (.seq (.reg [⟨some 4, .mv (.c (.bool true)) true, none⟩])
  (.ret))
  (.skip)))
  (.seq (.reg [⟨some 21, .mv (.t 1) false, none⟩, ⟨some 22, .conv .i64 (.t 21), none⟩, ⟨some 23, .fa 3 (.t 2), none⟩, ⟨some 24, .load 1 false (.t 23) false, none⟩, ⟨some 25, .len (.t 24), none⟩, ⟨some 26, .bin .rem (.t 22) (.t 25), none⟩, ⟨some 5, .mv (.t 26) true, none⟩])
  (.seq (.reg [⟨some 27, .load 4 true (.t 2) false, none⟩, ⟨some 6, .alloc [(.int .i64 0), (.slice none 0 0), (.slice none 0 0), (.slice none 0 0)], none⟩, ⟨none, .store 4 (.t 6) (.t 27), none⟩])
  (.seq (.reg [⟨some 28, .fa 3 (.t 2), none⟩, ⟨some 29, .load 1 false (.t 28) false, none⟩, ⟨some 30, .mv (.t 5) false, none⟩, ⟨some 31, .slc 6 (.t 29) (some (.t 30)) none none, none⟩, ⟨some 32, .app 6 72 (.c (.slice none 0 0)) (.t 31) false, none⟩, ⟨some 33, .fa 3 (.t 2), none⟩, ⟨some 34, .load 1 false (.t 33) false, none⟩, ⟨some 35, .mv (.t 5) false, none⟩, ⟨some 36, .slc 6 (.t 34) none (some (.t 35)) none, none⟩, ⟨some 37, .app 6 72 (.t 32) (.t 36) false, none⟩, ⟨some 38, .fa 3 (.t 6), none⟩, ⟨none, .store 1 (.t 38) (.t 37), none⟩])
  (.seq (.reg [⟨some 40, .load 4 true (.t 2) false, none⟩, ⟨some 41, .call 9 [(.t 40)] false, none⟩, ⟨some 39, .mv (.t 41) false, none⟩, ⟨some 42, .ext (.t 39) 0, none⟩, ⟨some 43, .ext (.t 39) 1, none⟩, ⟨some 7, .mv (.t 42) true, none⟩, ⟨some 8, .mv (.t 43) true, none⟩])
  (.seq (.reg [⟨some 45, .load 4 true (.t 6) false, none⟩, ⟨some 46, .call 9 [(.t 45)] false, none⟩, ⟨some 44, .mv (.t 46) false, none⟩, ⟨some 47, .ext (.t 44) 0, none⟩, ⟨some 48, .ext (.t 44) 1, none⟩, ⟨some 9, .mv (.t 47) true, none⟩, ⟨some 10, .mv (.t 48) true, none⟩])
  (.seq (.reg [⟨some 49, .mv (.t 8) false, none⟩, ⟨some 50, .bin .eql (.t 49) (.c (.int .i64 0)), none⟩, ⟨some 51, .mv (.t 50) false, none⟩, ⟨some 52, .mv (.t 10) false, some (51, true)⟩, ⟨some 53, .bin .eql (.t 52) (.c (.int .i64 0)), some (51, true)⟩, ⟨some 54, .pick (.t 51) (.t 53) (.c (.bool false)), none⟩, ⟨some 55, .mv (.t 54) false, none⟩, ⟨some 56, .mv (.t 7) false, some (55, true)⟩, ⟨some 57, .mv (.t 9) false, some (55, true)⟩, ⟨some 58, .call 11 [(.t 56), (.t 57)] false, some (55, true)⟩, ⟨some 59, .pick (.t 55) (.t 58) (.c (.bool false)), none⟩, ⟨some 60, .mv (.t 59) false, none⟩, ⟨some 61, .mv (.t 7) false, some (60, true)⟩, ⟨some 62, .len (.t 61), some (60, true)⟩, ⟨some 63, .fa 3 (.t 2), some (60, true)⟩, ⟨some 64, .load 1 false (.t 63) false, some (60, true)⟩, ⟨some 65, .len (.t 64), some (60, true)⟩, ⟨some 66, .bin .add (.t 65) (.c (.int .i64 1)), some (60, true)⟩, ⟨some 67, .bin .eql (.t 62) (.t 66), some (60, true)⟩, ⟨some 68, .mv (.t 67) false, some (60, true)⟩, ⟨some 69, .mv (.t 7) false, some (68, true)⟩, ⟨some 70, .ia 1 (.t 69) (.c (.int .i64 0)), some (68, true)⟩, ⟨some 71, .load 1 false (.t 70) false, some (68, true)⟩, ⟨some 72, .bin .eql (.t 71) (.c (.string ⟨#[97, 100, 109, 105, 116, 116, 101, 100]⟩)), some (68, true)⟩, ⟨some 73, .pick (.t 68) (.t 72) (.c (.bool false)), some (60, true)⟩, ⟨some 74, .mv (.t 73) false, some (60, true)⟩, ⟨some 75, .mv (.t 7) false, some (74, false)⟩, ⟨some 76, .len (.t 75), some (74, false)⟩, ⟨some 77, .bin .eql (.t 76) (.c (.int .i64 1)), some (74, false)⟩, ⟨some 78, .mv (.t 77) false, some (74, false)⟩, ⟨some 79, .mv (.t 7) false, some (78, true)⟩, ⟨some 80, .ia 1 (.t 79) (.c (.int .i64 0)), some (78, true)⟩, ⟨some 81, .load 1 false (.t 80) false, some (78, true)⟩, ⟨some 82, .bin .eql (.t 81) (.c (.string ⟨#[108, 97, 116, 101]⟩)), some (78, true)⟩, ⟨some 83, .mv (.t 82) false, some (78, true)⟩, ⟨some 84, .mv (.t 7) false, some (83, false)⟩, ⟨some 85, .ia 1 (.t 84) (.c (.int .i64 0)), some (83, false)⟩, ⟨some 86, .load 1 false (.t 85) false, some (83, false)⟩, ⟨some 87, .bin .eql (.t 86) (.c (.string ⟨#[117, 110, 107, 110, 111, 119, 110]⟩)), some (83, false)⟩, ⟨some 88, .pick (.t 83) (.c (.bool true)) (.t 87), some (78, true)⟩, ⟨some 89, .pick (.t 78) (.t 88) (.c (.bool false)), some (74, false)⟩, ⟨some 90, .pick (.t 74) (.c (.bool true)) (.t 89), some (60, true)⟩, ⟨some 91, .pick (.t 60) (.t 90) (.c (.bool false)), none⟩, ⟨some 4, .mv (.t 91) true, none⟩])
  (.ret))))))))), [.t 4]⟩
theorem row4 : RowOk Tryz.prog 4 C4 := ⟨Tryz.f4, ⟨[], [], [], []⟩, lvOf [], Tryz.func4, by kernel_rfl, by kernel_rfl⟩
/-- swingbridge/swingbridgelaw19.ReportWords -/
def C6 : CFun := ⟨25, 1, .seq (.reg [⟨some 2, .mv (.c (.bool false)) true, none⟩])
  (.seq (.seq (.reg [⟨some 4, .call 7 [] false, none⟩, ⟨some 5, .un .not (.t 4), none⟩])
  (.cond (.t 5) (.seq (.reg [⟨some 2, .mv (.c (.bool false)) true, none⟩])
  (.ret))
  (.skip)))
  (.seq (.reg [⟨some 6, .mv (.t 0) false, none⟩, ⟨some 7, .conv .i64 (.t 6), none⟩, ⟨some 8, .call 15 [(.t 7)] false, none⟩, ⟨some 3, .mv (.t 8) true, none⟩])
  (.seq (.seq (.reg [⟨some 9, .mv (.t 0) false, none⟩, ⟨some 10, .conv .i64 (.t 9), none⟩])
  (.block 0 (.seq (.reg [⟨some 12, .bin .eql (.t 10) (.c (.int .i64 19)), none⟩, ⟨some 11, .mv (.t 12) true, none⟩])
  (.cond (.t 11) (.seq (.reg [⟨some 13, .mv (.t 3) false, none⟩, ⟨some 14, .bin .eql (.t 13) (.c (.string ⟨#[108, 97, 116, 101]⟩)), none⟩, ⟨some 2, .mv (.t 14) true, none⟩])
  (.ret))
  (.seq (.reg [⟨some 16, .bin .eql (.t 10) (.c (.int .i64 20)), none⟩, ⟨some 15, .mv (.t 16) true, none⟩])
  (.cond (.t 15) (.seq (.reg [⟨some 17, .mv (.t 3) false, none⟩, ⟨some 18, .bin .eql (.t 17) (.c (.string ⟨#[117, 110, 107, 110, 111, 119, 110]⟩)), none⟩, ⟨some 2, .mv (.t 18) true, none⟩])
  (.ret))
  (.skip)))))))
  (.seq (.reg [⟨some 19, .mv (.t 3) false, none⟩, ⟨some 20, .mv (.t 0) false, none⟩, ⟨some 21, .conv .i64 (.t 20), none⟩, ⟨some 22, .call 14 [(.t 21)] false, none⟩, ⟨some 23, .bin .add (.c (.string ⟨#[101, 114, 114, 111, 114, 32]⟩)) (.t 22), none⟩, ⟨some 24, .bin .eql (.t 19) (.t 23), none⟩, ⟨some 2, .mv (.t 24) true, none⟩])
  (.ret))))), [.t 2]⟩
theorem row6 : RowOk Tryz.prog 6 C6 := ⟨Tryz.f6, ⟨[], [], [], []⟩, lvOf [], Tryz.func6, by kernel_rfl, by kernel_rfl⟩
/-- swingbridge/swingbridgelaw19.known -/
def C7 : CFun := ⟨38, 0, .seq (.reg [⟨some 0, .mv (.c (.bool false)) true, none⟩])
  (.seq (.reg [⟨some 6, .call 16 [(.c (.int .i64 1)), (.c (.int .i64 1)), (.c (.int .i64 3)), (.c (.int .i64 5)), (.c (.int .i64 4))] false, none⟩, ⟨some 7, .call 9 [(.t 6)] false, none⟩, ⟨some 5, .mv (.t 7) false, none⟩, ⟨some 8, .ext (.t 5) 0, none⟩, ⟨some 9, .ext (.t 5) 1, none⟩, ⟨some 1, .mv (.t 8) true, none⟩, ⟨some 2, .mv (.t 9) true, none⟩])
  (.seq (.reg [⟨some 11, .build [(.int .i64 0), (.slice none 0 0), (.slice none 0 0), (.slice none 0 0)] [], none⟩, ⟨some 12, .call 9 [(.t 11)] false, none⟩, ⟨some 10, .mv (.t 12) false, none⟩, ⟨some 13, .ext (.t 10) 0, none⟩, ⟨some 14, .ext (.t 10) 1, none⟩, ⟨some 3, .mv (.t 13) true, none⟩, ⟨some 4, .mv (.t 14) true, none⟩])
  (.seq (.reg [⟨some 15, .mv (.t 2) false, none⟩, ⟨some 16, .bin .eql (.t 15) (.c (.int .i64 0)), none⟩, ⟨some 17, .mv (.t 16) false, none⟩, ⟨some 18, .mv (.t 1) false, some (17, true)⟩, ⟨some 19, .bsl 1 3 [(.string ⟨#[]⟩), (.string ⟨#[]⟩), (.string ⟨#[]⟩)] [(0, 1, (.c (.string ⟨#[97, 100, 109, 105, 116, 116, 101, 100]⟩))), (1, 1, (.c (.string ⟨#[97, 32, 49, 50, 32, 49, 48, 48, 32, 55]⟩))), (2, 1, (.c (.string ⟨#[98, 32, 49, 54, 32, 50, 48, 48, 32, 55]⟩)))] false, some (17, true)⟩, ⟨some 20, .call 11 [(.t 18), (.t 19)] false, some (17, true)⟩, ⟨some 21, .pick (.t 17) (.t 20) (.c (.bool false)), none⟩, ⟨some 22, .mv (.t 21) false, none⟩, ⟨some 23, .mv (.t 4) false, some (22, true)⟩, ⟨some 24, .bin .eql (.t 23) (.c (.int .i64 10)), some (22, true)⟩, ⟨some 25, .pick (.t 22) (.t 24) (.c (.bool false)), none⟩, ⟨some 26, .mv (.t 25) false, none⟩, ⟨some 27, .call 15 [(.c (.int .i64 19))] false, some (26, true)⟩, ⟨some 28, .bin .eql (.t 27) (.c (.string ⟨#[108, 97, 116, 101]⟩)), some (26, true)⟩, ⟨some 29, .pick (.t 26) (.t 28) (.c (.bool false)), none⟩, ⟨some 30, .mv (.t 29) false, none⟩, ⟨some 31, .call 15 [(.c (.int .i64 20))] false, some (30, true)⟩, ⟨some 32, .bin .eql (.t 31) (.c (.string ⟨#[117, 110, 107, 110, 111, 119, 110]⟩)), some (30, true)⟩, ⟨some 33, .pick (.t 30) (.t 32) (.c (.bool false)), none⟩, ⟨some 34, .mv (.t 33) false, none⟩, ⟨some 35, .call 15 [(.c (.int .i64 10))] false, some (34, true)⟩, ⟨some 36, .bin .eql (.t 35) (.c (.string ⟨#[101, 114, 114, 111, 114, 32, 49, 48]⟩)), some (34, true)⟩, ⟨some 37, .pick (.t 34) (.t 36) (.c (.bool false)), none⟩, ⟨some 0, .mv (.t 37) true, none⟩])
  (.ret)))), [.t 0]⟩
theorem row7 : RowOk Tryz.prog 7 C7 := ⟨Tryz.f7, ⟨[], [], [], []⟩, lvOf [], Tryz.func7, by kernel_rfl, by kernel_rfl⟩
def B8_0 : C := .seq (.seq (.reg [⟨some 20, .mv (.t 3) false, none⟩, ⟨some 21, .fa 3 (.t 1), none⟩, ⟨some 22, .load 1 false (.t 21) false, none⟩, ⟨some 23, .len (.t 22), none⟩, ⟨some 24, .bin .lss (.t 20) (.t 23), none⟩])
  (.cond (.t 24) (.skip)
  (.exit 0)))
  (.seq (.block 1 (.seq (.reg [⟨some 27, .fa 3 (.t 1), none⟩, ⟨some 28, .load 1 false (.t 27) false, none⟩, ⟨some 29, .mv (.t 3) false, none⟩, ⟨some 30, .ia 6 (.t 28) (.t 29), none⟩, ⟨some 31, .fa 0 (.t 30), none⟩, ⟨some 32, .load 1 false (.t 31) false, none⟩, ⟨some 33, .slen (.t 32), none⟩, ⟨some 34, .bin .gtr (.t 33) (.c (.int .i64 20)), none⟩, ⟨some 35, .mv (.t 34) false, none⟩, ⟨some 36, .fa 3 (.t 1), some (35, false)⟩, ⟨some 37, .load 1 false (.t 36) false, some (35, false)⟩, ⟨some 38, .mv (.t 3) false, some (35, false)⟩, ⟨some 39, .ia 6 (.t 37) (.t 38), some (35, false)⟩, ⟨some 40, .fa 5 (.t 39), some (35, false)⟩, ⟨some 41, .load 1 false (.t 40) false, some (35, false)⟩, ⟨some 42, .len (.t 41), some (35, false)⟩, ⟨some 43, .bin .gtr (.t 42) (.c (.int .i64 10)), some (35, false)⟩, ⟨some 44, .pick (.t 35) (.c (.bool true)) (.t 43), none⟩])
  (.cond (.t 44) (.seq (.reg [⟨some 2, .mv (.c (.bool false)) true, none⟩])
  (.ret))
  (.skip))))
  (.reg [⟨some 25, .mv (.t 3) false, none⟩, ⟨some 26, .bin .add (.t 25) (.c (.int .i64 1)), none⟩, ⟨some 3, .mv (.t 26) true, none⟩]))
def L8_0 : C := .loop [1, 3] 1 B8_0
theorem go8_0 (s : Env × Bx) (nb) : evL tab ext nb L8_0 s = (loopIn nb [1, 3] 1 s).bind fun s0 => (evL tab ext nb B8_0 s0).bind (seqG tab ext nb L8_0) := eL_loop _ _ _
/-- swingbridge/swingbridgelaw19.few -/
def C8 : CFun := ⟨45, 1, .seq (.reg [⟨some 1, .box (.t 0), none⟩, ⟨some 2, .mv (.c (.bool false)) true, none⟩])
  (.seq (.seq (.reg [⟨some 4, .fa 1 (.t 1), none⟩, ⟨some 5, .load 1 false (.t 4) false, none⟩, ⟨some 6, .len (.t 5), none⟩, ⟨some 7, .bin .gtr (.t 6) (.c (.int .i64 8)), none⟩, ⟨some 8, .mv (.t 7) false, none⟩, ⟨some 9, .fa 2 (.t 1), some (8, false)⟩, ⟨some 10, .load 1 false (.t 9) false, some (8, false)⟩, ⟨some 11, .len (.t 10), some (8, false)⟩, ⟨some 12, .bin .gtr (.t 11) (.c (.int .i64 10)), some (8, false)⟩, ⟨some 13, .pick (.t 8) (.c (.bool true)) (.t 12), none⟩, ⟨some 14, .mv (.t 13) false, none⟩, ⟨some 15, .fa 3 (.t 1), some (14, false)⟩, ⟨some 16, .load 1 false (.t 15) false, some (14, false)⟩, ⟨some 17, .len (.t 16), some (14, false)⟩, ⟨some 18, .bin .gtr (.t 17) (.c (.int .i64 9)), some (14, false)⟩, ⟨some 19, .pick (.t 14) (.c (.bool true)) (.t 18), none⟩])
  (.cond (.t 19) (.seq (.reg [⟨some 2, .mv (.c (.bool false)) true, none⟩])
  (.ret))
  (.skip)))
  (.seq (.seq (.reg [⟨some 3, .mv (.c (.int .i64 0)) true, none⟩])
  (.block 0 (L8_0)))
  (.seq (.reg [⟨some 2, .mv (.c (.bool true)) true, none⟩])
  (.ret)))), [.t 2]⟩
theorem row8 : RowOk Tryz.prog 8 C8 := ⟨Tryz.f8, ⟨[], [], [], []⟩, lvOf [(0, [1, 3], 1)], Tryz.func8, by kernel_rfl, by kernel_rfl⟩
def B9_0 : C := .seq (.reg [⟨some 38, .bin .lss (.t 37) (.t 36), none⟩])
  (.seq (.cond (.t 38) (.skip)
  (.exit 0))
  (.seq (.block 1 (.seq (.reg [⟨some 39, .mv (.t 37) false, none⟩, ⟨some 9, .mv (.t 39) true, none⟩])
  (.reg [⟨some 40, .mv (.t 8) false, none⟩, ⟨some 41, .mv (.t 9) false, none⟩, ⟨some 42, .mv (.t 9) false, none⟩, ⟨some 43, .ia 1 (.t 40) (.t 41), none⟩, ⟨none, .store 1 (.t 43) (.t 42), none⟩])))
  (.reg [⟨some 44, .bin .add (.t 37) (.c (.int .i64 1)), none⟩, ⟨some 37, .mv (.t 44) false, none⟩])))
def L9_0 : C := .loop [1, 6, 8, 36, 37] 3 B9_0
theorem go9_0 (s : Env × Bx) (nb) : evL tab ext nb L9_0 s = (loopIn nb [1, 6, 8, 36, 37] 3 s).bind fun s0 => (evL tab ext nb B9_0 s0).bind (seqG tab ext nb L9_0) := eL_loop _ _ _
def B9_2 : C := .seq (.reg [⟨some 52, .bin .lss (.t 51) (.t 50), none⟩])
  (.seq (.cond (.t 52) (.skip)
  (.exit 2))
  (.seq (.block 3 (.seq (.reg [⟨some 53, .ia 1 (.t 49) (.t 51), none⟩, ⟨some 54, .load 1 false (.t 53) false, none⟩, ⟨some 12, .mv (.t 54) true, none⟩])
  (.reg [⟨some 55, .mv (.t 10) true, none⟩, ⟨some 56, .fa 3 (.t 1), none⟩, ⟨some 57, .load 1 false (.t 56) false, none⟩, ⟨some 58, .mv (.t 12) false, none⟩, ⟨some 59, .ia 6 (.t 57) (.t 58), none⟩, ⟨some 60, .load 6 true (.t 59) false, none⟩, ⟨some 61, .fa 1 (.t 6), none⟩, ⟨some 62, .load 1 false (.t 61) false, none⟩, ⟨some 63, .mv (.t 12) false, none⟩, ⟨some 64, .ia 1 (.t 62) (.t 63), none⟩, ⟨some 65, .load 1 false (.t 64) false, none⟩, ⟨some 66, .fa 2 (.t 6), none⟩, ⟨some 67, .load 1 false (.t 66) false, none⟩, ⟨some 68, .mv (.t 12) false, none⟩, ⟨some 69, .ia 1 (.t 67) (.t 68), none⟩, ⟨some 70, .load 1 false (.t 69) false, none⟩, ⟨some 71, .call 21 [(.t 60), (.t 65), (.t 70)] false, none⟩, ⟨some 72, .bsl 1 1 [(.string ⟨#[]⟩)] [(0, 1, (.t 71))] false, none⟩, ⟨some 73, .app 1 16 (.t 55) (.t 72) false, none⟩, ⟨some 10, .mv (.t 73) true, none⟩])))
  (.reg [⟨some 74, .bin .add (.t 51) (.c (.int .i64 1)), none⟩, ⟨some 51, .mv (.t 74) false, none⟩])))
def L9_2 : C := .loop [1, 6, 10, 49, 50, 51] 3 B9_2
theorem go9_2 (s : Env × Bx) (nb) : evL tab ext nb L9_2 s = (loopIn nb [1, 6, 10, 49, 50, 51] 3 s).bind fun s0 => (evL tab ext nb B9_2 s0).bind (seqG tab ext nb L9_2) := eL_loop _ _ _
/-- swingbridge/report.Lines -/
def C9 : CFun := ⟨76, 1, .seq (.reg [⟨some 1, .box (.t 0), none⟩, ⟨some 2, .mv (.c (.slice none 0 0)) true, none⟩, ⟨some 3, .mv (.c (.int .i64 0)) true, none⟩])
  (.seq (.seq (.reg [⟨some 14, .load 4 true (.t 1) false, none⟩, ⟨some 15, .call 17 [(.t 14)] false, none⟩, ⟨some 13, .mv (.t 15) false, none⟩, ⟨some 16, .ext (.t 13) 0, none⟩, ⟨some 17, .ext (.t 13) 1, none⟩, ⟨some 4, .mv (.t 16) true, none⟩, ⟨some 5, .mv (.t 17) true, none⟩])
  (.seq (.reg [⟨some 18, .mv (.t 5) false, none⟩, ⟨some 19, .bin .neq (.t 18) (.c (.int .i64 0)), none⟩])
  (.cond (.t 19) (.seq (.reg [⟨some 20, .mv (.t 5) false, none⟩, ⟨some 2, .mv (.c (.slice none 0 0)) true, none⟩, ⟨some 3, .mv (.t 20) true, none⟩])
  (.ret))
  (.skip))))
  (.seq (.reg [⟨some 22, .load 4 true (.t 1) false, none⟩, ⟨some 23, .call 18 [(.t 22)] false, none⟩, ⟨some 21, .mv (.t 23) false, none⟩, ⟨some 24, .ext (.t 21) 0, none⟩, ⟨some 25, .ext (.t 21) 1, none⟩, ⟨some 6, .alloc [(.bool false), (.slice none 0 0), (.slice none 0 0)], none⟩, ⟨none, .store 3 (.t 6) (.t 24), none⟩, ⟨some 7, .mv (.t 25) true, none⟩])
  (.seq (.seq (.reg [⟨some 26, .mv (.t 7) false, none⟩, ⟨some 27, .bin .neq (.t 26) (.c (.int .i64 0)), none⟩])
  (.cond (.t 27) (.seq (.reg [⟨some 28, .mv (.t 7) false, none⟩, ⟨some 29, .call 15 [(.t 28)] false, none⟩, ⟨some 30, .bsl 1 1 [(.string ⟨#[]⟩)] [(0, 1, (.t 29))] false, none⟩, ⟨some 2, .mv (.t 30) true, none⟩, ⟨some 3, .mv (.c (.int .i64 0)) true, none⟩])
  (.ret))
  (.skip)))
  (.seq (.reg [⟨some 31, .fa 3 (.t 1), none⟩, ⟨some 32, .load 1 false (.t 31) false, none⟩, ⟨some 33, .len (.t 32), none⟩, ⟨some 34, .mksl 1 8 [(.int .i64 0)] (.t 33) true, none⟩, ⟨some 8, .mv (.t 34) true, none⟩])
  (.seq (.seq (.reg [⟨some 35, .mv (.t 8) false, none⟩, ⟨some 36, .len (.t 35), none⟩, ⟨some 37, .mv (.c (.int .i64 0)) false, none⟩])
  (.block 0 (L9_0)))
  (.seq (.reg [⟨some 45, .mv (.t 8) false, none⟩, ⟨some 46, .mkf 20 [(.t 1)], none⟩, ⟨some 47, .calli 19 [(.t 45), (.t 46)], none⟩])
  (.seq (.reg [⟨some 48, .bsl 1 1 [(.string ⟨#[]⟩)] [(0, 1, (.c (.string ⟨#[97, 100, 109, 105, 116, 116, 101, 100]⟩)))] false, none⟩, ⟨some 10, .mv (.t 48) true, none⟩])
  (.seq (.seq (.reg [⟨some 49, .mv (.t 8) false, none⟩, ⟨some 50, .len (.t 49), none⟩, ⟨some 51, .mv (.c (.int .i64 0)) false, none⟩])
  (.block 2 (L9_2)))
  (.seq (.reg [⟨some 75, .mv (.t 10) false, none⟩, ⟨some 2, .mv (.t 75) true, none⟩, ⟨some 3, .mv (.c (.int .i64 0)) true, none⟩])
  (.ret)))))))))), [.t 2, .t 3]⟩
theorem row9 : RowOk Tryz.prog 9 C9 := ⟨Tryz.f9, ⟨[], [34], [], []⟩, lvOf [(0, [1, 6, 8, 36, 37], 3), (2, [1, 6, 10, 49, 50, 51], 3)], Tryz.func9, by kernel_rfl, by kernel_rfl⟩
def B10_2 : C := .seq (.seq (.reg [⟨some 68, .mv (.t 13) false, none⟩, ⟨some 69, .fa 5 (.t 11), none⟩, ⟨some 70, .load 1 false (.t 69) false, none⟩, ⟨some 71, .len (.t 70), none⟩, ⟨some 72, .bin .lss (.t 68) (.t 71), none⟩])
  (.cond (.t 72) (.skip)
  (.exit 2)))
  (.seq (.block 3 (.seq (.reg [⟨some 75, .fa 5 (.t 11), none⟩, ⟨some 76, .load 1 false (.t 75) false, none⟩, ⟨some 77, .mv (.t 13) false, none⟩, ⟨some 78, .ia 3 (.t 76) (.t 77), none⟩, ⟨some 79, .fa 0 (.t 78), none⟩, ⟨some 80, .load 1 false (.t 79) false, none⟩, ⟨some 81, .bin .eql (.t 80) (.c (.int .i64 3)), none⟩])
  (.cond (.t 81) (.reg [⟨some 82, .mv (.t 12) false, none⟩, ⟨some 83, .bin .add (.t 82) (.c (.string ⟨#[32]⟩)), none⟩, ⟨some 84, .fa 2 (.t 6), none⟩, ⟨some 85, .load 1 false (.t 84) false, none⟩, ⟨some 86, .mv (.t 9) false, none⟩, ⟨some 87, .mv (.t 10) false, none⟩, ⟨some 88, .ia 1 (.t 86) (.t 87), none⟩, ⟨some 89, .load 1 false (.t 88) false, none⟩, ⟨some 90, .ia 1 (.t 85) (.t 89), none⟩, ⟨some 91, .load 1 false (.t 90) false, none⟩, ⟨some 92, .mv (.t 13) false, none⟩, ⟨some 93, .ia 1 (.t 91) (.t 92), none⟩, ⟨some 94, .load 1 false (.t 93) false, none⟩, ⟨some 95, .call 14 [(.t 94)] false, none⟩, ⟨some 96, .bin .add (.t 83) (.t 95), none⟩, ⟨some 12, .mv (.t 96) true, none⟩])
  (.skip))))
  (.reg [⟨some 73, .mv (.t 13) false, none⟩, ⟨some 74, .bin .add (.t 73) (.c (.int .i64 1)), none⟩, ⟨some 13, .mv (.t 74) true, none⟩]))
def L10_2 : C := .loop [1, 6, 8, 9, 10, 11, 12, 13] 3 B10_2
theorem go10_2 (s : Env × Bx) (nb) : evL tab ext nb L10_2 s = (loopIn nb [1, 6, 8, 9, 10, 11, 12, 13] 3 s).bind fun s0 => (evL tab ext nb B10_2 s0).bind (seqG tab ext nb L10_2) := eL_loop _ _ _
def B10_0 : C := .seq (.seq (.reg [⟨some 36, .mv (.t 10) false, none⟩, ⟨some 37, .mv (.t 9) false, none⟩, ⟨some 38, .len (.t 37), none⟩, ⟨some 39, .bin .lss (.t 36) (.t 38), none⟩])
  (.cond (.t 39) (.skip)
  (.exit 0)))
  (.seq (.block 1 (.seq (.dreg [(11, 0)] [] [⟨some 42, .fa 3 (.t 1), none⟩, ⟨some 43, .load 1 false (.t 42) false, none⟩, ⟨some 44, .mv (.t 9) false, none⟩, ⟨some 45, .mv (.t 10) false, none⟩, ⟨some 46, .ia 1 (.t 44) (.t 45), none⟩, ⟨some 47, .load 1 false (.t 46) false, none⟩, ⟨some 48, .ia 6 (.t 43) (.t 47), none⟩, ⟨some 49, .load 6 true (.t 48) false, none⟩, ⟨some 11, .alloc [(.string ⟨#[]⟩), (.int .i64 0), (.int .i64 0), (.int .i64 0), (.int .i64 0), (.slice none 0 0)], none⟩, ⟨none, .store 6 (.t 11) (.t 49), none⟩])
  (.seq (.reg [⟨some 50, .fa 0 (.t 11), none⟩, ⟨some 51, .load 1 false (.t 50) false, none⟩, ⟨some 52, .bin .add (.t 51) (.c (.string ⟨#[32]⟩)), none⟩, ⟨some 53, .fa 1 (.t 6), none⟩, ⟨some 54, .load 1 false (.t 53) false, none⟩, ⟨some 55, .mv (.t 9) false, none⟩, ⟨some 56, .mv (.t 10) false, none⟩, ⟨some 57, .ia 1 (.t 55) (.t 56), none⟩, ⟨some 58, .load 1 false (.t 57) false, none⟩, ⟨some 59, .ia 1 (.t 54) (.t 58), none⟩, ⟨some 60, .load 1 false (.t 59) false, none⟩, ⟨some 61, .call 14 [(.t 60)] false, none⟩, ⟨some 62, .bin .add (.t 52) (.t 61), none⟩, ⟨some 63, .bin .add (.t 62) (.c (.string ⟨#[32]⟩)), none⟩, ⟨some 64, .fa 2 (.t 11), none⟩, ⟨some 65, .load 1 false (.t 64) false, none⟩, ⟨some 66, .call 14 [(.t 65)] false, none⟩, ⟨some 67, .bin .add (.t 63) (.t 66), none⟩, ⟨some 12, .mv (.t 67) true, none⟩])
  (.seq (.seq (.reg [⟨some 13, .mv (.c (.int .i64 0)) true, none⟩])
  (.block 2 (L10_2)))
  (.reg [⟨some 97, .mv (.t 8) true, none⟩, ⟨some 98, .mv (.t 12) false, none⟩, ⟨some 99, .bsl 1 1 [(.string ⟨#[]⟩)] [(0, 1, (.t 98))] false, none⟩, ⟨some 100, .app 1 16 (.t 97) (.t 99) false, none⟩, ⟨some 8, .mv (.t 100) true, none⟩])))))
  (.reg [⟨some 40, .mv (.t 10) false, none⟩, ⟨some 41, .bin .add (.t 40) (.c (.int .i64 1)), none⟩, ⟨some 10, .mv (.t 41) true, none⟩]))
def L10_0 : C := .loop [1, 6, 8, 9, 10] 2 B10_0
theorem go10_0 (s : Env × Bx) (nb) : evL tab ext nb L10_0 s = (loopIn nb [1, 6, 8, 9, 10] 2 s).bind fun s0 => (evL tab ext nb B10_0 s0).bind (seqG tab ext nb L10_0) := eL_loop _ _ _
/-- swingbridge/swingbridgeref11.Report -/
def C10 : CFun := ⟨102, 1, .seq (.reg [⟨some 1, .box (.t 0), none⟩, ⟨some 2, .mv (.c (.slice none 0 0)) true, none⟩, ⟨some 3, .mv (.c (.int .i64 0)) true, none⟩])
  (.seq (.seq (.reg [⟨some 15, .load 4 true (.t 1) false, none⟩, ⟨some 16, .call 22 [(.t 15)] false, none⟩, ⟨some 14, .mv (.t 16) false, none⟩, ⟨some 17, .ext (.t 14) 0, none⟩, ⟨some 18, .ext (.t 14) 1, none⟩, ⟨some 4, .mv (.t 17) true, none⟩, ⟨some 5, .mv (.t 18) true, none⟩])
  (.seq (.reg [⟨some 19, .mv (.t 5) false, none⟩, ⟨some 20, .bin .neq (.t 19) (.c (.int .i64 0)), none⟩])
  (.cond (.t 20) (.seq (.reg [⟨some 21, .mv (.t 5) false, none⟩, ⟨some 2, .mv (.c (.slice none 0 0)) true, none⟩, ⟨some 3, .mv (.t 21) true, none⟩])
  (.ret))
  (.skip))))
  (.seq (.reg [⟨some 23, .load 4 true (.t 1) false, none⟩, ⟨some 24, .call 23 [(.t 23)] false, none⟩, ⟨some 22, .mv (.t 24) false, none⟩, ⟨some 25, .ext (.t 22) 0, none⟩, ⟨some 26, .ext (.t 22) 1, none⟩, ⟨some 6, .alloc [(.bool false), (.slice none 0 0), (.slice none 0 0)], none⟩, ⟨none, .store 3 (.t 6) (.t 25), none⟩, ⟨some 7, .mv (.t 26) true, none⟩])
  (.seq (.seq (.reg [⟨some 27, .mv (.t 7) false, none⟩, ⟨some 28, .bin .eql (.t 27) (.c (.int .i64 19)), none⟩])
  (.cond (.t 28) (.seq (.reg [⟨some 29, .bsl 1 1 [(.string ⟨#[]⟩)] [(0, 1, (.c (.string ⟨#[108, 97, 116, 101]⟩)))] false, none⟩, ⟨some 2, .mv (.t 29) true, none⟩, ⟨some 3, .mv (.c (.int .i64 0)) true, none⟩])
  (.ret))
  (.skip)))
  (.seq (.seq (.reg [⟨some 30, .mv (.t 7) false, none⟩, ⟨some 31, .bin .neq (.t 30) (.c (.int .i64 0)), none⟩])
  (.cond (.t 31) (.seq (.reg [⟨some 32, .bsl 1 1 [(.string ⟨#[]⟩)] [(0, 1, (.c (.string ⟨#[117, 110, 107, 110, 111, 119, 110]⟩)))] false, none⟩, ⟨some 2, .mv (.t 32) true, none⟩, ⟨some 3, .mv (.c (.int .i64 0)) true, none⟩])
  (.ret))
  (.skip)))
  (.seq (.reg [⟨some 33, .bsl 1 1 [(.string ⟨#[]⟩)] [(0, 1, (.c (.string ⟨#[97, 100, 109, 105, 116, 116, 101, 100]⟩)))] false, none⟩, ⟨some 8, .mv (.t 33) true, none⟩])
  (.seq (.reg [⟨some 34, .load 4 true (.t 1) false, none⟩, ⟨some 35, .call 24 [(.t 34)] false, none⟩, ⟨some 9, .mv (.t 35) true, none⟩])
  (.seq (.seq (.reg [⟨some 10, .mv (.c (.int .i64 0)) true, none⟩])
  (.block 0 (L10_0)))
  (.seq (.reg [⟨some 101, .mv (.t 8) false, none⟩, ⟨some 2, .mv (.t 101) true, none⟩, ⟨some 3, .mv (.c (.int .i64 0)) true, none⟩])
  (.ret))))))))), [.t 2, .t 3]⟩
theorem row10 : RowOk Tryz.prog 10 C10 := ⟨Tryz.f10, ⟨[], [], [], []⟩, lvOf [(0, [1, 6, 8, 9, 10], 2), (2, [1, 6, 8, 9, 10, 11, 12, 13], 3)], Tryz.func10, by kernel_rfl, by kernel_rfl⟩
def B11_0 : C := .seq (.seq (.reg [⟨some 11, .mv (.t 5) false, none⟩, ⟨some 12, .mv (.t 0) false, none⟩, ⟨some 13, .len (.t 12), none⟩, ⟨some 14, .bin .lss (.t 11) (.t 13), none⟩])
  (.cond (.t 14) (.skip)
  (.exit 0)))
  (.seq (.block 1 (.seq (.reg [⟨some 17, .mv (.t 0) false, none⟩, ⟨some 18, .mv (.t 5) false, none⟩, ⟨some 19, .ia 1 (.t 17) (.t 18), none⟩, ⟨some 20, .load 1 false (.t 19) false, none⟩, ⟨some 21, .mv (.t 1) false, none⟩, ⟨some 22, .mv (.t 5) false, none⟩, ⟨some 23, .ia 1 (.t 21) (.t 22), none⟩, ⟨some 24, .load 1 false (.t 23) false, none⟩, ⟨some 25, .bin .neq (.t 20) (.t 24), none⟩])
  (.cond (.t 25) (.seq (.reg [⟨some 4, .mv (.c (.bool false)) true, none⟩])
  (.ret))
  (.skip))))
  (.reg [⟨some 15, .mv (.t 5) false, none⟩, ⟨some 16, .bin .add (.t 15) (.c (.int .i64 1)), none⟩, ⟨some 5, .mv (.t 16) true, none⟩]))
def L11_0 : C := .loop [0, 1, 5] 0 B11_0
theorem go11_0 (s : Env × Bx) (nb) : evL tab ext nb L11_0 s = (loopIn nb [0, 1, 5] 0 s).bind fun s0 => (evL tab ext nb B11_0 s0).bind (seqG tab ext nb L11_0) := eL_loop _ _ _
/-- swingbridge/swingbridgelaw19.same -/
def C11 : CFun := ⟨26, 2, .seq (.reg [⟨some 4, .mv (.c (.bool false)) true, none⟩])
  (.seq (.seq (.reg [⟨some 6, .mv (.t 0) false, none⟩, ⟨some 7, .len (.t 6), none⟩, ⟨some 8, .mv (.t 1) false, none⟩, ⟨some 9, .len (.t 8), none⟩, ⟨some 10, .bin .neq (.t 7) (.t 9), none⟩])
  (.cond (.t 10) (.seq (.reg [⟨some 4, .mv (.c (.bool false)) true, none⟩])
  (.ret))
  (.skip)))
  (.seq (.seq (.reg [⟨some 5, .mv (.c (.int .i64 0)) true, none⟩])
  (.block 0 (L11_0)))
  (.seq (.reg [⟨some 4, .mv (.c (.bool true)) true, none⟩])
  (.ret)))), [.t 4]⟩
theorem row11 : RowOk Tryz.prog 11 C11 := ⟨Tryz.f11, ⟨[], [], [], []⟩, lvOf [(0, [0, 1, 5], 0)], Tryz.func11, by kernel_rfl, by kernel_rfl⟩
/-- swingbridge/swingbridgeref7.OK -/
def C12 : CFun := ⟨12, 1, .seq (.reg [⟨some 1, .box (.t 0), none⟩, ⟨some 2, .mv (.c (.bool false)) true, none⟩])
  (.seq (.reg [⟨some 6, .load 4 true (.t 1) false, none⟩, ⟨some 7, .call 22 [(.t 6)] false, none⟩, ⟨some 5, .mv (.t 7) false, none⟩, ⟨some 8, .ext (.t 5) 0, none⟩, ⟨some 9, .ext (.t 5) 1, none⟩, ⟨some 3, .mv (.t 8) true, none⟩, ⟨some 4, .mv (.t 9) true, none⟩])
  (.seq (.reg [⟨some 10, .mv (.t 4) false, none⟩, ⟨some 11, .bin .eql (.t 10) (.c (.int .i64 0)), none⟩, ⟨some 2, .mv (.t 11) true, none⟩])
  (.ret))), [.t 2]⟩
theorem row12 : RowOk Tryz.prog 12 C12 := ⟨Tryz.f12, ⟨[], [], [], []⟩, lvOf [], Tryz.func12, by kernel_rfl, by kernel_rfl⟩
/-- swingbridge/swingbridgelaw19.one -/
def C13 : CFun := ⟨12, 2, .seq (.reg [⟨some 4, .alloc [(.int .i64 0), (.slice none 0 0), (.slice none 0 0), (.slice none 0 0)], none⟩])
  (.seq (.reg [⟨some 5, .mv (.t 0) false, none⟩, ⟨some 6, .bsl 1 1 [(.int .i64 0)] [(0, 1, (.c (.int .i64 1)))] false, none⟩, ⟨some 7, .bsl 1 1 [(.int .i64 0)] [(0, 1, (.c (.int .i64 0)))] false, none⟩, ⟨some 8, .mv (.t 1) false, none⟩, ⟨some 9, .build [(.string ⟨#[]⟩), (.int .i64 0), (.int .i64 0), (.int .i64 0), (.int .i64 0), (.slice none 0 0)] [(0, 1, (.c (.string ⟨#[97]⟩))), (1, 1, (.c (.int .i64 100))), (2, 1, (.c (.int .i64 100))), (3, 1, (.c (.int .i64 1))), (5, 1, (.t 8))], none⟩, ⟨some 10, .bsl 6 1 [(.string ⟨#[]⟩), (.int .i64 0), (.int .i64 0), (.int .i64 0), (.int .i64 0), (.slice none 0 0)] [(0, 6, (.t 9))] false, none⟩, ⟨some 11, .build [(.int .i64 0), (.slice none 0 0), (.slice none 0 0), (.slice none 0 0)] [(0, 1, (.t 5)), (1, 1, (.t 6)), (2, 1, (.t 7)), (3, 1, (.t 10))], none⟩, ⟨none, .store 4 (.t 4) (.t 11), none⟩])
  (.ret)), [.cell 4 4]⟩
theorem row13 : RowOk Tryz.prog 13 C13 := ⟨Tryz.f13, ⟨[], [], [], []⟩, lvOf [], Tryz.func13, by kernel_rfl, by kernel_rfl⟩
/-- swingbridge/swingbridgeref7.Text -/
def C14 : CFun := ⟨26, 1, .seq (.reg [⟨some 2, .mv (.c (.string ⟨#[]⟩)) true, none⟩])
  (.seq (.seq (.reg [⟨some 3, .mv (.t 0) false, none⟩, ⟨some 4, .bin .lss (.t 3) (.c (.int .i64 0)), none⟩, ⟨some 5, .mv (.t 4) false, none⟩, ⟨some 6, .mv (.t 0) false, some (5, false)⟩, ⟨some 7, .bin .gtr (.t 6) (.c (.int .i64 9999999)), some (5, false)⟩, ⟨some 8, .pick (.t 5) (.c (.bool true)) (.t 7), none⟩])
  (.cond (.t 8) (.seq (.reg [⟨some 2, .mv (.c (.string ⟨#[]⟩)) true, none⟩])
  (.ret))
  (.skip)))
  (.seq (.seq (.reg [⟨some 9, .mv (.t 0) false, none⟩, ⟨some 10, .bin .lss (.t 9) (.c (.int .i64 10)), none⟩])
  (.cond (.t 10) (.seq (.reg [⟨some 11, .mv (.t 0) false, none⟩, ⟨some 12, .bin .add (.c (.int .i64 48)) (.t 11), none⟩, ⟨some 13, .conv .u8 (.t 12), none⟩, ⟨some 14, .bsl 1 1 [(.int .u8 0)] [(0, 1, (.t 13))] false, none⟩, ⟨some 15, .bstr (.t 14), none⟩, ⟨some 2, .mv (.t 15) true, none⟩])
  (.ret))
  (.skip)))
  (.seq (.reg [⟨some 16, .mv (.t 0) false, none⟩, ⟨some 17, .bin .quo (.t 16) (.c (.int .i64 10)), none⟩, ⟨some 18, .call 14 [(.t 17)] false, none⟩, ⟨some 19, .mv (.t 0) false, none⟩, ⟨some 20, .bin .rem (.t 19) (.c (.int .i64 10)), none⟩, ⟨some 21, .bin .add (.c (.int .i64 48)) (.t 20), none⟩, ⟨some 22, .conv .u8 (.t 21), none⟩, ⟨some 23, .bsl 1 1 [(.int .u8 0)] [(0, 1, (.t 22))] false, none⟩, ⟨some 24, .bstr (.t 23), none⟩, ⟨some 25, .bin .add (.t 18) (.t 24), none⟩, ⟨some 2, .mv (.t 25) true, none⟩])
  (.ret)))), [.t 2]⟩
theorem row14 : RowOk Tryz.prog 14 C14 := ⟨Tryz.f14, ⟨[], [], [], []⟩, lvOf [], Tryz.func14, by kernel_rfl, by kernel_rfl⟩
/-- swingbridge/report.Word -/
def C15 : CFun := ⟨11, 1, .seq (.reg [⟨some 2, .mv (.c (.string ⟨#[]⟩)) true, none⟩])
  (.seq (.seq (.reg [⟨some 3, .mv (.t 0) false, none⟩])
  (.block 0 (.seq (.reg [⟨some 5, .bin .eql (.t 3) (.c (.int .i64 19)), none⟩, ⟨some 4, .mv (.t 5) true, none⟩])
  (.cond (.t 4) (.seq (.reg [⟨some 2, .mv (.c (.string ⟨#[108, 97, 116, 101]⟩)) true, none⟩])
  (.ret))
  (.seq (.reg [⟨some 7, .bin .eql (.t 3) (.c (.int .i64 20)), none⟩, ⟨some 6, .mv (.t 7) true, none⟩])
  (.cond (.t 6) (.seq (.reg [⟨some 2, .mv (.c (.string ⟨#[117, 110, 107, 110, 111, 119, 110]⟩)) true, none⟩])
  (.ret))
  (.skip)))))))
  (.seq (.reg [⟨some 8, .mv (.t 0) false, none⟩, ⟨some 9, .call 25 [(.t 8)] false, none⟩, ⟨some 10, .bin .add (.c (.string ⟨#[101, 114, 114, 111, 114, 32]⟩)) (.t 9), none⟩, ⟨some 2, .mv (.t 10) true, none⟩])
  (.ret))), [.t 2]⟩
theorem row15 : RowOk Tryz.prog 15 C15 := ⟨Tryz.f15, ⟨[], [], [], []⟩, lvOf [], Tryz.func15, by kernel_rfl, by kernel_rfl⟩
/-- swingbridge/swingbridgelaw19.two -/
def C16 : CFun := ⟨31, 5, .seq (.reg [⟨some 10, .alloc [(.int .i64 0), (.slice none 0 0), (.slice none 0 0), (.slice none 0 0)], none⟩])
  (.seq (.reg [⟨some 12, .mv (.t 0) false, none⟩, ⟨some 13, .mv (.t 1) false, none⟩, ⟨some 14, .build [(.int .i64 0), (.int .i64 0), (.int .i64 0)] [(0, 1, (.c (.int .i64 1))), (1, 1, (.t 13))], none⟩, ⟨some 15, .mv (.t 2) false, none⟩, ⟨some 16, .build [(.int .i64 0), (.int .i64 0), (.int .i64 0)] [(0, 1, (.c (.int .i64 3))), (1, 1, (.t 15))], none⟩, ⟨some 17, .bsl 3 2 [(.int .i64 0), (.int .i64 0), (.int .i64 0), (.int .i64 0), (.int .i64 0), (.int .i64 0)] [(0, 3, (.t 14)), (3, 3, (.t 16))] false, none⟩, ⟨some 18, .call 13 [(.t 12), (.t 17)] true, none⟩, ⟨some 11, .alloc [(.int .i64 0), (.slice none 0 0), (.slice none 0 0), (.slice none 0 0)], none⟩, ⟨none, .store 4 (.t 11) (.t 18), none⟩])
  (.seq (.reg [⟨some 19, .fa 3 (.t 11), none⟩, ⟨some 20, .load 1 false (.t 19) true, none⟩, ⟨some 21, .mv (.t 3) false, none⟩, ⟨some 22, .build [(.int .i64 0), (.int .i64 0), (.int .i64 0)] [(0, 1, (.c (.int .i64 1))), (1, 1, (.t 21))], none⟩, ⟨some 23, .mv (.t 4) false, none⟩, ⟨some 24, .build [(.int .i64 0), (.int .i64 0), (.int .i64 0)] [(0, 1, (.c (.int .i64 3))), (1, 1, (.t 23))], none⟩, ⟨some 25, .bsl 3 2 [(.int .i64 0), (.int .i64 0), (.int .i64 0), (.int .i64 0), (.int .i64 0), (.int .i64 0)] [(0, 3, (.t 22)), (3, 3, (.t 24))] false, none⟩, ⟨some 26, .build [(.string ⟨#[]⟩), (.int .i64 0), (.int .i64 0), (.int .i64 0), (.int .i64 0), (.slice none 0 0)] [(0, 1, (.c (.string ⟨#[98]⟩))), (1, 1, (.c (.int .i64 200))), (2, 1, (.c (.int .i64 200))), (3, 1, (.c (.int .i64 2))), (5, 1, (.t 25))], none⟩, ⟨some 27, .bsl 6 1 [(.string ⟨#[]⟩), (.int .i64 0), (.int .i64 0), (.int .i64 0), (.int .i64 0), (.slice none 0 0)] [(0, 6, (.t 26))] false, none⟩, ⟨some 28, .app 6 72 (.t 20) (.t 27) false, none⟩, ⟨some 29, .fa 3 (.t 11), none⟩, ⟨none, .store 1 (.t 29) (.t 28), none⟩])
  (.seq (.reg [⟨some 30, .load 4 true (.t 11) false, none⟩, ⟨none, .store 4 (.t 10) (.t 30), none⟩])
  (.ret)))), [.cell 10 4]⟩
theorem row16 : RowOk Tryz.prog 16 C16 := ⟨Tryz.f16, ⟨[], [], [13], []⟩, lvOf [], Tryz.func16, by kernel_rfl, by kernel_rfl⟩
def B17_1 : C := .seq (.reg [⟨some 29, .bin .lss (.t 28) (.t 27), none⟩])
  (.seq (.cond (.t 29) (.skip)
  (.exit 1))
  (.seq (.block 2 (.seq (.reg [⟨some 30, .mv (.t 28) false, none⟩, ⟨some 4, .mv (.t 30) true, none⟩])
  (.seq (.reg [⟨some 31, .load 4 true (.t 1) false, none⟩, ⟨some 32, .mv (.t 4) false, none⟩, ⟨some 33, .call 28 [(.t 31), (.t 32)] false, none⟩, ⟨some 5, .mv (.t 33) true, none⟩])
  (.seq (.reg [⟨some 34, .mv (.t 5) false, none⟩, ⟨some 35, .bin .neq (.t 34) (.c (.int .i64 0)), none⟩])
  (.cond (.t 35) (.seq (.reg [⟨some 36, .mv (.t 4) false, none⟩, ⟨some 37, .mv (.t 5) false, none⟩, ⟨some 2, .mv (.t 36) true, none⟩, ⟨some 3, .mv (.t 37) true, none⟩])
  (.ret))
  (.skip))))))
  (.reg [⟨some 38, .bin .add (.t 28) (.c (.int .i64 1)), none⟩, ⟨some 28, .mv (.t 38) false, none⟩])))
def L17_1 : C := .loop [1, 27, 28] 1 B17_1
theorem go17_1 (s : Env × Bx) (nb) : evL tab ext nb L17_1 s = (loopIn nb [1, 27, 28] 1 s).bind fun s0 => (evL tab ext nb B17_1 s0).bind (seqG tab ext nb L17_1) := eL_loop _ _ _
/-- swingbridge/task.Check -/
def C17 : CFun := ⟨39, 1, .seq (.reg [⟨some 1, .box (.t 0), none⟩, ⟨some 2, .mv (.c (.int .i64 0)) true, none⟩, ⟨some 3, .mv (.c (.int .i64 0)) true, none⟩])
  (.seq (.block 0 (.seq (.reg [⟨some 7, .fa 0 (.t 1), none⟩, ⟨some 8, .load 1 false (.t 7) false, none⟩, ⟨some 9, .call 26 [(.t 8), (.c (.int .i64 1)), (.c (.int .i64 3))] false, none⟩, ⟨some 10, .un .not (.t 9), none⟩, ⟨some 6, .mv (.t 10) true, none⟩])
  (.cond (.t 6) (.seq (.reg [⟨some 2, .mv (.c (.int .i64 (-1))) true, none⟩, ⟨some 3, .mv (.c (.int .i64 10)) true, none⟩])
  (.ret))
  (.seq (.reg [⟨some 12, .load 4 true (.t 1) false, none⟩, ⟨some 13, .call 27 [(.t 12)] false, none⟩, ⟨some 14, .un .not (.t 13), none⟩, ⟨some 11, .mv (.t 14) true, none⟩])
  (.cond (.t 11) (.seq (.reg [⟨some 2, .mv (.c (.int .i64 (-1))) true, none⟩, ⟨some 3, .mv (.c (.int .i64 16)) true, none⟩])
  (.ret))
  (.seq (.reg [⟨some 16, .fa 3 (.t 1), none⟩, ⟨some 17, .load 1 false (.t 16) false, none⟩, ⟨some 18, .len (.t 17), none⟩, ⟨some 19, .bin .gtr (.t 18) (.c (.int .i64 6)), none⟩, ⟨some 15, .mv (.t 19) true, none⟩])
  (.cond (.t 15) (.seq (.reg [⟨some 2, .mv (.c (.int .i64 (-1))) true, none⟩, ⟨some 3, .mv (.c (.int .i64 11)) true, none⟩])
  (.ret))
  (.seq (.reg [⟨some 21, .fa 3 (.t 1), none⟩, ⟨some 22, .load 1 false (.t 21) false, none⟩, ⟨some 23, .len (.t 22), none⟩, ⟨some 24, .bin .eql (.t 23) (.c (.int .i64 0)), none⟩, ⟨some 20, .mv (.t 24) true, none⟩])
  (.cond (.t 20) (.seq (.reg [⟨some 2, .mv (.c (.int .i64 (-1))) true, none⟩, ⟨some 3, .mv (.c (.int .i64 14)) true, none⟩])
  (.ret))
  (.skip))))))))))
  (.seq (.seq (.reg [⟨some 25, .fa 3 (.t 1), none⟩, ⟨some 26, .load 1 false (.t 25) false, none⟩, ⟨some 27, .len (.t 26), none⟩, ⟨some 28, .mv (.c (.int .i64 0)) false, none⟩])
  (.block 1 (L17_1)))
  (.seq (.reg [⟨some 2, .mv (.c (.int .i64 (-1))) true, none⟩, ⟨some 3, .mv (.c (.int .i64 0)) true, none⟩])
  (.ret)))), [.t 2, .t 3]⟩
theorem row17 : RowOk Tryz.prog 17 C17 := ⟨Tryz.f17, ⟨[], [], [], []⟩, lvOf [(1, [1, 27, 28], 1)], Tryz.func17, by kernel_rfl, by kernel_rfl⟩
def B18_0 : C := .seq (.reg [⟨some 36, .bin .lss (.t 35) (.t 34), none⟩])
  (.seq (.cond (.t 36) (.skip)
  (.exit 0))
  (.seq (.block 1 (.seq (.reg [⟨some 37, .mv (.t 35) false, none⟩, ⟨some 9, .mv (.t 37) true, none⟩])
  (.seq (.reg [⟨some 39, .load 4 true (.t 1) false, none⟩, ⟨some 40, .mv (.t 6) false, none⟩, ⟨some 41, .mv (.t 9) false, none⟩, ⟨some 42, .call 30 [(.t 39), (.t 40), (.t 41)] false, none⟩, ⟨some 38, .mv (.t 42) false, none⟩, ⟨some 43, .ext (.t 38) 0, none⟩, ⟨some 44, .ext (.t 38) 1, none⟩, ⟨some 10, .mv (.t 43) true, none⟩, ⟨some 11, .mv (.t 44) true, none⟩])
  (.reg [⟨some 45, .fa 2 (.t 8), none⟩, ⟨some 46, .load 1 false (.t 45) true, none⟩, ⟨some 47, .mv (.t 10) false, none⟩, ⟨some 48, .bsl 1 1 [(.slice none 0 0)] [(0, 1, (.t 47))] false, none⟩, ⟨some 49, .app 1 24 (.t 46) (.t 48) false, none⟩, ⟨some 50, .fa 2 (.t 8), none⟩, ⟨none, .store 1 (.t 50) (.t 49), none⟩]))))
  (.reg [⟨some 51, .bin .add (.t 35) (.c (.int .i64 1)), none⟩, ⟨some 35, .mv (.t 51) false, none⟩])))
def L18_0 : C := .loop [1, 2, 6, 8, 34, 35] 3 B18_0
theorem go18_0 (s : Env × Bx) (nb) : evL tab ext nb L18_0 s = (loopIn nb [1, 2, 6, 8, 34, 35] 3 s).bind fun s0 => (evL tab ext nb B18_0 s0).bind (seqG tab ext nb L18_0) := eL_loop _ _ _
/-- swingbridge/admit.Analyze -/
def C18 : CFun := ⟨53, 1, .seq (.reg [⟨some 1, .box (.t 0), none⟩, ⟨some 2, .alloc [(.bool false), (.slice none 0 0), (.slice none 0 0)], none⟩, ⟨some 3, .mv (.c (.int .i64 0)) true, none⟩])
  (.seq (.seq (.reg [⟨some 13, .load 4 true (.t 1) false, none⟩, ⟨some 14, .call 17 [(.t 13)] false, none⟩, ⟨some 12, .mv (.t 14) false, none⟩, ⟨some 15, .ext (.t 12) 0, none⟩, ⟨some 16, .ext (.t 12) 1, none⟩, ⟨some 4, .mv (.t 15) true, none⟩, ⟨some 5, .mv (.t 16) true, none⟩])
  (.seq (.reg [⟨some 17, .mv (.t 5) false, none⟩, ⟨some 18, .bin .neq (.t 17) (.c (.int .i64 0)), none⟩])
  (.cond (.t 18) (.seq (.reg [⟨some 19, .build [(.bool false), (.slice none 0 0), (.slice none 0 0)] [], none⟩, ⟨some 20, .mv (.t 5) false, none⟩, ⟨none, .store 3 (.t 2) (.t 19), none⟩, ⟨some 3, .mv (.t 20) true, none⟩])
  (.ret))
  (.skip))))
  (.seq (.reg [⟨some 22, .load 4 true (.t 1) false, none⟩, ⟨some 23, .call 29 [(.t 22)] false, none⟩, ⟨some 21, .mv (.t 23) false, none⟩, ⟨some 24, .ext (.t 21) 0, none⟩, ⟨some 25, .ext (.t 21) 1, none⟩, ⟨some 6, .mv (.t 24) true, none⟩, ⟨some 7, .mv (.t 25) true, none⟩])
  (.seq (.seq (.reg [⟨some 26, .mv (.t 7) false, none⟩, ⟨some 27, .bin .neq (.t 26) (.c (.int .i64 0)), none⟩])
  (.cond (.t 27) (.seq (.reg [⟨some 28, .build [(.bool false), (.slice none 0 0), (.slice none 0 0)] [], none⟩, ⟨some 29, .mv (.t 7) false, none⟩, ⟨none, .store 3 (.t 2) (.t 28), none⟩, ⟨some 3, .mv (.t 29) true, none⟩])
  (.ret))
  (.skip)))
  (.seq (.reg [⟨some 30, .mv (.t 6) false, none⟩, ⟨some 31, .build [(.bool false), (.slice none 0 0), (.slice none 0 0)] [(0, 1, (.c (.bool true))), (1, 1, (.t 30))], none⟩, ⟨some 8, .alloc [(.bool false), (.slice none 0 0), (.slice none 0 0)], none⟩, ⟨none, .store 3 (.t 8) (.t 31), none⟩])
  (.seq (.seq (.reg [⟨some 32, .fa 3 (.t 1), none⟩, ⟨some 33, .load 1 false (.t 32) false, none⟩, ⟨some 34, .len (.t 33), none⟩, ⟨some 35, .mv (.c (.int .i64 0)) false, none⟩])
  (.block 0 (L18_0)))
  (.seq (.reg [⟨some 52, .load 3 true (.t 8) false, none⟩, ⟨none, .store 3 (.t 2) (.t 52), none⟩, ⟨some 3, .mv (.c (.int .i64 0)) true, none⟩])
  (.ret))))))), [.cell 2 3, .t 3]⟩
theorem row18 : RowOk Tryz.prog 18 C18 := ⟨Tryz.f18, ⟨[], [], [], []⟩, lvOf [(0, [1, 2, 6, 8, 34, 35], 3)], Tryz.func18, by kernel_rfl, by kernel_rfl⟩
/-- slices.SortFunc[[]int,int] -/
def C19 : CFun := ⟨14, 2, .seq (.reg [⟨some 5, .mv (.t 0) false, none⟩, ⟨some 6, .len (.t 5), none⟩, ⟨some 4, .mv (.t 6) true, none⟩])
  (.reg [⟨some 7, .mv (.t 0) false, none⟩, ⟨some 8, .mv (.t 4) false, none⟩, ⟨some 9, .mv (.t 4) false, none⟩, ⟨some 10, .conv .u64 (.t 9), none⟩, ⟨some 11, .call 32 [(.t 10)] false, none⟩, ⟨some 12, .mv (.t 1) false, none⟩, ⟨some 13, .calli 31 [(.t 7), (.c (.int .i64 0)), (.t 8), (.t 11), (.t 12)], none⟩]), []⟩
theorem row19 : RowOk Tryz.prog 19 C19 := ⟨Tryz.f19, ⟨[], [], [], []⟩, lvOf [], Tryz.func19, by kernel_rfl, by kernel_rfl⟩
/-- swingbridge/report.Lines$1 -/
def C20 : CFun := ⟨19, 3, .seq (.reg [⟨some 5, .mv (.c (.int .i64 0)) true, none⟩])
  (.seq (.reg [⟨some 6, .fa 3 (.t 2), none⟩, ⟨some 7, .load 1 false (.t 6) false, none⟩, ⟨some 8, .mv (.t 0) false, none⟩, ⟨some 9, .ia 6 (.t 7) (.t 8), none⟩, ⟨some 10, .fa 3 (.t 9), none⟩, ⟨some 11, .load 1 false (.t 10) false, none⟩, ⟨some 12, .fa 3 (.t 2), none⟩, ⟨some 13, .load 1 false (.t 12) false, none⟩, ⟨some 14, .mv (.t 1) false, none⟩, ⟨some 15, .ia 6 (.t 13) (.t 14), none⟩, ⟨some 16, .fa 3 (.t 15), none⟩, ⟨some 17, .load 1 false (.t 16) false, none⟩, ⟨some 18, .bin .sub (.t 11) (.t 17), none⟩, ⟨some 5, .mv (.t 18) true, none⟩])
  (.ret)), [.t 5]⟩
theorem row20 : RowOk Tryz.prog 20 C20 := ⟨Tryz.f20, ⟨[], [], [], []⟩, lvOf [], Tryz.func20, by kernel_rfl, by kernel_rfl⟩
def B21_0 : C := .seq (.reg [⟨some 25, .bin .lss (.t 24) (.t 23), none⟩])
  (.seq (.cond (.t 25) (.skip)
  (.exit 0))
  (.seq (.block 1 (.seq (.reg [⟨some 26, .mv (.t 24) false, none⟩, ⟨some 27, .ia 3 (.t 22) (.t 24), none⟩, ⟨some 28, .load 3 true (.t 27) false, none⟩, ⟨some 9, .alloc [(.int .i64 0), (.int .i64 0), (.int .i64 0)], none⟩, ⟨some 8, .mv (.t 26) true, none⟩, ⟨none, .store 3 (.t 9) (.t 28), none⟩])
  (.seq (.seq (.reg [⟨some 29, .fa 0 (.t 9), none⟩, ⟨some 30, .load 1 false (.t 29) false, none⟩, ⟨some 31, .bin .neq (.t 30) (.c (.int .i64 3)), none⟩])
  (.cond (.t 31) (.exit 1)
  (.skip)))
  (.reg [⟨some 32, .mv (.t 7) false, none⟩, ⟨some 33, .mv (.t 2) false, none⟩, ⟨some 34, .mv (.t 8) false, none⟩, ⟨some 35, .ia 1 (.t 33) (.t 34), none⟩, ⟨some 36, .load 1 false (.t 35) false, none⟩, ⟨some 37, .call 25 [(.t 36)] false, none⟩, ⟨some 38, .bin .add (.c (.string ⟨#[32]⟩)) (.t 37), none⟩, ⟨some 39, .bin .add (.t 32) (.t 38), none⟩, ⟨some 7, .mv (.t 39) true, none⟩]))))
  (.reg [⟨some 40, .bin .add (.t 24) (.c (.int .i64 1)), none⟩, ⟨some 24, .mv (.t 40) false, none⟩])))
def L21_0 : C := .loop [2, 7, 22, 23, 24] 1 B21_0
theorem go21_0 (s : Env × Bx) (nb) : evL tab ext nb L21_0 s = (loopIn nb [2, 7, 22, 23, 24] 1 s).bind fun s0 => (evL tab ext nb B21_0 s0).bind (seqG tab ext nb L21_0) := eL_loop _ _ _
/-- swingbridge/report.line -/
def C21 : CFun := ⟨42, 3, .seq (.reg [⟨some 3, .box (.t 0), none⟩, ⟨some 6, .mv (.c (.string ⟨#[]⟩)) true, none⟩])
  (.scope (.seq (.reg [⟨some 10, .fa 0 (.t 3), none⟩, ⟨some 11, .load 1 false (.t 10) false, none⟩, ⟨some 12, .bin .add (.t 11) (.c (.string ⟨#[32]⟩)), none⟩, ⟨some 13, .mv (.t 1) false, none⟩, ⟨some 14, .call 25 [(.t 13)] false, none⟩, ⟨some 15, .bin .add (.t 12) (.t 14), none⟩, ⟨some 16, .bin .add (.t 15) (.c (.string ⟨#[32]⟩)), none⟩, ⟨some 17, .fa 2 (.t 3), none⟩, ⟨some 18, .load 1 false (.t 17) false, none⟩, ⟨some 19, .call 25 [(.t 18)] false, none⟩, ⟨some 20, .bin .add (.t 16) (.t 19), none⟩, ⟨some 7, .mv (.t 20) true, none⟩])
  (.seq (.skip)
  (.seq (.seq (.reg [⟨some 21, .fa 5 (.t 3), none⟩, ⟨some 22, .load 1 false (.t 21) false, none⟩, ⟨some 23, .len (.t 22), none⟩, ⟨some 24, .mv (.c (.int .i64 0)) false, none⟩])
  (.block 0 (L21_0)))
  (.seq (.reg [⟨some 41, .mv (.t 7) false, none⟩, ⟨some 6, .mv (.t 41) true, none⟩])
  (.ret)))))), [.t 6]⟩
theorem row21 : RowOk Tryz.prog 21 C21 := ⟨Tryz.f21, ⟨[], [], [], []⟩, lvOf [(0, [2, 7, 22, 23, 24], 1)], Tryz.func21, by kernel_rfl, by kernel_rfl⟩
def B22_1 : C := .seq (.seq (.reg [⟨some 29, .mv (.t 4) false, none⟩, ⟨some 30, .fa 3 (.t 1), none⟩, ⟨some 31, .load 1 false (.t 30) false, none⟩, ⟨some 32, .len (.t 31), none⟩, ⟨some 33, .bin .lss (.t 29) (.t 32), none⟩])
  (.cond (.t 33) (.skip)
  (.exit 1)))
  (.seq (.block 2 (.seq (.reg [⟨some 36, .load 4 true (.t 1) false, none⟩, ⟨some 37, .mv (.t 4) false, none⟩, ⟨some 38, .call 34 [(.t 36), (.t 37)] false, none⟩, ⟨some 5, .mv (.t 38) true, none⟩])
  (.seq (.reg [⟨some 39, .mv (.t 5) false, none⟩, ⟨some 40, .bin .neq (.t 39) (.c (.int .i64 0)), none⟩])
  (.cond (.t 40) (.seq (.reg [⟨some 41, .mv (.t 4) false, none⟩, ⟨some 42, .mv (.t 5) false, none⟩, ⟨some 2, .mv (.t 41) true, none⟩, ⟨some 3, .mv (.t 42) true, none⟩])
  (.ret))
  (.skip)))))
  (.reg [⟨some 34, .mv (.t 4) false, none⟩, ⟨some 35, .bin .add (.t 34) (.c (.int .i64 1)), none⟩, ⟨some 4, .mv (.t 35) true, none⟩]))
def L22_1 : C := .loop [1, 4] 1 B22_1
theorem go22_1 (s : Env × Bx) (nb) : evL tab ext nb L22_1 s = (loopIn nb [1, 4] 1 s).bind fun s0 => (evL tab ext nb B22_1 s0).bind (seqG tab ext nb L22_1) := eL_loop _ _ _
/-- swingbridge/swingbridgeref7.Check -/
def C22 : CFun := ⟨43, 1, .seq (.reg [⟨some 1, .box (.t 0), none⟩, ⟨some 2, .mv (.c (.int .i64 0)) true, none⟩, ⟨some 3, .mv (.c (.int .i64 0)) true, none⟩])
  (.seq (.block 0 (.seq (.reg [⟨some 7, .fa 0 (.t 1), none⟩, ⟨some 8, .load 1 false (.t 7) false, none⟩, ⟨some 9, .bin .lss (.t 8) (.c (.int .i64 1)), none⟩, ⟨some 10, .mv (.t 9) false, none⟩, ⟨some 11, .fa 0 (.t 1), some (10, false)⟩, ⟨some 12, .load 1 false (.t 11) false, some (10, false)⟩, ⟨some 13, .bin .gtr (.t 12) (.c (.int .i64 3)), some (10, false)⟩, ⟨some 14, .pick (.t 10) (.c (.bool true)) (.t 13), none⟩, ⟨some 6, .mv (.t 14) true, none⟩])
  (.cond (.t 6) (.seq (.reg [⟨some 2, .mv (.c (.int .i64 (-1))) true, none⟩, ⟨some 3, .mv (.c (.int .i64 10)) true, none⟩])
  (.ret))
  (.seq (.reg [⟨some 16, .load 4 true (.t 1) false, none⟩, ⟨some 17, .call 33 [(.t 16)] false, none⟩, ⟨some 18, .un .not (.t 17), none⟩, ⟨some 15, .mv (.t 18) true, none⟩])
  (.cond (.t 15) (.seq (.reg [⟨some 2, .mv (.c (.int .i64 (-1))) true, none⟩, ⟨some 3, .mv (.c (.int .i64 16)) true, none⟩])
  (.ret))
  (.seq (.reg [⟨some 20, .fa 3 (.t 1), none⟩, ⟨some 21, .load 1 false (.t 20) false, none⟩, ⟨some 22, .len (.t 21), none⟩, ⟨some 23, .bin .gtr (.t 22) (.c (.int .i64 6)), none⟩, ⟨some 19, .mv (.t 23) true, none⟩])
  (.cond (.t 19) (.seq (.reg [⟨some 2, .mv (.c (.int .i64 (-1))) true, none⟩, ⟨some 3, .mv (.c (.int .i64 11)) true, none⟩])
  (.ret))
  (.seq (.reg [⟨some 25, .fa 3 (.t 1), none⟩, ⟨some 26, .load 1 false (.t 25) false, none⟩, ⟨some 27, .len (.t 26), none⟩, ⟨some 28, .bin .eql (.t 27) (.c (.int .i64 0)), none⟩, ⟨some 24, .mv (.t 28) true, none⟩])
  (.cond (.t 24) (.seq (.reg [⟨some 2, .mv (.c (.int .i64 (-1))) true, none⟩, ⟨some 3, .mv (.c (.int .i64 14)) true, none⟩])
  (.ret))
  (.skip))))))))))
  (.seq (.seq (.reg [⟨some 4, .mv (.c (.int .i64 0)) true, none⟩])
  (.block 1 (L22_1)))
  (.seq (.reg [⟨some 2, .mv (.c (.int .i64 (-1))) true, none⟩, ⟨some 3, .mv (.c (.int .i64 0)) true, none⟩])
  (.ret)))), [.t 2, .t 3]⟩
theorem row22 : RowOk Tryz.prog 22 C22 := ⟨Tryz.f22, ⟨[], [], [], []⟩, lvOf [(1, [1, 4], 1)], Tryz.func22, by kernel_rfl, by kernel_rfl⟩
def B23_0 : C := .seq (.seq (.reg [⟨some 26, .mv (.t 7) false, none⟩, ⟨some 27, .fa 3 (.t 1), none⟩, ⟨some 28, .load 1 false (.t 27) false, none⟩, ⟨some 29, .len (.t 28), none⟩, ⟨some 30, .bin .lss (.t 26) (.t 29), none⟩])
  (.cond (.t 30) (.skip)
  (.exit 0)))
  (.seq (.block 1 (.seq (.reg [⟨some 33, .fa 3 (.t 1), none⟩, ⟨some 34, .load 1 false (.t 33) false, none⟩, ⟨some 35, .mv (.t 7) false, none⟩, ⟨some 36, .ia 6 (.t 34) (.t 35), none⟩, ⟨some 37, .load 6 true (.t 36) false, none⟩, ⟨some 8, .alloc [(.string ⟨#[]⟩), (.int .i64 0), (.int .i64 0), (.int .i64 0), (.int .i64 0), (.slice none 0 0)], none⟩, ⟨none, .store 6 (.t 8) (.t 37), none⟩])
  (.reg [⟨some 38, .mv (.t 6) true, none⟩, ⟨some 39, .load 6 true (.t 8) false, none⟩, ⟨some 40, .call 35 [(.t 39), (.c (.int .i64 1))] false, none⟩, ⟨some 41, .load 6 true (.t 8) false, none⟩, ⟨some 42, .call 35 [(.t 41), (.c (.int .i64 2))] false, none⟩, ⟨some 43, .bin .add (.t 40) (.t 42), none⟩, ⟨some 44, .load 6 true (.t 8) false, none⟩, ⟨some 45, .call 35 [(.t 44), (.c (.int .i64 3))] false, none⟩, ⟨some 46, .bin .add (.t 43) (.t 45), none⟩, ⟨some 47, .bsl 1 1 [(.int .i64 0)] [(0, 1, (.t 46))] false, none⟩, ⟨some 48, .app 1 8 (.t 38) (.t 47) false, none⟩, ⟨some 6, .mv (.t 48) true, none⟩])))
  (.reg [⟨some 31, .mv (.t 7) false, none⟩, ⟨some 32, .bin .add (.t 31) (.c (.int .i64 1)), none⟩, ⟨some 7, .mv (.t 32) true, none⟩]))
def L23_0 : C := .loop [1, 2, 6, 7] 2 B23_0
theorem go23_0 (s : Env × Bx) (nb) : evL tab ext nb L23_0 s = (loopIn nb [1, 2, 6, 7] 2 s).bind fun s0 => (evL tab ext nb B23_0 s0).bind (seqG tab ext nb L23_0) := eL_loop _ _ _
def B23_4 : C := .seq (.seq (.reg [⟨some 68, .mv (.t 14) false, none⟩, ⟨some 69, .mv (.t 6) false, none⟩, ⟨some 70, .len (.t 69), none⟩, ⟨some 71, .bin .lss (.t 68) (.t 70), none⟩])
  (.cond (.t 71) (.skip)
  (.exit 4)))
  (.seq (.block 5 (.seq (.reg [⟨some 75, .load 4 true (.t 1) false, none⟩, ⟨some 76, .mv (.t 6) false, none⟩, ⟨some 77, .mv (.t 14) false, none⟩, ⟨some 78, .call 37 [(.t 75), (.t 76), (.t 77)] false, none⟩, ⟨some 74, .mv (.t 78) false, none⟩, ⟨some 79, .ext (.t 74) 0, none⟩, ⟨some 80, .ext (.t 74) 1, none⟩, ⟨some 15, .mv (.t 79) true, none⟩, ⟨some 16, .mv (.t 80) true, none⟩])
  (.reg [⟨some 81, .fa 2 (.t 13), none⟩, ⟨some 82, .load 1 false (.t 81) true, none⟩, ⟨some 83, .mv (.t 15) false, none⟩, ⟨some 84, .bsl 1 1 [(.slice none 0 0)] [(0, 1, (.t 83))] false, none⟩, ⟨some 85, .app 1 24 (.t 82) (.t 84) false, none⟩, ⟨some 86, .fa 2 (.t 13), none⟩, ⟨none, .store 1 (.t 86) (.t 85), none⟩])))
  (.reg [⟨some 72, .mv (.t 14) false, none⟩, ⟨some 73, .bin .add (.t 72) (.c (.int .i64 1)), none⟩, ⟨some 14, .mv (.t 73) true, none⟩]))
def L23_4 : C := .loop [1, 2, 6, 13, 14] 3 B23_4
theorem go23_4 (s : Env × Bx) (nb) : evL tab ext nb L23_4 s = (loopIn nb [1, 2, 6, 13, 14] 3 s).bind fun s0 => (evL tab ext nb B23_4 s0).bind (seqG tab ext nb L23_4) := eL_loop _ _ _
def B23_2 : C := .seq (.seq (.reg [⟨some 49, .mv (.t 9) false, none⟩, ⟨some 50, .bin .lss (.t 49) (.c (.int .i64 200)), none⟩])
  (.cond (.t 50) (.skip)
  (.exit 2)))
  (.seq (.block 3 (.seq (.reg [⟨some 54, .load 4 true (.t 1) false, none⟩, ⟨some 55, .mv (.t 6) false, none⟩, ⟨some 56, .call 36 [(.t 54), (.t 55)] false, none⟩, ⟨some 53, .mv (.t 56) false, none⟩, ⟨some 57, .ext (.t 53) 0, none⟩, ⟨some 58, .ext (.t 53) 1, none⟩, ⟨some 59, .ext (.t 53) 2, none⟩, ⟨some 10, .mv (.t 57) true, none⟩, ⟨some 11, .mv (.t 58) true, none⟩, ⟨some 12, .mv (.t 59) true, none⟩])
  (.seq (.seq (.reg [⟨some 60, .mv (.t 12) false, none⟩, ⟨some 61, .bin .neq (.t 60) (.c (.int .i64 0)), none⟩])
  (.cond (.t 61) (.seq (.reg [⟨some 62, .build [(.bool false), (.slice none 0 0), (.slice none 0 0)] [], none⟩, ⟨some 63, .mv (.t 12) false, none⟩, ⟨none, .store 3 (.t 2) (.t 62), none⟩, ⟨some 3, .mv (.t 63) true, none⟩])
  (.ret))
  (.skip)))
  (.seq (.seq (.reg [⟨some 64, .mv (.t 11) false, none⟩, ⟨some 65, .un .not (.t 64), none⟩])
  (.cond (.t 65) (.seq (.reg [⟨some 66, .mv (.t 6) false, none⟩, ⟨some 67, .build [(.bool false), (.slice none 0 0), (.slice none 0 0)] [(0, 1, (.c (.bool true))), (1, 1, (.t 66))], none⟩, ⟨some 13, .alloc [(.bool false), (.slice none 0 0), (.slice none 0 0)], none⟩, ⟨none, .store 3 (.t 13) (.t 67), none⟩])
  (.seq (.seq (.reg [⟨some 14, .mv (.c (.int .i64 0)) true, none⟩])
  (.block 4 (L23_4)))
  (.seq (.reg [⟨some 87, .load 3 true (.t 13) false, none⟩, ⟨none, .store 3 (.t 2) (.t 87), none⟩, ⟨some 3, .mv (.c (.int .i64 0)) true, none⟩])
  (.ret))))
  (.skip)))
  (.reg [⟨some 88, .mv (.t 10) false, none⟩, ⟨some 6, .mv (.t 88) true, none⟩])))))
  (.reg [⟨some 51, .mv (.t 9) false, none⟩, ⟨some 52, .bin .add (.t 51) (.c (.int .i64 1)), none⟩, ⟨some 9, .mv (.t 52) true, none⟩]))
def L23_2 : C := .loop [1, 2, 6, 9] 2 B23_2
theorem go23_2 (s : Env × Bx) (nb) : evL tab ext nb L23_2 s = (loopIn nb [1, 2, 6, 9] 2 s).bind fun s0 => (evL tab ext nb B23_2 s0).bind (seqG tab ext nb L23_2) := eL_loop _ _ _
/-- swingbridge/swingbridgeref11.Analyze -/
def C23 : CFun := ⟨90, 1, .seq (.reg [⟨some 1, .box (.t 0), none⟩, ⟨some 2, .alloc [(.bool false), (.slice none 0 0), (.slice none 0 0)], none⟩, ⟨some 3, .mv (.c (.int .i64 0)) true, none⟩])
  (.seq (.seq (.reg [⟨some 18, .load 4 true (.t 1) false, none⟩, ⟨some 19, .call 22 [(.t 18)] false, none⟩, ⟨some 17, .mv (.t 19) false, none⟩, ⟨some 20, .ext (.t 17) 0, none⟩, ⟨some 21, .ext (.t 17) 1, none⟩, ⟨some 4, .mv (.t 20) true, none⟩, ⟨some 5, .mv (.t 21) true, none⟩])
  (.seq (.reg [⟨some 22, .mv (.t 5) false, none⟩, ⟨some 23, .bin .neq (.t 22) (.c (.int .i64 0)), none⟩])
  (.cond (.t 23) (.seq (.reg [⟨some 24, .build [(.bool false), (.slice none 0 0), (.slice none 0 0)] [], none⟩, ⟨some 25, .mv (.t 5) false, none⟩, ⟨none, .store 3 (.t 2) (.t 24), none⟩, ⟨some 3, .mv (.t 25) true, none⟩])
  (.ret))
  (.skip))))
  (.seq (.reg [⟨some 6, .mv (.c (.slice none 0 0)) true, none⟩])
  (.seq (.seq (.reg [⟨some 7, .mv (.c (.int .i64 0)) true, none⟩])
  (.block 0 (L23_0)))
  (.seq (.seq (.reg [⟨some 9, .mv (.c (.int .i64 0)) true, none⟩])
  (.block 2 (L23_2)))
  (.seq (.reg [⟨some 89, .build [(.bool false), (.slice none 0 0), (.slice none 0 0)] [], none⟩, ⟨none, .store 3 (.t 2) (.t 89), none⟩, ⟨some 3, .mv (.c (.int .i64 20)) true, none⟩])
  (.ret)))))), [.cell 2 3, .t 3]⟩
theorem row23 : RowOk Tryz.prog 23 C23 := ⟨Tryz.f23, ⟨[], [], [], []⟩, lvOf [(0, [1, 2, 6, 7], 2), (2, [1, 2, 6, 9], 2), (4, [1, 2, 6, 13, 14], 3)], Tryz.func23, by kernel_rfl, by kernel_rfl⟩
def B24_2 : C := .seq (.seq (.reg [⟨some 15, .mv (.t 5) false, none⟩, ⟨some 16, .bin .gtr (.t 15) (.c (.int .i64 0)), none⟩, ⟨some 17, .mv (.t 16) false, none⟩, ⟨some 18, .fa 3 (.t 1), some (17, true)⟩, ⟨some 19, .load 1 false (.t 18) false, some (17, true)⟩, ⟨some 20, .mv (.t 3) false, some (17, true)⟩, ⟨some 21, .mv (.t 5) false, some (17, true)⟩, ⟨some 22, .bin .sub (.t 21) (.c (.int .i64 1)), some (17, true)⟩, ⟨some 23, .ia 1 (.t 20) (.t 22), some (17, true)⟩, ⟨some 24, .load 1 false (.t 23) false, some (17, true)⟩, ⟨some 25, .ia 6 (.t 19) (.t 24), some (17, true)⟩, ⟨some 26, .fa 3 (.t 25), some (17, true)⟩, ⟨some 27, .load 1 false (.t 26) false, some (17, true)⟩, ⟨some 28, .fa 3 (.t 1), some (17, true)⟩, ⟨some 29, .load 1 false (.t 28) false, some (17, true)⟩, ⟨some 30, .mv (.t 4) false, some (17, true)⟩, ⟨some 31, .ia 6 (.t 29) (.t 30), some (17, true)⟩, ⟨some 32, .fa 3 (.t 31), some (17, true)⟩, ⟨some 33, .load 1 false (.t 32) false, some (17, true)⟩, ⟨some 34, .bin .gtr (.t 27) (.t 33), some (17, true)⟩, ⟨some 35, .pick (.t 17) (.t 34) (.c (.bool false)), none⟩])
  (.cond (.t 35) (.skip)
  (.exit 2)))
  (.block 3 (.reg [⟨some 36, .mv (.t 5) false, none⟩, ⟨some 37, .bin .sub (.t 36) (.c (.int .i64 1)), none⟩, ⟨some 5, .mv (.t 37) true, none⟩]))
def L24_2 : C := .loop [1, 3, 4, 5] 1 B24_2
theorem go24_2 (s : Env × Bx) (nb) : evL tab ext nb L24_2 s = (loopIn nb [1, 3, 4, 5] 1 s).bind fun s0 => (evL tab ext nb B24_2 s0).bind (seqG tab ext nb L24_2) := eL_loop _ _ _
def B24_0 : C := .seq (.seq (.reg [⟨some 6, .mv (.t 4) false, none⟩, ⟨some 7, .fa 3 (.t 1), none⟩, ⟨some 8, .load 1 false (.t 7) false, none⟩, ⟨some 9, .len (.t 8), none⟩, ⟨some 10, .bin .lss (.t 6) (.t 9), none⟩])
  (.cond (.t 10) (.skip)
  (.exit 0)))
  (.seq (.block 1 (.seq (.reg [⟨some 13, .mv (.t 3) false, none⟩, ⟨some 14, .len (.t 13), none⟩, ⟨some 5, .mv (.t 14) true, none⟩])
  (.seq (.block 2 (L24_2))
  (.reg [⟨some 38, .mv (.t 3) false, none⟩, ⟨some 39, .mv (.t 5) false, none⟩, ⟨some 40, .slc 1 (.t 38) none (some (.t 39)) none, none⟩, ⟨some 41, .app 1 8 (.c (.slice none 0 0)) (.t 40) false, none⟩, ⟨some 42, .mv (.t 4) false, none⟩, ⟨some 43, .bsl 1 1 [(.int .i64 0)] [(0, 1, (.t 42))] false, none⟩, ⟨some 44, .app 1 8 (.t 41) (.t 43) false, none⟩, ⟨some 45, .mv (.t 3) false, none⟩, ⟨some 46, .mv (.t 5) false, none⟩, ⟨some 47, .slc 1 (.t 45) (some (.t 46)) none none, none⟩, ⟨some 48, .app 1 8 (.t 44) (.t 47) false, none⟩, ⟨some 3, .mv (.t 48) true, none⟩]))))
  (.reg [⟨some 11, .mv (.t 4) false, none⟩, ⟨some 12, .bin .add (.t 11) (.c (.int .i64 1)), none⟩, ⟨some 4, .mv (.t 12) true, none⟩]))
def L24_0 : C := .loop [1, 3, 4] 1 B24_0
theorem go24_0 (s : Env × Bx) (nb) : evL tab ext nb L24_0 s = (loopIn nb [1, 3, 4] 1 s).bind fun s0 => (evL tab ext nb B24_0 s0).bind (seqG tab ext nb L24_0) := eL_loop _ _ _
/-- swingbridge/swingbridgeref7.Order -/
def C24 : CFun := ⟨50, 1, .seq (.reg [⟨some 1, .box (.t 0), none⟩, ⟨some 2, .mv (.c (.slice none 0 0)) true, none⟩])
  (.seq (.reg [⟨some 3, .mv (.c (.slice none 0 0)) true, none⟩])
  (.seq (.seq (.reg [⟨some 4, .mv (.c (.int .i64 0)) true, none⟩])
  (.block 0 (L24_0)))
  (.seq (.reg [⟨some 49, .mv (.t 3) false, none⟩, ⟨some 2, .mv (.t 49) true, none⟩])
  (.ret)))), [.t 2]⟩
theorem row24 : RowOk Tryz.prog 24 C24 := ⟨Tryz.f24, ⟨[], [], [], []⟩, lvOf [(0, [1, 3, 4], 1), (2, [1, 3, 4, 5], 1)], Tryz.func24, by kernel_rfl, by kernel_rfl⟩
/-- swingbridge/words.Text -/
def C25 : CFun := ⟨11, 1, .seq (.reg [⟨some 2, .mv (.c (.string ⟨#[]⟩)) true, none⟩])
  (.seq (.seq (.reg [⟨some 3, .mv (.t 0) false, none⟩, ⟨some 4, .bin .lss (.t 3) (.c (.int .i64 0)), none⟩, ⟨some 5, .mv (.t 4) false, none⟩, ⟨some 6, .mv (.t 0) false, some (5, false)⟩, ⟨some 7, .bin .gtr (.t 6) (.c (.int .i64 9999999)), some (5, false)⟩, ⟨some 8, .pick (.t 5) (.c (.bool true)) (.t 7), none⟩])
  (.cond (.t 8) (.seq (.reg [⟨some 2, .mv (.c (.string ⟨#[]⟩)) true, none⟩])
  (.ret))
  (.skip)))
  (.seq (.reg [⟨some 9, .mv (.t 0) false, none⟩, ⟨some 10, .call 38 [(.t 9)] false, none⟩, ⟨some 2, .mv (.t 10) true, none⟩])
  (.ret))), [.t 2]⟩
theorem row25 : RowOk Tryz.prog 25 C25 := ⟨Tryz.f25, ⟨[], [], [], []⟩, lvOf [], Tryz.func25, by kernel_rfl, by kernel_rfl⟩
/-- swingbridge/task.between -/
def C26 : CFun := ⟨15, 3, .seq (.reg [⟨some 6, .mv (.c (.bool false)) true, none⟩])
  (.seq (.reg [⟨some 7, .mv (.t 0) false, none⟩, ⟨some 8, .mv (.t 1) false, none⟩, ⟨some 9, .bin .geq (.t 7) (.t 8), none⟩, ⟨some 10, .mv (.t 9) false, none⟩, ⟨some 11, .mv (.t 0) false, some (10, true)⟩, ⟨some 12, .mv (.t 2) false, some (10, true)⟩, ⟨some 13, .bin .leq (.t 11) (.t 12), some (10, true)⟩, ⟨some 14, .pick (.t 10) (.t 13) (.c (.bool false)), none⟩, ⟨some 6, .mv (.t 14) true, none⟩])
  (.ret)), [.t 6]⟩
theorem row26 : RowOk Tryz.prog 26 C26 := ⟨Tryz.f26, ⟨[], [], [], []⟩, lvOf [], Tryz.func26, by kernel_rfl, by kernel_rfl⟩
/-- swingbridge/task.placed -/
def C27 : CFun := ⟨32, 1, .seq (.reg [⟨some 1, .box (.t 0), none⟩, ⟨some 2, .mv (.c (.bool false)) true, none⟩])
  (.seq (.reg [⟨some 6, .fa 1 (.t 1), none⟩, ⟨some 7, .load 1 false (.t 6) false, none⟩, ⟨some 8, .len (.t 7), none⟩, ⟨some 9, .call 26 [(.t 8), (.c (.int .i64 1)), (.c (.int .i64 3))] false, none⟩, ⟨some 10, .mv (.t 9) false, none⟩, ⟨some 11, .fa 2 (.t 1), some (10, true)⟩, ⟨some 12, .load 1 false (.t 11) false, some (10, true)⟩, ⟨some 13, .len (.t 12), some (10, true)⟩, ⟨some 14, .bin .leq (.t 13) (.c (.int .i64 4)), some (10, true)⟩, ⟨some 15, .pick (.t 10) (.t 14) (.c (.bool false)), none⟩, ⟨some 3, .mv (.t 15) true, none⟩])
  (.seq (.reg [⟨some 4, .mv (.f 39) true, none⟩])
  (.seq (.reg [⟨some 16, .mkf 40 [(.t 1)], none⟩, ⟨some 5, .mv (.t 16) true, none⟩])
  (.seq (.reg [⟨some 17, .mv (.t 3) false, none⟩, ⟨some 18, .mv (.t 17) false, none⟩, ⟨some 19, .fa 1 (.t 1), some (18, true)⟩, ⟨some 20, .load 1 false (.t 19) false, some (18, true)⟩, ⟨some 21, .mv (.t 4) false, some (18, true)⟩, ⟨some 22, .calli 41 [(.t 20), (.t 21)], some (18, true)⟩, ⟨some 23, .un .not (.t 22), some (18, true)⟩, ⟨some 24, .pick (.t 18) (.t 23) (.c (.bool false)), none⟩, ⟨some 25, .mv (.t 24) false, none⟩, ⟨some 26, .fa 2 (.t 1), some (25, true)⟩, ⟨some 27, .load 1 false (.t 26) false, some (25, true)⟩, ⟨some 28, .mv (.t 5) false, some (25, true)⟩, ⟨some 29, .calli 41 [(.t 27), (.t 28)], some (25, true)⟩, ⟨some 30, .un .not (.t 29), some (25, true)⟩, ⟨some 31, .pick (.t 25) (.t 30) (.c (.bool false)), none⟩, ⟨some 2, .mv (.t 31) true, none⟩])
  (.ret))))), [.t 2]⟩
theorem row27 : RowOk Tryz.prog 27 C27 := ⟨Tryz.f27, ⟨[], [], [], []⟩, lvOf [], Tryz.func27, by kernel_rfl, by kernel_rfl⟩
/-- swingbridge/task.one -/
def C28 : CFun := ⟨60, 2, .seq (.reg [⟨some 2, .box (.t 0), none⟩, ⟨some 4, .mv (.c (.int .i64 0)) true, none⟩])
  (.seq (.reg [⟨some 7, .fa 3 (.t 2), none⟩, ⟨some 8, .load 1 false (.t 7) false, none⟩, ⟨some 9, .mv (.t 1) false, none⟩, ⟨some 10, .ia 6 (.t 8) (.t 9), none⟩, ⟨some 11, .load 6 true (.t 10) false, none⟩, ⟨some 5, .alloc [(.string ⟨#[]⟩), (.int .i64 0), (.int .i64 0), (.int .i64 0), (.int .i64 0), (.slice none 0 0)], none⟩, ⟨none, .store 6 (.t 5) (.t 11), none⟩])
  (.seq (.reg [⟨some 12, .mkf 42 [(.t 5)], none⟩, ⟨some 6, .mv (.t 12) true, none⟩])
  (.seq (.block 0 (.seq (.reg [⟨some 14, .fa 0 (.t 5), none⟩, ⟨some 15, .load 1 false (.t 14) false, none⟩, ⟨some 16, .call 43 [(.t 15)] false, none⟩, ⟨some 17, .un .not (.t 16), none⟩, ⟨some 18, .mv (.t 17) false, none⟩, ⟨some 19, .fa 1 (.t 5), some (18, false)⟩, ⟨some 20, .load 1 false (.t 19) false, some (18, false)⟩, ⟨some 21, .call 26 [(.t 20), (.c (.int .i64 1)), (.c (.int .i64 3000))] false, some (18, false)⟩, ⟨some 22, .un .not (.t 21), some (18, false)⟩, ⟨some 23, .pick (.t 18) (.c (.bool true)) (.t 22), none⟩, ⟨some 24, .mv (.t 23) false, none⟩, ⟨some 25, .fa 2 (.t 5), some (24, false)⟩, ⟨some 26, .load 1 false (.t 25) false, some (24, false)⟩, ⟨some 27, .fa 1 (.t 5), some (24, false)⟩, ⟨some 28, .load 1 false (.t 27) false, some (24, false)⟩, ⟨some 29, .call 26 [(.t 26), (.c (.int .i64 1)), (.t 28)] false, some (24, false)⟩, ⟨some 30, .un .not (.t 29), some (24, false)⟩, ⟨some 31, .pick (.t 24) (.c (.bool true)) (.t 30), none⟩, ⟨some 32, .mv (.t 31) false, none⟩, ⟨some 33, .fa 3 (.t 5), some (32, false)⟩, ⟨some 34, .load 1 false (.t 33) false, some (32, false)⟩, ⟨some 35, .call 26 [(.t 34), (.c (.int .i64 1)), (.c (.int .i64 1000))] false, some (32, false)⟩, ⟨some 36, .un .not (.t 35), some (32, false)⟩, ⟨some 37, .pick (.t 32) (.c (.bool true)) (.t 36), none⟩, ⟨some 13, .mv (.t 37) true, none⟩])
  (.cond (.t 13) (.seq (.reg [⟨some 4, .mv (.c (.int .i64 10)) true, none⟩])
  (.ret))
  (.seq (.reg [⟨some 39, .fa 4 (.t 5), none⟩, ⟨some 40, .load 1 false (.t 39) false, none⟩, ⟨some 41, .fa 1 (.t 2), none⟩, ⟨some 42, .load 1 false (.t 41) false, none⟩, ⟨some 43, .len (.t 42), none⟩, ⟨some 44, .bin .sub (.t 43) (.c (.int .i64 1)), none⟩, ⟨some 45, .call 26 [(.t 40), (.c (.int .i64 0)), (.t 44)] false, none⟩, ⟨some 46, .un .not (.t 45), none⟩, ⟨some 38, .mv (.t 46) true, none⟩])
  (.cond (.t 38) (.seq (.reg [⟨some 4, .mv (.c (.int .i64 16)) true, none⟩])
  (.ret))
  (.seq (.reg [⟨some 48, .fa 3 (.t 2), none⟩, ⟨some 49, .load 1 false (.t 48) false, none⟩, ⟨some 50, .mv (.t 1) false, none⟩, ⟨some 51, .slc 6 (.t 49) none (some (.t 50)) none, none⟩, ⟨some 52, .mv (.t 6) false, none⟩, ⟨some 53, .calli 44 [(.t 51), (.t 52)], none⟩, ⟨some 47, .mv (.t 53) true, none⟩])
  (.cond (.t 47) (.seq (.reg [⟨some 4, .mv (.c (.int .i64 17)) true, none⟩])
  (.ret))
  (.seq (.reg [⟨some 55, .load 4 true (.t 2) false, none⟩, ⟨some 56, .fa 5 (.t 5), none⟩, ⟨some 57, .load 1 false (.t 56) false, none⟩, ⟨some 58, .call 45 [(.t 55), (.t 57)] false, none⟩, ⟨some 59, .un .not (.t 58), none⟩, ⟨some 54, .mv (.t 59) true, none⟩])
  (.cond (.t 54) (.seq (.reg [⟨some 4, .mv (.c (.int .i64 15)) true, none⟩])
  (.ret))
  (.skip))))))))))
  (.seq (.reg [⟨some 4, .mv (.c (.int .i64 0)) true, none⟩])
  (.ret))))), [.t 4]⟩
theorem row28 : RowOk Tryz.prog 28 C28 := ⟨Tryz.f28, ⟨[], [], [], []⟩, lvOf [], Tryz.func28, by kernel_rfl, by kernel_rfl⟩
def B29_0 : C := .seq (.reg [⟨some 13, .bin .lss (.t 12) (.t 11), none⟩])
  (.seq (.cond (.t 13) (.skip)
  (.exit 0))
  (.seq (.block 1 (.seq (.reg [⟨some 14, .ia 6 (.t 10) (.t 12), none⟩, ⟨some 15, .load 6 true (.t 14) false, none⟩, ⟨some 6, .alloc [(.string ⟨#[]⟩), (.int .i64 0), (.int .i64 0), (.int .i64 0), (.int .i64 0), (.slice none 0 0)], none⟩, ⟨none, .store 6 (.t 6) (.t 15), none⟩])
  (.reg [⟨some 16, .mv (.t 4) true, none⟩, ⟨some 17, .load 6 true (.t 6) false, none⟩, ⟨some 18, .call 46 [(.t 17)] false, none⟩, ⟨some 19, .load 6 true (.t 6) false, none⟩, ⟨some 20, .call 47 [(.t 19)] false, none⟩, ⟨some 21, .bin .add (.t 18) (.t 20), none⟩, ⟨some 22, .load 6 true (.t 6) false, none⟩, ⟨some 23, .call 48 [(.t 22)] false, none⟩, ⟨some 24, .bin .add (.t 21) (.t 23), none⟩, ⟨some 25, .bsl 1 1 [(.int .i64 0)] [(0, 1, (.t 24))] false, none⟩, ⟨some 26, .app 1 8 (.t 16) (.t 25) false, none⟩, ⟨some 4, .mv (.t 26) true, none⟩])))
  (.reg [⟨some 27, .bin .add (.t 12) (.c (.int .i64 1)), none⟩, ⟨some 12, .mv (.t 27) false, none⟩])))
def L29_0 : C := .loop [1, 4, 10, 11, 12] 1 B29_0
theorem go29_0 (s : Env × Bx) (nb) : evL tab ext nb L29_0 s = (loopIn nb [1, 4, 10, 11, 12] 1 s).bind fun s0 => (evL tab ext nb B29_0 s0).bind (seqG tab ext nb L29_0) := eL_loop _ _ _
def B29_2 : C := .seq (.reg [⟨some 29, .bin .lss (.t 28) (.c (.int .i64 200)), none⟩])
  (.seq (.cond (.t 29) (.skip)
  (.exit 2))
  (.seq (.block 3 (.seq (.reg [⟨some 31, .load 4 true (.t 1) false, none⟩, ⟨some 32, .mv (.t 4) false, none⟩, ⟨some 33, .call 49 [(.t 31), (.t 32)] false, none⟩, ⟨some 30, .mv (.t 33) false, none⟩, ⟨some 34, .ext (.t 30) 0, none⟩, ⟨some 35, .ext (.t 30) 1, none⟩, ⟨some 7, .mv (.t 34) true, none⟩, ⟨some 8, .mv (.t 35) true, none⟩])
  (.seq (.block 4 (.seq (.reg [⟨some 37, .mv (.t 8) false, none⟩, ⟨some 38, .un .not (.t 37), none⟩, ⟨some 36, .mv (.t 38) true, none⟩])
  (.cond (.t 36) (.seq (.reg [⟨some 2, .mv (.c (.slice none 0 0)) true, none⟩, ⟨some 3, .mv (.c (.int .i64 19)) true, none⟩])
  (.ret))
  (.seq (.reg [⟨some 40, .mv (.t 7) false, none⟩, ⟨some 41, .mv (.t 4) false, none⟩, ⟨some 42, .call 50 [(.t 40), (.t 41)] false, none⟩, ⟨some 39, .mv (.t 42) true, none⟩])
  (.cond (.t 39) (.seq (.reg [⟨some 43, .mv (.t 4) false, none⟩, ⟨some 2, .mv (.t 43) true, none⟩, ⟨some 3, .mv (.c (.int .i64 0)) true, none⟩])
  (.ret))
  (.skip))))))
  (.seq (.reg [⟨some 44, .mv (.t 7) false, none⟩, ⟨some 4, .mv (.t 44) true, none⟩])
  (.exit 3)))))
  (.reg [⟨some 45, .bin .add (.t 28) (.c (.int .i64 1)), none⟩, ⟨some 28, .mv (.t 45) false, none⟩])))
def L29_2 : C := .loop [1, 4, 28] 1 B29_2
theorem go29_2 (s : Env × Bx) (nb) : evL tab ext nb L29_2 s = (loopIn nb [1, 4, 28] 1 s).bind fun s0 => (evL tab ext nb B29_2 s0).bind (seqG tab ext nb L29_2) := eL_loop _ _ _
/-- swingbridge/admit.least -/
def C29 : CFun := ⟨46, 1, .seq (.reg [⟨some 1, .box (.t 0), none⟩, ⟨some 2, .mv (.c (.slice none 0 0)) true, none⟩, ⟨some 3, .mv (.c (.int .i64 0)) true, none⟩])
  (.scope (.seq (.reg [⟨some 4, .mv (.c (.slice none 0 0)) true, none⟩])
  (.seq (.seq (.reg [⟨some 9, .fa 3 (.t 1), none⟩, ⟨some 10, .load 1 false (.t 9) false, none⟩, ⟨some 11, .len (.t 10), none⟩, ⟨some 12, .mv (.c (.int .i64 0)) false, none⟩])
  (.block 0 (L29_0)))
  (.seq (.skip)
  (.seq (.seq (.reg [⟨some 28, .mv (.c (.int .i64 0)) false, none⟩])
  (.block 2 (L29_2)))
  (.seq (.reg [⟨some 2, .mv (.c (.slice none 0 0)) true, none⟩, ⟨some 3, .mv (.c (.int .i64 20)) true, none⟩])
  (.ret))))))), [.t 2, .t 3]⟩
theorem row29 : RowOk Tryz.prog 29 C29 := ⟨Tryz.f29, ⟨[], [], [], []⟩, lvOf [(0, [1, 4, 10, 11, 12], 1), (2, [1, 4, 28], 1)], Tryz.func29, by kernel_rfl, by kernel_rfl⟩
def B30_0 : C := .seq (.reg [⟨some 49, .bin .lss (.t 48) (.t 47), none⟩])
  (.seq (.cond (.t 49) (.skip)
  (.exit 0))
  (.seq (.block 1 (.seq (.reg [⟨some 50, .mv (.t 48) false, none⟩, ⟨some 51, .ia 3 (.t 46) (.t 48), none⟩, ⟨some 52, .load 3 true (.t 51) false, none⟩, ⟨some 12, .alloc [(.int .i64 0), (.int .i64 0), (.int .i64 0)], none⟩, ⟨some 11, .mv (.t 50) true, none⟩, ⟨none, .store 3 (.t 12) (.t 52), none⟩])
  (.seq (.seq (.reg [⟨some 53, .fa 0 (.t 12), none⟩, ⟨some 54, .load 1 false (.t 53) false, none⟩, ⟨some 55, .bin .neq (.t 54) (.c (.int .i64 3)), none⟩])
  (.cond (.t 55) (.exit 1)
  (.skip)))
  (.seq (.reg [⟨some 57, .load 4 true (.t 3) false, none⟩, ⟨some 58, .mv (.t 1) false, none⟩, ⟨some 59, .mv (.t 2) false, none⟩, ⟨some 60, .mv (.t 11) false, none⟩, ⟨some 61, .call 51 [(.t 57), (.t 58), (.t 59), (.t 60)] false, none⟩, ⟨some 56, .mv (.t 61) false, none⟩, ⟨some 62, .ext (.t 56) 0, none⟩, ⟨some 63, .ext (.t 56) 1, none⟩, ⟨some 13, .mv (.t 62) true, none⟩, ⟨some 14, .mv (.t 63) true, none⟩])
  (.seq (.seq (.reg [⟨some 64, .mv (.t 14) false, none⟩, ⟨some 65, .un .not (.t 64), none⟩])
  (.cond (.t 65) (.seq (.reg [⟨some 6, .mv (.c (.slice none 0 0)) true, none⟩, ⟨some 7, .mv (.c (.bool false)) true, none⟩])
  (.ret))
  (.skip)))
  (.reg [⟨some 66, .mv (.t 10) false, none⟩, ⟨some 67, .mv (.t 11) false, none⟩, ⟨some 68, .mv (.t 13) false, none⟩, ⟨some 69, .ia 1 (.t 66) (.t 67), none⟩, ⟨none, .store 1 (.t 69) (.t 68), none⟩]))))))
  (.reg [⟨some 70, .bin .add (.t 48) (.c (.int .i64 1)), none⟩, ⟨some 48, .mv (.t 70) false, none⟩])))
def L30_0 : C := .loop [1, 2, 3, 10, 46, 47, 48] 2 B30_0
theorem go30_0 (s : Env × Bx) (nb) : evL tab ext nb L30_0 s = (loopIn nb [1, 2, 3, 10, 46, 47, 48] 2 s).bind fun s0 => (evL tab ext nb B30_0 s0).bind (seqG tab ext nb L30_0) := eL_loop _ _ _
/-- swingbridge/wait.All -/
def C30 : CFun := ⟨72, 3, .seq (.reg [⟨some 3, .box (.t 0), none⟩, ⟨some 6, .mv (.c (.slice none 0 0)) true, none⟩, ⟨some 7, .mv (.c (.bool false)) true, none⟩])
  (.scope (.seq (.seq (.reg [⟨some 16, .load 4 true (.t 3) false, none⟩, ⟨some 17, .call 17 [(.t 16)] false, none⟩, ⟨some 15, .mv (.t 17) false, none⟩, ⟨some 18, .ext (.t 15) 0, none⟩, ⟨some 19, .ext (.t 15) 1, none⟩, ⟨some 8, .mv (.t 18) true, none⟩, ⟨some 9, .mv (.t 19) true, none⟩])
  (.seq (.reg [⟨some 20, .mv (.t 9) false, none⟩, ⟨some 21, .bin .neq (.t 20) (.c (.int .i64 0)), none⟩, ⟨some 22, .mv (.t 21) false, none⟩, ⟨some 23, .mv (.t 2) false, some (22, false)⟩, ⟨some 24, .bin .lss (.t 23) (.c (.int .i64 0)), some (22, false)⟩, ⟨some 25, .pick (.t 22) (.c (.bool true)) (.t 24), none⟩, ⟨some 26, .mv (.t 25) false, none⟩, ⟨some 27, .mv (.t 2) false, some (26, false)⟩, ⟨some 28, .fa 3 (.t 3), some (26, false)⟩, ⟨some 29, .load 1 false (.t 28) false, some (26, false)⟩, ⟨some 30, .len (.t 29), some (26, false)⟩, ⟨some 31, .bin .geq (.t 27) (.t 30), some (26, false)⟩, ⟨some 32, .pick (.t 26) (.c (.bool true)) (.t 31), none⟩])
  (.cond (.t 32) (.seq (.reg [⟨some 6, .mv (.c (.slice none 0 0)) true, none⟩, ⟨some 7, .mv (.c (.bool false)) true, none⟩])
  (.ret))
  (.skip))))
  (.seq (.reg [⟨some 33, .fa 3 (.t 3), none⟩, ⟨some 34, .load 1 false (.t 33) false, none⟩, ⟨some 35, .mv (.t 2) false, none⟩, ⟨some 36, .ia 6 (.t 34) (.t 35), none⟩, ⟨some 37, .fa 5 (.t 36), none⟩, ⟨some 38, .load 1 false (.t 37) false, none⟩, ⟨some 39, .len (.t 38), none⟩, ⟨some 40, .mksl 1 8 [(.int .i64 0)] (.t 39) true, none⟩, ⟨some 10, .mv (.t 40) true, none⟩])
  (.seq (.skip)
  (.seq (.seq (.reg [⟨some 41, .fa 3 (.t 3), none⟩, ⟨some 42, .load 1 false (.t 41) false, none⟩, ⟨some 43, .mv (.t 2) false, none⟩, ⟨some 44, .ia 6 (.t 42) (.t 43), none⟩, ⟨some 45, .fa 5 (.t 44), none⟩, ⟨some 46, .load 1 false (.t 45) false, none⟩, ⟨some 47, .len (.t 46), none⟩, ⟨some 48, .mv (.c (.int .i64 0)) false, none⟩])
  (.block 0 (L30_0)))
  (.seq (.reg [⟨some 71, .mv (.t 10) false, none⟩, ⟨some 6, .mv (.t 71) true, none⟩, ⟨some 7, .mv (.c (.bool true)) true, none⟩])
  (.ret))))))), [.t 6, .t 7]⟩
theorem row30 : RowOk Tryz.prog 30 C30 := ⟨Tryz.f30, ⟨[], [40], [], []⟩, lvOf [(0, [1, 2, 3, 10, 46, 47, 48], 2)], Tryz.func30, by kernel_rfl, by kernel_rfl⟩
def B31_0 : C := .block 1 (.seq (.reg [⟨some 21, .mv (.t 2) false, none⟩, ⟨some 22, .mv (.t 1) false, none⟩, ⟨some 23, .bin .sub (.t 21) (.t 22), none⟩, ⟨some 12, .mv (.t 23) true, none⟩])
  (.seq (.seq (.reg [⟨some 24, .mv (.t 12) false, none⟩, ⟨some 25, .bin .leq (.t 24) (.c (.int .i64 12)), none⟩])
  (.cond (.t 25) (.seq (.reg [⟨some 26, .mv (.t 0) false, none⟩, ⟨some 27, .mv (.t 1) false, none⟩, ⟨some 28, .mv (.t 2) false, none⟩, ⟨some 29, .mv (.t 4) false, none⟩, ⟨some 30, .calli 52 [(.t 26), (.t 27), (.t 28), (.t 29)], none⟩])
  (.ret))
  (.skip)))
  (.seq (.seq (.reg [⟨some 31, .mv (.t 3) false, none⟩, ⟨some 32, .bin .eql (.t 31) (.c (.int .i64 0)), none⟩])
  (.cond (.t 32) (.seq (.reg [⟨some 33, .mv (.t 0) false, none⟩, ⟨some 34, .mv (.t 1) false, none⟩, ⟨some 35, .mv (.t 2) false, none⟩, ⟨some 36, .mv (.t 4) false, none⟩, ⟨some 37, .calli 53 [(.t 33), (.t 34), (.t 35), (.t 36)], none⟩])
  (.ret))
  (.skip)))
  (.seq (.seq (.reg [⟨some 38, .mv (.t 10) false, none⟩, ⟨some 39, .un .not (.t 38), none⟩])
  (.cond (.t 39) (.seq (.reg [⟨some 40, .mv (.t 0) false, none⟩, ⟨some 41, .mv (.t 1) false, none⟩, ⟨some 42, .mv (.t 2) false, none⟩, ⟨some 43, .mv (.t 4) false, none⟩, ⟨some 44, .calli 54 [(.t 40), (.t 41), (.t 42), (.t 43)], none⟩])
  (.reg [⟨some 45, .mv (.t 3) false, none⟩, ⟨some 46, .bin .sub (.t 45) (.c (.int .i64 1)), none⟩, ⟨some 3, .mv (.t 46) true, none⟩]))
  (.skip)))
  (.seq (.reg [⟨some 48, .mv (.t 0) false, none⟩, ⟨some 49, .mv (.t 1) false, none⟩, ⟨some 50, .mv (.t 2) false, none⟩, ⟨some 51, .mv (.t 4) false, none⟩, ⟨some 52, .calli 55 [(.t 48), (.t 49), (.t 50), (.t 51)], none⟩, ⟨some 47, .mv (.t 52) false, none⟩, ⟨some 53, .ext (.t 47) 0, none⟩, ⟨some 54, .ext (.t 47) 1, none⟩, ⟨some 13, .mv (.t 53) true, none⟩, ⟨some 14, .mv (.t 54) true, none⟩])
  (.seq (.seq (.reg [⟨some 55, .mv (.t 14) false, none⟩, ⟨some 56, .bin .eql (.t 55) (.c (.int .i64 2)), none⟩])
  (.cond (.t 56) (.seq (.reg [⟨some 57, .mv (.t 0) false, none⟩, ⟨some 58, .mv (.t 1) false, none⟩, ⟨some 59, .mv (.t 2) false, none⟩, ⟨some 60, .mv (.t 4) false, none⟩, ⟨some 61, .calli 56 [(.t 57), (.t 58), (.t 59), (.t 60)], none⟩])
  (.seq (.reg [⟨some 62, .mv (.t 2) false, none⟩, ⟨some 63, .bin .sub (.t 62) (.c (.int .i64 1)), none⟩, ⟨some 64, .mv (.t 13) false, none⟩, ⟨some 65, .mv (.t 1) false, none⟩, ⟨some 66, .bin .sub (.t 64) (.t 65), none⟩, ⟨some 67, .bin .sub (.t 63) (.t 66), none⟩, ⟨some 13, .mv (.t 67) true, none⟩])
  (.reg [⟨some 14, .mv (.c (.int .i64 1)) true, none⟩])))
  (.skip)))
  (.seq (.seq (.reg [⟨some 68, .mv (.t 10) false, none⟩, ⟨some 69, .mv (.t 68) false, none⟩, ⟨some 70, .mv (.t 11) false, some (69, true)⟩, ⟨some 71, .pick (.t 69) (.t 70) (.c (.bool false)), none⟩, ⟨some 72, .mv (.t 71) false, none⟩, ⟨some 73, .mv (.t 14) false, some (72, true)⟩, ⟨some 74, .bin .eql (.t 73) (.c (.int .i64 1)), some (72, true)⟩, ⟨some 75, .pick (.t 72) (.t 74) (.c (.bool false)), none⟩])
  (.cond (.t 75) (.seq (.reg [⟨some 76, .mv (.t 0) false, none⟩, ⟨some 77, .mv (.t 1) false, none⟩, ⟨some 78, .mv (.t 2) false, none⟩, ⟨some 79, .mv (.t 4) false, none⟩, ⟨some 80, .calli 57 [(.t 76), (.t 77), (.t 78), (.t 79)], none⟩])
  (.cond (.t 80) (.ret)
  (.skip)))
  (.skip)))
  (.seq (.seq (.reg [⟨some 81, .mv (.t 1) false, none⟩, ⟨some 82, .bin .gtr (.t 81) (.c (.int .i64 0)), none⟩, ⟨some 83, .mv (.t 82) false, none⟩, ⟨some 84, .mv (.t 4) false, some (83, true)⟩, ⟨some 85, .mv (.t 0) false, some (83, true)⟩, ⟨some 86, .mv (.t 1) false, some (83, true)⟩, ⟨some 87, .bin .sub (.t 86) (.c (.int .i64 1)), some (83, true)⟩, ⟨some 88, .ia 1 (.t 85) (.t 87), some (83, true)⟩, ⟨some 89, .load 1 false (.t 88) false, some (83, true)⟩, ⟨some 90, .mv (.t 0) false, some (83, true)⟩, ⟨some 91, .mv (.t 13) false, some (83, true)⟩, ⟨some 92, .ia 1 (.t 90) (.t 91), some (83, true)⟩, ⟨some 93, .load 1 false (.t 92) false, some (83, true)⟩, ⟨some 94, .callv (.t 84) [(.t 89), (.t 93)], some (83, true)⟩, ⟨some 95, .bin .lss (.t 94) (.c (.int .i64 0)), some (83, true)⟩, ⟨some 96, .un .not (.t 95), some (83, true)⟩, ⟨some 97, .pick (.t 83) (.t 96) (.c (.bool false)), none⟩])
  (.cond (.t 97) (.seq (.reg [⟨some 98, .mv (.t 0) false, none⟩, ⟨some 99, .mv (.t 1) false, none⟩, ⟨some 100, .mv (.t 2) false, none⟩, ⟨some 101, .mv (.t 13) false, none⟩, ⟨some 102, .mv (.t 4) false, none⟩, ⟨some 103, .calli 58 [(.t 98), (.t 99), (.t 100), (.t 101), (.t 102)], none⟩, ⟨some 15, .mv (.t 103) true, none⟩])
  (.seq (.reg [⟨some 104, .mv (.t 15) false, none⟩, ⟨some 1, .mv (.t 104) true, none⟩])
  (.exit 1)))
  (.skip)))
  (.seq (.reg [⟨some 106, .mv (.t 0) false, none⟩, ⟨some 107, .mv (.t 1) false, none⟩, ⟨some 108, .mv (.t 2) false, none⟩, ⟨some 109, .mv (.t 13) false, none⟩, ⟨some 110, .mv (.t 4) false, none⟩, ⟨some 111, .calli 59 [(.t 106), (.t 107), (.t 108), (.t 109), (.t 110)], none⟩, ⟨some 105, .mv (.t 111) false, none⟩, ⟨some 112, .ext (.t 105) 0, none⟩, ⟨some 113, .ext (.t 105) 1, none⟩, ⟨some 16, .mv (.t 112) true, none⟩, ⟨some 17, .mv (.t 113) true, none⟩])
  (.seq (.reg [⟨some 114, .mv (.t 17) false, none⟩, ⟨some 11, .mv (.t 114) true, none⟩])
  (.seq (.reg [⟨some 115, .mv (.t 16) false, none⟩, ⟨some 116, .mv (.t 1) false, none⟩, ⟨some 117, .bin .sub (.t 115) (.t 116), none⟩, ⟨some 118, .mv (.t 2) false, none⟩, ⟨some 119, .mv (.t 16) false, none⟩, ⟨some 120, .bin .sub (.t 118) (.t 119), none⟩, ⟨some 18, .mv (.t 117) true, none⟩, ⟨some 19, .mv (.t 120) true, none⟩])
  (.seq (.reg [⟨some 121, .mv (.t 12) false, none⟩, ⟨some 122, .bin .quo (.t 121) (.c (.int .i64 8)), none⟩, ⟨some 20, .mv (.t 122) true, none⟩])
  (.seq (.reg [⟨some 123, .mv (.t 18) false, none⟩, ⟨some 124, .mv (.t 19) false, none⟩, ⟨some 125, .bin .lss (.t 123) (.t 124), none⟩])
  (.cond (.t 125) (.seq (.reg [⟨some 126, .mv (.t 18) false, none⟩, ⟨some 127, .mv (.t 20) false, none⟩, ⟨some 128, .bin .geq (.t 126) (.t 127), none⟩, ⟨some 10, .mv (.t 128) true, none⟩])
  (.seq (.reg [⟨some 129, .mv (.t 0) false, none⟩, ⟨some 130, .mv (.t 1) false, none⟩, ⟨some 131, .mv (.t 16) false, none⟩, ⟨some 132, .mv (.t 3) false, none⟩, ⟨some 133, .mv (.t 4) false, none⟩, ⟨some 134, .calli 31 [(.t 129), (.t 130), (.t 131), (.t 132), (.t 133)], none⟩])
  (.reg [⟨some 135, .mv (.t 16) false, none⟩, ⟨some 136, .bin .add (.t 135) (.c (.int .i64 1)), none⟩, ⟨some 1, .mv (.t 136) true, none⟩])))
  (.seq (.reg [⟨some 137, .mv (.t 19) false, none⟩, ⟨some 138, .mv (.t 20) false, none⟩, ⟨some 139, .bin .geq (.t 137) (.t 138), none⟩, ⟨some 10, .mv (.t 139) true, none⟩])
  (.seq (.reg [⟨some 140, .mv (.t 0) false, none⟩, ⟨some 141, .mv (.t 16) false, none⟩, ⟨some 142, .bin .add (.t 141) (.c (.int .i64 1)), none⟩, ⟨some 143, .mv (.t 2) false, none⟩, ⟨some 144, .mv (.t 3) false, none⟩, ⟨some 145, .mv (.t 4) false, none⟩, ⟨some 146, .calli 31 [(.t 140), (.t 142), (.t 143), (.t 144), (.t 145)], none⟩])
  (.reg [⟨some 147, .mv (.t 16) false, none⟩, ⟨some 2, .mv (.t 147) true, none⟩])))))))))))))))))
def L31_0 : C := .loop [0, 1, 2, 3, 4, 10, 11] 0 B31_0
theorem go31_0 (s : Env × Bx) (nb) : evL tab ext nb L31_0 s = (loopIn nb [0, 1, 2, 3, 4, 10, 11] 0 s).bind fun s0 => (evL tab ext nb B31_0 s0).bind (seqG tab ext nb L31_0) := eL_loop _ _ _
/-- slices.pdqsortCmpFunc[int] -/
def C31 : CFun := ⟨148, 5, .seq (.reg [⟨some 10, .mv (.c (.bool true)) true, none⟩])
  (.seq (.reg [⟨some 11, .mv (.c (.bool true)) true, none⟩])
  (.block 0 (L31_0))), []⟩
theorem row31 : RowOk Tryz.prog 31 C31 := ⟨Tryz.f31, ⟨[], [], [], []⟩, lvOf [(0, [0, 1, 2, 3, 4, 10, 11], 0)], Tryz.func31, by kernel_rfl, by kernel_rfl⟩
/-- math/bits.Len -/
def C32 : CFun := ⟨8, 1, .seq (.reg [⟨some 2, .mv (.c (.int .i64 0)) true, none⟩])
  (.seq (.cond (.c (.bool false)) (.seq (.reg [⟨some 3, .mv (.t 0) false, none⟩, ⟨some 4, .conv .u32 (.t 3), none⟩, ⟨some 5, .call 60 [(.t 4)] false, none⟩, ⟨some 2, .mv (.t 5) true, none⟩])
  (.ret))
  (.skip))
  (.seq (.reg [⟨some 6, .mv (.t 0) false, none⟩, ⟨some 7, .call 61 [(.t 6)] false, none⟩, ⟨some 2, .mv (.t 7) true, none⟩])
  (.ret))), [.t 2]⟩
theorem row32 : RowOk Tryz.prog 32 C32 := ⟨Tryz.f32, ⟨[], [], [], []⟩, lvOf [], Tryz.func32, by kernel_rfl, by kernel_rfl⟩
def B33_0 : C := .seq (.seq (.reg [⟨some 21, .mv (.t 3) false, none⟩, ⟨some 22, .fa 1 (.t 1), none⟩, ⟨some 23, .load 1 false (.t 22) false, none⟩, ⟨some 24, .len (.t 23), none⟩, ⟨some 25, .bin .lss (.t 21) (.t 24), none⟩])
  (.cond (.t 25) (.skip)
  (.exit 0)))
  (.seq (.block 1 (.seq (.reg [⟨some 28, .fa 1 (.t 1), none⟩, ⟨some 29, .load 1 false (.t 28) false, none⟩, ⟨some 30, .mv (.t 3) false, none⟩, ⟨some 31, .ia 1 (.t 29) (.t 30), none⟩, ⟨some 32, .load 1 false (.t 31) false, none⟩, ⟨some 33, .bin .lss (.t 32) (.c (.int .i64 1)), none⟩, ⟨some 34, .mv (.t 33) false, none⟩, ⟨some 35, .fa 1 (.t 1), some (34, false)⟩, ⟨some 36, .load 1 false (.t 35) false, some (34, false)⟩, ⟨some 37, .mv (.t 3) false, some (34, false)⟩, ⟨some 38, .ia 1 (.t 36) (.t 37), some (34, false)⟩, ⟨some 39, .load 1 false (.t 38) false, some (34, false)⟩, ⟨some 40, .bin .gtr (.t 39) (.c (.int .i64 3)), some (34, false)⟩, ⟨some 41, .pick (.t 34) (.c (.bool true)) (.t 40), none⟩])
  (.cond (.t 41) (.seq (.reg [⟨some 2, .mv (.c (.bool false)) true, none⟩])
  (.ret))
  (.skip))))
  (.reg [⟨some 26, .mv (.t 3) false, none⟩, ⟨some 27, .bin .add (.t 26) (.c (.int .i64 1)), none⟩, ⟨some 3, .mv (.t 27) true, none⟩]))
def L33_0 : C := .loop [1, 3] 1 B33_0
theorem go33_0 (s : Env × Bx) (nb) : evL tab ext nb L33_0 s = (loopIn nb [1, 3] 1 s).bind fun s0 => (evL tab ext nb B33_0 s0).bind (seqG tab ext nb L33_0) := eL_loop _ _ _
def B33_2 : C := .seq (.seq (.reg [⟨some 42, .mv (.t 4) false, none⟩, ⟨some 43, .fa 2 (.t 1), none⟩, ⟨some 44, .load 1 false (.t 43) false, none⟩, ⟨some 45, .len (.t 44), none⟩, ⟨some 46, .bin .lss (.t 42) (.t 45), none⟩])
  (.cond (.t 46) (.skip)
  (.exit 2)))
  (.seq (.block 3 (.seq (.reg [⟨some 49, .fa 2 (.t 1), none⟩, ⟨some 50, .load 1 false (.t 49) false, none⟩, ⟨some 51, .mv (.t 4) false, none⟩, ⟨some 52, .ia 1 (.t 50) (.t 51), none⟩, ⟨some 53, .load 1 false (.t 52) false, none⟩, ⟨some 54, .bin .lss (.t 53) (.c (.int .i64 0)), none⟩, ⟨some 55, .mv (.t 54) false, none⟩, ⟨some 56, .fa 2 (.t 1), some (55, false)⟩, ⟨some 57, .load 1 false (.t 56) false, some (55, false)⟩, ⟨some 58, .mv (.t 4) false, some (55, false)⟩, ⟨some 59, .ia 1 (.t 57) (.t 58), some (55, false)⟩, ⟨some 60, .load 1 false (.t 59) false, some (55, false)⟩, ⟨some 61, .fa 1 (.t 1), some (55, false)⟩, ⟨some 62, .load 1 false (.t 61) false, some (55, false)⟩, ⟨some 63, .len (.t 62), some (55, false)⟩, ⟨some 64, .bin .geq (.t 60) (.t 63), some (55, false)⟩, ⟨some 65, .pick (.t 55) (.c (.bool true)) (.t 64), none⟩])
  (.cond (.t 65) (.seq (.reg [⟨some 2, .mv (.c (.bool false)) true, none⟩])
  (.ret))
  (.skip))))
  (.reg [⟨some 47, .mv (.t 4) false, none⟩, ⟨some 48, .bin .add (.t 47) (.c (.int .i64 1)), none⟩, ⟨some 4, .mv (.t 48) true, none⟩]))
def L33_2 : C := .loop [1, 4] 1 B33_2
theorem go33_2 (s : Env × Bx) (nb) : evL tab ext nb L33_2 s = (loopIn nb [1, 4] 1 s).bind fun s0 => (evL tab ext nb B33_2 s0).bind (seqG tab ext nb L33_2) := eL_loop _ _ _
/-- swingbridge/swingbridgeref7.places -/
def C33 : CFun := ⟨66, 1, .seq (.reg [⟨some 1, .box (.t 0), none⟩, ⟨some 2, .mv (.c (.bool false)) true, none⟩])
  (.seq (.seq (.reg [⟨some 5, .fa 1 (.t 1), none⟩, ⟨some 6, .load 1 false (.t 5) false, none⟩, ⟨some 7, .len (.t 6), none⟩, ⟨some 8, .bin .lss (.t 7) (.c (.int .i64 1)), none⟩, ⟨some 9, .mv (.t 8) false, none⟩, ⟨some 10, .fa 1 (.t 1), some (9, false)⟩, ⟨some 11, .load 1 false (.t 10) false, some (9, false)⟩, ⟨some 12, .len (.t 11), some (9, false)⟩, ⟨some 13, .bin .gtr (.t 12) (.c (.int .i64 3)), some (9, false)⟩, ⟨some 14, .pick (.t 9) (.c (.bool true)) (.t 13), none⟩, ⟨some 15, .mv (.t 14) false, none⟩, ⟨some 16, .fa 2 (.t 1), some (15, false)⟩, ⟨some 17, .load 1 false (.t 16) false, some (15, false)⟩, ⟨some 18, .len (.t 17), some (15, false)⟩, ⟨some 19, .bin .gtr (.t 18) (.c (.int .i64 4)), some (15, false)⟩, ⟨some 20, .pick (.t 15) (.c (.bool true)) (.t 19), none⟩])
  (.cond (.t 20) (.seq (.reg [⟨some 2, .mv (.c (.bool false)) true, none⟩])
  (.ret))
  (.skip)))
  (.seq (.seq (.reg [⟨some 3, .mv (.c (.int .i64 0)) true, none⟩])
  (.block 0 (L33_0)))
  (.seq (.seq (.reg [⟨some 4, .mv (.c (.int .i64 0)) true, none⟩])
  (.block 2 (L33_2)))
  (.seq (.reg [⟨some 2, .mv (.c (.bool true)) true, none⟩])
  (.ret))))), [.t 2]⟩
theorem row33 : RowOk Tryz.prog 33 C33 := ⟨Tryz.f33, ⟨[], [], [], []⟩, lvOf [(0, [1, 3], 1), (2, [1, 4], 1)], Tryz.func33, by kernel_rfl, by kernel_rfl⟩
def B34_0 : C := .seq (.seq (.reg [⟨some 60, .mv (.t 6) false, none⟩, ⟨some 61, .mv (.t 1) false, none⟩, ⟨some 62, .bin .lss (.t 60) (.t 61), none⟩])
  (.cond (.t 62) (.skip)
  (.exit 0)))
  (.seq (.block 1 (.seq (.reg [⟨some 65, .fa 3 (.t 2), none⟩, ⟨some 66, .load 1 false (.t 65) false, none⟩, ⟨some 67, .mv (.t 6) false, none⟩, ⟨some 68, .ia 6 (.t 66) (.t 67), none⟩, ⟨some 69, .fa 0 (.t 68), none⟩, ⟨some 70, .load 1 false (.t 69) false, none⟩, ⟨some 71, .fa 0 (.t 5), none⟩, ⟨some 72, .load 1 false (.t 71) false, none⟩, ⟨some 73, .bin .eql (.t 70) (.t 72), none⟩, ⟨some 74, .mv (.t 73) false, none⟩, ⟨some 75, .fa 3 (.t 2), some (74, false)⟩, ⟨some 76, .load 1 false (.t 75) false, some (74, false)⟩, ⟨some 77, .mv (.t 6) false, some (74, false)⟩, ⟨some 78, .ia 6 (.t 76) (.t 77), some (74, false)⟩, ⟨some 79, .fa 3 (.t 78), some (74, false)⟩, ⟨some 80, .load 1 false (.t 79) false, some (74, false)⟩, ⟨some 81, .fa 3 (.t 5), some (74, false)⟩, ⟨some 82, .load 1 false (.t 81) false, some (74, false)⟩, ⟨some 83, .bin .eql (.t 80) (.t 82), some (74, false)⟩, ⟨some 84, .pick (.t 74) (.c (.bool true)) (.t 83), none⟩])
  (.cond (.t 84) (.seq (.reg [⟨some 4, .mv (.c (.int .i64 17)) true, none⟩])
  (.ret))
  (.skip))))
  (.reg [⟨some 63, .mv (.t 6) false, none⟩, ⟨some 64, .bin .add (.t 63) (.c (.int .i64 1)), none⟩, ⟨some 6, .mv (.t 64) true, none⟩]))
def L34_0 : C := .loop [1, 2, 5, 6] 2 B34_0
theorem go34_0 (s : Env × Bx) (nb) : evL tab ext nb L34_0 s = (loopIn nb [1, 2, 5, 6] 2 s).bind fun s0 => (evL tab ext nb B34_0 s0).bind (seqG tab ext nb L34_0) := eL_loop _ _ _
def B34_2 : C := .seq (.seq (.reg [⟨some 95, .mv (.t 7) false, none⟩, ⟨some 96, .fa 5 (.t 5), none⟩, ⟨some 97, .load 1 false (.t 96) false, none⟩, ⟨some 98, .len (.t 97), none⟩, ⟨some 99, .bin .lss (.t 95) (.t 98), none⟩])
  (.cond (.t 99) (.skip)
  (.exit 2)))
  (.seq (.block 3 (.seq (.reg [⟨some 102, .load 4 true (.t 2) false, none⟩, ⟨some 103, .fa 5 (.t 5), none⟩, ⟨some 104, .load 1 false (.t 103) false, none⟩, ⟨some 105, .mv (.t 7) false, none⟩, ⟨some 106, .ia 3 (.t 104) (.t 105), none⟩, ⟨some 107, .load 3 true (.t 106) false, none⟩, ⟨some 108, .call 63 [(.t 102), (.t 107)] false, none⟩, ⟨some 109, .un .not (.t 108), none⟩])
  (.cond (.t 109) (.seq (.reg [⟨some 4, .mv (.c (.int .i64 15)) true, none⟩])
  (.ret))
  (.skip))))
  (.reg [⟨some 100, .mv (.t 7) false, none⟩, ⟨some 101, .bin .add (.t 100) (.c (.int .i64 1)), none⟩, ⟨some 7, .mv (.t 101) true, none⟩]))
def L34_2 : C := .loop [2, 5, 7] 2 B34_2
theorem go34_2 (s : Env × Bx) (nb) : evL tab ext nb L34_2 s = (loopIn nb [2, 5, 7] 2 s).bind fun s0 => (evL tab ext nb B34_2 s0).bind (seqG tab ext nb L34_2) := eL_loop _ _ _
/-- swingbridge/swingbridgeref7.task -/
def C34 : CFun := ⟨110, 2, .seq (.reg [⟨some 2, .box (.t 0), none⟩, ⟨some 4, .mv (.c (.int .i64 0)) true, none⟩])
  (.seq (.reg [⟨some 8, .fa 3 (.t 2), none⟩, ⟨some 9, .load 1 false (.t 8) false, none⟩, ⟨some 10, .mv (.t 1) false, none⟩, ⟨some 11, .ia 6 (.t 9) (.t 10), none⟩, ⟨some 12, .load 6 true (.t 11) false, none⟩, ⟨some 5, .alloc [(.string ⟨#[]⟩), (.int .i64 0), (.int .i64 0), (.int .i64 0), (.int .i64 0), (.slice none 0 0)], none⟩, ⟨none, .store 6 (.t 5) (.t 12), none⟩])
  (.seq (.seq (.reg [⟨some 13, .fa 0 (.t 5), none⟩, ⟨some 14, .load 1 false (.t 13) false, none⟩, ⟨some 15, .call 62 [(.t 14)] false, none⟩, ⟨some 16, .un .not (.t 15), none⟩, ⟨some 17, .mv (.t 16) false, none⟩, ⟨some 18, .fa 1 (.t 5), some (17, false)⟩, ⟨some 19, .load 1 false (.t 18) false, some (17, false)⟩, ⟨some 20, .bin .lss (.t 19) (.c (.int .i64 1)), some (17, false)⟩, ⟨some 21, .pick (.t 17) (.c (.bool true)) (.t 20), none⟩, ⟨some 22, .mv (.t 21) false, none⟩, ⟨some 23, .fa 1 (.t 5), some (22, false)⟩, ⟨some 24, .load 1 false (.t 23) false, some (22, false)⟩, ⟨some 25, .bin .gtr (.t 24) (.c (.int .i64 3000)), some (22, false)⟩, ⟨some 26, .pick (.t 22) (.c (.bool true)) (.t 25), none⟩, ⟨some 27, .mv (.t 26) false, none⟩, ⟨some 28, .fa 2 (.t 5), some (27, false)⟩, ⟨some 29, .load 1 false (.t 28) false, some (27, false)⟩, ⟨some 30, .bin .lss (.t 29) (.c (.int .i64 1)), some (27, false)⟩, ⟨some 31, .pick (.t 27) (.c (.bool true)) (.t 30), none⟩, ⟨some 32, .mv (.t 31) false, none⟩, ⟨some 33, .fa 2 (.t 5), some (32, false)⟩, ⟨some 34, .load 1 false (.t 33) false, some (32, false)⟩, ⟨some 35, .fa 1 (.t 5), some (32, false)⟩, ⟨some 36, .load 1 false (.t 35) false, some (32, false)⟩, ⟨some 37, .bin .gtr (.t 34) (.t 36), some (32, false)⟩, ⟨some 38, .pick (.t 32) (.c (.bool true)) (.t 37), none⟩, ⟨some 39, .mv (.t 38) false, none⟩, ⟨some 40, .fa 3 (.t 5), some (39, false)⟩, ⟨some 41, .load 1 false (.t 40) false, some (39, false)⟩, ⟨some 42, .bin .lss (.t 41) (.c (.int .i64 1)), some (39, false)⟩, ⟨some 43, .pick (.t 39) (.c (.bool true)) (.t 42), none⟩, ⟨some 44, .mv (.t 43) false, none⟩, ⟨some 45, .fa 3 (.t 5), some (44, false)⟩, ⟨some 46, .load 1 false (.t 45) false, some (44, false)⟩, ⟨some 47, .bin .gtr (.t 46) (.c (.int .i64 1000)), some (44, false)⟩, ⟨some 48, .pick (.t 44) (.c (.bool true)) (.t 47), none⟩])
  (.cond (.t 48) (.seq (.reg [⟨some 4, .mv (.c (.int .i64 10)) true, none⟩])
  (.ret))
  (.skip)))
  (.seq (.seq (.reg [⟨some 49, .fa 4 (.t 5), none⟩, ⟨some 50, .load 1 false (.t 49) false, none⟩, ⟨some 51, .bin .lss (.t 50) (.c (.int .i64 0)), none⟩, ⟨some 52, .mv (.t 51) false, none⟩, ⟨some 53, .fa 4 (.t 5), some (52, false)⟩, ⟨some 54, .load 1 false (.t 53) false, some (52, false)⟩, ⟨some 55, .fa 1 (.t 2), some (52, false)⟩, ⟨some 56, .load 1 false (.t 55) false, some (52, false)⟩, ⟨some 57, .len (.t 56), some (52, false)⟩, ⟨some 58, .bin .geq (.t 54) (.t 57), some (52, false)⟩, ⟨some 59, .pick (.t 52) (.c (.bool true)) (.t 58), none⟩])
  (.cond (.t 59) (.seq (.reg [⟨some 4, .mv (.c (.int .i64 16)) true, none⟩])
  (.ret))
  (.skip)))
  (.seq (.seq (.reg [⟨some 6, .mv (.c (.int .i64 0)) true, none⟩])
  (.block 0 (L34_0)))
  (.seq (.seq (.reg [⟨some 85, .fa 5 (.t 5), none⟩, ⟨some 86, .load 1 false (.t 85) false, none⟩, ⟨some 87, .len (.t 86), none⟩, ⟨some 88, .bin .lss (.t 87) (.c (.int .i64 1)), none⟩, ⟨some 89, .mv (.t 88) false, none⟩, ⟨some 90, .fa 5 (.t 5), some (89, false)⟩, ⟨some 91, .load 1 false (.t 90) false, some (89, false)⟩, ⟨some 92, .len (.t 91), some (89, false)⟩, ⟨some 93, .bin .gtr (.t 92) (.c (.int .i64 6)), some (89, false)⟩, ⟨some 94, .pick (.t 89) (.c (.bool true)) (.t 93), none⟩])
  (.cond (.t 94) (.seq (.reg [⟨some 4, .mv (.c (.int .i64 15)) true, none⟩])
  (.ret))
  (.skip)))
  (.seq (.seq (.reg [⟨some 7, .mv (.c (.int .i64 0)) true, none⟩])
  (.block 2 (L34_2)))
  (.seq (.reg [⟨some 4, .mv (.c (.int .i64 0)) true, none⟩])
  (.ret)))))))), [.t 4]⟩
theorem row34 : RowOk Tryz.prog 34 C34 := ⟨Tryz.f34, ⟨[], [], [], []⟩, lvOf [(0, [1, 2, 5, 6], 2), (2, [2, 5, 7], 2)], Tryz.func34, by kernel_rfl, by kernel_rfl⟩
def B35_0 : C := .seq (.seq (.reg [⟨some 7, .mv (.t 6) false, none⟩, ⟨some 8, .fa 5 (.t 2), none⟩, ⟨some 9, .load 1 false (.t 8) false, none⟩, ⟨some 10, .len (.t 9), none⟩, ⟨some 11, .bin .lss (.t 7) (.t 10), none⟩])
  (.cond (.t 11) (.skip)
  (.exit 0)))
  (.seq (.block 1 (.seq (.reg [⟨some 14, .fa 5 (.t 2), none⟩, ⟨some 15, .load 1 false (.t 14) false, none⟩, ⟨some 16, .mv (.t 6) false, none⟩, ⟨some 17, .ia 3 (.t 15) (.t 16), none⟩, ⟨some 18, .fa 0 (.t 17), none⟩, ⟨some 19, .load 1 false (.t 18) false, none⟩, ⟨some 20, .mv (.t 1) false, none⟩, ⟨some 21, .bin .eql (.t 19) (.t 20), none⟩])
  (.cond (.t 21) (.reg [⟨some 22, .mv (.t 5) false, none⟩, ⟨some 23, .fa 5 (.t 2), none⟩, ⟨some 24, .load 1 false (.t 23) false, none⟩, ⟨some 25, .mv (.t 6) false, none⟩, ⟨some 26, .ia 3 (.t 24) (.t 25), none⟩, ⟨some 27, .fa 1 (.t 26), none⟩, ⟨some 28, .load 1 false (.t 27) false, none⟩, ⟨some 29, .bin .add (.t 22) (.t 28), none⟩, ⟨some 5, .mv (.t 29) true, none⟩])
  (.skip))))
  (.reg [⟨some 12, .mv (.t 6) false, none⟩, ⟨some 13, .bin .add (.t 12) (.c (.int .i64 1)), none⟩, ⟨some 6, .mv (.t 13) true, none⟩]))
def L35_0 : C := .loop [1, 2, 5, 6] 1 B35_0
theorem go35_0 (s : Env × Bx) (nb) : evL tab ext nb L35_0 s = (loopIn nb [1, 2, 5, 6] 1 s).bind fun s0 => (evL tab ext nb B35_0 s0).bind (seqG tab ext nb L35_0) := eL_loop _ _ _
/-- swingbridge/swingbridgeref11.All -/
def C35 : CFun := ⟨31, 2, .seq (.reg [⟨some 2, .box (.t 0), none⟩, ⟨some 4, .mv (.c (.int .i64 0)) true, none⟩])
  (.seq (.reg [⟨some 5, .mv (.c (.int .i64 0)) true, none⟩])
  (.seq (.seq (.reg [⟨some 6, .mv (.c (.int .i64 0)) true, none⟩])
  (.block 0 (L35_0)))
  (.seq (.reg [⟨some 30, .mv (.t 5) false, none⟩, ⟨some 4, .mv (.t 30) true, none⟩])
  (.ret)))), [.t 4]⟩
theorem row35 : RowOk Tryz.prog 35 C35 := ⟨Tryz.f35, ⟨[], [], [], []⟩, lvOf [(0, [1, 2, 5, 6], 1)], Tryz.func35, by kernel_rfl, by kernel_rfl⟩
def B36_0 : C := .seq (.seq (.reg [⟨some 12, .mv (.t 9) false, none⟩, ⟨some 13, .mv (.t 1) false, none⟩, ⟨some 14, .len (.t 13), none⟩, ⟨some 15, .bin .lss (.t 12) (.t 14), none⟩])
  (.cond (.t 15) (.skip)
  (.exit 0)))
  (.seq (.block 1 (.seq (.reg [⟨some 19, .load 4 true (.t 2) false, none⟩, ⟨some 20, .mv (.t 1) false, none⟩, ⟨some 21, .mv (.t 9) false, none⟩, ⟨some 22, .call 64 [(.t 19), (.t 20), (.t 21)] false, none⟩, ⟨some 18, .mv (.t 22) false, none⟩, ⟨some 23, .ext (.t 18) 0, none⟩, ⟨some 24, .ext (.t 18) 1, none⟩, ⟨some 10, .mv (.t 23) true, none⟩, ⟨some 11, .mv (.t 24) true, none⟩])
  (.seq (.seq (.reg [⟨some 25, .mv (.t 11) false, none⟩, ⟨some 26, .un .not (.t 25), none⟩, ⟨some 27, .mv (.t 26) false, none⟩, ⟨some 28, .mv (.t 10) false, some (27, false)⟩, ⟨some 29, .fa 3 (.t 2), some (27, false)⟩, ⟨some 30, .load 1 false (.t 29) false, some (27, false)⟩, ⟨some 31, .mv (.t 9) false, some (27, false)⟩, ⟨some 32, .ia 6 (.t 30) (.t 31), some (27, false)⟩, ⟨some 33, .fa 2 (.t 32), some (27, false)⟩, ⟨some 34, .load 1 false (.t 33) false, some (27, false)⟩, ⟨some 35, .bin .gtr (.t 28) (.t 34), some (27, false)⟩, ⟨some 36, .pick (.t 27) (.c (.bool true)) (.t 35), none⟩])
  (.cond (.t 36) (.seq (.reg [⟨some 4, .mv (.c (.slice none 0 0)) true, none⟩, ⟨some 5, .mv (.c (.bool false)) true, none⟩, ⟨some 6, .mv (.c (.int .i64 19)) true, none⟩])
  (.ret))
  (.skip)))
  (.seq (.reg [⟨some 37, .mv (.t 8) false, none⟩, ⟨some 38, .mv (.t 37) false, none⟩, ⟨some 39, .mv (.t 10) false, some (38, false)⟩, ⟨some 40, .mv (.t 1) false, some (38, false)⟩, ⟨some 41, .mv (.t 9) false, some (38, false)⟩, ⟨some 42, .ia 1 (.t 40) (.t 41), some (38, false)⟩, ⟨some 43, .load 1 false (.t 42) false, some (38, false)⟩, ⟨some 44, .bin .neq (.t 39) (.t 43), some (38, false)⟩, ⟨some 45, .pick (.t 38) (.c (.bool true)) (.t 44), none⟩, ⟨some 8, .mv (.t 45) true, none⟩])
  (.reg [⟨some 46, .mv (.t 7) true, none⟩, ⟨some 47, .mv (.t 10) false, none⟩, ⟨some 48, .bsl 1 1 [(.int .i64 0)] [(0, 1, (.t 47))] false, none⟩, ⟨some 49, .app 1 8 (.t 46) (.t 48) false, none⟩, ⟨some 7, .mv (.t 49) true, none⟩])))))
  (.reg [⟨some 16, .mv (.t 9) false, none⟩, ⟨some 17, .bin .add (.t 16) (.c (.int .i64 1)), none⟩, ⟨some 9, .mv (.t 17) true, none⟩]))
def L36_0 : C := .loop [1, 2, 7, 8, 9] 1 B36_0
theorem go36_0 (s : Env × Bx) (nb) : evL tab ext nb L36_0 s = (loopIn nb [1, 2, 7, 8, 9] 1 s).bind fun s0 => (evL tab ext nb B36_0 s0).bind (seqG tab ext nb L36_0) := eL_loop _ _ _
/-- swingbridge/swingbridgeref11.round -/
def C36 : CFun := ⟨52, 2, .seq (.reg [⟨some 2, .box (.t 0), none⟩, ⟨some 4, .mv (.c (.slice none 0 0)) true, none⟩, ⟨some 5, .mv (.c (.bool false)) true, none⟩, ⟨some 6, .mv (.c (.int .i64 0)) true, none⟩])
  (.seq (.reg [⟨some 7, .mv (.c (.slice none 0 0)) true, none⟩])
  (.seq (.reg [⟨some 8, .mv (.c (.bool false)) true, none⟩])
  (.seq (.seq (.reg [⟨some 9, .mv (.c (.int .i64 0)) true, none⟩])
  (.block 0 (L36_0)))
  (.seq (.reg [⟨some 50, .mv (.t 7) false, none⟩, ⟨some 51, .mv (.t 8) false, none⟩, ⟨some 4, .mv (.t 50) true, none⟩, ⟨some 5, .mv (.t 51) true, none⟩, ⟨some 6, .mv (.c (.int .i64 0)) true, none⟩])
  (.ret))))), [.t 4, .t 5, .t 6]⟩
theorem row36 : RowOk Tryz.prog 36 C36 := ⟨Tryz.f36, ⟨[], [], [], []⟩, lvOf [(0, [1, 2, 7, 8, 9], 1)], Tryz.func36, by kernel_rfl, by kernel_rfl⟩
def B37_0 : C := .seq (.seq (.reg [⟨some 40, .mv (.t 10) false, none⟩, ⟨some 41, .fa 5 (.t 9), none⟩, ⟨some 42, .load 1 false (.t 41) false, none⟩, ⟨some 43, .len (.t 42), none⟩, ⟨some 44, .bin .lss (.t 40) (.t 43), none⟩])
  (.cond (.t 44) (.skip)
  (.exit 0)))
  (.seq (.block 1 (.seq (.reg [⟨some 11, .mv (.c (.int .i64 0)) true, none⟩])
  (.seq (.seq (.reg [⟨some 47, .fa 5 (.t 9), none⟩, ⟨some 48, .load 1 false (.t 47) false, none⟩, ⟨some 49, .mv (.t 10) false, none⟩, ⟨some 50, .ia 3 (.t 48) (.t 49), none⟩, ⟨some 51, .fa 0 (.t 50), none⟩, ⟨some 52, .load 1 false (.t 51) false, none⟩, ⟨some 53, .bin .eql (.t 52) (.c (.int .i64 3)), none⟩])
  (.cond (.t 53) (.seq (.reg [⟨some 55, .load 4 true (.t 3) false, none⟩, ⟨some 56, .mv (.t 1) false, none⟩, ⟨some 57, .mv (.t 2) false, none⟩, ⟨some 58, .mv (.t 10) false, none⟩, ⟨some 59, .call 67 [(.t 55), (.t 56), (.t 57), (.t 58)] false, none⟩, ⟨some 54, .mv (.t 59) false, none⟩, ⟨some 60, .ext (.t 54) 0, none⟩, ⟨some 61, .ext (.t 54) 1, none⟩, ⟨some 12, .mv (.t 60) true, none⟩, ⟨some 13, .mv (.t 61) true, none⟩])
  (.seq (.seq (.reg [⟨some 62, .mv (.t 13) false, none⟩, ⟨some 63, .un .not (.t 62), none⟩])
  (.cond (.t 63) (.seq (.reg [⟨some 6, .mv (.c (.slice none 0 0)) true, none⟩, ⟨some 7, .mv (.c (.bool false)) true, none⟩])
  (.ret))
  (.skip)))
  (.reg [⟨some 64, .mv (.t 12) false, none⟩, ⟨some 11, .mv (.t 64) true, none⟩])))
  (.skip)))
  (.reg [⟨some 65, .mv (.t 8) true, none⟩, ⟨some 66, .mv (.t 11) false, none⟩, ⟨some 67, .bsl 1 1 [(.int .i64 0)] [(0, 1, (.t 66))] false, none⟩, ⟨some 68, .app 1 8 (.t 65) (.t 67) false, none⟩, ⟨some 8, .mv (.t 68) true, none⟩]))))
  (.reg [⟨some 45, .mv (.t 10) false, none⟩, ⟨some 46, .bin .add (.t 45) (.c (.int .i64 1)), none⟩, ⟨some 10, .mv (.t 46) true, none⟩]))
def L37_0 : C := .loop [1, 2, 3, 8, 9, 10] 2 B37_0
theorem go37_0 (s : Env × Bx) (nb) : evL tab ext nb L37_0 s = (loopIn nb [1, 2, 3, 8, 9, 10] 2 s).bind fun s0 => (evL tab ext nb B37_0 s0).bind (seqG tab ext nb L37_0) := eL_loop _ _ _
/-- swingbridge/swingbridgeref11.Waits -/
def C37 : CFun := ⟨70, 3, .seq (.reg [⟨some 3, .box (.t 0), none⟩, ⟨some 6, .mv (.c (.slice none 0 0)) true, none⟩, ⟨some 7, .mv (.c (.bool false)) true, none⟩])
  (.seq (.seq (.reg [⟨some 14, .load 4 true (.t 3) false, none⟩, ⟨some 15, .mv (.t 2) false, none⟩, ⟨some 16, .call 65 [(.t 14), (.t 15)] false, none⟩, ⟨some 17, .un .not (.t 16), none⟩, ⟨some 18, .mv (.t 17) false, none⟩, ⟨some 19, .mv (.t 1) false, some (18, false)⟩, ⟨some 20, .len (.t 19), some (18, false)⟩, ⟨some 21, .fa 3 (.t 3), some (18, false)⟩, ⟨some 22, .load 1 false (.t 21) false, some (18, false)⟩, ⟨some 23, .len (.t 22), some (18, false)⟩, ⟨some 24, .bin .neq (.t 20) (.t 23), some (18, false)⟩, ⟨some 25, .mv (.t 24) false, some (18, false)⟩, ⟨some 26, .fa 3 (.t 3), some (25, true)⟩, ⟨some 27, .load 1 false (.t 26) false, some (25, true)⟩, ⟨some 28, .mv (.t 2) false, some (25, true)⟩, ⟨some 29, .ia 6 (.t 27) (.t 28), some (25, true)⟩, ⟨some 30, .load 6 true (.t 29) false, some (25, true)⟩, ⟨some 31, .call 66 [(.t 30)] false, some (25, true)⟩, ⟨some 32, .bin .gtr (.t 31) (.c (.int .i64 0)), some (25, true)⟩, ⟨some 33, .pick (.t 25) (.t 32) (.c (.bool false)), some (18, false)⟩, ⟨some 34, .pick (.t 18) (.c (.bool true)) (.t 33), none⟩])
  (.cond (.t 34) (.seq (.reg [⟨some 6, .mv (.c (.slice none 0 0)) true, none⟩, ⟨some 7, .mv (.c (.bool false)) true, none⟩])
  (.ret))
  (.skip)))
  (.seq (.reg [⟨some 8, .mv (.c (.slice none 0 0)) true, none⟩])
  (.seq (.reg [⟨some 35, .fa 3 (.t 3), none⟩, ⟨some 36, .load 1 false (.t 35) false, none⟩, ⟨some 37, .mv (.t 2) false, none⟩, ⟨some 38, .ia 6 (.t 36) (.t 37), none⟩, ⟨some 39, .load 6 true (.t 38) false, none⟩, ⟨some 9, .alloc [(.string ⟨#[]⟩), (.int .i64 0), (.int .i64 0), (.int .i64 0), (.int .i64 0), (.slice none 0 0)], none⟩, ⟨none, .store 6 (.t 9) (.t 39), none⟩])
  (.seq (.seq (.reg [⟨some 10, .mv (.c (.int .i64 0)) true, none⟩])
  (.block 0 (L37_0)))
  (.seq (.reg [⟨some 69, .mv (.t 8) false, none⟩, ⟨some 6, .mv (.t 69) true, none⟩, ⟨some 7, .mv (.c (.bool true)) true, none⟩])
  (.ret)))))), [.t 6, .t 7]⟩
theorem row37 : RowOk Tryz.prog 37 C37 := ⟨Tryz.f37, ⟨[], [], [], []⟩, lvOf [(0, [1, 2, 3, 8, 9, 10], 2)], Tryz.func37, by kernel_rfl, by kernel_rfl⟩
/-- swingbridge/task.placed$1 -/
def C39 : CFun := ⟨6, 1, .seq (.reg [⟨some 2, .mv (.c (.bool false)) true, none⟩])
  (.seq (.reg [⟨some 3, .mv (.t 0) false, none⟩, ⟨some 4, .call 26 [(.t 3), (.c (.int .i64 1)), (.c (.int .i64 3))] false, none⟩, ⟨some 5, .un .not (.t 4), none⟩, ⟨some 2, .mv (.t 5) true, none⟩])
  (.ret)), [.t 2]⟩
theorem row39 : RowOk Tryz.prog 39 C39 := ⟨Tryz.f39, ⟨[], [], [], []⟩, lvOf [], Tryz.func39, by kernel_rfl, by kernel_rfl⟩
/-- swingbridge/task.placed$2 -/
def C40 : CFun := ⟨11, 2, .seq (.reg [⟨some 3, .mv (.c (.bool false)) true, none⟩])
  (.seq (.reg [⟨some 4, .mv (.t 0) false, none⟩, ⟨some 5, .fa 1 (.t 1), none⟩, ⟨some 6, .load 1 false (.t 5) false, none⟩, ⟨some 7, .len (.t 6), none⟩, ⟨some 8, .bin .sub (.t 7) (.c (.int .i64 1)), none⟩, ⟨some 9, .call 26 [(.t 4), (.c (.int .i64 0)), (.t 8)] false, none⟩, ⟨some 10, .un .not (.t 9), none⟩, ⟨some 3, .mv (.t 10) true, none⟩])
  (.ret)), [.t 3]⟩
theorem row40 : RowOk Tryz.prog 40 C40 := ⟨Tryz.f40, ⟨[], [], [], []⟩, lvOf [], Tryz.func40, by kernel_rfl, by kernel_rfl⟩
/-- slices.ContainsFunc[[]int,int] -/
def C41 : CFun := ⟨9, 2, .seq (.reg [⟨some 4, .mv (.c (.bool false)) true, none⟩])
  (.seq (.reg [⟨some 5, .mv (.t 0) false, none⟩, ⟨some 6, .mv (.t 1) false, none⟩, ⟨some 7, .calli 69 [(.t 5), (.t 6)], none⟩, ⟨some 8, .bin .geq (.t 7) (.c (.int .i64 0)), none⟩, ⟨some 4, .mv (.t 8) true, none⟩])
  (.ret)), [.t 4]⟩
theorem row41 : RowOk Tryz.prog 41 C41 := ⟨Tryz.f41, ⟨[], [], [], []⟩, lvOf [], Tryz.func41, by kernel_rfl, by kernel_rfl⟩
/-- swingbridge/task.one$1 -/
def C42 : CFun := ⟨16, 2, .seq (.reg [⟨some 2, .box (.t 0), none⟩, ⟨some 3, .mv (.c (.bool false)) true, none⟩])
  (.seq (.reg [⟨some 4, .fa 0 (.t 2), none⟩, ⟨some 5, .load 1 false (.t 4) false, none⟩, ⟨some 6, .fa 0 (.t 1), none⟩, ⟨some 7, .load 1 false (.t 6) false, none⟩, ⟨some 8, .bin .eql (.t 5) (.t 7), none⟩, ⟨some 9, .mv (.t 8) false, none⟩, ⟨some 10, .fa 3 (.t 2), some (9, false)⟩, ⟨some 11, .load 1 false (.t 10) false, some (9, false)⟩, ⟨some 12, .fa 3 (.t 1), some (9, false)⟩, ⟨some 13, .load 1 false (.t 12) false, some (9, false)⟩, ⟨some 14, .bin .eql (.t 11) (.t 13), some (9, false)⟩, ⟨some 15, .pick (.t 9) (.c (.bool true)) (.t 14), none⟩, ⟨some 3, .mv (.t 15) true, none⟩])
  (.ret)), [.t 3]⟩
theorem row42 : RowOk Tryz.prog 42 C42 := ⟨Tryz.f42, ⟨[], [], [], []⟩, lvOf [], Tryz.func42, by kernel_rfl, by kernel_rfl⟩
def B43_0 : C := .seq (.reg [⟨some 9, .bin .lss (.t 8) (.t 7), none⟩])
  (.seq (.cond (.t 9) (.skip)
  (.exit 0))
  (.seq (.block 1 (.seq (.reg [⟨some 10, .mv (.t 8) false, none⟩, ⟨some 3, .mv (.t 10) true, none⟩])
  (.seq (.reg [⟨some 11, .mv (.t 0) false, none⟩, ⟨some 12, .mv (.t 3) false, none⟩, ⟨some 13, .ix (.t 11) (.t 12), none⟩, ⟨some 4, .mv (.t 13) true, none⟩])
  (.seq (.reg [⟨some 14, .mv (.t 4) false, none⟩, ⟨some 15, .bin .geq (.t 14) (.c (.int .u8 48)), none⟩, ⟨some 16, .mv (.t 15) false, none⟩, ⟨some 17, .mv (.t 4) false, some (16, true)⟩, ⟨some 18, .bin .leq (.t 17) (.c (.int .u8 57)), some (16, true)⟩, ⟨some 19, .pick (.t 16) (.t 18) (.c (.bool false)), none⟩, ⟨some 5, .mv (.t 19) true, none⟩])
  (.seq (.reg [⟨some 20, .mv (.t 4) false, none⟩, ⟨some 21, .bin .lss (.t 20) (.c (.int .u8 97)), none⟩, ⟨some 22, .mv (.t 21) false, none⟩, ⟨some 23, .mv (.t 4) false, some (22, false)⟩, ⟨some 24, .bin .gtr (.t 23) (.c (.int .u8 122)), some (22, false)⟩, ⟨some 25, .pick (.t 22) (.c (.bool true)) (.t 24), none⟩, ⟨some 26, .mv (.t 25) false, none⟩, ⟨some 27, .mv (.t 3) false, some (26, true)⟩, ⟨some 28, .bin .eql (.t 27) (.c (.int .i64 0)), some (26, true)⟩, ⟨some 29, .mv (.t 28) false, some (26, true)⟩, ⟨some 30, .mv (.t 5) false, some (29, false)⟩, ⟨some 31, .un .not (.t 30), some (29, false)⟩, ⟨some 32, .pick (.t 29) (.c (.bool true)) (.t 31), some (26, true)⟩, ⟨some 33, .pick (.t 26) (.t 32) (.c (.bool false)), none⟩])
  (.cond (.t 33) (.seq (.reg [⟨some 2, .mv (.c (.bool false)) true, none⟩])
  (.ret))
  (.skip)))))))
  (.reg [⟨some 34, .bin .add (.t 8) (.c (.int .i64 1)), none⟩, ⟨some 8, .mv (.t 34) false, none⟩])))
def L43_0 : C := .loop [0, 7, 8] 0 B43_0
theorem go43_0 (s : Env × Bx) (nb) : evL tab ext nb L43_0 s = (loopIn nb [0, 7, 8] 0 s).bind fun s0 => (evL tab ext nb B43_0 s0).bind (seqG tab ext nb L43_0) := eL_loop _ _ _
/-- swingbridge/words.Name -/
def C43 : CFun := ⟨42, 1, .seq (.reg [⟨some 2, .mv (.c (.bool false)) true, none⟩])
  (.seq (.seq (.reg [⟨some 6, .mv (.t 0) false, none⟩, ⟨some 7, .slen (.t 6), none⟩, ⟨some 8, .mv (.c (.int .i64 0)) false, none⟩])
  (.block 0 (L43_0)))
  (.seq (.reg [⟨some 35, .mv (.t 0) false, none⟩, ⟨some 36, .bin .neq (.t 35) (.c (.string ⟨#[]⟩)), none⟩, ⟨some 37, .mv (.t 36) false, none⟩, ⟨some 38, .mv (.t 0) false, some (37, true)⟩, ⟨some 39, .slen (.t 38), some (37, true)⟩, ⟨some 40, .bin .leq (.t 39) (.c (.int .i64 8)), some (37, true)⟩, ⟨some 41, .pick (.t 37) (.t 40) (.c (.bool false)), none⟩, ⟨some 2, .mv (.t 41) true, none⟩])
  (.ret))), [.t 2]⟩
theorem row43 : RowOk Tryz.prog 43 C43 := ⟨Tryz.f43, ⟨[], [], [], []⟩, lvOf [(0, [0, 7, 8], 0)], Tryz.func43, by kernel_rfl, by kernel_rfl⟩
/-- slices.ContainsFunc[[]swingbridge/api.Task,swingbridge/api.Task] -/
def C44 : CFun := ⟨9, 2, .seq (.reg [⟨some 4, .mv (.c (.bool false)) true, none⟩])
  (.seq (.reg [⟨some 5, .mv (.t 0) false, none⟩, ⟨some 6, .mv (.t 1) false, none⟩, ⟨some 7, .calli 70 [(.t 5), (.t 6)], none⟩, ⟨some 8, .bin .geq (.t 7) (.c (.int .i64 0)), none⟩, ⟨some 4, .mv (.t 8) true, none⟩])
  (.ret)), [.t 4]⟩
theorem row44 : RowOk Tryz.prog 44 C44 := ⟨Tryz.f44, ⟨[], [], [], []⟩, lvOf [], Tryz.func44, by kernel_rfl, by kernel_rfl⟩
def B45_0 : C := .seq (.reg [⟨some 10, .bin .lss (.t 9) (.t 8), none⟩])
  (.seq (.cond (.t 10) (.skip)
  (.exit 0))
  (.seq (.block 1 (.seq (.reg [⟨some 11, .ia 3 (.t 7) (.t 9), none⟩, ⟨some 12, .load 3 true (.t 11) false, none⟩, ⟨some 6, .alloc [(.int .i64 0), (.int .i64 0), (.int .i64 0)], none⟩, ⟨none, .store 3 (.t 6) (.t 12), none⟩])
  (.seq (.block 2 (.seq (.reg [⟨some 14, .fa 0 (.t 6), none⟩, ⟨some 15, .load 1 false (.t 14) false, none⟩, ⟨some 16, .call 26 [(.t 15), (.c (.int .i64 1)), (.c (.int .i64 3))] false, none⟩, ⟨some 17, .un .not (.t 16), none⟩, ⟨some 18, .mv (.t 17) false, none⟩, ⟨some 19, .fa 1 (.t 6), some (18, false)⟩, ⟨some 20, .load 1 false (.t 19) false, some (18, false)⟩, ⟨some 21, .call 26 [(.t 20), (.c (.int .i64 1)), (.c (.int .i64 60))] false, some (18, false)⟩, ⟨some 22, .un .not (.t 21), some (18, false)⟩, ⟨some 23, .pick (.t 18) (.c (.bool true)) (.t 22), none⟩, ⟨some 13, .mv (.t 23) true, none⟩])
  (.cond (.t 13) (.seq (.reg [⟨some 4, .mv (.c (.bool false)) true, none⟩])
  (.ret))
  (.seq (.reg [⟨some 25, .fa 0 (.t 6), none⟩, ⟨some 26, .load 1 false (.t 25) false, none⟩, ⟨some 27, .bin .eql (.t 26) (.c (.int .i64 3)), none⟩, ⟨some 28, .mv (.t 27) false, none⟩, ⟨some 29, .fa 2 (.t 6), some (28, true)⟩, ⟨some 30, .load 1 false (.t 29) false, some (28, true)⟩, ⟨some 31, .fa 2 (.t 2), some (28, true)⟩, ⟨some 32, .load 1 false (.t 31) false, some (28, true)⟩, ⟨some 33, .len (.t 32), some (28, true)⟩, ⟨some 34, .bin .sub (.t 33) (.c (.int .i64 1)), some (28, true)⟩, ⟨some 35, .call 26 [(.t 30), (.c (.int .i64 0)), (.t 34)] false, some (28, true)⟩, ⟨some 36, .pick (.t 28) (.t 35) (.c (.bool false)), none⟩, ⟨some 24, .mv (.t 36) true, none⟩])
  (.cond (.t 24) (.exit 1)
  (.seq (.reg [⟨some 38, .fa 0 (.t 6), none⟩, ⟨some 39, .load 1 false (.t 38) false, none⟩, ⟨some 40, .bin .neq (.t 39) (.c (.int .i64 3)), none⟩, ⟨some 41, .mv (.t 40) false, none⟩, ⟨some 42, .fa 2 (.t 6), some (41, true)⟩, ⟨some 43, .load 1 false (.t 42) false, some (41, true)⟩, ⟨some 44, .bin .eql (.t 43) (.c (.int .i64 0)), some (41, true)⟩, ⟨some 45, .pick (.t 41) (.t 44) (.c (.bool false)), none⟩, ⟨some 37, .mv (.t 45) true, none⟩])
  (.cond (.t 37) (.exit 1)
  (.skip))))))))
  (.seq (.reg [⟨some 4, .mv (.c (.bool false)) true, none⟩])
  (.ret)))))
  (.reg [⟨some 46, .bin .add (.t 9) (.c (.int .i64 1)), none⟩, ⟨some 9, .mv (.t 46) false, none⟩])))
def L45_0 : C := .loop [1, 2, 7, 8, 9] 1 B45_0
theorem go45_0 (s : Env × Bx) (nb) : evL tab ext nb L45_0 s = (loopIn nb [1, 2, 7, 8, 9] 1 s).bind fun s0 => (evL tab ext nb B45_0 s0).bind (seqG tab ext nb L45_0) := eL_loop _ _ _
/-- swingbridge/task.parted -/
def C45 : CFun := ⟨50, 2, .seq (.reg [⟨some 2, .box (.t 0), none⟩, ⟨some 4, .mv (.c (.bool false)) true, none⟩])
  (.scope (.seq (.skip)
  (.seq (.seq (.reg [⟨some 7, .mv (.t 1) false, none⟩, ⟨some 8, .len (.t 7), none⟩, ⟨some 9, .mv (.c (.int .i64 0)) false, none⟩])
  (.block 0 (L45_0)))
  (.seq (.reg [⟨some 47, .mv (.t 1) false, none⟩, ⟨some 48, .len (.t 47), none⟩, ⟨some 49, .call 26 [(.t 48), (.c (.int .i64 1)), (.c (.int .i64 6))] false, none⟩, ⟨some 4, .mv (.t 49) true, none⟩])
  (.ret))))), [.t 4]⟩
theorem row45 : RowOk Tryz.prog 45 C45 := ⟨Tryz.f45, ⟨[], [], [], []⟩, lvOf [(0, [1, 2, 7, 8, 9], 1)], Tryz.func45, by kernel_rfl, by kernel_rfl⟩
/-- swingbridge/demand.Runs -/
def C46 : CFun := ⟨5, 1, .seq (.reg [⟨some 1, .box (.t 0), none⟩, ⟨some 2, .mv (.c (.int .i64 0)) true, none⟩])
  (.seq (.reg [⟨some 3, .load 6 true (.t 1) false, none⟩, ⟨some 4, .call 71 [(.t 3), (.c (.int .i64 1))] false, none⟩, ⟨some 2, .mv (.t 4) true, none⟩])
  (.ret)), [.t 2]⟩
theorem row46 : RowOk Tryz.prog 46 C46 := ⟨Tryz.f46, ⟨[], [], [], []⟩, lvOf [], Tryz.func46, by kernel_rfl, by kernel_rfl⟩
/-- swingbridge/demand.Sleeps -/
def C47 : CFun := ⟨5, 1, .seq (.reg [⟨some 1, .box (.t 0), none⟩, ⟨some 2, .mv (.c (.int .i64 0)) true, none⟩])
  (.seq (.reg [⟨some 3, .load 6 true (.t 1) false, none⟩, ⟨some 4, .call 71 [(.t 3), (.c (.int .i64 2))] false, none⟩, ⟨some 2, .mv (.t 4) true, none⟩])
  (.ret)), [.t 2]⟩
theorem row47 : RowOk Tryz.prog 47 C47 := ⟨Tryz.f47, ⟨[], [], [], []⟩, lvOf [], Tryz.func47, by kernel_rfl, by kernel_rfl⟩
/-- swingbridge/demand.Locks -/
def C48 : CFun := ⟨5, 1, .seq (.reg [⟨some 1, .box (.t 0), none⟩, ⟨some 2, .mv (.c (.int .i64 0)) true, none⟩])
  (.seq (.reg [⟨some 3, .load 6 true (.t 1) false, none⟩, ⟨some 4, .call 71 [(.t 3), (.c (.int .i64 3))] false, none⟩, ⟨some 2, .mv (.t 4) true, none⟩])
  (.ret)), [.t 2]⟩
theorem row48 : RowOk Tryz.prog 48 C48 := ⟨Tryz.f48, ⟨[], [], [], []⟩, lvOf [], Tryz.func48, by kernel_rfl, by kernel_rfl⟩
def B49_0 : C := .seq (.reg [⟨some 15, .bin .lss (.t 14) (.t 13), none⟩])
  (.seq (.cond (.t 15) (.skip)
  (.exit 0))
  (.seq (.block 1 (.seq (.reg [⟨some 16, .mv (.t 14) false, none⟩, ⟨some 17, .ia 6 (.t 12) (.t 14), none⟩, ⟨some 18, .load 6 true (.t 17) false, none⟩, ⟨some 8, .alloc [(.string ⟨#[]⟩), (.int .i64 0), (.int .i64 0), (.int .i64 0), (.int .i64 0), (.slice none 0 0)], none⟩, ⟨some 7, .mv (.t 16) true, none⟩, ⟨none, .store 6 (.t 8) (.t 18), none⟩])
  (.seq (.reg [⟨some 20, .load 4 true (.t 2) false, none⟩, ⟨some 21, .mv (.t 1) false, none⟩, ⟨some 22, .mv (.t 7) false, none⟩, ⟨some 23, .call 72 [(.t 20), (.t 21), (.t 22)] false, none⟩, ⟨some 19, .mv (.t 23) false, none⟩, ⟨some 24, .ext (.t 19) 0, none⟩, ⟨some 25, .ext (.t 19) 1, none⟩, ⟨some 9, .mv (.t 24) true, none⟩, ⟨some 10, .mv (.t 25) true, none⟩])
  (.seq (.seq (.reg [⟨some 26, .mv (.t 10) false, none⟩, ⟨some 27, .un .not (.t 26), none⟩, ⟨some 28, .mv (.t 27) false, none⟩, ⟨some 29, .mv (.t 9) false, some (28, false)⟩, ⟨some 30, .fa 2 (.t 8), some (28, false)⟩, ⟨some 31, .load 1 false (.t 30) false, some (28, false)⟩, ⟨some 32, .bin .gtr (.t 29) (.t 31), some (28, false)⟩, ⟨some 33, .pick (.t 28) (.c (.bool true)) (.t 32), none⟩])
  (.cond (.t 33) (.seq (.reg [⟨some 4, .mv (.c (.slice none 0 0)) true, none⟩, ⟨some 5, .mv (.c (.bool false)) true, none⟩])
  (.ret))
  (.skip)))
  (.reg [⟨some 34, .mv (.t 6) true, none⟩, ⟨some 35, .mv (.t 9) false, none⟩, ⟨some 36, .bsl 1 1 [(.int .i64 0)] [(0, 1, (.t 35))] false, none⟩, ⟨some 37, .app 1 8 (.t 34) (.t 36) false, none⟩, ⟨some 6, .mv (.t 37) true, none⟩])))))
  (.reg [⟨some 38, .bin .add (.t 14) (.c (.int .i64 1)), none⟩, ⟨some 14, .mv (.t 38) false, none⟩])))
def L49_0 : C := .loop [1, 2, 6, 12, 13, 14] 1 B49_0
theorem go49_0 (s : Env × Bx) (nb) : evL tab ext nb L49_0 s = (loopIn nb [1, 2, 6, 12, 13, 14] 1 s).bind fun s0 => (evL tab ext nb B49_0 s0).bind (seqG tab ext nb L49_0) := eL_loop _ _ _
/-- swingbridge/admit.round -/
def C49 : CFun := ⟨40, 2, .seq (.reg [⟨some 2, .box (.t 0), none⟩, ⟨some 4, .mv (.c (.slice none 0 0)) true, none⟩, ⟨some 5, .mv (.c (.bool false)) true, none⟩])
  (.seq (.reg [⟨some 6, .mv (.c (.slice none 0 0)) true, none⟩])
  (.seq (.seq (.reg [⟨some 11, .fa 3 (.t 2), none⟩, ⟨some 12, .load 1 false (.t 11) false, none⟩, ⟨some 13, .len (.t 12), none⟩, ⟨some 14, .mv (.c (.int .i64 0)) false, none⟩])
  (.block 0 (L49_0)))
  (.seq (.reg [⟨some 39, .mv (.t 6) false, none⟩, ⟨some 4, .mv (.t 39) true, none⟩, ⟨some 5, .mv (.c (.bool true)) true, none⟩])
  (.ret)))), [.t 4, .t 5]⟩
theorem row49 : RowOk Tryz.prog 49 C49 := ⟨Tryz.f49, ⟨[], [], [], []⟩, lvOf [(0, [1, 2, 6, 12, 13, 14], 1)], Tryz.func49, by kernel_rfl, by kernel_rfl⟩
def B50_0 : C := .seq (.reg [⟨some 14, .bin .lss (.t 13) (.t 12), none⟩])
  (.seq (.cond (.t 14) (.skip)
  (.exit 0))
  (.seq (.block 1 (.seq (.reg [⟨some 15, .mv (.t 13) false, none⟩, ⟨some 5, .mv (.t 15) true, none⟩])
  (.seq (.reg [⟨some 16, .mv (.t 0) false, none⟩, ⟨some 17, .mv (.t 5) false, none⟩, ⟨some 18, .ia 1 (.t 16) (.t 17), none⟩, ⟨some 19, .load 1 false (.t 18) false, none⟩, ⟨some 20, .mv (.t 1) false, none⟩, ⟨some 21, .mv (.t 5) false, none⟩, ⟨some 22, .ia 1 (.t 20) (.t 21), none⟩, ⟨some 23, .load 1 false (.t 22) false, none⟩, ⟨some 24, .bin .neq (.t 19) (.t 23), none⟩])
  (.cond (.t 24) (.seq (.reg [⟨some 4, .mv (.c (.bool false)) true, none⟩])
  (.ret))
  (.skip)))))
  (.reg [⟨some 25, .bin .add (.t 13) (.c (.int .i64 1)), none⟩, ⟨some 13, .mv (.t 25) false, none⟩])))
def L50_0 : C := .loop [0, 1, 12, 13] 0 B50_0
theorem go50_0 (s : Env × Bx) (nb) : evL tab ext nb L50_0 s = (loopIn nb [0, 1, 12, 13] 0 s).bind fun s0 => (evL tab ext nb B50_0 s0).bind (seqG tab ext nb L50_0) := eL_loop _ _ _
/-- slices.Equal[[]int,int] -/
def C50 : CFun := ⟨26, 2, .seq (.reg [⟨some 4, .mv (.c (.bool false)) true, none⟩])
  (.seq (.seq (.reg [⟨some 6, .mv (.t 0) false, none⟩, ⟨some 7, .len (.t 6), none⟩, ⟨some 8, .mv (.t 1) false, none⟩, ⟨some 9, .len (.t 8), none⟩, ⟨some 10, .bin .neq (.t 7) (.t 9), none⟩])
  (.cond (.t 10) (.seq (.reg [⟨some 4, .mv (.c (.bool false)) true, none⟩])
  (.ret))
  (.skip)))
  (.seq (.seq (.reg [⟨some 11, .mv (.t 0) false, none⟩, ⟨some 12, .len (.t 11), none⟩, ⟨some 13, .mv (.c (.int .i64 0)) false, none⟩])
  (.block 0 (L50_0)))
  (.seq (.reg [⟨some 4, .mv (.c (.bool true)) true, none⟩])
  (.ret)))), [.t 4]⟩
theorem row50 : RowOk Tryz.prog 50 C50 := ⟨Tryz.f50, ⟨[], [], [], []⟩, lvOf [(0, [0, 1, 12, 13], 0)], Tryz.func50, by kernel_rfl, by kernel_rfl⟩
/-- swingbridge/wait.Part -/
def C51 : CFun := ⟨41, 4, .seq (.reg [⟨some 4, .box (.t 0), none⟩, ⟨some 8, .mv (.c (.int .i64 0)) true, none⟩, ⟨some 9, .mv (.c (.bool false)) true, none⟩])
  (.seq (.seq (.reg [⟨some 10, .mv (.t 1) false, none⟩, ⟨some 11, .len (.t 10), none⟩, ⟨some 12, .fa 3 (.t 4), none⟩, ⟨some 13, .load 1 false (.t 12) false, none⟩, ⟨some 14, .len (.t 13), none⟩, ⟨some 15, .bin .neq (.t 11) (.t 14), none⟩])
  (.cond (.t 15) (.seq (.reg [⟨some 8, .mv (.c (.int .i64 0)) true, none⟩, ⟨some 9, .mv (.c (.bool false)) true, none⟩])
  (.ret))
  (.skip)))
  (.seq (.seq (.reg [⟨some 16, .fa 0 (.t 4), none⟩, ⟨some 17, .load 1 false (.t 16) false, none⟩])
  (.block 0 (.seq (.reg [⟨some 19, .bin .eql (.t 17) (.c (.int .i64 1)), none⟩, ⟨some 18, .mv (.t 19) true, none⟩])
  (.cond (.t 18) (.seq (.reg [⟨some 20, .load 4 true (.t 4) false, none⟩, ⟨some 21, .mv (.t 2) false, none⟩, ⟨some 22, .mv (.t 3) false, none⟩, ⟨some 23, .call 73 [(.t 20), (.t 21), (.t 22)] false, none⟩, ⟨some 24, .ext (.t 23) 0, none⟩, ⟨some 25, .ext (.t 23) 1, none⟩, ⟨some 8, .mv (.t 24) true, none⟩, ⟨some 9, .mv (.t 25) true, none⟩])
  (.ret))
  (.seq (.reg [⟨some 27, .bin .eql (.t 17) (.c (.int .i64 2)), none⟩, ⟨some 26, .mv (.t 27) true, none⟩])
  (.cond (.t 26) (.seq (.reg [⟨some 28, .load 4 true (.t 4) false, none⟩, ⟨some 29, .mv (.t 1) false, none⟩, ⟨some 30, .mv (.t 2) false, none⟩, ⟨some 31, .mv (.t 3) false, none⟩, ⟨some 32, .call 74 [(.t 28), (.t 29), (.t 30), (.t 31)] false, none⟩, ⟨some 33, .ext (.t 32) 0, none⟩, ⟨some 34, .ext (.t 32) 1, none⟩, ⟨some 8, .mv (.t 33) true, none⟩, ⟨some 9, .mv (.t 34) true, none⟩])
  (.ret))
  (.skip)))))))
  (.seq (.reg [⟨some 35, .load 4 true (.t 4) false, none⟩, ⟨some 36, .mv (.t 2) false, none⟩, ⟨some 37, .mv (.t 3) false, none⟩, ⟨some 38, .call 75 [(.t 35), (.t 36), (.t 37)] false, none⟩, ⟨some 39, .ext (.t 38) 0, none⟩, ⟨some 40, .ext (.t 38) 1, none⟩, ⟨some 8, .mv (.t 39) true, none⟩, ⟨some 9, .mv (.t 40) true, none⟩])
  (.ret)))), [.t 8, .t 9]⟩
theorem row51 : RowOk Tryz.prog 51 C51 := ⟨Tryz.f51, ⟨[], [], [], []⟩, lvOf [], Tryz.func51, by kernel_rfl, by kernel_rfl⟩
def B52_2 : C := .seq (.seq (.reg [⟨some 18, .mv (.t 9) false, none⟩, ⟨some 19, .mv (.t 1) false, none⟩, ⟨some 20, .bin .gtr (.t 18) (.t 19), none⟩, ⟨some 21, .mv (.t 20) false, none⟩, ⟨some 22, .mv (.t 3) false, some (21, true)⟩, ⟨some 23, .mv (.t 0) false, some (21, true)⟩, ⟨some 24, .mv (.t 9) false, some (21, true)⟩, ⟨some 25, .ia 1 (.t 23) (.t 24), some (21, true)⟩, ⟨some 26, .load 1 false (.t 25) false, some (21, true)⟩, ⟨some 27, .mv (.t 0) false, some (21, true)⟩, ⟨some 28, .mv (.t 9) false, some (21, true)⟩, ⟨some 29, .bin .sub (.t 28) (.c (.int .i64 1)), some (21, true)⟩, ⟨some 30, .ia 1 (.t 27) (.t 29), some (21, true)⟩, ⟨some 31, .load 1 false (.t 30) false, some (21, true)⟩, ⟨some 32, .callv (.t 22) [(.t 26), (.t 31)], some (21, true)⟩, ⟨some 33, .bin .lss (.t 32) (.c (.int .i64 0)), some (21, true)⟩, ⟨some 34, .pick (.t 21) (.t 33) (.c (.bool false)), none⟩])
  (.cond (.t 34) (.skip)
  (.exit 2)))
  (.seq (.block 3 (.reg [⟨some 37, .mv (.t 0) false, none⟩, ⟨some 38, .mv (.t 9) false, none⟩, ⟨some 39, .mv (.t 0) false, none⟩, ⟨some 40, .mv (.t 9) false, none⟩, ⟨some 41, .bin .sub (.t 40) (.c (.int .i64 1)), none⟩, ⟨some 42, .mv (.t 0) false, none⟩, ⟨some 43, .mv (.t 9) false, none⟩, ⟨some 44, .bin .sub (.t 43) (.c (.int .i64 1)), none⟩, ⟨some 45, .ia 1 (.t 42) (.t 44), none⟩, ⟨some 46, .load 1 false (.t 45) false, none⟩, ⟨some 47, .mv (.t 0) false, none⟩, ⟨some 48, .mv (.t 9) false, none⟩, ⟨some 49, .ia 1 (.t 47) (.t 48), none⟩, ⟨some 50, .load 1 false (.t 49) false, none⟩, ⟨some 51, .ia 1 (.t 37) (.t 38), none⟩, ⟨none, .store 1 (.t 51) (.t 46), none⟩, ⟨some 52, .ia 1 (.t 39) (.t 41), none⟩, ⟨none, .store 1 (.t 52) (.t 50), none⟩]))
  (.reg [⟨some 35, .mv (.t 9) false, none⟩, ⟨some 36, .bin .sub (.t 35) (.c (.int .i64 1)), none⟩, ⟨some 9, .mv (.t 36) true, none⟩]))
def L52_2 : C := .loop [0, 1, 2, 3, 8, 9] 0 B52_2
theorem go52_2 (s : Env × Bx) (nb) : evL tab ext nb L52_2 s = (loopIn nb [0, 1, 2, 3, 8, 9] 0 s).bind fun s0 => (evL tab ext nb B52_2 s0).bind (seqG tab ext nb L52_2) := eL_loop _ _ _
def B52_0 : C := .seq (.seq (.reg [⟨some 12, .mv (.t 8) false, none⟩, ⟨some 13, .mv (.t 2) false, none⟩, ⟨some 14, .bin .lss (.t 12) (.t 13), none⟩])
  (.cond (.t 14) (.skip)
  (.exit 0)))
  (.seq (.block 1 (.seq (.reg [⟨some 17, .mv (.t 8) false, none⟩, ⟨some 9, .mv (.t 17) true, none⟩])
  (.block 2 (L52_2))))
  (.reg [⟨some 15, .mv (.t 8) false, none⟩, ⟨some 16, .bin .add (.t 15) (.c (.int .i64 1)), none⟩, ⟨some 8, .mv (.t 16) true, none⟩]))
def L52_0 : C := .loop [0, 1, 2, 3, 8] 0 B52_0
theorem go52_0 (s : Env × Bx) (nb) : evL tab ext nb L52_0 s = (loopIn nb [0, 1, 2, 3, 8] 0 s).bind fun s0 => (evL tab ext nb B52_0 s0).bind (seqG tab ext nb L52_0) := eL_loop _ _ _
/-- slices.insertionSortCmpFunc[int] -/
def C52 : CFun := ⟨53, 4, .seq (.reg [⟨some 10, .mv (.t 1) false, none⟩, ⟨some 11, .bin .add (.t 10) (.c (.int .i64 1)), none⟩, ⟨some 8, .mv (.t 11) true, none⟩])
  (.block 0 (L52_0)), []⟩
theorem row52 : RowOk Tryz.prog 52 C52 := ⟨Tryz.f52, ⟨[], [], [], []⟩, lvOf [(0, [0, 1, 2, 3, 8], 0), (2, [0, 1, 2, 3, 8, 9], 0)], Tryz.func52, by kernel_rfl, by kernel_rfl⟩
def B53_0 : C := .seq (.seq (.reg [⟨some 20, .mv (.t 11) false, none⟩, ⟨some 21, .bin .geq (.t 20) (.c (.int .i64 0)), none⟩])
  (.cond (.t 21) (.skip)
  (.exit 0)))
  (.seq (.block 1 (.reg [⟨some 24, .mv (.t 0) false, none⟩, ⟨some 25, .mv (.t 11) false, none⟩, ⟨some 26, .mv (.t 10) false, none⟩, ⟨some 27, .mv (.t 8) false, none⟩, ⟨some 28, .mv (.t 3) false, none⟩, ⟨some 29, .calli 76 [(.t 24), (.t 25), (.t 26), (.t 27), (.t 28)], none⟩]))
  (.reg [⟨some 22, .mv (.t 11) false, none⟩, ⟨some 23, .bin .sub (.t 22) (.c (.int .i64 1)), none⟩, ⟨some 11, .mv (.t 23) true, none⟩]))
def L53_0 : C := .loop [0, 3, 8, 9, 10, 11] 0 B53_0
theorem go53_0 (s : Env × Bx) (nb) : evL tab ext nb L53_0 s = (loopIn nb [0, 3, 8, 9, 10, 11] 0 s).bind fun s0 => (evL tab ext nb B53_0 s0).bind (seqG tab ext nb L53_0) := eL_loop _ _ _
def B53_2 : C := .seq (.seq (.reg [⟨some 32, .mv (.t 12) false, none⟩, ⟨some 33, .bin .geq (.t 32) (.c (.int .i64 0)), none⟩])
  (.cond (.t 33) (.skip)
  (.exit 2)))
  (.seq (.block 3 (.seq (.reg [⟨some 36, .mv (.t 0) false, none⟩, ⟨some 37, .mv (.t 8) false, none⟩, ⟨some 38, .mv (.t 0) false, none⟩, ⟨some 39, .mv (.t 8) false, none⟩, ⟨some 40, .mv (.t 12) false, none⟩, ⟨some 41, .bin .add (.t 39) (.t 40), none⟩, ⟨some 42, .mv (.t 0) false, none⟩, ⟨some 43, .mv (.t 8) false, none⟩, ⟨some 44, .mv (.t 12) false, none⟩, ⟨some 45, .bin .add (.t 43) (.t 44), none⟩, ⟨some 46, .ia 1 (.t 42) (.t 45), none⟩, ⟨some 47, .load 1 false (.t 46) false, none⟩, ⟨some 48, .mv (.t 0) false, none⟩, ⟨some 49, .mv (.t 8) false, none⟩, ⟨some 50, .ia 1 (.t 48) (.t 49), none⟩, ⟨some 51, .load 1 false (.t 50) false, none⟩, ⟨some 52, .ia 1 (.t 36) (.t 37), none⟩, ⟨none, .store 1 (.t 52) (.t 47), none⟩, ⟨some 53, .ia 1 (.t 38) (.t 41), none⟩, ⟨none, .store 1 (.t 53) (.t 51), none⟩])
  (.reg [⟨some 54, .mv (.t 0) false, none⟩, ⟨some 55, .mv (.t 9) false, none⟩, ⟨some 56, .mv (.t 12) false, none⟩, ⟨some 57, .mv (.t 8) false, none⟩, ⟨some 58, .mv (.t 3) false, none⟩, ⟨some 59, .calli 76 [(.t 54), (.t 55), (.t 56), (.t 57), (.t 58)], none⟩])))
  (.reg [⟨some 34, .mv (.t 12) false, none⟩, ⟨some 35, .bin .sub (.t 34) (.c (.int .i64 1)), none⟩, ⟨some 12, .mv (.t 35) true, none⟩]))
def L53_2 : C := .loop [0, 3, 8, 9, 12] 0 B53_2
theorem go53_2 (s : Env × Bx) (nb) : evL tab ext nb L53_2 s = (loopIn nb [0, 3, 8, 9, 12] 0 s).bind fun s0 => (evL tab ext nb B53_2 s0).bind (seqG tab ext nb L53_2) := eL_loop _ _ _
/-- slices.heapSortCmpFunc[int] -/
def C53 : CFun := ⟨60, 4, .seq (.reg [⟨some 13, .mv (.t 1) false, none⟩, ⟨some 8, .mv (.t 13) true, none⟩])
  (.seq (.reg [⟨some 9, .mv (.c (.int .i64 0)) true, none⟩])
  (.seq (.reg [⟨some 14, .mv (.t 2) false, none⟩, ⟨some 15, .mv (.t 1) false, none⟩, ⟨some 16, .bin .sub (.t 14) (.t 15), none⟩, ⟨some 10, .mv (.t 16) true, none⟩])
  (.seq (.seq (.reg [⟨some 17, .mv (.t 10) false, none⟩, ⟨some 18, .bin .sub (.t 17) (.c (.int .i64 1)), none⟩, ⟨some 19, .bin .quo (.t 18) (.c (.int .i64 2)), none⟩, ⟨some 11, .mv (.t 19) true, none⟩])
  (.block 0 (L53_0)))
  (.seq (.reg [⟨some 30, .mv (.t 10) false, none⟩, ⟨some 31, .bin .sub (.t 30) (.c (.int .i64 1)), none⟩, ⟨some 12, .mv (.t 31) true, none⟩])
  (.block 2 (L53_2)))))), []⟩
theorem row53 : RowOk Tryz.prog 53 C53 := ⟨Tryz.f53, ⟨[], [], [], []⟩, lvOf [(0, [0, 3, 8, 9, 10, 11], 0), (2, [0, 3, 8, 9, 12], 0)], Tryz.func53, by kernel_rfl, by kernel_rfl⟩
def B54_0 : C := .seq (.seq (.reg [⟨some 28, .mv (.t 11) false, none⟩, ⟨some 29, .mv (.t 1) false, none⟩, ⟨some 30, .mv (.t 8) false, none⟩, ⟨some 31, .bin .quo (.t 30) (.c (.int .i64 4)), none⟩, ⟨some 32, .bin .mul (.t 31) (.c (.int .i64 2)), none⟩, ⟨some 33, .bin .add (.t 29) (.t 32), none⟩, ⟨some 34, .bin .add (.t 33) (.c (.int .i64 1)), none⟩, ⟨some 35, .bin .leq (.t 28) (.t 34), none⟩])
  (.cond (.t 35) (.skip)
  (.exit 0)))
  (.seq (.block 1 (.seq (.reg [⟨some 38, .call 78 [(.t 9)] false, none⟩, ⟨some 39, .mv (.t 10) false, none⟩, ⟨some 40, .bin .sub (.t 39) (.c (.int .u64 1)), none⟩, ⟨some 41, .bin .and (.t 38) (.t 40), none⟩, ⟨some 42, .conv .i64 (.t 41), none⟩, ⟨some 12, .mv (.t 42) true, none⟩])
  (.seq (.seq (.reg [⟨some 43, .mv (.t 12) false, none⟩, ⟨some 44, .mv (.t 8) false, none⟩, ⟨some 45, .bin .geq (.t 43) (.t 44), none⟩])
  (.cond (.t 45) (.reg [⟨some 46, .mv (.t 12) false, none⟩, ⟨some 47, .mv (.t 8) false, none⟩, ⟨some 48, .bin .sub (.t 46) (.t 47), none⟩, ⟨some 12, .mv (.t 48) true, none⟩])
  (.skip)))
  (.reg [⟨some 49, .mv (.t 0) false, none⟩, ⟨some 50, .mv (.t 11) false, none⟩, ⟨some 51, .mv (.t 0) false, none⟩, ⟨some 52, .mv (.t 1) false, none⟩, ⟨some 53, .mv (.t 12) false, none⟩, ⟨some 54, .bin .add (.t 52) (.t 53), none⟩, ⟨some 55, .mv (.t 0) false, none⟩, ⟨some 56, .mv (.t 1) false, none⟩, ⟨some 57, .mv (.t 12) false, none⟩, ⟨some 58, .bin .add (.t 56) (.t 57), none⟩, ⟨some 59, .ia 1 (.t 55) (.t 58), none⟩, ⟨some 60, .load 1 false (.t 59) false, none⟩, ⟨some 61, .mv (.t 0) false, none⟩, ⟨some 62, .mv (.t 11) false, none⟩, ⟨some 63, .ia 1 (.t 61) (.t 62), none⟩, ⟨some 64, .load 1 false (.t 63) false, none⟩, ⟨some 65, .ia 1 (.t 49) (.t 50), none⟩, ⟨none, .store 1 (.t 65) (.t 60), none⟩, ⟨some 66, .ia 1 (.t 51) (.t 54), none⟩, ⟨none, .store 1 (.t 66) (.t 64), none⟩]))))
  (.reg [⟨some 36, .mv (.t 11) false, none⟩, ⟨some 37, .bin .add (.t 36) (.c (.int .i64 1)), none⟩, ⟨some 11, .mv (.t 37) true, none⟩]))
def L54_0 : C := .loop [0, 1, 8, 9, 10, 11] 1 B54_0
theorem go54_0 (s : Env × Bx) (nb) : evL tab ext nb L54_0 s = (loopIn nb [0, 1, 8, 9, 10, 11] 1 s).bind fun s0 => (evL tab ext nb B54_0 s0).bind (seqG tab ext nb L54_0) := eL_loop _ _ _
/-- slices.breakPatternsCmpFunc[int] -/
def C54 : CFun := ⟨67, 4, .seq (.reg [⟨some 13, .mv (.t 2) false, none⟩, ⟨some 14, .mv (.t 1) false, none⟩, ⟨some 15, .bin .sub (.t 13) (.t 14), none⟩, ⟨some 8, .mv (.t 15) true, none⟩])
  (.seq (.reg [⟨some 16, .mv (.t 8) false, none⟩, ⟨some 17, .bin .geq (.t 16) (.c (.int .i64 8)), none⟩])
  (.cond (.t 17) (.seq (.reg [⟨some 18, .mv (.t 8) false, none⟩, ⟨some 19, .conv .u64 (.t 18), none⟩, ⟨some 9, .alloc [(.int .u64 0)], none⟩, ⟨none, .store 1 (.t 9) (.t 19), none⟩])
  (.seq (.reg [⟨some 20, .mv (.t 8) false, none⟩, ⟨some 21, .call 77 [(.t 20)] false, none⟩, ⟨some 10, .mv (.t 21) true, none⟩])
  (.seq (.reg [⟨some 22, .mv (.t 1) false, none⟩, ⟨some 23, .mv (.t 8) false, none⟩, ⟨some 24, .bin .quo (.t 23) (.c (.int .i64 4)), none⟩, ⟨some 25, .bin .mul (.t 24) (.c (.int .i64 2)), none⟩, ⟨some 26, .bin .add (.t 22) (.t 25), none⟩, ⟨some 27, .bin .sub (.t 26) (.c (.int .i64 1)), none⟩, ⟨some 11, .mv (.t 27) true, none⟩])
  (.block 0 (L54_0)))))
  (.skip))), []⟩
theorem row54 : RowOk Tryz.prog 54 C54 := ⟨Tryz.f54, ⟨[], [], [], []⟩, lvOf [(0, [0, 1, 8, 9, 10, 11], 1)], Tryz.func54, by kernel_rfl, by kernel_rfl⟩
/-- slices.choosePivotCmpFunc[int] -/
def C55 : CFun := ⟨63, 4, .seq (.reg [⟨some 8, .mv (.c (.int .i64 0)) true, none⟩, ⟨some 9, .mv (.c (.int .i64 0)) true, none⟩])
  (.seq (.reg [⟨some 15, .mv (.t 2) false, none⟩, ⟨some 16, .mv (.t 1) false, none⟩, ⟨some 17, .bin .sub (.t 15) (.t 16), none⟩, ⟨some 10, .mv (.t 17) true, none⟩])
  (.seq (.reg [⟨some 11, .alloc [(.int .i64 0)], none⟩])
  (.seq (.reg [⟨some 18, .mv (.t 1) false, none⟩, ⟨some 19, .mv (.t 10) false, none⟩, ⟨some 20, .bin .quo (.t 19) (.c (.int .i64 4)), none⟩, ⟨some 21, .bin .mul (.t 20) (.c (.int .i64 1)), none⟩, ⟨some 22, .bin .add (.t 18) (.t 21), none⟩, ⟨some 12, .mv (.t 22) true, none⟩])
  (.seq (.reg [⟨some 23, .mv (.t 1) false, none⟩, ⟨some 24, .mv (.t 10) false, none⟩, ⟨some 25, .bin .quo (.t 24) (.c (.int .i64 4)), none⟩, ⟨some 26, .bin .mul (.t 25) (.c (.int .i64 2)), none⟩, ⟨some 27, .bin .add (.t 23) (.t 26), none⟩, ⟨some 13, .mv (.t 27) true, none⟩])
  (.seq (.reg [⟨some 28, .mv (.t 1) false, none⟩, ⟨some 29, .mv (.t 10) false, none⟩, ⟨some 30, .bin .quo (.t 29) (.c (.int .i64 4)), none⟩, ⟨some 31, .bin .mul (.t 30) (.c (.int .i64 3)), none⟩, ⟨some 32, .bin .add (.t 28) (.t 31), none⟩, ⟨some 14, .mv (.t 32) true, none⟩])
  (.seq (.seq (.reg [⟨some 33, .mv (.t 10) false, none⟩, ⟨some 34, .bin .geq (.t 33) (.c (.int .i64 8)), none⟩])
  (.cond (.t 34) (.seq (.seq (.reg [⟨some 35, .mv (.t 10) false, none⟩, ⟨some 36, .bin .geq (.t 35) (.c (.int .i64 50)), none⟩])
  (.cond (.t 36) (.seq (.reg [⟨some 37, .mv (.t 0) false, none⟩, ⟨some 38, .mv (.t 12) false, none⟩, ⟨some 39, .mv (.t 3) false, none⟩, ⟨some 40, .calli 79 [(.t 37), (.t 38), (.t 11), (.t 39)], none⟩, ⟨some 12, .mv (.t 40) true, none⟩])
  (.seq (.reg [⟨some 41, .mv (.t 0) false, none⟩, ⟨some 42, .mv (.t 13) false, none⟩, ⟨some 43, .mv (.t 3) false, none⟩, ⟨some 44, .calli 79 [(.t 41), (.t 42), (.t 11), (.t 43)], none⟩, ⟨some 13, .mv (.t 44) true, none⟩])
  (.reg [⟨some 45, .mv (.t 0) false, none⟩, ⟨some 46, .mv (.t 14) false, none⟩, ⟨some 47, .mv (.t 3) false, none⟩, ⟨some 48, .calli 79 [(.t 45), (.t 46), (.t 11), (.t 47)], none⟩, ⟨some 14, .mv (.t 48) true, none⟩])))
  (.skip)))
  (.reg [⟨some 49, .mv (.t 0) false, none⟩, ⟨some 50, .mv (.t 12) false, none⟩, ⟨some 51, .mv (.t 13) false, none⟩, ⟨some 52, .mv (.t 14) false, none⟩, ⟨some 53, .mv (.t 3) false, none⟩, ⟨some 54, .calli 80 [(.t 49), (.t 50), (.t 51), (.t 52), (.t 11), (.t 53)], none⟩, ⟨some 13, .mv (.t 54) true, none⟩]))
  (.skip)))
  (.seq (.reg [⟨some 55, .load 1 false (.t 11) false, none⟩])
  (.block 0 (.seq (.reg [⟨some 58, .bin .eql (.t 55) (.c (.int .i64 0)), none⟩, ⟨some 57, .mv (.t 58) true, none⟩])
  (.cond (.t 57) (.seq (.reg [⟨some 59, .mv (.t 13) false, none⟩, ⟨some 8, .mv (.t 59) true, none⟩, ⟨some 9, .mv (.c (.int .i64 1)) true, none⟩])
  (.ret))
  (.seq (.reg [⟨some 61, .bin .eql (.t 55) (.c (.int .i64 12)), none⟩, ⟨some 60, .mv (.t 61) true, none⟩])
  (.cond (.t 60) (.seq (.reg [⟨some 62, .mv (.t 13) false, none⟩, ⟨some 8, .mv (.t 62) true, none⟩, ⟨some 9, .mv (.c (.int .i64 2)) true, none⟩])
  (.ret))
  (.seq (.reg [⟨some 56, .mv (.t 13) false, none⟩, ⟨some 8, .mv (.t 56) true, none⟩, ⟨some 9, .mv (.c (.int .i64 0)) true, none⟩])
  (.ret)))))))))))))), [.t 8, .t 9]⟩
theorem row55 : RowOk Tryz.prog 55 C55 := ⟨Tryz.f55, ⟨[], [], [], []⟩, lvOf [], Tryz.func55, by kernel_rfl, by kernel_rfl⟩
def B56_0 : C := .seq (.seq (.reg [⟨some 13, .mv (.t 8) false, none⟩, ⟨some 14, .mv (.t 9) false, none⟩, ⟨some 15, .bin .lss (.t 13) (.t 14), none⟩])
  (.cond (.t 15) (.skip)
  (.exit 0)))
  (.block 1 (.seq (.reg [⟨some 16, .mv (.t 0) false, none⟩, ⟨some 17, .mv (.t 8) false, none⟩, ⟨some 18, .mv (.t 0) false, none⟩, ⟨some 19, .mv (.t 9) false, none⟩, ⟨some 20, .mv (.t 0) false, none⟩, ⟨some 21, .mv (.t 9) false, none⟩, ⟨some 22, .ia 1 (.t 20) (.t 21), none⟩, ⟨some 23, .load 1 false (.t 22) false, none⟩, ⟨some 24, .mv (.t 0) false, none⟩, ⟨some 25, .mv (.t 8) false, none⟩, ⟨some 26, .ia 1 (.t 24) (.t 25), none⟩, ⟨some 27, .load 1 false (.t 26) false, none⟩, ⟨some 28, .ia 1 (.t 16) (.t 17), none⟩, ⟨none, .store 1 (.t 28) (.t 23), none⟩, ⟨some 29, .ia 1 (.t 18) (.t 19), none⟩, ⟨none, .store 1 (.t 29) (.t 27), none⟩])
  (.seq (.reg [⟨some 30, .mv (.t 8) false, none⟩, ⟨some 31, .bin .add (.t 30) (.c (.int .i64 1)), none⟩, ⟨some 8, .mv (.t 31) true, none⟩])
  (.reg [⟨some 32, .mv (.t 9) false, none⟩, ⟨some 33, .bin .sub (.t 32) (.c (.int .i64 1)), none⟩, ⟨some 9, .mv (.t 33) true, none⟩]))))
def L56_0 : C := .loop [0, 8, 9] 0 B56_0
theorem go56_0 (s : Env × Bx) (nb) : evL tab ext nb L56_0 s = (loopIn nb [0, 8, 9] 0 s).bind fun s0 => (evL tab ext nb B56_0 s0).bind (seqG tab ext nb L56_0) := eL_loop _ _ _
/-- slices.reverseRangeCmpFunc[int] -/
def C56 : CFun := ⟨34, 4, .seq (.reg [⟨some 10, .mv (.t 1) false, none⟩, ⟨some 8, .mv (.t 10) true, none⟩])
  (.seq (.reg [⟨some 11, .mv (.t 2) false, none⟩, ⟨some 12, .bin .sub (.t 11) (.c (.int .i64 1)), none⟩, ⟨some 9, .mv (.t 12) true, none⟩])
  (.block 0 (L56_0))), []⟩
theorem row56 : RowOk Tryz.prog 56 C56 := ⟨Tryz.f56, ⟨[], [], [], []⟩, lvOf [(0, [0, 8, 9], 0)], Tryz.func56, by kernel_rfl, by kernel_rfl⟩
def B57_2 : C := .seq (.seq (.reg [⟨some 19, .mv (.t 9) false, none⟩, ⟨some 20, .mv (.t 2) false, none⟩, ⟨some 21, .bin .lss (.t 19) (.t 20), none⟩, ⟨some 22, .mv (.t 21) false, none⟩, ⟨some 23, .mv (.t 3) false, some (22, true)⟩, ⟨some 24, .mv (.t 0) false, some (22, true)⟩, ⟨some 25, .mv (.t 9) false, some (22, true)⟩, ⟨some 26, .ia 1 (.t 24) (.t 25), some (22, true)⟩, ⟨some 27, .load 1 false (.t 26) false, some (22, true)⟩, ⟨some 28, .mv (.t 0) false, some (22, true)⟩, ⟨some 29, .mv (.t 9) false, some (22, true)⟩, ⟨some 30, .bin .sub (.t 29) (.c (.int .i64 1)), some (22, true)⟩, ⟨some 31, .ia 1 (.t 28) (.t 30), some (22, true)⟩, ⟨some 32, .load 1 false (.t 31) false, some (22, true)⟩, ⟨some 33, .callv (.t 23) [(.t 27), (.t 32)], some (22, true)⟩, ⟨some 34, .bin .lss (.t 33) (.c (.int .i64 0)), some (22, true)⟩, ⟨some 35, .un .not (.t 34), some (22, true)⟩, ⟨some 36, .pick (.t 22) (.t 35) (.c (.bool false)), none⟩])
  (.cond (.t 36) (.skip)
  (.exit 2)))
  (.block 3 (.reg [⟨some 37, .mv (.t 9) false, none⟩, ⟨some 38, .bin .add (.t 37) (.c (.int .i64 1)), none⟩, ⟨some 9, .mv (.t 38) true, none⟩]))
def L57_2 : C := .loop [0, 1, 2, 3, 9, 10] 0 B57_2
theorem go57_2 (s : Env × Bx) (nb) : evL tab ext nb L57_2 s = (loopIn nb [0, 1, 2, 3, 9, 10] 0 s).bind fun s0 => (evL tab ext nb B57_2 s0).bind (seqG tab ext nb L57_2) := eL_loop _ _ _
def B57_4 : C := .seq (.seq (.reg [⟨some 68, .mv (.t 11) false, none⟩, ⟨some 69, .bin .geq (.t 68) (.c (.int .i64 1)), none⟩])
  (.cond (.t 69) (.skip)
  (.exit 4)))
  (.seq (.block 5 (.seq (.seq (.reg [⟨some 72, .mv (.t 3) false, none⟩, ⟨some 73, .mv (.t 0) false, none⟩, ⟨some 74, .mv (.t 11) false, none⟩, ⟨some 75, .ia 1 (.t 73) (.t 74), none⟩, ⟨some 76, .load 1 false (.t 75) false, none⟩, ⟨some 77, .mv (.t 0) false, none⟩, ⟨some 78, .mv (.t 11) false, none⟩, ⟨some 79, .bin .sub (.t 78) (.c (.int .i64 1)), none⟩, ⟨some 80, .ia 1 (.t 77) (.t 79), none⟩, ⟨some 81, .load 1 false (.t 80) false, none⟩, ⟨some 82, .callv (.t 72) [(.t 76), (.t 81)], none⟩, ⟨some 83, .bin .lss (.t 82) (.c (.int .i64 0)), none⟩, ⟨some 84, .un .not (.t 83), none⟩])
  (.cond (.t 84) (.exit 4)
  (.skip)))
  (.reg [⟨some 85, .mv (.t 0) false, none⟩, ⟨some 86, .mv (.t 11) false, none⟩, ⟨some 87, .mv (.t 0) false, none⟩, ⟨some 88, .mv (.t 11) false, none⟩, ⟨some 89, .bin .sub (.t 88) (.c (.int .i64 1)), none⟩, ⟨some 90, .mv (.t 0) false, none⟩, ⟨some 91, .mv (.t 11) false, none⟩, ⟨some 92, .bin .sub (.t 91) (.c (.int .i64 1)), none⟩, ⟨some 93, .ia 1 (.t 90) (.t 92), none⟩, ⟨some 94, .load 1 false (.t 93) false, none⟩, ⟨some 95, .mv (.t 0) false, none⟩, ⟨some 96, .mv (.t 11) false, none⟩, ⟨some 97, .ia 1 (.t 95) (.t 96), none⟩, ⟨some 98, .load 1 false (.t 97) false, none⟩, ⟨some 99, .ia 1 (.t 85) (.t 86), none⟩, ⟨none, .store 1 (.t 99) (.t 94), none⟩, ⟨some 100, .ia 1 (.t 87) (.t 89), none⟩, ⟨none, .store 1 (.t 100) (.t 98), none⟩])))
  (.reg [⟨some 70, .mv (.t 11) false, none⟩, ⟨some 71, .bin .sub (.t 70) (.c (.int .i64 1)), none⟩, ⟨some 11, .mv (.t 71) true, none⟩]))
def L57_4 : C := .loop [0, 1, 2, 3, 9, 10, 11] 0 B57_4
theorem go57_4 (s : Env × Bx) (nb) : evL tab ext nb L57_4 s = (loopIn nb [0, 1, 2, 3, 9, 10, 11] 0 s).bind fun s0 => (evL tab ext nb B57_4 s0).bind (seqG tab ext nb L57_4) := eL_loop _ _ _
def B57_6 : C := .seq (.seq (.reg [⟨some 107, .mv (.t 12) false, none⟩, ⟨some 108, .mv (.t 2) false, none⟩, ⟨some 109, .bin .lss (.t 107) (.t 108), none⟩])
  (.cond (.t 109) (.skip)
  (.exit 6)))
  (.seq (.block 7 (.seq (.seq (.reg [⟨some 112, .mv (.t 3) false, none⟩, ⟨some 113, .mv (.t 0) false, none⟩, ⟨some 114, .mv (.t 12) false, none⟩, ⟨some 115, .ia 1 (.t 113) (.t 114), none⟩, ⟨some 116, .load 1 false (.t 115) false, none⟩, ⟨some 117, .mv (.t 0) false, none⟩, ⟨some 118, .mv (.t 12) false, none⟩, ⟨some 119, .bin .sub (.t 118) (.c (.int .i64 1)), none⟩, ⟨some 120, .ia 1 (.t 117) (.t 119), none⟩, ⟨some 121, .load 1 false (.t 120) false, none⟩, ⟨some 122, .callv (.t 112) [(.t 116), (.t 121)], none⟩, ⟨some 123, .bin .lss (.t 122) (.c (.int .i64 0)), none⟩, ⟨some 124, .un .not (.t 123), none⟩])
  (.cond (.t 124) (.exit 6)
  (.skip)))
  (.reg [⟨some 125, .mv (.t 0) false, none⟩, ⟨some 126, .mv (.t 12) false, none⟩, ⟨some 127, .mv (.t 0) false, none⟩, ⟨some 128, .mv (.t 12) false, none⟩, ⟨some 129, .bin .sub (.t 128) (.c (.int .i64 1)), none⟩, ⟨some 130, .mv (.t 0) false, none⟩, ⟨some 131, .mv (.t 12) false, none⟩, ⟨some 132, .bin .sub (.t 131) (.c (.int .i64 1)), none⟩, ⟨some 133, .ia 1 (.t 130) (.t 132), none⟩, ⟨some 134, .load 1 false (.t 133) false, none⟩, ⟨some 135, .mv (.t 0) false, none⟩, ⟨some 136, .mv (.t 12) false, none⟩, ⟨some 137, .ia 1 (.t 135) (.t 136), none⟩, ⟨some 138, .load 1 false (.t 137) false, none⟩, ⟨some 139, .ia 1 (.t 125) (.t 126), none⟩, ⟨none, .store 1 (.t 139) (.t 134), none⟩, ⟨some 140, .ia 1 (.t 127) (.t 129), none⟩, ⟨none, .store 1 (.t 140) (.t 138), none⟩])))
  (.reg [⟨some 110, .mv (.t 12) false, none⟩, ⟨some 111, .bin .add (.t 110) (.c (.int .i64 1)), none⟩, ⟨some 12, .mv (.t 111) true, none⟩]))
def L57_6 : C := .loop [0, 1, 2, 3, 9, 10, 12] 0 B57_6
theorem go57_6 (s : Env × Bx) (nb) : evL tab ext nb L57_6 s = (loopIn nb [0, 1, 2, 3, 9, 10, 12] 0 s).bind fun s0 => (evL tab ext nb B57_6 s0).bind (seqG tab ext nb L57_6) := eL_loop _ _ _
def B57_0 : C := .seq (.seq (.reg [⟨some 15, .mv (.t 10) false, none⟩, ⟨some 16, .bin .lss (.t 15) (.c (.int .i64 5)), none⟩])
  (.cond (.t 16) (.skip)
  (.exit 0)))
  (.seq (.block 1 (.seq (.block 2 (L57_2))
  (.seq (.seq (.reg [⟨some 39, .mv (.t 9) false, none⟩, ⟨some 40, .mv (.t 2) false, none⟩, ⟨some 41, .bin .eql (.t 39) (.t 40), none⟩])
  (.cond (.t 41) (.seq (.reg [⟨some 8, .mv (.c (.bool true)) true, none⟩])
  (.ret))
  (.skip)))
  (.seq (.seq (.reg [⟨some 42, .mv (.t 2) false, none⟩, ⟨some 43, .mv (.t 1) false, none⟩, ⟨some 44, .bin .sub (.t 42) (.t 43), none⟩, ⟨some 45, .bin .lss (.t 44) (.c (.int .i64 50)), none⟩])
  (.cond (.t 45) (.seq (.reg [⟨some 8, .mv (.c (.bool false)) true, none⟩])
  (.ret))
  (.skip)))
  (.seq (.reg [⟨some 46, .mv (.t 0) false, none⟩, ⟨some 47, .mv (.t 9) false, none⟩, ⟨some 48, .mv (.t 0) false, none⟩, ⟨some 49, .mv (.t 9) false, none⟩, ⟨some 50, .bin .sub (.t 49) (.c (.int .i64 1)), none⟩, ⟨some 51, .mv (.t 0) false, none⟩, ⟨some 52, .mv (.t 9) false, none⟩, ⟨some 53, .bin .sub (.t 52) (.c (.int .i64 1)), none⟩, ⟨some 54, .ia 1 (.t 51) (.t 53), none⟩, ⟨some 55, .load 1 false (.t 54) false, none⟩, ⟨some 56, .mv (.t 0) false, none⟩, ⟨some 57, .mv (.t 9) false, none⟩, ⟨some 58, .ia 1 (.t 56) (.t 57), none⟩, ⟨some 59, .load 1 false (.t 58) false, none⟩, ⟨some 60, .ia 1 (.t 46) (.t 47), none⟩, ⟨none, .store 1 (.t 60) (.t 55), none⟩, ⟨some 61, .ia 1 (.t 48) (.t 50), none⟩, ⟨none, .store 1 (.t 61) (.t 59), none⟩])
  (.seq (.seq (.reg [⟨some 62, .mv (.t 9) false, none⟩, ⟨some 63, .mv (.t 1) false, none⟩, ⟨some 64, .bin .sub (.t 62) (.t 63), none⟩, ⟨some 65, .bin .geq (.t 64) (.c (.int .i64 2)), none⟩])
  (.cond (.t 65) (.seq (.reg [⟨some 66, .mv (.t 9) false, none⟩, ⟨some 67, .bin .sub (.t 66) (.c (.int .i64 1)), none⟩, ⟨some 11, .mv (.t 67) true, none⟩])
  (.block 4 (L57_4)))
  (.skip)))
  (.seq (.reg [⟨some 101, .mv (.t 2) false, none⟩, ⟨some 102, .mv (.t 9) false, none⟩, ⟨some 103, .bin .sub (.t 101) (.t 102), none⟩, ⟨some 104, .bin .geq (.t 103) (.c (.int .i64 2)), none⟩])
  (.cond (.t 104) (.seq (.reg [⟨some 105, .mv (.t 9) false, none⟩, ⟨some 106, .bin .add (.t 105) (.c (.int .i64 1)), none⟩, ⟨some 12, .mv (.t 106) true, none⟩])
  (.block 6 (L57_6)))
  (.skip)))))))))
  (.reg [⟨some 17, .mv (.t 10) false, none⟩, ⟨some 18, .bin .add (.t 17) (.c (.int .i64 1)), none⟩, ⟨some 10, .mv (.t 18) true, none⟩]))
def L57_0 : C := .loop [0, 1, 2, 3, 9, 10] 0 B57_0
theorem go57_0 (s : Env × Bx) (nb) : evL tab ext nb L57_0 s = (loopIn nb [0, 1, 2, 3, 9, 10] 0 s).bind fun s0 => (evL tab ext nb B57_0 s0).bind (seqG tab ext nb L57_0) := eL_loop _ _ _
/-- slices.partialInsertionSortCmpFunc[int] -/
def C57 : CFun := ⟨141, 4, .seq (.reg [⟨some 8, .mv (.c (.bool false)) true, none⟩])
  (.seq (.reg [⟨some 13, .mv (.t 1) false, none⟩, ⟨some 14, .bin .add (.t 13) (.c (.int .i64 1)), none⟩, ⟨some 9, .mv (.t 14) true, none⟩])
  (.seq (.seq (.reg [⟨some 10, .mv (.c (.int .i64 0)) true, none⟩])
  (.block 0 (L57_0)))
  (.seq (.reg [⟨some 8, .mv (.c (.bool false)) true, none⟩])
  (.ret)))), [.t 8]⟩
theorem row57 : RowOk Tryz.prog 57 C57 := ⟨Tryz.f57, ⟨[], [], [], []⟩, lvOf [(0, [0, 1, 2, 3, 9, 10], 0), (2, [0, 1, 2, 3, 9, 10], 0), (4, [0, 1, 2, 3, 9, 10, 11], 0), (6, [0, 1, 2, 3, 9, 10, 12], 0)], Tryz.func57, by kernel_rfl, by kernel_rfl⟩
def B58_2 : C := .seq (.seq (.reg [⟨some 31, .mv (.t 11) false, none⟩, ⟨some 32, .mv (.t 12) false, none⟩, ⟨some 33, .bin .leq (.t 31) (.t 32), none⟩, ⟨some 34, .mv (.t 33) false, none⟩, ⟨some 35, .mv (.t 4) false, some (34, true)⟩, ⟨some 36, .mv (.t 0) false, some (34, true)⟩, ⟨some 37, .mv (.t 1) false, some (34, true)⟩, ⟨some 38, .ia 1 (.t 36) (.t 37), some (34, true)⟩, ⟨some 39, .load 1 false (.t 38) false, some (34, true)⟩, ⟨some 40, .mv (.t 0) false, some (34, true)⟩, ⟨some 41, .mv (.t 11) false, some (34, true)⟩, ⟨some 42, .ia 1 (.t 40) (.t 41), some (34, true)⟩, ⟨some 43, .load 1 false (.t 42) false, some (34, true)⟩, ⟨some 44, .callv (.t 35) [(.t 39), (.t 43)], some (34, true)⟩, ⟨some 45, .bin .lss (.t 44) (.c (.int .i64 0)), some (34, true)⟩, ⟨some 46, .un .not (.t 45), some (34, true)⟩, ⟨some 47, .pick (.t 34) (.t 46) (.c (.bool false)), none⟩])
  (.cond (.t 47) (.skip)
  (.exit 2)))
  (.block 3 (.reg [⟨some 48, .mv (.t 11) false, none⟩, ⟨some 49, .bin .add (.t 48) (.c (.int .i64 1)), none⟩, ⟨some 11, .mv (.t 49) true, none⟩]))
def L58_2 : C := .loop [0, 1, 4, 11, 12] 0 B58_2
theorem go58_2 (s : Env × Bx) (nb) : evL tab ext nb L58_2 s = (loopIn nb [0, 1, 4, 11, 12] 0 s).bind fun s0 => (evL tab ext nb B58_2 s0).bind (seqG tab ext nb L58_2) := eL_loop _ _ _
def B58_4 : C := .seq (.seq (.reg [⟨some 50, .mv (.t 11) false, none⟩, ⟨some 51, .mv (.t 12) false, none⟩, ⟨some 52, .bin .leq (.t 50) (.t 51), none⟩, ⟨some 53, .mv (.t 52) false, none⟩, ⟨some 54, .mv (.t 4) false, some (53, true)⟩, ⟨some 55, .mv (.t 0) false, some (53, true)⟩, ⟨some 56, .mv (.t 1) false, some (53, true)⟩, ⟨some 57, .ia 1 (.t 55) (.t 56), some (53, true)⟩, ⟨some 58, .load 1 false (.t 57) false, some (53, true)⟩, ⟨some 59, .mv (.t 0) false, some (53, true)⟩, ⟨some 60, .mv (.t 12) false, some (53, true)⟩, ⟨some 61, .ia 1 (.t 59) (.t 60), some (53, true)⟩, ⟨some 62, .load 1 false (.t 61) false, some (53, true)⟩, ⟨some 63, .callv (.t 54) [(.t 58), (.t 62)], some (53, true)⟩, ⟨some 64, .bin .lss (.t 63) (.c (.int .i64 0)), some (53, true)⟩, ⟨some 65, .pick (.t 53) (.t 64) (.c (.bool false)), none⟩])
  (.cond (.t 65) (.skip)
  (.exit 4)))
  (.block 5 (.reg [⟨some 66, .mv (.t 12) false, none⟩, ⟨some 67, .bin .sub (.t 66) (.c (.int .i64 1)), none⟩, ⟨some 12, .mv (.t 67) true, none⟩]))
def L58_4 : C := .loop [0, 1, 4, 11, 12] 0 B58_4
theorem go58_4 (s : Env × Bx) (nb) : evL tab ext nb L58_4 s = (loopIn nb [0, 1, 4, 11, 12] 0 s).bind fun s0 => (evL tab ext nb B58_4 s0).bind (seqG tab ext nb L58_4) := eL_loop _ _ _
def B58_0 : C := .block 1 (.seq (.block 2 (L58_2))
  (.seq (.block 4 (L58_4))
  (.seq (.seq (.reg [⟨some 68, .mv (.t 11) false, none⟩, ⟨some 69, .mv (.t 12) false, none⟩, ⟨some 70, .bin .gtr (.t 68) (.t 69), none⟩])
  (.cond (.t 70) (.exit 0)
  (.skip)))
  (.seq (.reg [⟨some 71, .mv (.t 0) false, none⟩, ⟨some 72, .mv (.t 11) false, none⟩, ⟨some 73, .mv (.t 0) false, none⟩, ⟨some 74, .mv (.t 12) false, none⟩, ⟨some 75, .mv (.t 0) false, none⟩, ⟨some 76, .mv (.t 12) false, none⟩, ⟨some 77, .ia 1 (.t 75) (.t 76), none⟩, ⟨some 78, .load 1 false (.t 77) false, none⟩, ⟨some 79, .mv (.t 0) false, none⟩, ⟨some 80, .mv (.t 11) false, none⟩, ⟨some 81, .ia 1 (.t 79) (.t 80), none⟩, ⟨some 82, .load 1 false (.t 81) false, none⟩, ⟨some 83, .ia 1 (.t 71) (.t 72), none⟩, ⟨none, .store 1 (.t 83) (.t 78), none⟩, ⟨some 84, .ia 1 (.t 73) (.t 74), none⟩, ⟨none, .store 1 (.t 84) (.t 82), none⟩])
  (.seq (.reg [⟨some 85, .mv (.t 11) false, none⟩, ⟨some 86, .bin .add (.t 85) (.c (.int .i64 1)), none⟩, ⟨some 11, .mv (.t 86) true, none⟩])
  (.reg [⟨some 87, .mv (.t 12) false, none⟩, ⟨some 88, .bin .sub (.t 87) (.c (.int .i64 1)), none⟩, ⟨some 12, .mv (.t 88) true, none⟩]))))))
def L58_0 : C := .loop [0, 1, 4, 11, 12] 0 B58_0
theorem go58_0 (s : Env × Bx) (nb) : evL tab ext nb L58_0 s = (loopIn nb [0, 1, 4, 11, 12] 0 s).bind fun s0 => (evL tab ext nb B58_0 s0).bind (seqG tab ext nb L58_0) := eL_loop _ _ _
/-- slices.partitionEqualCmpFunc[int] -/
def C58 : CFun := ⟨90, 5, .seq (.reg [⟨some 10, .mv (.c (.int .i64 0)) true, none⟩])
  (.seq (.reg [⟨some 13, .mv (.t 0) false, none⟩, ⟨some 14, .mv (.t 1) false, none⟩, ⟨some 15, .mv (.t 0) false, none⟩, ⟨some 16, .mv (.t 3) false, none⟩, ⟨some 17, .mv (.t 0) false, none⟩, ⟨some 18, .mv (.t 3) false, none⟩, ⟨some 19, .ia 1 (.t 17) (.t 18), none⟩, ⟨some 20, .load 1 false (.t 19) false, none⟩, ⟨some 21, .mv (.t 0) false, none⟩, ⟨some 22, .mv (.t 1) false, none⟩, ⟨some 23, .ia 1 (.t 21) (.t 22), none⟩, ⟨some 24, .load 1 false (.t 23) false, none⟩, ⟨some 25, .ia 1 (.t 13) (.t 14), none⟩, ⟨none, .store 1 (.t 25) (.t 20), none⟩, ⟨some 26, .ia 1 (.t 15) (.t 16), none⟩, ⟨none, .store 1 (.t 26) (.t 24), none⟩])
  (.seq (.reg [⟨some 27, .mv (.t 1) false, none⟩, ⟨some 28, .bin .add (.t 27) (.c (.int .i64 1)), none⟩, ⟨some 29, .mv (.t 2) false, none⟩, ⟨some 30, .bin .sub (.t 29) (.c (.int .i64 1)), none⟩, ⟨some 11, .mv (.t 28) true, none⟩, ⟨some 12, .mv (.t 30) true, none⟩])
  (.seq (.block 0 (L58_0))
  (.seq (.reg [⟨some 89, .mv (.t 11) false, none⟩, ⟨some 10, .mv (.t 89) true, none⟩])
  (.ret))))), [.t 10]⟩
theorem row58 : RowOk Tryz.prog 58 C58 := ⟨Tryz.f58, ⟨[], [], [], []⟩, lvOf [(0, [0, 1, 4, 11, 12], 0), (2, [0, 1, 4, 11, 12], 0), (4, [0, 1, 4, 11, 12], 0)], Tryz.func58, by kernel_rfl, by kernel_rfl⟩
def B59_0 : C := .seq (.seq (.reg [⟨some 32, .mv (.t 12) false, none⟩, ⟨some 33, .mv (.t 13) false, none⟩, ⟨some 34, .bin .leq (.t 32) (.t 33), none⟩, ⟨some 35, .mv (.t 34) false, none⟩, ⟨some 36, .mv (.t 4) false, some (35, true)⟩, ⟨some 37, .mv (.t 0) false, some (35, true)⟩, ⟨some 38, .mv (.t 12) false, some (35, true)⟩, ⟨some 39, .ia 1 (.t 37) (.t 38), some (35, true)⟩, ⟨some 40, .load 1 false (.t 39) false, some (35, true)⟩, ⟨some 41, .mv (.t 0) false, some (35, true)⟩, ⟨some 42, .mv (.t 1) false, some (35, true)⟩, ⟨some 43, .ia 1 (.t 41) (.t 42), some (35, true)⟩, ⟨some 44, .load 1 false (.t 43) false, some (35, true)⟩, ⟨some 45, .callv (.t 36) [(.t 40), (.t 44)], some (35, true)⟩, ⟨some 46, .bin .lss (.t 45) (.c (.int .i64 0)), some (35, true)⟩, ⟨some 47, .pick (.t 35) (.t 46) (.c (.bool false)), none⟩])
  (.cond (.t 47) (.skip)
  (.exit 0)))
  (.block 1 (.reg [⟨some 48, .mv (.t 12) false, none⟩, ⟨some 49, .bin .add (.t 48) (.c (.int .i64 1)), none⟩, ⟨some 12, .mv (.t 49) true, none⟩]))
def L59_0 : C := .loop [0, 1, 4, 12, 13] 0 B59_0
theorem go59_0 (s : Env × Bx) (nb) : evL tab ext nb L59_0 s = (loopIn nb [0, 1, 4, 12, 13] 0 s).bind fun s0 => (evL tab ext nb B59_0 s0).bind (seqG tab ext nb L59_0) := eL_loop _ _ _
def B59_2 : C := .seq (.seq (.reg [⟨some 50, .mv (.t 12) false, none⟩, ⟨some 51, .mv (.t 13) false, none⟩, ⟨some 52, .bin .leq (.t 50) (.t 51), none⟩, ⟨some 53, .mv (.t 52) false, none⟩, ⟨some 54, .mv (.t 4) false, some (53, true)⟩, ⟨some 55, .mv (.t 0) false, some (53, true)⟩, ⟨some 56, .mv (.t 13) false, some (53, true)⟩, ⟨some 57, .ia 1 (.t 55) (.t 56), some (53, true)⟩, ⟨some 58, .load 1 false (.t 57) false, some (53, true)⟩, ⟨some 59, .mv (.t 0) false, some (53, true)⟩, ⟨some 60, .mv (.t 1) false, some (53, true)⟩, ⟨some 61, .ia 1 (.t 59) (.t 60), some (53, true)⟩, ⟨some 62, .load 1 false (.t 61) false, some (53, true)⟩, ⟨some 63, .callv (.t 54) [(.t 58), (.t 62)], some (53, true)⟩, ⟨some 64, .bin .lss (.t 63) (.c (.int .i64 0)), some (53, true)⟩, ⟨some 65, .un .not (.t 64), some (53, true)⟩, ⟨some 66, .pick (.t 53) (.t 65) (.c (.bool false)), none⟩])
  (.cond (.t 66) (.skip)
  (.exit 2)))
  (.block 3 (.reg [⟨some 67, .mv (.t 13) false, none⟩, ⟨some 68, .bin .sub (.t 67) (.c (.int .i64 1)), none⟩, ⟨some 13, .mv (.t 68) true, none⟩]))
def L59_2 : C := .loop [0, 1, 4, 12, 13] 0 B59_2
theorem go59_2 (s : Env × Bx) (nb) : evL tab ext nb L59_2 s = (loopIn nb [0, 1, 4, 12, 13] 0 s).bind fun s0 => (evL tab ext nb B59_2 s0).bind (seqG tab ext nb L59_2) := eL_loop _ _ _
def B59_6 : C := .seq (.seq (.reg [⟨some 105, .mv (.t 12) false, none⟩, ⟨some 106, .mv (.t 13) false, none⟩, ⟨some 107, .bin .leq (.t 105) (.t 106), none⟩, ⟨some 108, .mv (.t 107) false, none⟩, ⟨some 109, .mv (.t 4) false, some (108, true)⟩, ⟨some 110, .mv (.t 0) false, some (108, true)⟩, ⟨some 111, .mv (.t 12) false, some (108, true)⟩, ⟨some 112, .ia 1 (.t 110) (.t 111), some (108, true)⟩, ⟨some 113, .load 1 false (.t 112) false, some (108, true)⟩, ⟨some 114, .mv (.t 0) false, some (108, true)⟩, ⟨some 115, .mv (.t 1) false, some (108, true)⟩, ⟨some 116, .ia 1 (.t 114) (.t 115), some (108, true)⟩, ⟨some 117, .load 1 false (.t 116) false, some (108, true)⟩, ⟨some 118, .callv (.t 109) [(.t 113), (.t 117)], some (108, true)⟩, ⟨some 119, .bin .lss (.t 118) (.c (.int .i64 0)), some (108, true)⟩, ⟨some 120, .pick (.t 108) (.t 119) (.c (.bool false)), none⟩])
  (.cond (.t 120) (.skip)
  (.exit 6)))
  (.block 7 (.reg [⟨some 121, .mv (.t 12) false, none⟩, ⟨some 122, .bin .add (.t 121) (.c (.int .i64 1)), none⟩, ⟨some 12, .mv (.t 122) true, none⟩]))
def L59_6 : C := .loop [0, 1, 4, 12, 13] 0 B59_6
theorem go59_6 (s : Env × Bx) (nb) : evL tab ext nb L59_6 s = (loopIn nb [0, 1, 4, 12, 13] 0 s).bind fun s0 => (evL tab ext nb B59_6 s0).bind (seqG tab ext nb L59_6) := eL_loop _ _ _
def B59_8 : C := .seq (.seq (.reg [⟨some 123, .mv (.t 12) false, none⟩, ⟨some 124, .mv (.t 13) false, none⟩, ⟨some 125, .bin .leq (.t 123) (.t 124), none⟩, ⟨some 126, .mv (.t 125) false, none⟩, ⟨some 127, .mv (.t 4) false, some (126, true)⟩, ⟨some 128, .mv (.t 0) false, some (126, true)⟩, ⟨some 129, .mv (.t 13) false, some (126, true)⟩, ⟨some 130, .ia 1 (.t 128) (.t 129), some (126, true)⟩, ⟨some 131, .load 1 false (.t 130) false, some (126, true)⟩, ⟨some 132, .mv (.t 0) false, some (126, true)⟩, ⟨some 133, .mv (.t 1) false, some (126, true)⟩, ⟨some 134, .ia 1 (.t 132) (.t 133), some (126, true)⟩, ⟨some 135, .load 1 false (.t 134) false, some (126, true)⟩, ⟨some 136, .callv (.t 127) [(.t 131), (.t 135)], some (126, true)⟩, ⟨some 137, .bin .lss (.t 136) (.c (.int .i64 0)), some (126, true)⟩, ⟨some 138, .un .not (.t 137), some (126, true)⟩, ⟨some 139, .pick (.t 126) (.t 138) (.c (.bool false)), none⟩])
  (.cond (.t 139) (.skip)
  (.exit 8)))
  (.block 9 (.reg [⟨some 140, .mv (.t 13) false, none⟩, ⟨some 141, .bin .sub (.t 140) (.c (.int .i64 1)), none⟩, ⟨some 13, .mv (.t 141) true, none⟩]))
def L59_8 : C := .loop [0, 1, 4, 12, 13] 0 B59_8
theorem go59_8 (s : Env × Bx) (nb) : evL tab ext nb L59_8 s = (loopIn nb [0, 1, 4, 12, 13] 0 s).bind fun s0 => (evL tab ext nb B59_8 s0).bind (seqG tab ext nb L59_8) := eL_loop _ _ _
def B59_4 : C := .block 5 (.seq (.block 6 (L59_6))
  (.seq (.block 8 (L59_8))
  (.seq (.seq (.reg [⟨some 142, .mv (.t 12) false, none⟩, ⟨some 143, .mv (.t 13) false, none⟩, ⟨some 144, .bin .gtr (.t 142) (.t 143), none⟩])
  (.cond (.t 144) (.exit 4)
  (.skip)))
  (.seq (.reg [⟨some 145, .mv (.t 0) false, none⟩, ⟨some 146, .mv (.t 12) false, none⟩, ⟨some 147, .mv (.t 0) false, none⟩, ⟨some 148, .mv (.t 13) false, none⟩, ⟨some 149, .mv (.t 0) false, none⟩, ⟨some 150, .mv (.t 13) false, none⟩, ⟨some 151, .ia 1 (.t 149) (.t 150), none⟩, ⟨some 152, .load 1 false (.t 151) false, none⟩, ⟨some 153, .mv (.t 0) false, none⟩, ⟨some 154, .mv (.t 12) false, none⟩, ⟨some 155, .ia 1 (.t 153) (.t 154), none⟩, ⟨some 156, .load 1 false (.t 155) false, none⟩, ⟨some 157, .ia 1 (.t 145) (.t 146), none⟩, ⟨none, .store 1 (.t 157) (.t 152), none⟩, ⟨some 158, .ia 1 (.t 147) (.t 148), none⟩, ⟨none, .store 1 (.t 158) (.t 156), none⟩])
  (.seq (.reg [⟨some 159, .mv (.t 12) false, none⟩, ⟨some 160, .bin .add (.t 159) (.c (.int .i64 1)), none⟩, ⟨some 12, .mv (.t 160) true, none⟩])
  (.reg [⟨some 161, .mv (.t 13) false, none⟩, ⟨some 162, .bin .sub (.t 161) (.c (.int .i64 1)), none⟩, ⟨some 13, .mv (.t 162) true, none⟩]))))))
def L59_4 : C := .loop [0, 1, 4, 12, 13] 0 B59_4
theorem go59_4 (s : Env × Bx) (nb) : evL tab ext nb L59_4 s = (loopIn nb [0, 1, 4, 12, 13] 0 s).bind fun s0 => (evL tab ext nb B59_4 s0).bind (seqG tab ext nb L59_4) := eL_loop _ _ _
/-- slices.partitionCmpFunc[int] -/
def C59 : CFun := ⟨178, 5, .seq (.reg [⟨some 10, .mv (.c (.int .i64 0)) true, none⟩, ⟨some 11, .mv (.c (.bool false)) true, none⟩])
  (.seq (.reg [⟨some 14, .mv (.t 0) false, none⟩, ⟨some 15, .mv (.t 1) false, none⟩, ⟨some 16, .mv (.t 0) false, none⟩, ⟨some 17, .mv (.t 3) false, none⟩, ⟨some 18, .mv (.t 0) false, none⟩, ⟨some 19, .mv (.t 3) false, none⟩, ⟨some 20, .ia 1 (.t 18) (.t 19), none⟩, ⟨some 21, .load 1 false (.t 20) false, none⟩, ⟨some 22, .mv (.t 0) false, none⟩, ⟨some 23, .mv (.t 1) false, none⟩, ⟨some 24, .ia 1 (.t 22) (.t 23), none⟩, ⟨some 25, .load 1 false (.t 24) false, none⟩, ⟨some 26, .ia 1 (.t 14) (.t 15), none⟩, ⟨none, .store 1 (.t 26) (.t 21), none⟩, ⟨some 27, .ia 1 (.t 16) (.t 17), none⟩, ⟨none, .store 1 (.t 27) (.t 25), none⟩])
  (.seq (.reg [⟨some 28, .mv (.t 1) false, none⟩, ⟨some 29, .bin .add (.t 28) (.c (.int .i64 1)), none⟩, ⟨some 30, .mv (.t 2) false, none⟩, ⟨some 31, .bin .sub (.t 30) (.c (.int .i64 1)), none⟩, ⟨some 12, .mv (.t 29) true, none⟩, ⟨some 13, .mv (.t 31) true, none⟩])
  (.seq (.block 0 (L59_0))
  (.seq (.block 2 (L59_2))
  (.seq (.seq (.reg [⟨some 69, .mv (.t 12) false, none⟩, ⟨some 70, .mv (.t 13) false, none⟩, ⟨some 71, .bin .gtr (.t 69) (.t 70), none⟩])
  (.cond (.t 71) (.seq (.reg [⟨some 72, .mv (.t 0) false, none⟩, ⟨some 73, .mv (.t 13) false, none⟩, ⟨some 74, .mv (.t 0) false, none⟩, ⟨some 75, .mv (.t 1) false, none⟩, ⟨some 76, .mv (.t 0) false, none⟩, ⟨some 77, .mv (.t 1) false, none⟩, ⟨some 78, .ia 1 (.t 76) (.t 77), none⟩, ⟨some 79, .load 1 false (.t 78) false, none⟩, ⟨some 80, .mv (.t 0) false, none⟩, ⟨some 81, .mv (.t 13) false, none⟩, ⟨some 82, .ia 1 (.t 80) (.t 81), none⟩, ⟨some 83, .load 1 false (.t 82) false, none⟩, ⟨some 84, .ia 1 (.t 72) (.t 73), none⟩, ⟨none, .store 1 (.t 84) (.t 79), none⟩, ⟨some 85, .ia 1 (.t 74) (.t 75), none⟩, ⟨none, .store 1 (.t 85) (.t 83), none⟩])
  (.seq (.reg [⟨some 86, .mv (.t 13) false, none⟩, ⟨some 10, .mv (.t 86) true, none⟩, ⟨some 11, .mv (.c (.bool true)) true, none⟩])
  (.ret)))
  (.skip)))
  (.seq (.reg [⟨some 87, .mv (.t 0) false, none⟩, ⟨some 88, .mv (.t 12) false, none⟩, ⟨some 89, .mv (.t 0) false, none⟩, ⟨some 90, .mv (.t 13) false, none⟩, ⟨some 91, .mv (.t 0) false, none⟩, ⟨some 92, .mv (.t 13) false, none⟩, ⟨some 93, .ia 1 (.t 91) (.t 92), none⟩, ⟨some 94, .load 1 false (.t 93) false, none⟩, ⟨some 95, .mv (.t 0) false, none⟩, ⟨some 96, .mv (.t 12) false, none⟩, ⟨some 97, .ia 1 (.t 95) (.t 96), none⟩, ⟨some 98, .load 1 false (.t 97) false, none⟩, ⟨some 99, .ia 1 (.t 87) (.t 88), none⟩, ⟨none, .store 1 (.t 99) (.t 94), none⟩, ⟨some 100, .ia 1 (.t 89) (.t 90), none⟩, ⟨none, .store 1 (.t 100) (.t 98), none⟩])
  (.seq (.reg [⟨some 101, .mv (.t 12) false, none⟩, ⟨some 102, .bin .add (.t 101) (.c (.int .i64 1)), none⟩, ⟨some 12, .mv (.t 102) true, none⟩])
  (.seq (.reg [⟨some 103, .mv (.t 13) false, none⟩, ⟨some 104, .bin .sub (.t 103) (.c (.int .i64 1)), none⟩, ⟨some 13, .mv (.t 104) true, none⟩])
  (.seq (.block 4 (L59_4))
  (.seq (.reg [⟨some 163, .mv (.t 0) false, none⟩, ⟨some 164, .mv (.t 13) false, none⟩, ⟨some 165, .mv (.t 0) false, none⟩, ⟨some 166, .mv (.t 1) false, none⟩, ⟨some 167, .mv (.t 0) false, none⟩, ⟨some 168, .mv (.t 1) false, none⟩, ⟨some 169, .ia 1 (.t 167) (.t 168), none⟩, ⟨some 170, .load 1 false (.t 169) false, none⟩, ⟨some 171, .mv (.t 0) false, none⟩, ⟨some 172, .mv (.t 13) false, none⟩, ⟨some 173, .ia 1 (.t 171) (.t 172), none⟩, ⟨some 174, .load 1 false (.t 173) false, none⟩, ⟨some 175, .ia 1 (.t 163) (.t 164), none⟩, ⟨none, .store 1 (.t 175) (.t 170), none⟩, ⟨some 176, .ia 1 (.t 165) (.t 166), none⟩, ⟨none, .store 1 (.t 176) (.t 174), none⟩])
  (.seq (.reg [⟨some 177, .mv (.t 13) false, none⟩, ⟨some 10, .mv (.t 177) true, none⟩, ⟨some 11, .mv (.c (.bool false)) true, none⟩])
  (.ret)))))))))))), [.t 10, .t 11]⟩
theorem row59 : RowOk Tryz.prog 59 C59 := ⟨Tryz.f59, ⟨[], [], [], []⟩, lvOf [(0, [0, 1, 4, 12, 13], 0), (2, [0, 1, 4, 12, 13], 0), (4, [0, 1, 4, 12, 13], 0), (6, [0, 1, 4, 12, 13], 0), (8, [0, 1, 4, 12, 13], 0)], Tryz.func59, by kernel_rfl, by kernel_rfl⟩
/-- math/bits.Len32 -/
def C60 : CFun := ⟨19, 1, .seq (.reg [⟨some 2, .mv (.c (.int .i64 0)) true, none⟩])
  (.seq (.seq (.reg [⟨some 3, .mv (.t 0) false, none⟩, ⟨some 4, .bin .geq (.t 3) (.c (.int .u32 65536)), none⟩])
  (.cond (.t 4) (.seq (.reg [⟨some 5, .mv (.t 0) false, none⟩, ⟨some 6, .bin .shr (.t 5) (.c (.int .u64 16)), none⟩, ⟨some 0, .mv (.t 6) true, none⟩])
  (.reg [⟨some 2, .mv (.c (.int .i64 16)) true, none⟩]))
  (.skip)))
  (.seq (.seq (.reg [⟨some 7, .mv (.t 0) false, none⟩, ⟨some 8, .bin .geq (.t 7) (.c (.int .u32 256)), none⟩])
  (.cond (.t 8) (.seq (.reg [⟨some 9, .mv (.t 0) false, none⟩, ⟨some 10, .bin .shr (.t 9) (.c (.int .u64 8)), none⟩, ⟨some 0, .mv (.t 10) true, none⟩])
  (.reg [⟨some 11, .mv (.t 2) false, none⟩, ⟨some 12, .bin .add (.t 11) (.c (.int .i64 8)), none⟩, ⟨some 2, .mv (.t 12) true, none⟩]))
  (.skip)))
  (.seq (.reg [⟨some 13, .mv (.t 2) false, none⟩, ⟨some 14, .mv (.t 0) false, none⟩, ⟨some 15, .conv .u8 (.t 14), none⟩, ⟨some 16, .ix (.c (.string ⟨#[0, 1, 2, 2, 3, 3, 3, 3, 4, 4, 4, 4, 4, 4, 4, 4, 5, 5, 5, 5, 5, 5, 5, 5, 5, 5, 5, 5, 5, 5, 5, 5, 6, 6, 6, 6, 6, 6, 6, 6, 6, 6, 6, 6, 6, 6, 6, 6, 6, 6, 6, 6, 6, 6, 6, 6, 6, 6, 6, 6, 6, 6, 6, 6, 7, 7, 7, 7, 7, 7, 7, 7, 7, 7, 7, 7, 7, 7, 7, 7, 7, 7, 7, 7, 7, 7, 7, 7, 7, 7, 7, 7, 7, 7, 7, 7, 7, 7, 7, 7, 7, 7, 7, 7, 7, 7, 7, 7, 7, 7, 7, 7, 7, 7, 7, 7, 7, 7, 7, 7, 7, 7, 7, 7, 7, 7, 7, 7, 8, 8, 8, 8, 8, 8, 8, 8, 8, 8, 8, 8, 8, 8, 8, 8, 8, 8, 8, 8, 8, 8, 8, 8, 8, 8, 8, 8, 8, 8, 8, 8, 8, 8, 8, 8, 8, 8, 8, 8, 8, 8, 8, 8, 8, 8, 8, 8, 8, 8, 8, 8, 8, 8, 8, 8, 8, 8, 8, 8, 8, 8, 8, 8, 8, 8, 8, 8, 8, 8, 8, 8, 8, 8, 8, 8, 8, 8, 8, 8, 8, 8, 8, 8, 8, 8, 8, 8, 8, 8, 8, 8, 8, 8, 8, 8, 8, 8, 8, 8, 8, 8, 8, 8, 8, 8, 8, 8, 8, 8, 8, 8, 8, 8, 8, 8, 8, 8, 8, 8, 8, 8, 8, 8, 8, 8, 8, 8]⟩)) (.t 15), none⟩, ⟨some 17, .conv .i64 (.t 16), none⟩, ⟨some 18, .bin .add (.t 13) (.t 17), none⟩, ⟨some 2, .mv (.t 18) true, none⟩])
  (.ret)))), [.t 2]⟩
theorem row60 : RowOk Tryz.prog 60 C60 := ⟨Tryz.f60, ⟨[], [], [], []⟩, lvOf [], Tryz.func60, by kernel_rfl, by kernel_rfl⟩
/-- math/bits.Len64 -/
def C61 : CFun := ⟨25, 1, .seq (.reg [⟨some 2, .mv (.c (.int .i64 0)) true, none⟩])
  (.seq (.seq (.reg [⟨some 3, .mv (.t 0) false, none⟩, ⟨some 4, .bin .geq (.t 3) (.c (.int .u64 4294967296)), none⟩])
  (.cond (.t 4) (.seq (.reg [⟨some 5, .mv (.t 0) false, none⟩, ⟨some 6, .bin .shr (.t 5) (.c (.int .u64 32)), none⟩, ⟨some 0, .mv (.t 6) true, none⟩])
  (.reg [⟨some 2, .mv (.c (.int .i64 32)) true, none⟩]))
  (.skip)))
  (.seq (.seq (.reg [⟨some 7, .mv (.t 0) false, none⟩, ⟨some 8, .bin .geq (.t 7) (.c (.int .u64 65536)), none⟩])
  (.cond (.t 8) (.seq (.reg [⟨some 9, .mv (.t 0) false, none⟩, ⟨some 10, .bin .shr (.t 9) (.c (.int .u64 16)), none⟩, ⟨some 0, .mv (.t 10) true, none⟩])
  (.reg [⟨some 11, .mv (.t 2) false, none⟩, ⟨some 12, .bin .add (.t 11) (.c (.int .i64 16)), none⟩, ⟨some 2, .mv (.t 12) true, none⟩]))
  (.skip)))
  (.seq (.seq (.reg [⟨some 13, .mv (.t 0) false, none⟩, ⟨some 14, .bin .geq (.t 13) (.c (.int .u64 256)), none⟩])
  (.cond (.t 14) (.seq (.reg [⟨some 15, .mv (.t 0) false, none⟩, ⟨some 16, .bin .shr (.t 15) (.c (.int .u64 8)), none⟩, ⟨some 0, .mv (.t 16) true, none⟩])
  (.reg [⟨some 17, .mv (.t 2) false, none⟩, ⟨some 18, .bin .add (.t 17) (.c (.int .i64 8)), none⟩, ⟨some 2, .mv (.t 18) true, none⟩]))
  (.skip)))
  (.seq (.reg [⟨some 19, .mv (.t 2) false, none⟩, ⟨some 20, .mv (.t 0) false, none⟩, ⟨some 21, .conv .u8 (.t 20), none⟩, ⟨some 22, .ix (.c (.string ⟨#[0, 1, 2, 2, 3, 3, 3, 3, 4, 4, 4, 4, 4, 4, 4, 4, 5, 5, 5, 5, 5, 5, 5, 5, 5, 5, 5, 5, 5, 5, 5, 5, 6, 6, 6, 6, 6, 6, 6, 6, 6, 6, 6, 6, 6, 6, 6, 6, 6, 6, 6, 6, 6, 6, 6, 6, 6, 6, 6, 6, 6, 6, 6, 6, 7, 7, 7, 7, 7, 7, 7, 7, 7, 7, 7, 7, 7, 7, 7, 7, 7, 7, 7, 7, 7, 7, 7, 7, 7, 7, 7, 7, 7, 7, 7, 7, 7, 7, 7, 7, 7, 7, 7, 7, 7, 7, 7, 7, 7, 7, 7, 7, 7, 7, 7, 7, 7, 7, 7, 7, 7, 7, 7, 7, 7, 7, 7, 7, 8, 8, 8, 8, 8, 8, 8, 8, 8, 8, 8, 8, 8, 8, 8, 8, 8, 8, 8, 8, 8, 8, 8, 8, 8, 8, 8, 8, 8, 8, 8, 8, 8, 8, 8, 8, 8, 8, 8, 8, 8, 8, 8, 8, 8, 8, 8, 8, 8, 8, 8, 8, 8, 8, 8, 8, 8, 8, 8, 8, 8, 8, 8, 8, 8, 8, 8, 8, 8, 8, 8, 8, 8, 8, 8, 8, 8, 8, 8, 8, 8, 8, 8, 8, 8, 8, 8, 8, 8, 8, 8, 8, 8, 8, 8, 8, 8, 8, 8, 8, 8, 8, 8, 8, 8, 8, 8, 8, 8, 8, 8, 8, 8, 8, 8, 8, 8, 8, 8, 8, 8, 8, 8, 8, 8, 8, 8, 8]⟩)) (.t 21), none⟩, ⟨some 23, .conv .i64 (.t 22), none⟩, ⟨some 24, .bin .add (.t 19) (.t 23), none⟩, ⟨some 2, .mv (.t 24) true, none⟩])
  (.ret))))), [.t 2]⟩
theorem row61 : RowOk Tryz.prog 61 C61 := ⟨Tryz.f61, ⟨[], [], [], []⟩, lvOf [], Tryz.func61, by kernel_rfl, by kernel_rfl⟩
def B62_0 : C := .seq (.seq (.reg [⟨some 5, .mv (.t 3) false, none⟩, ⟨some 6, .mv (.t 0) false, none⟩, ⟨some 7, .slen (.t 6), none⟩, ⟨some 8, .bin .lss (.t 5) (.t 7), none⟩])
  (.cond (.t 8) (.skip)
  (.exit 0)))
  (.seq (.block 1 (.seq (.reg [⟨some 11, .mv (.t 0) false, none⟩, ⟨some 12, .mv (.t 3) false, none⟩, ⟨some 13, .ix (.t 11) (.t 12), none⟩, ⟨some 4, .mv (.t 13) true, none⟩])
  (.seq (.reg [⟨some 14, .mv (.t 4) false, none⟩, ⟨some 15, .bin .lss (.t 14) (.c (.int .u8 97)), none⟩, ⟨some 16, .mv (.t 15) false, none⟩, ⟨some 17, .mv (.t 4) false, some (16, false)⟩, ⟨some 18, .bin .gtr (.t 17) (.c (.int .u8 122)), some (16, false)⟩, ⟨some 19, .pick (.t 16) (.c (.bool true)) (.t 18), none⟩, ⟨some 20, .mv (.t 19) false, none⟩, ⟨some 21, .mv (.t 4) false, some (20, true)⟩, ⟨some 22, .bin .lss (.t 21) (.c (.int .u8 48)), some (20, true)⟩, ⟨some 23, .mv (.t 22) false, some (20, true)⟩, ⟨some 24, .mv (.t 4) false, some (23, false)⟩, ⟨some 25, .bin .gtr (.t 24) (.c (.int .u8 57)), some (23, false)⟩, ⟨some 26, .pick (.t 23) (.c (.bool true)) (.t 25), some (20, true)⟩, ⟨some 27, .mv (.t 26) false, some (20, true)⟩, ⟨some 28, .mv (.t 3) false, some (27, false)⟩, ⟨some 29, .bin .eql (.t 28) (.c (.int .i64 0)), some (27, false)⟩, ⟨some 30, .pick (.t 27) (.c (.bool true)) (.t 29), some (20, true)⟩, ⟨some 31, .pick (.t 20) (.t 30) (.c (.bool false)), none⟩])
  (.cond (.t 31) (.seq (.reg [⟨some 2, .mv (.c (.bool false)) true, none⟩])
  (.ret))
  (.skip)))))
  (.reg [⟨some 9, .mv (.t 3) false, none⟩, ⟨some 10, .bin .add (.t 9) (.c (.int .i64 1)), none⟩, ⟨some 3, .mv (.t 10) true, none⟩]))
def L62_0 : C := .loop [0, 3] 0 B62_0
theorem go62_0 (s : Env × Bx) (nb) : evL tab ext nb L62_0 s = (loopIn nb [0, 3] 0 s).bind fun s0 => (evL tab ext nb B62_0 s0).bind (seqG tab ext nb L62_0) := eL_loop _ _ _
/-- swingbridge/swingbridgeref7.Name -/
def C62 : CFun := ⟨40, 1, .seq (.reg [⟨some 2, .mv (.c (.bool false)) true, none⟩])
  (.seq (.seq (.reg [⟨some 3, .mv (.c (.int .i64 0)) true, none⟩])
  (.block 0 (L62_0)))
  (.seq (.reg [⟨some 32, .mv (.t 0) false, none⟩, ⟨some 33, .slen (.t 32), none⟩, ⟨some 34, .bin .geq (.t 33) (.c (.int .i64 1)), none⟩, ⟨some 35, .mv (.t 34) false, none⟩, ⟨some 36, .mv (.t 0) false, some (35, true)⟩, ⟨some 37, .slen (.t 36), some (35, true)⟩, ⟨some 38, .bin .leq (.t 37) (.c (.int .i64 8)), some (35, true)⟩, ⟨some 39, .pick (.t 35) (.t 38) (.c (.bool false)), none⟩, ⟨some 2, .mv (.t 39) true, none⟩])
  (.ret))), [.t 2]⟩
theorem row62 : RowOk Tryz.prog 62 C62 := ⟨Tryz.f62, ⟨[], [], [], []⟩, lvOf [(0, [0, 3], 0)], Tryz.func62, by kernel_rfl, by kernel_rfl⟩
/-- swingbridge/swingbridgeref7.part -/
def C63 : CFun := ⟨49, 2, .seq (.reg [⟨some 2, .box (.t 0), none⟩, ⟨some 3, .box (.t 1), none⟩, ⟨some 4, .mv (.c (.bool false)) true, none⟩])
  (.seq (.seq (.reg [⟨some 5, .fa 0 (.t 3), none⟩, ⟨some 6, .load 1 false (.t 5) false, none⟩, ⟨some 7, .bin .lss (.t 6) (.c (.int .i64 1)), none⟩, ⟨some 8, .mv (.t 7) false, none⟩, ⟨some 9, .fa 0 (.t 3), some (8, false)⟩, ⟨some 10, .load 1 false (.t 9) false, some (8, false)⟩, ⟨some 11, .bin .gtr (.t 10) (.c (.int .i64 3)), some (8, false)⟩, ⟨some 12, .pick (.t 8) (.c (.bool true)) (.t 11), none⟩, ⟨some 13, .mv (.t 12) false, none⟩, ⟨some 14, .fa 1 (.t 3), some (13, false)⟩, ⟨some 15, .load 1 false (.t 14) false, some (13, false)⟩, ⟨some 16, .bin .lss (.t 15) (.c (.int .i64 1)), some (13, false)⟩, ⟨some 17, .pick (.t 13) (.c (.bool true)) (.t 16), none⟩, ⟨some 18, .mv (.t 17) false, none⟩, ⟨some 19, .fa 1 (.t 3), some (18, false)⟩, ⟨some 20, .load 1 false (.t 19) false, some (18, false)⟩, ⟨some 21, .bin .gtr (.t 20) (.c (.int .i64 60)), some (18, false)⟩, ⟨some 22, .pick (.t 18) (.c (.bool true)) (.t 21), none⟩])
  (.cond (.t 22) (.seq (.reg [⟨some 4, .mv (.c (.bool false)) true, none⟩])
  (.ret))
  (.skip)))
  (.seq (.reg [⟨some 23, .fa 0 (.t 3), none⟩, ⟨some 24, .load 1 false (.t 23) false, none⟩, ⟨some 25, .bin .eql (.t 24) (.c (.int .i64 3)), none⟩, ⟨some 26, .mv (.t 25) false, none⟩, ⟨some 27, .fa 2 (.t 3), some (26, true)⟩, ⟨some 28, .load 1 false (.t 27) false, some (26, true)⟩, ⟨some 29, .bin .geq (.t 28) (.c (.int .i64 0)), some (26, true)⟩, ⟨some 30, .pick (.t 26) (.t 29) (.c (.bool false)), none⟩, ⟨some 31, .mv (.t 30) false, none⟩, ⟨some 32, .fa 2 (.t 3), some (31, true)⟩, ⟨some 33, .load 1 false (.t 32) false, some (31, true)⟩, ⟨some 34, .fa 2 (.t 2), some (31, true)⟩, ⟨some 35, .load 1 false (.t 34) false, some (31, true)⟩, ⟨some 36, .len (.t 35), some (31, true)⟩, ⟨some 37, .bin .lss (.t 33) (.t 36), some (31, true)⟩, ⟨some 38, .pick (.t 31) (.t 37) (.c (.bool false)), none⟩, ⟨some 39, .mv (.t 38) false, none⟩, ⟨some 40, .fa 0 (.t 3), some (39, false)⟩, ⟨some 41, .load 1 false (.t 40) false, some (39, false)⟩, ⟨some 42, .bin .neq (.t 41) (.c (.int .i64 3)), some (39, false)⟩, ⟨some 43, .mv (.t 42) false, some (39, false)⟩, ⟨some 44, .fa 2 (.t 3), some (43, true)⟩, ⟨some 45, .load 1 false (.t 44) false, some (43, true)⟩, ⟨some 46, .bin .eql (.t 45) (.c (.int .i64 0)), some (43, true)⟩, ⟨some 47, .pick (.t 43) (.t 46) (.c (.bool false)), some (39, false)⟩, ⟨some 48, .pick (.t 39) (.c (.bool true)) (.t 47), none⟩, ⟨some 4, .mv (.t 48) true, none⟩])
  (.ret))), [.t 4]⟩
theorem row63 : RowOk Tryz.prog 63 C63 := ⟨Tryz.f63, ⟨[], [], [], []⟩, lvOf [], Tryz.func63, by kernel_rfl, by kernel_rfl⟩
end Go.Proofs.YtamblgbmdhldbaaGreatDoorEv
