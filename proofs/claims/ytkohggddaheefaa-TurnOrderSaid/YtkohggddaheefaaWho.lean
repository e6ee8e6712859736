/- turn: who runs; the reference. -/
import Derived.Test.YtkohggddaheefaaStabW3
import Derived.Test.YtkohggddaheefaaTsk
import Derived.Test.YtkohggddaheefaaIn1
set_option linter.unusedSimpArgs false
set_option linter.unusedVariables false
namespace Go.Proofs.YtkohggddaheefaaEv
open Go Go.RowKit Go.ChangeShapes Go.WideShapes
set_option maxHeartbeats 2000000
structure Wh where
  task : Int
  prio : Int
  boost : Int
  deriving DecidableEq, Inhabited
def whc (w : Wh) : List A := [vi w.task, vi w.prio, vi w.boost]
theorem whE : Enc whc 3 := ⟨fun _ => rfl, fun _ => rfl⟩
/-- Who is ahead. -/
def wlt (a b : Wh) : Bool :=
  if 0 < a.boost then (if 0 < b.boost then decide (a.boost < b.boost ∨ a.boost = b.boost ∧ a.task < b.task) else true)
  else if 0 < b.boost then false else decide (a.prio < b.prio ∨ a.prio = b.prio ∧ a.task < b.task)
theorem wlt_swo : Swo wlt where
  asym a b h := by
    unfold wlt at *
    by_cases h1 : 0 < a.boost <;> by_cases h2 : 0 < b.boost <;> simp [h1, h2] at h ⊢ <;> omega
  neg a b c h h' := by
    unfold wlt at *
    by_cases h1 : 0 < a.boost <;> by_cases h2 : 0 < b.boost <;> by_cases h3 : 0 < c.boost <;> simp [h1, h2, h3] at h h' ⊢ <;> omega
def cmpI (a b : Int) : Int := if a < b then -1 else if b < a then 1 else 0
theorem nan_is (x : Int) : pureOf (callL tab0 ext0) false 89 [vi x] = some (vb false) := by
  refine pureOf_eq (bx := []) (r := vb false) ?_ rfl
  rw [callL_tab _ _ rfl tab89 rfl]
  simp [C89, push_cast, -Int.not_lt, -Int.not_le, ↓evI_call, ↓evI_calli, ↓evI_callz, ↓evI_callv, ↓evI_mxn]
theorem cmpI_is (a b : Int) : pureOf (callL tab0 ext0) false 82 [vi a, vi b] = some (vi (cmpI a b)) := by
  unfold cmpI
  refine pureOf_eq (bx := []) (r := vi _) ?_ rfl
  rw [callL_tab _ _ rfl tab82 rfl]
  by_cases c1 : a < b
  · simp [C82, push_cast, -Int.not_lt, -Int.not_le, ↓evI_call, ↓evI_calli, ↓evI_callz, ↓evI_callv, ↓evI_mxn, nan_is, c1]
  · by_cases c2 : b < a <;> simp [C82, push_cast, -Int.not_lt, -Int.not_le, ↓evI_call, ↓evI_calli, ↓evI_callz, ↓evI_callv, ↓evI_mxn, nan_is, c1, c2]
theorem or_is (a b : Int) : pureOf (callL tab0 ext0) false 81 [.sl [vi a, vi b] 2 0] = some (vi (if a = 0 then b else a)) := by
  refine pureOf_eq (bx := []) (r := vi _) ?_ rfl
  rw [callL_tab _ _ rfl tab81 rfl]
  have w1 : IntKind.wrap .i64 1 = 1 := by decide
  have w2 : IntKind.wrap .i64 2 = 2 := by decide
  by_cases h : a = 0
  · subst h
    by_cases h2 : b = 0
    · subst h2; simp [C81, push_cast, -Int.not_lt, -Int.not_le, ↓evI_call, ↓evI_calli, ↓evI_callz, ↓evI_callv, ↓evI_mxn, loopIn, loopIn0, keepL, emp, A.dang, A.dangC, go81_0, B81_0, eqz, w1, w2]
    · simp [C81, push_cast, -Int.not_lt, -Int.not_le, ↓evI_call, ↓evI_calli, ↓evI_callz, ↓evI_callv, ↓evI_mxn, loopIn, loopIn0, keepL, emp, A.dang, A.dangC, go81_0, B81_0, eqz, w1, w2, h2]
  · simp [C81, push_cast, -Int.not_lt, -Int.not_le, ↓evI_call, ↓evI_calli, ↓evI_callz, ↓evI_callv, ↓evI_mxn, loopIn, loopIn0, keepL, emp, A.dang, A.dangC, go81_0, B81_0, eqz, w1, w2, h]
def cmpW (a b : Wh) : Int :=
  if 0 < a.boost then (if 0 < b.boost then (if cmpI a.boost b.boost = 0 then cmpI a.task b.task else cmpI a.boost b.boost) else -1)
  else if 0 < b.boost then 1 else (if cmpI a.prio b.prio = 0 then cmpI a.task b.task else cmpI a.prio b.prio)
theorem cmpW_lt (a b : Wh) : cmpW a b < 0 ↔ wlt a b = true := by
  unfold cmpW wlt
  by_cases h1 : 0 < a.boost <;> by_cases h2 : 0 < b.boost <;> simp only [h1, h2, if_true, if_false, decide_eq_true_eq] <;> (try simp) <;> unfold cmpI <;> (repeat' split) <;> omega
theorem compare_is (a b : Wh) (bx : Bx) : callL tab0 ext0 65 [.agg (whc a), .agg (whc b)] bx = some (vi (cmpW a b), bx ++ [whc a, whc b]) := by
  rw [callL_tab _ _ rfl tab65 rfl]
  have h1 := cmpI_is a.boost b.boost
  have h2 := cmpI_is a.prio b.prio
  have h3 := cmpI_is a.task b.task
  have h4 := or_is
  unfold cmpW
  generalize cmpI a.boost b.boost = x at *
  generalize cmpI a.prio b.prio = y at *
  generalize cmpI a.task b.task = z at *
  by_cases c1 : 0 < a.boost <;> by_cases c2 : 0 < b.boost <;> simp [C65, push_cast, -Int.not_lt, -Int.not_le, ↓evI_call, ↓evI_calli, ↓evI_callz, ↓evI_callv, ↓evI_mxn, whc, get_0, get_1, h1, h2, h3, h4, c1, c2]
theorem cmpK_turn : CmpK whc wlt 65 where
  call a b B _ := ⟨cmpW a b, [whc a, whc b], compare_is a b [B], cmpW_lt a b⟩
theorem ahead_w (a b : Wh) : pureOf (callL tab0 ext0) false 35 [.agg (whc a), .agg (whc b)] = some (vb (wlt a b)) := by
  refine pure_vb ?_
  rw [callL_tab _ _ rfl tab35 rfl]
  have h1 : pureOf (callL tab0 ext0) false 65 [.agg (whc a), .agg (whc b)] = some (vi (cmpW a b)) := pureOf_eq (compare_is a b []) rfl
  have h2 : decide (cmpW a b < 0) = wlt a b := by rw [Bool.eq_iff_iff, decide_eq_true_eq]; exact cmpW_lt a b
  generalize cmpW a b = c at h1 h2
  rw [← h2]
  simp only [whc] at h1
  simp [C35, push_cast, -Int.not_lt, -Int.not_le, ↓evI_call, ↓evI_calli, ↓evI_callz, ↓evI_callv, ↓evI_mxn, whc, h1]
  exact ⟨_, rfl⟩
theorem ahead_r (a b : Wh) : pureOf (callL tab0 ext0) false 36 [.agg (whc a), .agg (whc b)] = some (vb (wlt a b)) := by
  refine pure_vb ?_
  rw [callL_tab _ _ rfl tab36 rfl]
  unfold wlt
  by_cases c1 : 0 < a.boost <;> by_cases c2 : 0 < b.boost
  · by_cases c3 : a.boost = b.boost
    · simp [C36, push_cast, -Int.not_lt, -Int.not_le, ↓evI_call, ↓evI_calli, ↓evI_callz, ↓evI_callv, ↓evI_mxn, whc, c1, c2, eqz, c3]; simp [c3] at *; exact ⟨_, by first | rfl | simp [c1, c2, c3]⟩
    · have c4 : ¬ (a.boost = b.boost ∧ a.task < b.task) := fun h => c3 h.1
      simp [C36, push_cast, -Int.not_lt, -Int.not_le, ↓evI_call, ↓evI_calli, ↓evI_callz, ↓evI_callv, ↓evI_mxn, whc, c1, c2, eqz, c3]; exact ⟨_, rfl⟩
  · simp [C36, push_cast, -Int.not_lt, -Int.not_le, ↓evI_call, ↓evI_calli, ↓evI_callz, ↓evI_callv, ↓evI_mxn, whc, c1, c2, eqz]; exact ⟨_, rfl⟩
  · simp [C36, push_cast, -Int.not_lt, -Int.not_le, ↓evI_call, ↓evI_calli, ↓evI_callz, ↓evI_callv, ↓evI_mxn, whc, c1, c2, eqz]; exact ⟨_, rfl⟩
  · by_cases c3 : a.prio = b.prio
    · simp [C36, push_cast, -Int.not_lt, -Int.not_le, ↓evI_call, ↓evI_calli, ↓evI_callz, ↓evI_callv, ↓evI_mxn, whc, c1, c2, eqz, c3]; exact ⟨_, rfl⟩
    · simp [C36, push_cast, -Int.not_lt, -Int.not_le, ↓evI_call, ↓evI_calli, ↓evI_callz, ↓evI_callv, ↓evI_mxn, whc, c1, c2, eqz, c3]; exact ⟨_, rfl⟩
end Go.Proofs.YtkohggddaheefaaEv
