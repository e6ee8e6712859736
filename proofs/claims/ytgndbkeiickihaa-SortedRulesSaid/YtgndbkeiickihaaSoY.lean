/- Law 2: sums, what it calls known. -/
import Derived.Test.YtgndbkeiickihaaSoX
set_option linter.unusedSimpArgs false
set_option linter.unusedVariables false
namespace Go.Proofs.YtgndbkeiickihaaEv
open Go
set_option maxHeartbeats 1000000
set_option maxRecDepth 100000
theorem extP_no {f : Nat} (h1 : f ≠ 36) (h2 : f ≠ 16) (args : List A) (bx : Bx) : extP f args bx = ext0 f args bx := by
  unfold extP; rw [if_neg h1, if_neg h2]
/-- The sum of the first ones, as the machine's. -/
def sumW (l : List Int) : Nat → Int
  | 0 => 0
  | i + 1 => IntKind.wrap .i64 (sumW l i + l.getD i 0)
theorem sumW_loop (l : List Int) (hl : l.length ≤ 1000) :
    ∀ d i (e : Env), i + d = l.length → (e 5 = vi (sumW l i) ∧ e 10 = slI l ∧ e 11 = vi l.length ∧ e 12 = vi i) → ∃ zz, evL tab0 extP 0 L21_0 (e, []) = some zz ∧ FQ (fun _ => false) ([]) 0 (fun _ _ => True) (fun e => e 5 = vi (sumW l l.length)) i d zz := by
  refine fq_loop (St := fun i e => e 5 = vi (sumW l i) ∧ e 10 = slI l ∧ e 11 = vi l.length ∧ e 12 = vi i) _ _ _ _ _ ?_ ?_
  · rintro e ⟨g0, g1, g2, g3⟩
    exact ⟨_, (go21_0 _ _).trans (by simp [B21_0, push_cast, -Int.not_lt, -Int.not_le, ↓evI_call, ↓evI_calli, ↓evI_calln, ↓evI_callz, ↓evI_callv, ↓evI_mxn, loopIn, loopIn0, keepL, emp, A.dang, A.dangC, g0, g1, g2, g3, slI]; rfl), by simp [put_at, g0]⟩
  · rintro i e hi ⟨g0, g1, g2, g3⟩
    rw [go21_0]
    have hi' : (i : Int) < (l.length : Nat) := by omega
    have hw : IntKind.wrap .i64 ((i : Int) + 1) = (i : Int) + 1 := wrap_in _ (by omega) (by omega)
    have hs : IntKind.wrap .i64 (sumW l i + l[i]) = sumW l (i + 1) := by show _ = IntKind.wrap .i64 (sumW l i + l.getD i 0); rw [List.getD_eq_getElem?_getD, List.getElem?_eq_getElem hi]; rfl
    simp +contextual (maxSteps := 400000) [B21_0, push_cast, -Int.not_lt, -Int.not_le, ↓evI_call, ↓evI_calli, ↓evI_calln, ↓evI_callz, ↓evI_callv, ↓evI_mxn, loopIn, loopIn0, keepL, emp, A.dang, A.dangC, g0, g1, g2, g3, hi, hi', slI, drop_int _ i hi, hw, hs]
    (repeat' refine Step.split (fun cc => ?_) (fun cc => ?_)) <;> first | (refine Step.ret0 ?_ ?_ <;> first | (simp_all [put_at, eqz]; done) | (simp [put_at, *]; done) | ((try simp [eqz] at *); omega)) | (refine Step.go ?_ ?_ <;> first | (simp_all [put_at, eqz]; done) | (simp [put_at, *]; done) | ((try simp [eqz] at *); omega)) | (refine Step.ret _ ?_ ?_ <;> first | (simp_all [put_at, eqz]; done) | (simp [put_at, *]; done) | ((try simp [eqz] at *); omega)) | (refine Step.goJ _ (by simp) ?_ ?_ <;> first | (simp_all [put_at, eqz]; done) | (simp [put_at, *]; done) | ((try simp [eqz] at *); omega))
theorem sumP (l : List Int) (k : Int) (hl : l.length ≤ 60) : pureOf (callL tab0 extP) false 21 [slI l, vi k] = some (vi (sumW (topS l k) (topS l k).length)) := by
  rw [pureOf_b, callL_tab _ _ (by rw [extP_no (by decide) (by decide)]; rfl) tab21 rfl]
  have h1 := topP l k hl
  have ht := topS_len l k
  have hlp := sumW_loop (topS l k) (by omega) (topS l k).length 0
  generalize sumW (topS l k) (topS l k).length = z at *
  simp only [slI] at h1 hlp
  simp [C21, push_cast, -Int.not_lt, -Int.not_le, ↓evI_call, ↓evI_calli, ↓evI_calln, ↓evI_callz, ↓evI_callv, ↓evI_mxn, slI, h1]
  refine behind (hlp _ (by omega) (by simp [put_at, sumW])) ?_
  intro a h
  obtain ⟨e', rfl, hx⟩ := h.never; clear h; have h := hx
  simp [push_cast, -Int.not_lt, -Int.not_le, ↓evI_call, ↓evI_calli, ↓evI_calln, ↓evI_callz, ↓evI_callv, ↓evI_mxn, h, frzK]
theorem sumWR_loop (l : List Int) (hl : l.length ≤ 1000) :
    ∀ d i (e : Env), i + d = l.length → (e 5 = slI l ∧ e 6 = vi (sumW l i) ∧ e 7 = vi i) → ∃ zz, evL tab0 extP 0 L22_0 (e, []) = some zz ∧ FQ (fun _ => false) ([]) 0 (fun _ _ => True) (fun e => e 6 = vi (sumW l l.length)) i d zz := by
  refine fq_loop (St := fun i e => e 5 = slI l ∧ e 6 = vi (sumW l i) ∧ e 7 = vi i) _ _ _ _ _ ?_ ?_
  · rintro e ⟨g0, g1, g2⟩
    exact ⟨_, (go22_0 _ _).trans (by simp [B22_0, push_cast, -Int.not_lt, -Int.not_le, ↓evI_call, ↓evI_calli, ↓evI_calln, ↓evI_callz, ↓evI_callv, ↓evI_mxn, loopIn, loopIn0, keepL, emp, A.dang, A.dangC, g0, g1, g2, slI]; rfl), by simp [put_at, g1]⟩
  · rintro i e hi ⟨g0, g1, g2⟩
    rw [go22_0]
    have hi' : (i : Int) < (l.length : Nat) := by omega
    have hw : IntKind.wrap .i64 ((i : Int) + 1) = (i : Int) + 1 := wrap_in _ (by omega) (by omega)
    have hs : IntKind.wrap .i64 (sumW l i + l[i]) = sumW l (i + 1) := by show _ = IntKind.wrap .i64 (sumW l i + l.getD i 0); rw [List.getD_eq_getElem?_getD, List.getElem?_eq_getElem hi]; rfl
    simp +contextual (maxSteps := 400000) [B22_0, push_cast, -Int.not_lt, -Int.not_le, ↓evI_call, ↓evI_calli, ↓evI_calln, ↓evI_callz, ↓evI_callv, ↓evI_mxn, loopIn, loopIn0, keepL, emp, A.dang, A.dangC, g0, g1, g2, hi, hi', slI, drop_int _ i hi, hw, hs]
    (repeat' refine Step.split (fun cc => ?_) (fun cc => ?_)) <;> first | (refine Step.ret0 ?_ ?_ <;> first | (simp_all [put_at, eqz]; done) | (simp [put_at, *]; done) | ((try simp [eqz] at *); omega)) | (refine Step.go ?_ ?_ <;> first | (simp_all [put_at, eqz]; done) | (simp [put_at, *]; done) | ((try simp [eqz] at *); omega)) | (refine Step.ret _ ?_ ?_ <;> first | (simp_all [put_at, eqz]; done) | (simp [put_at, *]; done) | ((try simp [eqz] at *); omega)) | (refine Step.goJ _ (by simp) ?_ ?_ <;> first | (simp_all [put_at, eqz]; done) | (simp [put_at, *]; done) | ((try simp [eqz] at *); omega))
theorem sumRP (l : List Int) (k : Int) (hl : l.length ≤ 60) : pureOf (callL tab0 extP) false 22 [slI l, vi k] = some (vi (sumW (topS l k) (topS l k).length)) := by
  rw [pureOf_b, callL_tab _ _ (by rw [extP_no (by decide) (by decide)]; rfl) tab22 rfl]
  have h1 := pureP (topR_is l k hl)
  have ht := topS_len l k
  have hlp := sumWR_loop (topS l k) (by omega) (topS l k).length 0
  generalize sumW (topS l k) (topS l k).length = z at *
  simp only [slI] at h1 hlp
  simp [C22, push_cast, -Int.not_lt, -Int.not_le, ↓evI_call, ↓evI_calli, ↓evI_calln, ↓evI_callz, ↓evI_callv, ↓evI_mxn, slI, h1]
  refine behind (hlp _ (by omega) (by simp [put_at, sumW])) ?_
  intro a h
  obtain ⟨e', rfl, hx⟩ := h.never; clear h; have h := hx
  simp [push_cast, -Int.not_lt, -Int.not_le, ↓evI_call, ↓evI_calli, ↓evI_calln, ↓evI_callz, ↓evI_callv, ↓evI_mxn, h, frzK]
theorem knownP : pureOf (callL tab0 extP) false 10 [] = some (vb true) := by
  rw [pureOf_b, callL_tab _ _ (by rw [extP_no (by decide) (by decide)]; rfl) tab10 rfl]
  have h1 := pureP (sortP_is [⟨5, 1⟩, ⟨2, 2⟩, ⟨5, 3⟩] (by decide))
  have h2 := pureP (sameI_is [⟨2, 2⟩, ⟨5, 1⟩, ⟨5, 3⟩] (by decide))
  have h3 := pureP (is_is [⟨2, 2⟩, ⟨5, 1⟩, ⟨5, 3⟩] (by decide))
  have h4 := pureP (is_is [⟨5, 1⟩, ⟨2, 2⟩] (by decide))
  have h5 := putP [⟨2, 2⟩, ⟨5, 1⟩, ⟨5, 3⟩] ⟨2, 2⟩ (by decide)
  have h6 := topP [3, 9, 4] 2 (by decide)
  have h7 := sumP [3, 9, 4] 2 (by decide)
  have e1 : ss ilt [⟨5, 1⟩, ⟨2, 2⟩, ⟨5, 3⟩] = [⟨2, 2⟩, ⟨5, 1⟩, ⟨5, 3⟩] := by decide +kernel
  have e3 : isI [⟨2, 2⟩, ⟨5, 1⟩, ⟨5, 3⟩] = true := by decide +kernel
  have e4 : isI [⟨5, 1⟩, ⟨2, 2⟩] = false := by decide +kernel
  have e5 : mge ilt (ss ilt [⟨2, 2⟩, ⟨5, 1⟩, ⟨5, 3⟩]) [⟨2, 2⟩] = [⟨2, 2⟩, ⟨2, 2⟩, ⟨5, 1⟩, ⟨5, 3⟩] := by decide +kernel
  have e6 : topS [3, 9, 4] 2 = [9, 4] := by decide +kernel
  have e7 : sumW (topS [3, 9, 4] 2) (topS [3, 9, 4] 2).length = 13 := by rw [e6]; decide
  rw [e1] at h1
  rw [e3] at h3
  rw [e4] at h4
  rw [e5] at h5
  rw [e6] at h6
  rw [e7] at h7
  simp only [slX, slI, fg, itc, List.flatMap_cons, List.flatMap_nil, List.length_cons, List.length_nil, List.append_nil, List.cons_append, List.nil_append, List.map_cons, List.map_nil] at h1 h2 h3 h4 h5 h6 h7
  simp [C10, push_cast, -Int.not_lt, -Int.not_le, ↓evI_call, ↓evI_calli, ↓evI_calln, ↓evI_callz, ↓evI_callv, ↓evI_mxn, h1, h2, h3, h4, h5, h6, h7, frzK]
end Go.Proofs.YtgndbkeiickihaaEv
