/- turn.First; the reference's; swingbridgeref2.SameInts. -/
import Derived.Test.YtkohggddaheefaaWho
set_option linter.unusedSimpArgs false
set_option linter.unusedVariables false
namespace Go.Proofs.YtkohggddaheefaaEv
open Go
set_option maxHeartbeats 2000000
/-- The first ones' tasks. -/
def firstW (l : List Wh) (k : Int) : List Int := ((ss wlt l).take k.toNat).map Wh.task
theorem tf_loop (L : List Wh) (n : Nat) (k : Int) (hL : L.length = n) (hn : n ≤ 1000) : ∀ (d i : Nat) (e : Env), i + d = n → (i : Int) ≤ max k 0 → e 1 = vi k → e 6 = .sl ((L.take i).map fun w => vi w.task) i 2 → e 13 = .bs 0 n 3 → e 14 = vi n → e 15 = vi i →
    ∃ e' junk, evL tab0 ext0 0 L38_0 (e, [fg whc L]) = some (.ex 0, e', fg whc L :: junk) ∧ e' 6 = .sl ((L.take k.toNat).map fun w => vi w.task) (min k.toNat n) 2 := by
  intro d
  induction d with
  | zero =>
    intro i e hi hk h1 h6 h13 h14 h15
    obtain rfl : i = n := by omega
    have hcl : (fg whc L).all (A.dangC 1) = true := plain_dang (whE.fplain _)
    have hown : (fg whc L).map A.own = fg whc L := by
      have := whE.fplain L
      simp only [List.all_eq_true] at this
      refine (List.map_congr_left fun a ha => ?_).trans (List.map_id' _)
      have h := this a ha
      cases a <;> simp_all [A.plain, A.own]
    have e1 : L.take k.toNat = L.take i := by rw [List.take_of_length_le (by omega), List.take_of_length_le (by omega)]
    have e2 : min k.toNat i = i := by omega
    rw [e1, e2]
    generalize fg whc L = B at *
    exact ⟨_, [], (go38_0 _ _).trans (by simp [B38_0, push_cast, -Int.not_lt, -Int.not_le, ↓evI_call, ↓evI_calli, ↓evI_callz, ↓evI_callv, ↓evI_mxn, loopIn, loopIn0, keepL, emp, A.dang, A.dangC, h1, h6, h13, h14, h15, hcl, hown, -List.all_eq_true]; rfl), by simp [put_at, h6]⟩
  | succ d ih =>
    intro i e hi hk h1 h6 h13 h14 h15
    obtain ⟨x, hx⟩ : ∃ x, L[i]? = some x := ⟨_, List.getElem?_eq_getElem (by omega)⟩
    have hcl : (fg whc L).all (A.dangC 1) = true := plain_dang (whE.fplain _)
    have hown : (fg whc L).map A.own = fg whc L := by
      have := whE.fplain L
      simp only [List.all_eq_true] at this
      refine (List.map_congr_left fun a ha => ?_).trans (List.map_id' _)
      have h := this a ha
      cases a <;> simp_all [A.plain, A.own]
    have l1 := whE.flen L
    rw [hL] at l1
    have g1 : ((fg whc L).drop (i * 3)).take 3 = [vi x.task, vi x.prio, vi x.boost] := whE.get hx
    have k1 : i * 3 + 3 ≤ n * 3 := by omega
    have q0 : (i : Int) < n := by omega
    have q1 : IntKind.wrap .i64 ((i : Int) + 1) = ((i + 1 : Nat) : Int) := by rw [wrap_in _ (by omega) (by omega)]; omega
    by_cases hki : k ≤ (i : Int)
    · have e1 : L.take k.toNat = L.take i := by rw [show k.toNat = i by omega]
      have e2 : min k.toNat n = i := by omega
      rw [e1, e2]
      generalize fg whc L = B at *
      exact ⟨_, [[vi x.task, vi x.prio, vi x.boost]], (go38_0 _ _).trans (by simp [B38_0, push_cast, -Int.not_lt, -Int.not_le, ↓evI_call, ↓evI_calli, ↓evI_callz, ↓evI_callv, ↓evI_mxn, loopIn, loopIn0, keepL, emp, A.dang, A.dangC, h1, h6, h13, h14, h15, hcl, hown, g1, k1, q0, l1, hki, -List.all_eq_true]; rfl), by simp [put_at, h6]⟩
    · have e3 : (L.take (i + 1)).map (fun w => vi w.task) = (L.take i).map (fun w => vi w.task) ++ [vi x.task] := by
        rw [List.take_add_one, hx]; simp
      obtain ⟨e', junk, r1, r2⟩ := ih (i + 1) (put 15 (vi ((i + 1 : Nat) : Int)) (put 6 (.sl ((L.take (i + 1)).map fun w => vi w.task) (i + 1) 2) (put 1 (vi k) (put 13 (.bs 0 n 3) (put 14 (vi n) emp))))) (by omega) (by omega) (by simp [put_at]) (by simp [put_at]) (by simp [put_at]) (by simp [put_at]) (by simp [put_at])
      refine ⟨e', junk, ?_, r2⟩
      rw [← r1]
      refine (go38_0 _ _).trans ?_
      rw [e3]
      have l2 : ((L.take i).map fun w => vi w.task).length = i := by rw [List.length_map, List.length_take]; omega
      generalize (L.take i).map (fun w => vi w.task) = M at *
      have hb : (i + 1) * 8 ≤ 70368744177664 := by omega
      generalize fg whc L = B at *
      generalize ((i + 1 : Nat) : Int) = z at *
      simp [B38_0, push_cast, -Int.not_lt, -Int.not_le, ↓evI_call, ↓evI_calli, ↓evI_callz, ↓evI_callv, ↓evI_mxn, loopIn, loopIn0, keepL, emp, A.dang, A.dangC, h1, h6, h13, h14, h15, hcl, hown, g1, k1, q0, q1, l1, l2, hb, hki, asList, -List.all_eq_true]
      exact (loop_junk (bx := [B]) [[vi x.task, vi x.prio, vi x.boost]] (by simp) _).trans (loop_env (by simp [put_at]))
theorem first_w (L : List Wh) (k : Int) (hn : L.length ≤ 59) : pureOf (callL tab0 ext0) false 38 [.sl (fg whc L) L.length 0, vi k] = some (slI (firstW L k)) := by
  rw [pureOf_b, callL_tab _ _ rfl tab38 rfl]
  have hc := clone_66 (fg whc L) L.length [] (whE.fplain L) (whE.flen L) (by omega)
  unfold cloned at hc
  by_cases hz : L.length = 0
  · obtain rfl : L = [] := List.length_eq_zero_iff.1 hz
    have hs : callL tab0 ext0 67 [.sl [] 0 0, .fn 65 []] [] = some (.tup [], []) := (callL_iff ..).2 ⟨100, by kernel_rfl⟩
    simp only [List.length_nil, if_true] at hc
    have e : fg whc [] = [] := rfl
    rw [e] at hc
    have e2 : slI (firstW [] k) = .sl [] 0 0 := by simp [firstW, ss_nil, slI]
    rw [e2]
    have w1 : min (0 : Nat) 1 = 0 := rfl
    simp [C38, push_cast, -Int.not_lt, -Int.not_le, ↓evI_call, ↓evI_calli, ↓evI_callz, ↓evI_callv, ↓evI_mxn, loopIn, loopIn0, keepL, emp, A.dang, A.dangC, hc, aft, strip, hs, frzK, e, go38_0, B38_0]
  · rw [if_neg hz] at hc
    have h1 := sf_call whE cmpK_turn wlt_swo L L.length rfl hn
    have ha : aft 1 (.tup [], [fg whc (ss wlt L)]) = (.tup [], [], [fg whc (ss wlt L)]) := aft_clean (fgC whE (ss wlt L)) (v := .tup []) rfl
    have hl := ss_len wlt L
    obtain ⟨e', junk, r1, r2⟩ := tf_loop (ss wlt L) L.length k hl (by omega) L.length 0 (put 15 (vi (0 : Nat)) (put 6 (.sl [] 0 2) (put 1 (vi k) (put 13 (.bs 0 L.length 3) (put 14 (vi L.length) emp))))) (by omega) (by omega) (by simp [put_at]) (by simp [put_at]) (by simp [put_at]) (by simp [put_at]) (by simp [put_at])
    have hcp := plain_cp (whE.fplain L)
    have hcp2 := plain_cp (whE.fplain (ss wlt L))
    have e1 : slI (firstW L k) = .sl (((ss wlt L).take k.toNat).map fun w => vi w.task) (min k.toNat L.length) 0 := by
      unfold slI firstW
      rw [List.map_map, List.length_map, List.length_take, hl]; rfl
    rw [e1]
    generalize ((ss wlt L).take k.toNat).map (fun w => vi w.task) = M at *
    generalize fg whc L = B at *
    generalize fg whc (ss wlt L) = B2 at *
    simp only [List.length_cons, List.length_nil, Nat.zero_add, List.nil_append] at ha hc
    simp [C38, push_cast, -Int.not_lt, -Int.not_le, ↓evI_call, ↓evI_calli, ↓evI_callz, ↓evI_callv, ↓evI_mxn, hc, aft, strip, hcp, hcp2, h1, ha]
    refine behind (Q := fun a => a = (.ex 0, e', B2 :: junk)) ⟨_, Eq.trans (loop_env (by simp [put_at])) r1, rfl⟩ ?_
    rintro _ rfl
    simp [push_cast, -Int.not_lt, -Int.not_le, ↓evI_call, ↓evI_calli, ↓evI_callz, ↓evI_callv, ↓evI_mxn, r2, frzK]
theorem si_loop (l m : List Int) (hlm : l.length = m.length) (hl : l.length ≤ 100000) :
    ∀ d i (e : Env), i + d = l.length → (e 0 = slI l ∧ e 1 = slI m ∧ e 5 = vi i) → ∃ zz, evL tab0 ext0 0 L37_0 (e, []) = some zz ∧ FQ (fun i => !decide (l[i]? = m[i]?)) ([]) 0 (fun _ e => e 4 = vb false) (fun _ => True) i d zz := by
  refine fq_loop (St := fun i e => e 0 = slI l ∧ e 1 = slI m ∧ e 5 = vi i) _ _ _ _ _ ?_ ?_
  · rintro e ⟨g0, g1, g2⟩
    exact ⟨_, (go37_0 _ _).trans (by simp [B37_0, push_cast, -Int.not_lt, -Int.not_le, ↓evI_call, ↓evI_calli, ↓evI_callz, ↓evI_callv, ↓evI_mxn, loopIn, loopIn0, keepL, emp, A.dang, A.dangC, g0, g1, g2, slI, hlm]; rfl), by simp [put_at, g0, g1, g2, slI, hlm]⟩
  · rintro i e hi ⟨g0, g1, g2⟩
    rw [go37_0]
    have hi' : (i : Int) < (l.length : Nat) := by omega
    have hw : IntKind.wrap .i64 ((i : Int) + 1) = ((i + 1 : Nat) : Int) := by rw [wrap_in _ (by omega) (by omega)]; omega
    have hm : i < m.length := by omega
    have d1 := drop_int l i hi
    have d2 := drop_int m i hm
    simp +contextual (maxSteps := 400000) [B37_0, push_cast, -Int.not_lt, -Int.not_le, ↓evI_call, ↓evI_calli, ↓evI_callz, ↓evI_callv, ↓evI_mxn, loopIn, loopIn0, keepL, emp, A.dang, A.dangC, g0, g1, g2, hi, hi', slI, hlm, hw, d1, d2, eqz, hm]
    (repeat' refine Step.split (fun cc => ?_) (fun cc => ?_)) <;> first | (refine Step.ret0 ?_ ?_ <;> first | (simp_all [put_at, eqz]; done) | (simp [put_at, *]; done) | ((try simp [eqz] at *); omega)) | (refine Step.go ?_ ?_ <;> first | (simp_all [put_at, eqz]; done) | (simp [put_at, *]; done) | ((try simp [eqz] at *); omega)) | (refine Step.ret _ ?_ ?_ <;> first | (simp_all [put_at, eqz]; done) | (simp [put_at, *]; done) | ((try simp [eqz] at *); omega)) | (refine Step.goJ _ (by simp) ?_ ?_ <;> first | (simp_all [put_at, eqz]; done) | (simp [put_at, *]; done) | ((try simp [eqz] at *); omega))
theorem si_is (l m : List Int) (hl : l.length ≤ 100000) : Ans (vb (decide (l = m))) [] (callL tab0 ext0 37 [slI l, slI m] []) := by
  rw [callL_tab _ _ rfl tab37 rfl]
  by_cases hlm : l.length = m.length
  · have hlm' : (l.length : Int) = m.length := by omega
    simp [C37, push_cast, -Int.not_lt, -Int.not_le, ↓evI_call, ↓evI_calli, ↓evI_callz, ↓evI_callv, ↓evI_mxn, slI, hlm', eqz]
    refine behindP (si_loop l m hlm hl l.length 0 _ (by omega) (by simp [put_at, slI])) ?_
    intro a h
    unfold FQ at h
    split at h
    · rename_i hf
      obtain ⟨e', rfl, _⟩ := h
      have : l = m := by
        refine List.ext_getElem? fun k => ?_
        by_cases hk : k < l.length
        · have := (fstP_none _ _).1 hf k (by omega) (by omega)
          simpa using this
        · rw [List.getElem?_eq_none (by omega), List.getElem?_eq_none (by omega)]
      simp [push_cast, -Int.not_lt, -Int.not_le, ↓evI_call, ↓evI_calli, ↓evI_callz, ↓evI_callv, ↓evI_mxn, this]
      exact ⟨_, rfl⟩
    · rename_i k hf
      obtain ⟨e', junk, rfl, h4⟩ := h
      have : ¬ l = m := by
        rintro rfl
        have := (fstP_some _ _ _ hf).2.2
        simp at this
      simp [push_cast, -Int.not_lt, -Int.not_le, ↓evI_call, ↓evI_calli, ↓evI_callz, ↓evI_callv, ↓evI_mxn, this, h4]
      exact ⟨_, rfl⟩
  · have hlm' : ¬ (l.length : Int) = m.length := by omega
    have : ¬ l = m := fun h => hlm (by rw [h])
    simp [C37, push_cast, -Int.not_lt, -Int.not_le, ↓evI_call, ↓evI_calli, ↓evI_callz, ↓evI_callv, ↓evI_mxn, slI, hlm', eqz, this]
    exact ⟨_, rfl⟩
end Go.Proofs.YtkohggddaheefaaEv
