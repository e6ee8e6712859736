/- swingbridgelaw1.CalcTurns. -/
import Derived.Test.YtapjngmlocgdoaaSumX
import Derived.Test.YtapjngmlocgdoaaInA
import Derived.Test.YtapjngmlocgdoaaTab
set_option linter.unusedSimpArgs false
set_option linter.unusedVariables false
namespace Go.Proofs.YtapjngmlocgdoaaEv
open Go
set_option maxHeartbeats 2000000
abbrev vu8 (n : Int) : A := .val (.int .u8 n)
theorem u8_of {n : Int} (h : (Lit.int .u8 n).wf = true) : 0 ≤ n ∧ n ≤ 255 := by
  simp only [Lit.wf, Bool.and_eq_true, decide_eq_true_eq] at h
  exact h
theorem mapM_vi : ∀ (l : List Int), (∀ n ∈ l, I64 n) → (l.map vi).mapM intOf = some l
  | [], _ => rfl
  | a :: l, h => by
    rw [List.map_cons, List.mapM_cons, mapM_vi l fun n hn => h n (List.mem_cons_of_mem _ hn)]
    have ha := h a (List.mem_cons_self ..)
    have e : intOf (vi a) = some a := if_pos ha
    rw [e]; rfl
theorem sum_is (l : List Int) (n : Nat) (hl : l.length = n) (hn : n ≤ 1000) (h : ∀ n ∈ l, I64 n) : pureOf (callL tab0 extS) false 23 [.sl (l.map vi) n 0] = some (toldA l.sum) := by
  have e : callL tab0 extS 23 [.sl (l.map vi) n 0] [] = some (toldA l.sum, []) := by
    unfold callL callOf
    have : extS 23 [.sl (l.map vi) n 0] [] = some (toldA l.sum, []) := by
      unfold extS
      simp only [List.length_map, hl, hn, and_self, if_true, mapM_vi l h, Option.map_some]
    rw [this]
  refine pureOf_eq e ?_
  unfold toldA
  split <;> rfl
theorem known_is : pureOf (callL tab0 extS) false 14 [] = some (vb true) := by
  have e : callL tab0 extS 14 [] [] = some (vb true, []) := by
    unfold callL callOf
    have : extS 14 [] [] = some (vb true, []) := rfl
    rw [this]
  exact pureOf_eq e rfl
theorem calcTurns_is (l : List Int) (t n : Int) (hl : ∀ n ∈ l, I64 n) (k1 : (Lit.int .u8 t).wf = true) (k2 : (Lit.int .i64 n).wf = true) : Ans (vb true) [] (callL tab0 extS 6 [.sl (l.map vi) l.length 0, vu8 t, vi n] []) := by
  rw [callL_tab _ _ rfl tab6 rfl]
  have h1 := known_is
  have hn := i64_wf k2
  have ht := u8_of k1
  by_cases c1 : 60 < (l.length : Int)
  · simp [C6, push_cast, -Int.not_lt, -Int.not_le, ↓evI_call, ↓evI_calli, ↓evI_callz, ↓evI_callv, ↓evI_mxn, h1, c1]
    exact ⟨_, rfl⟩
  by_cases c2 : l.length = 0
  · have c2' : eqz (l.length : Int) 0 = true := by simp [eqz, c2]
    simp [C6, push_cast, -Int.not_lt, -Int.not_le, ↓evI_call, ↓evI_calli, ↓evI_callz, ↓evI_callv, ↓evI_mxn, h1, c1, c2']
    exact ⟨_, rfl⟩
  have c2' : eqz (l.length : Int) 0 = false := by simp [eqz, c2]
  by_cases c3 : n = -9223372036854775808
  · have c3' : eqz n (-9223372036854775808) = true := by simp [eqz, c3]
    simp [C6, push_cast, -Int.not_lt, -Int.not_le, ↓evI_call, ↓evI_calli, ↓evI_callz, ↓evI_callv, ↓evI_mxn, h1, c1, c2', c3']
    exact ⟨_, rfl⟩
  have c3' : eqz n (-9223372036854775808) = false := by simp [eqz, c3]
  have q1 := Int.tmod_eq_emod_of_nonneg (b := (l.length : Int)) ht.1
  have q2 := Int.emod_nonneg t (show (l.length : Int) ≠ 0 by omega)
  have q3 := Int.emod_lt_of_pos t (show (0 : Int) < l.length by omega)
  obtain ⟨m, hm⟩ : ∃ m : Nat, (m : Int) = t % l.length := ⟨(t % l.length).toNat, by omega⟩
  rw [← hm] at q1 q3
  have hmN : m ≤ l.length := by omega
  have hmI : (m : Int) ≤ l.length := by omega
  have wt : IntKind.wrap .i64 t = t := wrap_in _ (by omega) (by omega)
  have wm : IntKind.wrap .i64 (m : Int) = (m : Int) := wrap_in _ (by omega) (by omega)
  have wn : IntKind.wrap .i64 (-n) = -n := by
    unfold I64 at hn
    rw [IntKind.wrap_i64]; omega
  have hN0 : ¬ (l.length : Int) = 0 := by omega
  have hN1 : ¬ l = [] := fun h => c2 (by rw [h]; rfl)
  have h2 := sum_is l l.length rfl (by omega) hl
  have hR : ∀ x ∈ l.drop m ++ [n] ++ l.take m ++ [-n], I64 x := by
    unfold I64 at *
    intro x hx
    simp only [List.mem_append, List.mem_singleton] at hx
    rcases hx with ((hx | rfl) | hx) | rfl
    · exact hl x (List.mem_of_mem_drop hx)
    · exact hn
    · exact hl x (List.mem_of_mem_take hx)
    · omega
  have hRl : (l.drop m ++ [n] ++ l.take m ++ [-n]).length = l.length - m + 1 + m + 1 := by
    simp only [List.length_append, List.length_drop, List.length_take, List.length_singleton]
    omega
  have h3 := sum_is _ (l.length - m + 1 + m + 1) hRl (by omega) hR
  have hS : (l.drop m ++ [n] ++ l.take m ++ [-n]).sum = l.sum := by
    have e : l.sum = (l.take m).sum + (l.drop m).sum := by rw [← List.sum_append, List.take_append_drop]
    simp only [List.sum_append, List.sum_cons, List.sum_nil]
    omega
  rw [hS] at h3
  have e1 : (l.drop m ++ [n] ++ l.take m ++ [-n]).map vi = (l.drop m).map vi ++ [vi n] ++ (l.take m).map vi ++ [vi (-n)] := by simp
  rw [e1] at h3
  have t1 : (l.map vi).drop m = (l.drop m).map vi := List.map_drop.symm
  have t2 : (l.map vi).take m = (l.take m).map vi := List.map_take.symm
  have t3 : ((l.drop m).map vi).take (l.length - m) = (l.drop m).map vi := List.take_of_length_le (by simp)
  have l1 : ((l.drop m).map vi).length = l.length - m := by simp
  have l2 : ((l.take m).map vi).length = m := by simp; omega
  have l3 : (l.map vi).length = l.length := by simp
  have b1 : (l.length - m) * 8 ≤ 70368744177664 := by omega
  have b2 : (l.length - m + 1) * 8 ≤ 70368744177664 := by omega
  have b3 : (l.length - m + 1 + m) * 8 ≤ 70368744177664 := by omega
  have b4 : (l.length - m + 1 + m + 1) * 8 ≤ 70368744177664 := by omega
  have q4 : ((l.length : Int) - m).toNat = l.length - m := by omega
  have e2 : l.length - m + (m + 1) = l.length - m + 1 + m := by omega
  have e3 : ∀ D K : List A, D ++ [vi n] ++ K ++ [vi (-n)] = D ++ vi n :: (K ++ [vi (-n)]) := fun D K => by simp
  rw [e3] at h3
  unfold toldA at h2 h3
  generalize (l.drop m).map vi = D at *
  generalize (l.take m).map vi = K at *
  generalize l.map vi = B at *
  generalize l.sum = X at *
  by_cases cx : -9223372036854775808 ≤ X ∧ X ≤ 9223372036854775807
  · rw [if_pos cx] at h2 h3
    simp [C6, push_cast, -Int.not_lt, -Int.not_le, ↓evI_call, ↓evI_calli, ↓evI_callz, ↓evI_callv, ↓evI_mxn, h1, c1, c2', c3', q1, q2, q3, wt, wm, wn, hN0, hN1, hmN, hmI, h2, h3, t1, t2, t3, l1, l2, l3, b1, b2, b3, b4, q4, e2, asList, eqz_self]
    exact ⟨_, rfl⟩
  · rw [if_neg cx] at h2 h3
    simp [C6, push_cast, -Int.not_lt, -Int.not_le, ↓evI_call, ↓evI_calli, ↓evI_callz, ↓evI_callv, ↓evI_mxn, h1, c1, c2', c3', q1, q2, q3, wt, wm, wn, hN0, hN1, hmN, hmI, h2, h3, t1, t2, t3, l1, l2, l3, b1, b2, b3, b4, q4, e2, asList, eqz_self]
    exact ⟨_, rfl⟩
end Go.Proofs.YtapjngmlocgdoaaEv
