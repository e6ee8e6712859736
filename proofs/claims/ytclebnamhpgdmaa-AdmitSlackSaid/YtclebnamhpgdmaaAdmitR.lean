/- The reference's rounds, verdicts. -/
import Derived.Test.YtclebnamhpgdmaaAdmit
set_option linter.unusedSimpArgs false
set_option linter.unusedVariables false
namespace Go.Proofs.YtclebnamhpgdmaaEv
open Go
set_option maxHeartbeats 4000000
/-! ### two verdicts that are one -/
def SmV (v : Vd) : Prop := v.bounds.length ≤ 1000 ∧ v.waits.length ≤ 1000 ∧ ∀ w ∈ v.waits, w.length ≤ 1000
theorem drop_slW (l : List (List Int)) (i : Nat) (h : i < l.length) : (l.map slI).drop i = slI l[i] :: (l.drop (i + 1)).map slI := by
  rw [← List.map_drop, List.drop_eq_getElem_cons h]; rfl
theorem sameV_loop (v : Vd) (hv : SmV v) :
    ∀ d i (e : Env), i + d = v.waits.length → (e 2 = .ptr 0 0 ∧ e 3 = .ptr 1 0 ∧ e 5 = vi i) → ∃ zz, evL tab0 ext0 0 L27_0 (e, [Vd.c v, Vd.c v]) = some zz ∧ FQ (fun _ => false) ([Vd.c v, Vd.c v]) 0 (fun _ _ => True) (fun _ => True) i d zz := by
  have hc := hv.2.1
  refine fq_loop (St := fun i e => e 2 = .ptr 0 0 ∧ e 3 = .ptr 1 0 ∧ e 5 = vi i) _ _ _ _ _ ?_ ?_
  · rintro e ⟨g0, g1, g2⟩
    exact ⟨_, (go27_0 _ _).trans (by simp [B27_0, push_cast, -Int.not_lt, -Int.not_le, ↓evI_call, ↓evI_calli, ↓evI_calln, ↓evI_callz, ↓evI_callv, ↓evI_mxn, loopIn, loopIn0, keepL, emp, A.dang, A.dangC, g0, g1, g2, Vd.c, slW, slI]; rfl), by trivial⟩
  · rintro i e hi ⟨g0, g1, g2⟩
    rw [go27_0]
    have hi' : (i : Int) < (v.waits.length : Nat) := by omega
    have hw : IntKind.wrap .i64 ((i : Int) + 1) = (i : Int) + 1 := wrap_in _ (by omega) (by omega)
    have h1 := pure_vb (k := false) (eqR2_is v.waits[i] v.waits[i] (by have := hv.2.2 _ (List.getElem_mem hi); omega))
    rw [decide_eq_true rfl] at h1
    simp only [slI] at h1
    simp +contextual (maxSteps := 400000) [B27_0, push_cast, -Int.not_lt, -Int.not_le, ↓evI_call, ↓evI_calli, ↓evI_calln, ↓evI_callz, ↓evI_callv, ↓evI_mxn, loopIn, loopIn0, keepL, emp, A.dang, A.dangC, g0, g1, g2, hi, hi', Vd.c, slW, slI, drop_slW _ i hi, hw, h1]
    exact Step.go rfl (by simp [put_at])
theorem sameV_is (v : Vd) (hv : SmV v) : Ans (vb true) [] (callL tab0 ext0 27 [.agg v.c, .agg v.c] []) := by
  rw [callL_tab _ _ rfl tab27 rfl]
  have h1 := pure_vb (k := false) (eqR2_is v.bounds v.bounds (by have := hv.1; omega))
  rw [decide_eq_true rfl] at h1
  have hlp := sameV_loop v hv v.waits.length 0
  simp only [Vd.c, slI, slW] at h1 hlp
  simp [C27, push_cast, -Int.not_lt, -Int.not_le, ↓evI_call, ↓evI_calli, ↓evI_calln, ↓evI_callz, ↓evI_callv, ↓evI_mxn, Vd.c, slI, slW, h1, eqz_self]
  refine behindP (P := fun r => Ans _ [] r) (hlp _ (by omega) (by simp [put_at])) ?_
  intro a h
  obtain ⟨e', rfl, hx⟩ := h.never; clear h; have h := hx
  simp [push_cast, -Int.not_lt, -Int.not_le, ↓evI_call, ↓evI_calli, ↓evI_calln, ↓evI_callz, ↓evI_callv, ↓evI_mxn]
  exact ⟨_, rfl⟩
theorem anS_small (s : St) (hs : Sm s) : SmV (anS s).1 := by
  unfold anS
  split
  · rename_i ho
    split
    · rename_i hz
      have g := (okS_iff s).1 ho
      have h := least_ok hs g (by simpa [eqz] using hz)
      have ht := hs.tasks
      refine ⟨by rw [h.1]; omega, by rw [wl_len]; omega, fun w hw => ?_⟩
      unfold wl at hw
      obtain ⟨j, _, rfl⟩ := List.mem_map.1 hw
      have := waits_few hs (leastB s).1 j
      omega
    · exact ⟨by simp, by simp, by simp⟩
  · exact ⟨by simp, by simp, by simp⟩
end Go.Proofs.YtclebnamhpgdmaaEv
