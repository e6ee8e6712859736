/- swingbridgelaw10.CanonOne. -/
import Derived.Test.YtkohggddaheefaaCaTells
import Derived.Test.YtkohggddaheefaaCaOneP
set_option linter.unusedSimpArgs false
set_option linter.unusedVariables false
namespace Go.Proofs.YtkohggddaheefaaEv
open Go
set_option maxHeartbeats 2000000
theorem co1_loop (s X M : St) (b : Int) (N1 : Nat) (hX : X.tasks.length = N1 + 1) (hN : N1 ≤ 8) (hr : X.tasks.Pairwise (fun a b => a.prio < b.prio)) :
    ∀ d i (e : Env), i + d = N1 → (e 1 = vu8 b ∧ e 2 = .ptr 0 0 ∧ e 5 = .ptr 1 0 ∧ e 6 = .ptr 2 0 ∧ e 7 = vi ((i + 1 : Nat) : Int)) → ∃ zz, evL tab0 ext1 0 L13_0 (e, [St.c s, St.c X, St.c M]) = some zz ∧ FQ (fun _ => false) ([St.c s, St.c X, St.c M]) 0 (fun _ _ => True) (fun e => e 1 = vu8 b ∧ e 2 = .ptr 0 0 ∧ e 5 = .ptr 1 0 ∧ e 6 = .ptr 2 0) i d zz := by
  refine fq_loop (St := fun i e => e 1 = vu8 b ∧ e 2 = .ptr 0 0 ∧ e 5 = .ptr 1 0 ∧ e 6 = .ptr 2 0 ∧ e 7 = vi ((i + 1 : Nat) : Int)) _ _ _ _ _ ?_ ?_
  · rintro e ⟨g0, g1, g2, g3, g4⟩
    exact ⟨_, (go13_0 _ _).trans (by simp [B13_0, push_cast, -Int.not_lt, -Int.not_le, ↓evI_call, ↓evI_calli, ↓evI_callz, ↓evI_callv, ↓evI_mxn, loopIn, loopIn0, keepL, emp, A.dang, A.dangC, g0, g1, g2, g3, g4, slI, slT, slP, St.c, Tk.c, hX]; rfl), by simp [put_at, g0, g1, g2, g3]⟩
  · rintro i e hi ⟨g0, g1, g2, g3, g4⟩
    rw [go13_0]
    have hi' : (i : Int) < (N1 : Nat) := by omega
    have hi1 : i < X.tasks.length := by omega
    have hi3 : i + 1 < X.tasks.length := by omega
    have hw : IntKind.wrap .i64 ((i : Int) + 1 + 1) = (i : Int) + 1 + 1 := wrap_in _ (by omega) (by omega)
    have hj : IntKind.wrap .i64 ((i : Int) + 1 - 1) = i := by rw [wrap_in _ (by omega) (by omega)]; omega
    have hj2 : IntKind.wrap .i64 (i : Int) = i := wrap_in _ (by omega) (by omega)
    have hd1 := drop_tk X.tasks i hi1
    have hd2 := drop_tk X.tasks (i + 1) hi3
    have hlt := (List.pairwise_iff_getElem.1 hr) i (i + 1) hi1 hi3 (by omega)
    have hnl : ¬ X.tasks[i + 1].prio ≤ X.tasks[i].prio := by omega
    have q1 : (i : Int) + 1 < (X.tasks.length : Int) := by omega
    have q2 : (i : Int) < (X.tasks.length : Int) := by omega
    have q3 : (0 : Int) ≤ (i : Int) + 1 := by omega
    have q5 : ((i : Int) + 1).toNat = i + 1 := by omega
    simp only [Tk.c, slP] at hd1 hd2
    simp +contextual (maxSteps := 400000) [B13_0, push_cast, -Int.not_lt, -Int.not_le, ↓evI_call, ↓evI_calli, ↓evI_callz, ↓evI_callv, ↓evI_mxn, loopIn, loopIn0, keepL, emp, A.dang, A.dangC, g0, g1, g2, g3, g4, hi, hi', slI, slT, slP, St.c, Tk.c, hw, hj, hj2, hd1, hd2, hnl, q1, q2, q3, q5, hi1, hi3]
    (repeat' refine Step.split (fun cc => ?_) (fun cc => ?_)) <;> first | (refine Step.ret0 ?_ ?_ <;> first | (simp_all [put_at, eqz]; done) | (simp [put_at, *]; done) | ((try simp [eqz] at *); omega)) | (refine Step.go ?_ ?_ <;> first | (simp_all [put_at, eqz]; done) | (simp [put_at, *]; done) | ((try simp [eqz] at *); omega)) | (refine Step.ret _ ?_ ?_ <;> first | (simp_all [put_at, eqz]; done) | (simp [put_at, *]; done) | ((try simp [eqz] at *); omega)) | (refine Step.goJ _ (by simp) ?_ ?_ <;> first | (simp_all [put_at, eqz]; done) | (simp [put_at, *]; done) | ((try simp [eqz] at *); omega))
theorem canonOne_is (s : St) (b : Int) (_ : s.ok) (kb : (Lit.int .u8 b).wf = true) : Ans (vb true) [] (callL tab0 ext1 13 [.agg (St.c s), vu8 b] []) := by
  rw [callL_tab _ _ rfl tab13 rfl]
  have h1 := pure_vb (k := false) known_10
  have h2 := pure1 (pure_vb (k := false) (few_is_41 s))
  rcases (Bool.eq_false_or_eq_true (few8 s)).symm with hs | hs
  · rw [hs] at h2
    simp only [St.c, slI, slT] at h2
    simp [C13, push_cast, -Int.not_lt, -Int.not_le, ↓evI_call, ↓evI_calli, ↓evI_callz, ↓evI_callv, ↓evI_mxn, St.c, slI, slT, h1, h2]
    exact ⟨_, rfl⟩
  rw [hs] at h2
  have hs := few8_sm s hs
  have h3 := pure1 (pure_vb (k := false) (okR_is s hs.fits))
  have hok : eqz (chk s).2 0 = okS s := rfl
  rw [hok] at h3
  rcases (Bool.eq_false_or_eq_true (okS s)).symm with ho | ho
  · rw [ho] at h3
    simp only [St.c, slI, slT] at h2 h3
    simp [C13, push_cast, -Int.not_lt, -Int.not_le, ↓evI_call, ↓evI_calli, ↓evI_callz, ↓evI_callv, ↓evI_mxn, St.c, slI, slT, h1, h2, h3]
    exact ⟨_, rfl⟩
  rw [ho] at h3
  have g := (okS_iff s).1 ho
  have h9 := hs.tasks
  have hpos : 0 < s.tasks.length := by have := g.tasks; omega
  have hub := u8_of kb
  have ha := good_apart g
  have wb : IntKind.wrap .i64 b = b := wrap_in _ (by omega) (by omega)
  have wnb : IntKind.wrap .i64 (-b) = -b := wrap_in _ (by omega) (by omega)
  have hX := pkS_sm hs (ordS_ok s) (by rw [ordS_len]; exact h9)
  have hM := pkS_sm hs (mvL_ok' hs b) (by rw [mvL_len]; exact h9)
  have hXl : (pkS s (ordS s)).tasks.length = s.tasks.length := by unfold pkS; rw [List.length_map, ordS_len]
  have hrise := ord_rise s ha
  have hcan := pure1 (canon_is s hs)
  have hmov := pure1 (move_is s hs b)
  have hcm := pure1 (canon_is _ hM)
  have hMp : (pkS s (mvL s b s.tasks.length)).tasks.Perm s.tasks := by rw [mv_rot (mv_ok hs hpos b)]; exact rot_perm _ _
  rw [canon_one (s := s) (t := pkS s (mvL s b s.tasks.length)) hMp rfl rfl rfl ha] at hcm
  have hcc := pure1 (canon_is _ hX)
  rw [canon_one (s := s) (t := pkS s (ordS s)) (ord_perm s) rfl rfl rfl ha] at hcc
  have hmm := pure1 (move_is _ hM (-b))
  rw [mv_back hs hpos hub.1 hM] at hmm
  have hs1 := pure1 (pure_vb (k := false) (sameR_is (pkS s (ordS s)) (pkS s (ordS s)) hX.fits))
  have hs2 := pure1 (pure_vb (k := false) (sameR_is s s hs.fits))
  rw [sameSt_self'] at hs1 hs2
  obtain ⟨N1, hN1⟩ : ∃ N1, s.tasks.length = N1 + 1 := ⟨s.tasks.length - 1, by omega⟩
  have hlp := fun e => co1_loop s (pkS s (ordS s)) (pkS s (mvL s b s.tasks.length)) b N1 (by omega) (by omega) hrise N1 0 e (by omega)
  have hle : eqz ((pkS s (ordS s)).tasks.length : Int) s.tasks.length = true := by simp [eqz, hXl]
  generalize pkS s (ordS s) = X at *
  generalize pkS s (mvL s b s.tasks.length) = M at *
  simp only [St.c, slI, slT] at *
  simp [C13, push_cast, -Int.not_lt, -Int.not_le, ↓evI_call, ↓evI_calli, ↓evI_callz, ↓evI_callv, ↓evI_mxn, h1, h2, h3, hcan, hmov, wb]
  refine behindP (P := fun r => Ans _ [] r) (hlp _ (by simp [put_at])) ?_
  intro a h
  obtain ⟨e', rfl, hx⟩ := h.never; clear h; have h := hx
  obtain ⟨k1, k2, k5, k6⟩ := h
  simp [push_cast, -Int.not_lt, -Int.not_le, ↓evI_call, ↓evI_calli, ↓evI_callz, ↓evI_callv, ↓evI_mxn, k1, k2, k5, k6, hcm, hcc, hmm, hs1, hs2, wb, wnb, hle, hmov]
  exact ⟨_, rfl⟩
end Go.Proofs.YtkohggddaheefaaEv
