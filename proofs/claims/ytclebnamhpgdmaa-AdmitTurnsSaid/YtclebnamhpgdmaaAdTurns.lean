/- swingbridgelaw18.AdmitTurns. -/
import Derived.Test.YtclebnamhpgdmaaTurn
import Derived.Test.YtclebnamhpgdmaaIn1
import Derived.Test.YtclebnamhpgdmaaExt2
set_option linter.unusedSimpArgs false
set_option linter.unusedVariables false
namespace Go.Proofs.YtclebnamhpgdmaaEv
open Go
set_option maxHeartbeats 4000000
theorem an_shape {s : St} (hs : Sm s) : ((anS s).1.ok = true ∧ (anS s).1.bounds.length = s.tasks.length) ∨ ((anS s).1.ok = false ∧ (anS s).1.bounds = []) := by
  unfold anS
  by_cases ho : okS s = true
  · rw [if_pos ho]
    by_cases hz : eqz (leastB s).2 0 = true
    · rw [if_pos hz]
      exact .inl ⟨rfl, (least_ok hs ((okS_iff _).1 ho) (by simpa [eqz] using hz)).1⟩
    · rw [if_neg hz]
      exact .inr ⟨rfl, rfl⟩
  · rw [if_neg ho]
    exact .inr ⟨rfl, rfl⟩
theorem plain_own' {l : List A} (h : l.all A.plain = true) : l.map A.own = l := by
  simp only [List.all_eq_true] at h
  refine (List.map_congr_left fun a ha => ?_).trans (List.map_id' l)
  have := h a ha
  cases a <;> simp_all [A.plain, A.own]
theorem trn_sm {s : St} (hs : Sm s) (k : Nat) : Sm (trn s k) :=
  ⟨hs.cores, hs.homes, by rw [trn_len]; exact hs.tasks, fun t ht => hs.parts t (rot_mem.1 ht), fun t ht => hs.names t (rot_mem.1 ht)⟩
def tBx (s : St) (T : List A) : List A := [vi s.proto, slI s.cores, slI s.homes, .sl T s.tasks.length 2]
theorem aturn_loop (s : St) (T : List A) (v w : Vd) (m : Nat) (hm : m < s.tasks.length) (h9 : s.tasks.length ≤ 9) (hlo : v.bounds.length = s.tasks.length ∨ v.bounds.length = 0) (hw : w.bounds = rot m v.bounds) (hT : T.map A.own = T) :
    ∀ d i (e : Env), i + d = v.bounds.length → (e 5 = vi s.tasks.length ∧ e 6 = vi m ∧ e 8 = .ptr 2 0 ∧ e 10 = .ptr 3 0 ∧ e 12 = vi i) → ∃ zz, evL tab0 ext2 0 L8_0 (e, [St.c s, tBx s T, Vd.c v, Vd.c w]) = some zz ∧ FQ (fun _ => false) ([St.c s, tBx s T, Vd.c v, Vd.c w]) 0 (fun _ _ => True) (fun e => True) i d zz := by
  have hT2 := hT
  refine fq_loop (St := fun i e => e 5 = vi s.tasks.length ∧ e 6 = vi m ∧ e 8 = .ptr 2 0 ∧ e 10 = .ptr 3 0 ∧ e 12 = vi i) _ _ _ _ _ ?_ ?_
  · rintro e ⟨g0, g1, g2, g3, g4⟩
    exact ⟨_, (go8_0 _ _).trans (by simp [B8_0, push_cast, -Int.not_lt, -Int.not_le, ↓evI_call, ↓evI_calli, ↓evI_callv, ↓evI_mxn, loopIn, loopIn0, keepL, emp, A.dang, A.dangC, g0, g1, g2, g3, g4, slI, slT, slP, slW, St.c, Tk.c, Vd.c, tBx, hT]; rfl), by trivial⟩
  · rintro i e hi ⟨g0, g1, g2, g3, g4⟩
    rw [go8_0]
    have hi' : (i : Int) < (v.bounds.length : Nat) := by omega
    have hl := hlo.resolve_right (by omega)
    have hww : IntKind.wrap .i64 ((i : Int) + 1) = (i : Int) + 1 := wrap_in _ (by omega) (by omega)
    have hwm : IntKind.wrap .i64 ((i : Int) + m) = (i : Int) + m := wrap_in _ (by omega) (by omega)
    have hj := sg_lt hm (i := i) (by omega)
    have hq : ((i : Int) + m).tmod s.tasks.length = (sg s.tasks.length m i : Nat) := by
      rw [Int.tmod_eq_emod_of_nonneg (by omega)]
      unfold sg
      split
      · rw [Int.emod_eq_of_lt (by omega) (by omega)]; omega
      · rw [← Int.sub_emod_right, Int.emod_eq_of_lt (by omega) (by omega)]; omega
    have hwj : IntKind.wrap .i64 (sg s.tasks.length m i : Nat) = (sg s.tasks.length m i : Nat) := wrap_in _ (by omega) (by omega)
    have hg := rot_get hl hm (i := i) (by omega)
    rw [← hw] at hg
    generalize sg s.tasks.length m i = j at *
    have hj2 : j < v.bounds.length := by omega
    have hi4 : i < w.bounds.length := by rw [hw, rot_len]; exact hi
    have hi5 : (i : Int) < w.bounds.length := by omega
    have hj3 : (j : Int) < v.bounds.length := by omega
    rw [List.getElem?_eq_getElem hi4, List.getElem?_eq_getElem hj2] at hg
    have hg2 := Option.some.inj hg
    have hdv := drop_int v.bounds j hj2
    have hdw := drop_int w.bounds i hi4
    rw [hg2] at hdw
    have hn0 : ¬ (s.tasks.length : Int) = 0 := by omega
    have hn1 : ¬ s.tasks = [] := fun h => by rw [h] at hm; exact absurd hm (by simp)
    simp +contextual (maxSteps := 400000) [B8_0, push_cast, -Int.not_lt, -Int.not_le, ↓evI_call, ↓evI_calli, ↓evI_callv, ↓evI_mxn, loopIn, loopIn0, keepL, emp, A.dang, A.dangC, g0, g1, g2, g3, g4, hi, hi', slI, slT, slP, slW, St.c, Tk.c, Vd.c, tBx, hww, hwm, hq, hwj, hj2, hj3, hi4, hi5, hdv, hdw, hT, hn0, hn1, eqz_self]
    (repeat' refine Step.split (fun cc => ?_) (fun cc => ?_)) <;> first | (refine Step.ret0 ?_ ?_ <;> first | (simp_all [put_at, eqz]; done) | (simp [put_at, *]; done) | ((try simp [eqz] at *); omega)) | (refine Step.go ?_ ?_ <;> first | (simp_all [put_at, eqz]; done) | (simp [put_at, *]; done) | ((try simp [eqz] at *); omega)) | (refine Step.ret _ ?_ ?_ <;> first | (simp_all [put_at, eqz]; done) | (simp [put_at, *]; done) | ((try simp [eqz] at *); omega)) | (refine Step.goJ _ (by simp) ?_ ?_ <;> first | (simp_all [put_at, eqz]; done) | (simp [put_at, *]; done) | ((try simp [eqz] at *); omega))
theorem admitTurns_is (s : St) (b : Int) (_ : s.ok) (k1 : (Lit.int .u8 b).wf = true) : Ans (vb true) [] (callL tab0 ext2 8 [.agg (St.c s), vu8 b] []) := by
  rw [callL_tab _ _ rfl tab8 rfl]
  have h1 := pure_vb (k := false) known_21
  have h2 := pure2 (pure1 (pure_vb (k := false) (few_is_22 s)))
  rcases (Bool.eq_false_or_eq_true (few8 s)).symm with hs | hs
  · rw [hs] at h2
    simp only [St.c, slI, slT] at h2
    simp [C8, push_cast, -Int.not_lt, -Int.not_le, ↓evI_call, ↓evI_calli, ↓evI_callv, ↓evI_mxn, St.c, slI, slT, h1, h2]
    exact ⟨_, rfl⟩
  rw [hs] at h2
  have hs := few8_sm s hs
  have h9 := hs.tasks
  by_cases hN : s.tasks.length = 0
  · have hN2 : eqz (s.tasks.length : Int) 0 = true := by simp [eqz, hN]
    simp only [St.c, slI, slT] at h2
    simp [C8, push_cast, -Int.not_lt, -Int.not_le, ↓evI_call, ↓evI_calli, ↓evI_callv, ↓evI_mxn, St.c, slI, slT, h1, h2, hN2]
    exact ⟨_, rfl⟩
  have hN2 : eqz (s.tasks.length : Int) 0 = false := by simp [eqz, hN]
  have hN3 : ¬ (s.tasks.length : Int) = 0 := by omega
  have hN4 : ¬ s.tasks = [] := fun h => hN (by rw [h]; rfl)
  have q1 := Int.tmod_eq_emod_of_nonneg (b := (s.tasks.length : Int)) (u8_of k1).1
  have q2 := Int.emod_nonneg b (show (s.tasks.length : Int) ≠ 0 by omega)
  have q3 := Int.emod_lt_of_pos b (show (0 : Int) < s.tasks.length by omega)
  obtain ⟨m, hm⟩ : ∃ m : Nat, (m : Int) = b % s.tasks.length := ⟨(b % s.tasks.length).toNat, by omega⟩
  rw [← hm] at q1 q3
  have hmN : m < s.tasks.length := by omega
  have hmN2 : m ≤ s.tasks.length := by omega
  have hmN3 : (m : Int) ≤ s.tasks.length := by omega
  have wb : IntKind.wrap .i64 b = b := wrap_in _ (by have := u8_of k1; omega) (by have := u8_of k1; omega)
  have wm : IntKind.wrap .i64 (m : Int) = (m : Int) := wrap_in _ (by omega) (by omega)
  have h3 := pure2 (analyze_is s hs)
  have h4 := pure2 (analyze_is (trn s m) (trn_sm hs m))
  have h5 := pure2 (pure1 (pure_vb (k := false) (okR_is s hs.fits)))
  have hA := t_an hmN
  have hsh := an_shape hs
  have hok : eqz (chk s).2 0 = okS s := rfl
  rw [hok] at h5
  -- the tasks turned round
  have hdr : (s.tasks.flatMap Tk.c).drop (m * 6) = (s.tasks.drop m).flatMap Tk.c := by
    have h := take_tk s.tasks m hmN2
    have h2 := List.take_append_drop (m * 6) (s.tasks.flatMap Tk.c)
    rw [h] at h2
    have h3 : s.tasks.flatMap Tk.c = (s.tasks.take m).flatMap Tk.c ++ (s.tasks.drop m).flatMap Tk.c := by rw [← List.flatMap_append, List.take_append_drop]
    rw [h3] at h2 ⊢
    exact List.append_cancel_left h2
  have hl6 := len_tk s.tasks
  have htk : ((s.tasks.flatMap Tk.c).drop (m * 6)).take ((s.tasks.length - m) * 6) = (s.tasks.flatMap Tk.c).drop (m * 6) := List.take_of_length_le (by rw [List.length_drop, hl6]; omega)
  have hcat : (s.tasks.flatMap Tk.c).drop (m * 6) ++ (s.tasks.flatMap Tk.c).take (m * 6) = (rot m s.tasks).flatMap Tk.c := by
    rw [hdr, take_tk s.tasks m hmN2, ← List.flatMap_append]; rfl
  have t4 := plain_tk (rot m s.tasks)
  have t1 := plain_own' t4
  have t2 := plain_cp t4
  have t3 := plain_norm t4
  have t7 := len_tk (rot m s.tasks)
  have t10 := fun (bx : Bx) (d : Nat) => plain_mapM (bx := bx) (d := d) t4
  have d1 : ((s.tasks.flatMap Tk.c).drop (m * 6)).length = (s.tasks.length - m) * 6 := by rw [List.length_drop, hl6]; omega
  have d2 : ((s.tasks.flatMap Tk.c).take (m * 6)).length = m * 6 := by rw [List.length_take, hl6]; omega
  have e1 : s.tasks.length - m + m = s.tasks.length := by omega
  have hsz1 : (s.tasks.length - m) * 72 ≤ 70368744177664 := by omega
  have hsz2 : s.tasks.length * 72 ≤ 70368744177664 := by omega
  have s2 : St.c (trn s m) = [vi s.proto, slI s.cores, slI s.homes, .sl ((rot m s.tasks).flatMap Tk.c) s.tasks.length 0] := by
    show [vi s.proto, slI s.cores, slI s.homes, slT (rot m s.tasks)] = _
    unfold slT; rw [rot_len]
  have hlp := fun h1 h2 => aturn_loop s ((rot m s.tasks).flatMap Tk.c) (anS s).1 (anS (trn s m)).1 m hmN h9 h1 h2 t1 (anS s).1.bounds.length 0
  rw [s2] at h4
  have hmp : ∀ bx : Bx, ∀ d, (((rot m s.tasks).flatMap Tk.c).take (s.tasks.length * 6)).mapM (frzC bx d) = some ((rot m s.tasks).flatMap Tk.c) := fun bx d => by
    rw [List.take_of_length_le (Nat.le_of_eq (by rw [t7, rot_len]))]; exact t10 bx d
  have hlT : s.tasks.length * 6 ≤ ((rot m s.tasks).flatMap Tk.c).length := Nat.le_of_eq (by rw [t7, rot_len])
  generalize (rot m s.tasks).flatMap Tk.c = T at *
  simp only [St.c, slI, slT, tBx] at h2 h3 h4 h5 hlp
  generalize hgv : anS s = av at *
  generalize hgw : anS (trn s m) = aw at *
  obtain ⟨⟨vk, vs0, vw⟩, vz⟩ := av
  obtain ⟨⟨wk, ws0, ww⟩, wz⟩ := aw
  simp only [Vd.c, slW, slI] at h3 h4 hA hsh hlp
  rcases (Bool.eq_false_or_eq_true (okS s)).symm with ho | ho
  · obtain ⟨z1, z2, z3, z4⟩ := hA.2 ho
    rw [ho] at h5
    subst z3 z4
    simp [C8, push_cast, -Int.not_lt, -Int.not_le, ↓evI_call, ↓evI_calli, ↓evI_callv, ↓evI_mxn, St.c, slI, slT, h1, h2, h3, h4, h5, hN2, hN3, hN4, q1, wb, wm, hmN, hmN2, hmN3, hl6, htk, hcat, t1, t2, t3, hmp, hlT, d1, d2, e1, hsz1, hsz2, z1, z2, asList, eqz_self, -List.all_eq_true, -List.map_map]
    exact ⟨_, rfl⟩
  · obtain ⟨z1, z2, z3⟩ := hA.1 ho
    rw [ho] at h5
    subst z1 z2 z3
    rcases hsh with ⟨rfl, hlv⟩ | ⟨rfl, rfl⟩
    · have e5 : eqz (vs0.length : Int) s.tasks.length = true := by simp [eqz, hlv]
      have hrl : (rot m vs0).length = vs0.length := rot_len ..
      have hlp := hlp (.inl hlv) rfl
      simp only [hrl] at hlp
      simp [C8, push_cast, -Int.not_lt, -Int.not_le, ↓evI_call, ↓evI_calli, ↓evI_callv, ↓evI_mxn, St.c, slI, slT, h1, h2, h3, h4, h5, hN2, hN3, hN4, q1, wb, wm, hmN, hmN2, hmN3, hl6, htk, hcat, t1, t2, t3, hmp, hlT, d1, d2, e1, e5, hrl, hsz1, hsz2, asList, eqz_self, -List.all_eq_true, -List.map_map]
      refine behindP (P := fun r => Ans _ [] r) (hlp _ (by omega) (by simp [put_at])) ?_
      intro a h
      obtain ⟨e', rfl, hx⟩ := h.never; clear h; have h := hx
      simp [push_cast, -Int.not_lt, -Int.not_le, ↓evI_call, ↓evI_calli, ↓evI_callv, ↓evI_mxn]
      exact ⟨_, rfl⟩
    · have hlp := hlp (.inr rfl) rfl
      simp only [rot, List.drop_nil, List.take_nil, List.append_nil, List.length_nil, List.map_nil] at hlp
      simp [C8, push_cast, -Int.not_lt, -Int.not_le, ↓evI_call, ↓evI_calli, ↓evI_callv, ↓evI_mxn, St.c, slI, slT, h1, h2, h3, h4, h5, hN2, hN3, hN4, q1, wb, wm, hmN, hmN2, hmN3, hl6, htk, hcat, t1, t2, t3, hmp, hlT, d1, d2, e1, hsz1, hsz2, asList, eqz_self, rot, -List.all_eq_true, -List.map_map]
      refine behindP (P := fun r => Ans _ [] r) (hlp _ trivial (by simp [put_at])) ?_
      intro a h
      obtain ⟨e', rfl, hx⟩ := h.never; clear h; have h := hx
      simp [push_cast, -Int.not_lt, -Int.not_le, ↓evI_call, ↓evI_calli, ↓evI_callv, ↓evI_mxn]
      exact ⟨_, rfl⟩
end Go.Proofs.YtclebnamhpgdmaaEv
