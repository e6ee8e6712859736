/- swingbridgelaw17.BoundRises. -/
import Derived.Test.YtclebnamhpgdmaaBoMono
import Derived.Test.YtclebnamhpgdmaaU8s
set_option linter.unusedSimpArgs false
set_option linter.unusedVariables false
namespace Go.Proofs.YtclebnamhpgdmaaEv
open Go
set_option maxHeartbeats 4000000
/-! ### the plain law -/
def bL (bs : List Int) (i : Nat) : List Int := (List.range i).map (bAt bs)
def cL (bs ms : List Int) (i : Nat) : List Int := (List.range i).map fun k => bAt bs k + bAt ms k
theorem bL_len (bs i) : (bL bs i).length = i := by simp [bL]
theorem cL_len (bs ms i) : (cL bs ms i).length = i := by simp [cL]
theorem bL_step (bs i) : bL bs (i + 1) = bL bs i ++ [bAt bs i] := by unfold bL; rw [List.range_succ, List.map_append]; rfl
theorem cL_step (bs ms i) : cL bs ms (i + 1) = cL bs ms i ++ [bAt bs i + bAt ms i] := by unfold cL; rw [List.range_succ, List.map_append]; rfl
theorem bAt_range (f : Nat → Int) (n i : Nat) : bAt ((List.range n).map f) i = if i < n then f i else 0 := by
  unfold bAt
  by_cases h : i < n
  · simp [h]
  · rw [if_neg h]; simp [h]
theorem b8_at {bs : List Int} (h : ∀ b ∈ bs, B8 b) (i : Nat) : 0 ≤ bAt bs i ∧ bAt bs i ≤ 255 := by
  unfold bAt
  rw [List.getD_eq_getElem?_getD]
  cases hi : bs[i]? with
  | none => simp
  | some x => exact h x (List.mem_of_getElem? hi)
theorem leB_rises {bs ms : List Int} (hb : ∀ b ∈ bs, B8 b) (hm : ∀ b ∈ ms, B8 b) (n : Nat) : LeB (bL bs n) (cL bs ms n) := by
  refine ⟨by rw [bL_len, cL_len], fun i => ?_, fun i => ?_⟩
  · unfold bL; rw [bAt_range]; split
    · exact (b8_at hb i).1
    · omega
  · unfold bL cL; rw [bAt_range, bAt_range]; split
    · have := b8_at hm i; omega
    · omega
theorem bL_i64 {bs : List Int} (hb : ∀ b ∈ bs, B8 b) (n : Nat) : ∀ x ∈ bL bs n, I64' x := by
  intro x hx
  obtain ⟨i, _, rfl⟩ := List.mem_map.1 hx
  have := b8_at hb i
  exact ⟨by omega, by omega⟩
theorem cL_i64 {bs ms : List Int} (hb : ∀ b ∈ bs, B8 b) (hm : ∀ b ∈ ms, B8 b) (n : Nat) : ∀ x ∈ cL bs ms n, I64' x := by
  intro x hx
  obtain ⟨i, _, rfl⟩ := List.mem_map.1 hx
  have h1 := b8_at hb i
  have h2 := b8_at hm i
  exact ⟨by show _ ≤ bAt bs i + bAt ms i; omega, by show bAt bs i + bAt ms i ≤ _; omega⟩
theorem drop_u8 (l : List Int) (i : Nat) (h : i < l.length) : (l.map vu8).drop i = vu8 l[i] :: (l.drop (i + 1)).map vu8 := by
  rw [← List.map_drop, List.drop_eq_getElem_cons h]; rfl
theorem next_own {s : St} {bs : List Int} (hl : bs.length = s.tasks.length) (n : Int) : nextS s bs n = (ownS s bs n).map fun x => x + othersS s bs n (bAt bs n.toNat) := by unfold nextS; rw [if_pos hl]
/-! ### the walk -/
theorem br_loop0 (s : St) (hs : Sm s) (bs ms : List Int) (hb : ∀ b ∈ bs, B8 b) (hm : ∀ b ∈ ms, B8 b) (hl : s.tasks.length ≤ bs.length) (hl2 : s.tasks.length ≤ ms.length) (wv : Int) :
    ∀ d i (e : Env), i + d = s.tasks.length → (e 1 = slB bs ∧ e 2 = slB ms ∧ e 3 = .val (.int .u16 wv) ∧ e 4 = .ptr 0 0 ∧ e 9 = .sl ((bL bs i).map vi) (bL bs i).length 2 ∧ e 10 = .sl ((cL bs ms i).map vi) (cL bs ms i).length 2 ∧ e 11 = vi i) → ∃ zz, evL tab0 ext1 0 L3_0 (e, [St.c s]) = some zz ∧ FQ (fun _ => false) ([St.c s]) 0 (fun _ _ => True) (fun e => e 3 = .val (.int .u16 wv) ∧ e 4 = .ptr 0 0 ∧ e 9 = .sl ((bL bs s.tasks.length).map vi) (bL bs s.tasks.length).length 2 ∧ e 10 = .sl ((cL bs ms s.tasks.length).map vi) (cL bs ms s.tasks.length).length 2) i d zz := by
  have hc := hs.tasks
  refine fq_loop (St := fun i e => e 1 = slB bs ∧ e 2 = slB ms ∧ e 3 = .val (.int .u16 wv) ∧ e 4 = .ptr 0 0 ∧ e 9 = .sl ((bL bs i).map vi) (bL bs i).length 2 ∧ e 10 = .sl ((cL bs ms i).map vi) (cL bs ms i).length 2 ∧ e 11 = vi i) _ _ _ _ _ ?_ ?_
  · rintro e ⟨g0, g1, g2, g3, g4, g5, g6⟩
    exact ⟨_, (go3_0 _ _).trans (by simp [B3_0, push_cast, -Int.not_lt, -Int.not_le, ↓evI_call, ↓evI_calli, ↓evI_callv, ↓evI_mxn, loopIn, loopIn0, keepL, emp, A.dang, A.dangC, g0, g1, g2, g3, g4, g5, g6, slI, slT, slB, slP, St.c]; rfl), by simp [put_at, g2, g3]⟩
  · rintro i e hi ⟨g0, g1, g2, g3, g4, g5, g6⟩
    rw [go3_0]
    have hi' : (i : Int) < (s.tasks.length : Nat) := by omega
    have hw : IntKind.wrap .i64 ((i : Int) + 1) = (i : Int) + 1 := wrap_in _ (by omega) (by omega)
    have hi3 : i < bs.length := by omega
    have hi4 : (i : Int) < bs.length := by omega
    have hi5 : i < ms.length := by omega
    have hi6 : (i : Int) < ms.length := by omega
    have b1 := b8_at hb i
    have b2 := b8_at hm i
    have e1 := bAt_is bs i hi3
    have e2 := bAt_is ms i hi5
    have q1 : IntKind.wrap .i64 bs[i] = bAt bs i := by rw [← e1]; exact wrap_in _ (by omega) (by omega)
    have q2 : IntKind.wrap .i64 ms[i] = bAt ms i := by rw [← e2]; exact wrap_in _ (by omega) (by omega)
    have q3 : IntKind.wrap .i64 (bAt bs i + bAt ms i) = bAt bs i + bAt ms i := wrap_in _ (by omega) (by omega)
    rw [bL_step, cL_step]
    have l1 := bL_len bs i
    have l2 := cL_len bs ms i
    generalize bL bs i = x at *
    generalize cL bs ms i = y at *
    have l3 : (x.length + 1) * 8 ≤ 70368744177664 := by omega
    have l4 : (y.length + 1) * 8 ≤ 70368744177664 := by omega
    simp +contextual (maxSteps := 400000) [B3_0, push_cast, -Int.not_lt, -Int.not_le, ↓evI_call, ↓evI_calli, ↓evI_callv, ↓evI_mxn, loopIn, loopIn0, keepL, emp, A.dang, A.dangC, g0, g1, g2, g3, g4, g5, g6, hi, hi', slI, slT, slB, slP, St.c, drop_u8 _ i hi3, drop_u8 _ i hi5, hi4, hi6, hw, q1, q2, q3, l3, l4, asList]
    (repeat' refine Step.split (fun cc => ?_) (fun cc => ?_)) <;> first | (refine Step.ret0 ?_ ?_ <;> first | (simp_all [put_at, eqz]; done) | (simp [put_at, *]; done) | ((try simp [eqz] at *); omega)) | (refine Step.go ?_ ?_ <;> first | (simp_all [put_at, eqz]; done) | (simp [put_at, *]; done) | ((try simp [eqz] at *); omega)) | (refine Step.ret _ ?_ ?_ <;> first | (simp_all [put_at, eqz]; done) | (simp [put_at, *]; done) | ((try simp [eqz] at *); omega)) | (refine Step.goJ _ (by simp) ?_ ?_ <;> first | (simp_all [put_at, eqz]; done) | (simp [put_at, *]; done) | ((try simp [eqz] at *); omega))
theorem br_loop2 (s : St) (hs : Sm s) (bs cs : List Int) (hb : ∀ b ∈ bs, I64' b) (hc : ∀ b ∈ cs, I64' b) (h : LeB bs cs) (hl : bs.length = s.tasks.length) (w : Int) (hw0 : 0 ≤ w) (hw1 : w ≤ 65535) :
    ∀ d i (e : Env), i + d = s.tasks.length → (e 4 = .ptr 0 0 ∧ e 9 = .sl (bs.map vi) bs.length 2 ∧ e 10 = .sl (cs.map vi) cs.length 2 ∧ e 12 = vi w ∧ e 13 = vi i) → ∃ zz, evL tab0 ext1 0 L3_2 (e, [St.c s]) = some zz ∧ FQ (fun _ => false) ([St.c s]) 2 (fun _ _ => True) (fun _ => True) i d zz := by
  have hc9 := hs.tasks
  refine fq_loop (St := fun i e => e 4 = .ptr 0 0 ∧ e 9 = .sl (bs.map vi) bs.length 2 ∧ e 10 = .sl (cs.map vi) cs.length 2 ∧ e 12 = vi w ∧ e 13 = vi i) _ _ _ _ _ ?_ ?_
  · rintro e ⟨g0, g1, g2, g3, g4⟩
    exact ⟨_, (go3_2 _ _).trans (by simp [B3_2, push_cast, -Int.not_lt, -Int.not_le, ↓evI_call, ↓evI_calli, ↓evI_callv, ↓evI_mxn, loopIn, loopIn0, keepL, emp, A.dang, A.dangC, g0, g1, g2, g3, g4, slI, slT, slP, St.c]; rfl), by trivial⟩
  · rintro i e hi ⟨g0, g1, g2, g3, g4⟩
    rw [go3_2]
    have hi' : (i : Int) < (s.tasks.length : Nat) := by omega
    have hw : IntKind.wrap .i64 ((i : Int) + 1) = (i : Int) + 1 := wrap_in _ (by omega) (by omega)
    have hw3 : IntKind.wrap .i64 (w + 3) = w + 3 := wrap_in _ (by omega) (by omega)
    have h1 := pure_ansO (k := false) (next_is s hs bs hb i)
    have h2 := pure_ansO (k := false) (next_is s hs cs hc i)
    have h3 := pure_ansO (k := false) (own_is s hs bs hb i)
    have h4 := pure_vi (k := false) (others_is s hs bs hb i w ⟨by omega, by omega⟩)
    have h5 := pure_vi (k := false) (others_is s hs cs hc i (w + 3) ⟨by omega, by omega⟩)
    have hm := others_mono (s := s) h (n := i) (show w ≤ w + 3 by omega)
    have hob := others_b s hs bs i (bAt bs i)
    have hno := next_own hl (s := s) i
    have hnm := fun b => next_mono (s := s) h (n := i) (b := b)
    rw [Int.toNat_natCast] at hno
    have hm' : ¬ othersS s cs i (w + 3) < othersS s bs i w := by omega
    obtain ⟨ro, hro⟩ : ∃ r, ownS s bs i = r := ⟨_, rfl⟩
    obtain ⟨rb, hrb⟩ : ∃ r, nextS s cs i = r := ⟨_, rfl⟩
    rw [hrb] at h2
    rw [hro] at h3 hno
    rw [hno] at h1
    have hP : (ro = none ∧ rb = none) ∨ (∃ x, ro = some x ∧ rb = none) ∨ ∃ x y, ro = some x ∧ rb = some y ∧ x + othersS s bs i (bAt bs i) ≤ y := by
      cases rb with
      | none => cases ro with
        | none => exact .inl ⟨rfl, rfl⟩
        | some x => exact .inr (.inl ⟨x, rfl, rfl⟩)
      | some y =>
        obtain ⟨a, a1, a2⟩ := hnm y hrb
        rw [hno] at a1
        cases ro with
        | none => cases a1
        | some x => cases a1; exact .inr (.inr ⟨x, y, rfl, rfl, a2⟩)
    generalize othersS s bs i (bAt bs i) = u at *
    generalize othersS s bs i w = u2 at *
    generalize othersS s cs i (w + 3) = u3 at *
    clear hro hrb hno hnm
    simp only [St.c, slI, slT] at h1 h2 h3 h4 h5
    rcases hP with ⟨rfl, rfl⟩ | ⟨x, rfl, rfl⟩ | ⟨x, y, rfl, rfl, hxy⟩
    · simp [B3_2, push_cast, -Int.not_lt, -Int.not_le, ↓evI_call, ↓evI_calli, ↓evI_callv, ↓evI_mxn, loopIn, loopIn0, keepL, emp, A.dang, A.dangC, g0, g1, g2, g3, g4, hi, hi', slI, slT, slP, St.c, hw, hw3, h1, h2, h3, h4, h5, hm']
      exact Step.go rfl (by simp [put_at])
    · have x1 : ¬ x + u < x := by omega
      simp [B3_2, push_cast, -Int.not_lt, -Int.not_le, ↓evI_call, ↓evI_calli, ↓evI_callv, ↓evI_mxn, loopIn, loopIn0, keepL, emp, A.dang, A.dangC, g0, g1, g2, g3, g4, hi, hi', slI, slT, slP, St.c, hw, hw3, h1, h2, h3, h4, h5, hm', x1]
      exact Step.go rfl (by simp [put_at])
    have x1 : ¬ x + u < x := by omega
    have x2 : ¬ y < x + u := by omega
    simp +contextual (maxSteps := 400000) [B3_2, push_cast, -Int.not_lt, -Int.not_le, ↓evI_call, ↓evI_calli, ↓evI_callv, ↓evI_mxn, loopIn, loopIn0, keepL, emp, A.dang, A.dangC, g0, g1, g2, g3, g4, hi, hi', slI, slT, slP, St.c, hw, hw3, h1, h2, h3, h4, h5, hm', x1, x2]
    exact Step.go rfl (by simp [put_at])
theorem boundRises_is (s : St) (bs ms : List Int) (wv : Int) (_ : s.ok) (hb : ∀ b ∈ bs, B8 b) (hm : ∀ b ∈ ms, B8 b) (hw : (Lit.int .u16 wv).wf = true) :
    Ans (vb true) [] (callL tab0 ext1 3 [.agg (St.c s), slB bs, slB ms, .val (.int .u16 wv)] []) := by
  rw [callL_tab _ _ rfl tab3 rfl]
  have h1 := pure_vb (k := false) known_13
  have h2 := pure1 (pure_vb (k := false) (few_is_14 s))
  rcases (Bool.eq_false_or_eq_true (few8 s)).symm with hs | hs
  · rw [hs] at h2
    simp only [St.c, slI, slT] at h2
    simp [C3, push_cast, -Int.not_lt, -Int.not_le, ↓evI_call, ↓evI_calli, ↓evI_callv, ↓evI_mxn, St.c, slI, slT, h1, h2]
    exact ⟨_, rfl⟩
  rw [hs] at h2
  have hs := few8_sm s hs
  have h3 := pure1 (pure_vb (k := false) (thereR_is s 0 hs.fits))
  rcases (Bool.eq_false_or_eq_true (thereS s 0)).symm with ht | ht
  · rw [ht] at h3
    simp only [St.c, slI, slT] at h2 h3
    simp [C3, push_cast, -Int.not_lt, -Int.not_le, ↓evI_call, ↓evI_calli, ↓evI_callv, ↓evI_mxn, St.c, slI, slT, h1, h2, h3]
    exact ⟨_, rfl⟩
  rw [ht] at h3
  by_cases hl : (bs.length : Int) < s.tasks.length
  · simp only [St.c, slI, slT] at h2 h3
    simp [C3, push_cast, -Int.not_lt, -Int.not_le, ↓evI_call, ↓evI_calli, ↓evI_callv, ↓evI_mxn, St.c, slI, slT, slB, h1, h2, h3, hl]
    exact ⟨_, rfl⟩
  by_cases hl2 : (ms.length : Int) < s.tasks.length
  · simp only [St.c, slI, slT] at h2 h3
    simp [C3, push_cast, -Int.not_lt, -Int.not_le, ↓evI_call, ↓evI_calli, ↓evI_callv, ↓evI_mxn, St.c, slI, slT, slB, h1, h2, h3, hl, hl2]
    exact ⟨_, rfl⟩
  have hw16 : 0 ≤ wv ∧ wv ≤ 65535 := by
    have := hw
    simp [Lit.wf, IntKind.min, IntKind.max, IntKind.signed, IntKind.bits] at this
    omega
  have q1 : IntKind.wrap .i64 wv = wv := wrap_in _ (by omega) (by omega)
  have hlp0 := br_loop0 s hs bs ms hb hm (by omega) (by omega) wv s.tasks.length 0
  have hlp2 := br_loop2 s hs (bL bs s.tasks.length) (cL bs ms s.tasks.length) (bL_i64 hb _) (cL_i64 hb hm _) (leB_rises hb hm _) (bL_len ..) wv hw16.1 hw16.2 s.tasks.length 0
  have l0 : bL bs 0 = [] := rfl
  have l1 : cL bs ms 0 = [] := rfl
  rw [l0, l1] at hlp0
  generalize bL bs s.tasks.length = x at *
  generalize cL bs ms s.tasks.length = y at *
  simp only [St.c, slI, slT, slB] at h2 h3 hlp0 hlp2
  simp [C3, push_cast, -Int.not_lt, -Int.not_le, ↓evI_call, ↓evI_calli, ↓evI_callv, ↓evI_mxn, St.c, slI, slT, slB, h1, h2, h3, hl, hl2]
  refine behindP (P := fun r => Ans _ [] r) (hlp0 _ (by omega) (by simp [put_at])) ?_
  intro a h
  obtain ⟨e', rfl, hx⟩ := h.never; clear h; have h := hx
  obtain ⟨k3, k4, k9, k10⟩ := h
  simp [push_cast, -Int.not_lt, -Int.not_le, ↓evI_call, ↓evI_calli, ↓evI_callv, ↓evI_mxn, k3, k4, k9, k10, q1]
  refine behindP (P := fun r => Ans _ [] r) (hlp2 _ (by omega) (by simp [put_at, k4, k9, k10])) ?_
  intro a h
  obtain ⟨e', rfl, hx⟩ := h.never; clear h; have h := hx
  simp [push_cast, -Int.not_lt, -Int.not_le, ↓evI_call, ↓evI_calli, ↓evI_callv, ↓evI_mxn]
  exact ⟨_, rfl⟩
end Go.Proofs.YtclebnamhpgdmaaEv
