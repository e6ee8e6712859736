/- wait.Sum, the reference's. -/
import Derived.Test.YtclebnamhpgdmaaGreatWaitAll
set_option linter.unusedSimpArgs false
set_option linter.unusedVariables false
namespace Go.Proofs.YtclebnamhpgdmaaGreatEv
open Go
set_option maxHeartbeats 2000000
theorem fairS_b {s : St} {n k x : Int} (h : fairS s n k = some x) : 1 ≤ x ∧ x ≤ 10000 := by
  unfold fairS at h
  obtain ⟨p, hp, rfl⟩ := Option.map_eq_some_iff.1 h
  obtain ⟨g, m, j, hm, hj, en, ek, ep, hk⟩ := lockS_some hp
  have h1 : 1 ≤ p.len ∧ p.len ≤ 60 := by rw [ep]; exact (g.pts (List.getElem_mem hm)).2 _ (List.getElem_mem hj)
  have h2 := othSum_bounds g n
  omega
theorem tokS_b {s : St} {n k x : Int} (h : tokS s n k = some x) : 1 ≤ x ∧ x ≤ 10000 := by
  unfold tokS at h
  obtain ⟨y, hy, rfl⟩ := Option.map_eq_some_iff.1 h
  have h1 := tokIn_b hy
  have h2 := out_bounds s n
  omega
theorem agentS_b' {s : St} {bs : List Int} {n k x : Int} (h : agentS s bs n k = some x) : 1 ≤ x ∧ x ≤ 10000 := by
  unfold agentS at h
  split at h
  · cases hk : lockS s n k with
    | none => rw [hk] at h; cases h
    | some p =>
      rw [hk] at h
      simp only [Option.bind_some] at h
      obtain ⟨h1, h2, h3, _⟩ := lfp_some.1 h
      have := least_bounds hk
      omega
  · cases h
theorem partS_b {s : St} {bs : List Int} {n k x : Int} (h : partS s bs n k = some x) : 1 ≤ x ∧ x ≤ 10000 := by
  unfold partS at h
  split at h
  · split at h
    · exact fairS_b h
    · split at h
      · exact agentS_b' h
      · exact tokS_b h
  · cases h
theorem waitV_b (s : St) (bs : List Int) (m i : Nat) : 0 ≤ waitV s bs m i ∧ waitV s bs m i ≤ 10000 := by
  unfold waitV waitF
  split
  · cases h : partS s bs m i with
    | none => simp
    | some x => have := partS_b h; simp; omega
  · simp
def wsumS (s : St) (bs : List Int) (n : Int) : Int := sumL id ((waitsS s bs n).getD [])
theorem waits_b {s : St} {bs : List Int} {n : Int} : ((waitsS s bs n).getD []).length ≤ ((s.tasks[n.toNat]?.map fun t => t.parts.length).getD 0) ∧ ∀ x ∈ (waitsS s bs n).getD [], 0 ≤ x ∧ x ≤ 10000 := by
  unfold waitsS
  split
  · split
    · simp only [Option.getD_some, waitL_len]
      refine ⟨Nat.le_refl _, fun x hx => ?_⟩
      unfold waitL at hx
      obtain ⟨i, _, rfl⟩ := List.mem_map.1 hx
      exact waitV_b ..
    · simp
  · simp
theorem waits_few {s : St} (hs : Sm s) (bs : List Int) (n : Int) : ((waitsS s bs n).getD []).length ≤ 10 := by
  have h := (waits_b (s := s) (bs := bs) (n := n)).1
  cases h2 : s.tasks[n.toNat]? with
  | none => rw [h2] at h; simp only [Option.map_none, Option.getD_none] at h; omega
  | some t => rw [h2] at h; simp at h; have := hs.parts t (List.mem_of_getElem? h2); omega
theorem w_take {l : List Int} (h : ∀ x ∈ l, 0 ≤ x ∧ x ≤ 10000) (hl : l.length ≤ 10) (i : Nat) : 0 ≤ sumL id (l.take i) ∧ sumL id (l.take i) ≤ 100000 := by
  have h2 := fun x hx => h x (List.mem_of_mem_take (i := i) hx)
  have h3 := sumL_ge id _ fun x hx => (h2 x hx).1
  have h4 := sumL_le id 10000 _ fun x hx => (h2 x hx).2
  have h5 : (l.take i).length ≤ 10 := by rw [List.length_take]; omega
  omega
theorem ws_loop (s : St) (l : List Int) (h : ∀ x ∈ l, 0 ≤ x ∧ x ≤ 10000) (hl : l.length ≤ 10) (b : Bool) :
    ∀ d i (e : Env), i + d = l.length → (e 9 = vb b ∧ e 10 = vi (sumL id (l.take i)) ∧ e 20 = slI l ∧ e 21 = vi l.length ∧ e 22 = vi i) → ∃ zz, evL tab0 ext0 0 L21_0 (e, [St.c s]) = some zz ∧ FQ (fun _ => false) ([St.c s]) 0 (fun _ _ => True) (fun e => e 9 = vb b ∧ e 10 = vi (sumL id l)) i d zz := by
  refine fq_loop (St := fun i e => e 9 = vb b ∧ e 10 = vi (sumL id (l.take i)) ∧ e 20 = slI l ∧ e 21 = vi l.length ∧ e 22 = vi i) _ _ _ _ _ ?_ ?_
  · rintro e ⟨g0, g1, g2, g3, g4⟩
    exact ⟨_, (go21_0 _ _).trans (by simp [B21_0, push_cast, -Int.not_lt, -Int.not_le, ↓evI_call, ↓evI_calli, ↓evI_callv, ↓evI_mxn, loopIn, loopIn0, keepL, emp, A.dang, A.dangC, g0, g1, g2, g3, g4, slI, slT, St.c]; rfl), by simp [put_at, g0, g1]⟩
  · rintro i e hi ⟨g0, g1, g2, g3, g4⟩
    rw [go21_0]
    have hi' : (i : Int) < (l.length : Nat) := by omega
    have hw : IntKind.wrap .i64 ((i : Int) + 1) = (i : Int) + 1 := wrap_in _ (by omega) (by omega)
    rw [sumL_take _ _ _ hi]
    have h1 := w_take h hl i
    have h2 := h _ (List.getElem_mem hi)
    have hw2 : IntKind.wrap .i64 (sumL id (l.take i) + l[i]) = sumL id (l.take i) + l[i] := wrap_in _ (by omega) (by omega)
    simp +contextual (maxSteps := 400000) [B21_0, push_cast, -Int.not_lt, -Int.not_le, ↓evI_call, ↓evI_calli, ↓evI_callv, ↓evI_mxn, loopIn, loopIn0, keepL, emp, A.dang, A.dangC, g0, g1, g2, g3, g4, hi, hi', slI, slT, St.c, drop_int _ i hi, hw, hw2]
    (repeat' refine Step.split (fun cc => ?_) (fun cc => ?_)) <;> first | (refine Step.ret0 ?_ ?_ <;> first | (simp_all [put_at, eqz]; done) | (simp [put_at, *]; done) | ((try simp [eqz] at *); omega)) | (refine Step.go ?_ ?_ <;> first | (simp_all [put_at, eqz]; done) | (simp [put_at, *]; done) | ((try simp [eqz] at *); omega)) | (refine Step.ret _ ?_ ?_ <;> first | (simp_all [put_at, eqz]; done) | (simp [put_at, *]; done) | ((try simp [eqz] at *); omega)) | (refine Step.goJ _ (by simp) ?_ ?_ <;> first | (simp_all [put_at, eqz]; done) | (simp [put_at, *]; done) | ((try simp [eqz] at *); omega))
theorem wsum_is (s : St) (hs : Sm s) (bs : List Int) (hb : ∀ b ∈ bs, I64' b) (n : Int) : Ans (.tup [vi (wsumS s bs n), vb (waitsS s bs n).isSome]) [] (callL tab0 ext0 21 [.agg (St.c s), slI bs, vi n] []) := by
  rw [callL_tab _ _ rfl tab21 rfl]
  have h1 := waits_is s hs bs hb n
  unfold wsumS
  have hlp := ws_loop s ((waitsS s bs n).getD []) waits_b.2 (waits_few hs bs n) (waitsS s bs n).isSome ((waitsS s bs n).getD []).length 0
  generalize (waitsS s bs n).getD [] = l at *
  generalize (waitsS s bs n).isSome = b at *
  simp only [St.c, slI, slT] at h1 hlp
  simp [C21, push_cast, -Int.not_lt, -Int.not_le, ↓evI_call, ↓evI_calli, ↓evI_callv, ↓evI_mxn, St.c, slI, slT, h1]
  refine behindP (P := fun r => Ans _ [] r) (hlp _ (by omega) (by simp [put_at, sumL])) ?_
  intro a h
  obtain ⟨e', rfl, hx⟩ := h.never; clear h; have h := hx
  simp [push_cast, -Int.not_lt, -Int.not_le, ↓evI_call, ↓evI_calli, ↓evI_callv, ↓evI_mxn, h]
  exact Ans.nil rfl
theorem wsR_loop (s : St) (l : List Int) (h : ∀ x ∈ l, 0 ≤ x ∧ x ≤ 10000) (hl : l.length ≤ 10) (b : Bool) :
    ∀ d i (e : Env), i + d = l.length → (e 8 = slI l ∧ e 9 = vb b ∧ e 10 = vi (sumL id (l.take i)) ∧ e 11 = vi i) → ∃ zz, evL tab0 ext0 0 L24_0 (e, [St.c s]) = some zz ∧ FQ (fun _ => false) ([St.c s]) 0 (fun _ _ => True) (fun e => e 9 = vb b ∧ e 10 = vi (sumL id l)) i d zz := by
  refine fq_loop (St := fun i e => e 8 = slI l ∧ e 9 = vb b ∧ e 10 = vi (sumL id (l.take i)) ∧ e 11 = vi i) _ _ _ _ _ ?_ ?_
  · rintro e ⟨g0, g1, g2, g3⟩
    exact ⟨_, (go24_0 _ _).trans (by simp [B24_0, push_cast, -Int.not_lt, -Int.not_le, ↓evI_call, ↓evI_calli, ↓evI_callv, ↓evI_mxn, loopIn, loopIn0, keepL, emp, A.dang, A.dangC, g0, g1, g2, g3, slI, slT, St.c]; rfl), by simp [put_at, g1, g2]⟩
  · rintro i e hi ⟨g0, g1, g2, g3⟩
    rw [go24_0]
    have hi' : (i : Int) < (l.length : Nat) := by omega
    have hw : IntKind.wrap .i64 ((i : Int) + 1) = (i : Int) + 1 := wrap_in _ (by omega) (by omega)
    rw [sumL_take _ _ _ hi]
    have h1 := w_take h hl i
    have h2 := h _ (List.getElem_mem hi)
    have hw2 : IntKind.wrap .i64 (sumL id (l.take i) + l[i]) = sumL id (l.take i) + l[i] := wrap_in _ (by omega) (by omega)
    simp +contextual (maxSteps := 400000) [B24_0, push_cast, -Int.not_lt, -Int.not_le, ↓evI_call, ↓evI_calli, ↓evI_callv, ↓evI_mxn, loopIn, loopIn0, keepL, emp, A.dang, A.dangC, g0, g1, g2, g3, hi, hi', slI, slT, St.c, drop_int _ i hi, hw, hw2]
    (repeat' refine Step.split (fun cc => ?_) (fun cc => ?_)) <;> first | (refine Step.ret0 ?_ ?_ <;> first | (simp_all [put_at, eqz]; done) | (simp [put_at, *]; done) | ((try simp [eqz] at *); omega)) | (refine Step.go ?_ ?_ <;> first | (simp_all [put_at, eqz]; done) | (simp [put_at, *]; done) | ((try simp [eqz] at *); omega)) | (refine Step.ret _ ?_ ?_ <;> first | (simp_all [put_at, eqz]; done) | (simp [put_at, *]; done) | ((try simp [eqz] at *); omega)) | (refine Step.goJ _ (by simp) ?_ ?_ <;> first | (simp_all [put_at, eqz]; done) | (simp [put_at, *]; done) | ((try simp [eqz] at *); omega))
theorem wsumR_is (s : St) (hs : Sm s) (bs : List Int) (hb : ∀ b ∈ bs, I64' b) (n : Int) : Ans (.tup [vi (wsumS s bs n), vb (waitsS s bs n).isSome]) [] (callL tab0 ext0 24 [.agg (St.c s), slI bs, vi n] []) := by
  rw [callL_tab _ _ rfl tab24 rfl]
  have h1 := waitsR_is s hs bs hb n
  unfold wsumS
  have hlp := wsR_loop s ((waitsS s bs n).getD []) waits_b.2 (waits_few hs bs n) (waitsS s bs n).isSome ((waitsS s bs n).getD []).length 0
  generalize (waitsS s bs n).getD [] = l at *
  generalize (waitsS s bs n).isSome = b at *
  simp only [St.c, slI, slT] at h1 hlp
  simp [C24, push_cast, -Int.not_lt, -Int.not_le, ↓evI_call, ↓evI_calli, ↓evI_callv, ↓evI_mxn, St.c, slI, slT, h1]
  refine behindP (P := fun r => Ans _ [] r) (hlp _ (by omega) (by simp [put_at, sumL])) ?_
  intro a h
  obtain ⟨e', rfl, hx⟩ := h.never; clear h; have h := hx
  simp [push_cast, -Int.not_lt, -Int.not_le, ↓evI_call, ↓evI_calli, ↓evI_callv, ↓evI_mxn, h]
  exact Ans.nil rfl
end Go.Proofs.YtclebnamhpgdmaaGreatEv
