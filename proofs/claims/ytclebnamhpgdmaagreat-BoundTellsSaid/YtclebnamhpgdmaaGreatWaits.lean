/- The waits of a task's parts. -/
import Derived.Test.YtclebnamhpgdmaaGreatWait
set_option linter.unusedSimpArgs false
set_option linter.unusedVariables false
namespace Go.Proofs.YtclebnamhpgdmaaGreatEv
open Go
set_option maxHeartbeats 4000000
def kindAt (s : St) (m i : Nat) : Int := ((s.tasks[m]?.bind fun t => t.parts[i]?).map Pt.kind).getD 0
theorem kindAt_is (s : St) (m i : Nat) (hm : m < s.tasks.length) (hi : i < s.tasks[m].parts.length) : kindAt s m i = s.tasks[m].parts[i].kind := by unfold kindAt; simp [hm, hi]
def waitF (s : St) (bs : List Int) (m i : Nat) : Option Int := if eqz (kindAt s m i) 3 = true then partS s bs m i else some 0
def waitBad (s : St) (bs : List Int) (m i : Nat) : Bool := !(waitF s bs m i).isSome
def waitV (s : St) (bs : List Int) (m i : Nat) : Int := (waitF s bs m i).getD 0
def waitL (s : St) (bs : List Int) (m i : Nat) : List Int := (List.range i).map (waitV s bs m)
theorem waitL_len (s bs m i) : (waitL s bs m i).length = i := by simp [waitL]
theorem waitL_step (s bs m i) : waitL s bs m (i + 1) = waitL s bs m i ++ [waitV s bs m i] := by unfold waitL; rw [List.range_succ, List.map_append]; rfl
def waitsS (s : St) (bs : List Int) (n : Int) : Option (List Int) := if thereS s n = true then (if (fstP (waitBad s bs n.toNat) 0 ((s.tasks[n.toNat]?.map fun t => t.parts.length).getD 0)).isNone = true then some (waitL s bs n.toNat ((s.tasks[n.toNat]?.map fun t => t.parts.length).getD 0)) else none) else none
theorem waitsR_loop (s : St) (hs : Sm s) (bs : List Int) (hb : ∀ b ∈ bs, I64' b) (m : Nat) (hm : m < s.tasks.length) :
    ∀ d i (e : Env), i + d = s.tasks[m].parts.length → (e 1 = slI bs ∧ e 2 = vi m ∧ e 3 = .ptr 0 0 ∧ e 8 = .sl ((waitL s bs m i).map vi) (waitL s bs m i).length 2 ∧ e 9 = .ptr 1 0 ∧ e 10 = vi i) → ∃ zz, evL tab0 ext0 0 L40_0 (e, [St.c s, Tk.c s.tasks[m]]) = some zz ∧ FQ (waitBad s bs m) ([St.c s, Tk.c s.tasks[m]]) 0 (fun _ e => e 6 = .sl [] 0 2 ∧ e 7 = vb false) (fun e => e 8 = .sl ((waitL s bs m s.tasks[m].parts.length).map vi) (waitL s bs m s.tasks[m].parts.length).length 2) i d zz := by
  have hp := hs.parts _ (List.getElem_mem hm)
  refine fq_loop (St := fun i e => e 1 = slI bs ∧ e 2 = vi m ∧ e 3 = .ptr 0 0 ∧ e 8 = .sl ((waitL s bs m i).map vi) (waitL s bs m i).length 2 ∧ e 9 = .ptr 1 0 ∧ e 10 = vi i) _ _ _ _ _ ?_ ?_
  · rintro e ⟨g0, g1, g2, g3, g4, g5⟩
    exact ⟨_, (go40_0 _ _).trans (by simp [B40_0, push_cast, -Int.not_lt, -Int.not_le, ↓evI_call, ↓evI_calli, ↓evI_callv, ↓evI_mxn, loopIn, loopIn0, keepL, emp, A.dang, A.dangC, g0, g1, g2, g3, g4, g5, slI, slT, slP, St.c, Tk.c]; rfl), by simp [put_at, g3]⟩
  · rintro i e hi ⟨g0, g1, g2, g3, g4, g5⟩
    rw [go40_0]
    have hi' : (i : Int) < (s.tasks[m].parts.length : Nat) := by omega
    have hw : IntKind.wrap .i64 ((i : Int) + 1) = (i : Int) + 1 := wrap_in _ (by omega) (by omega)
    have h1 := pure_ansO (k := false) (partR' s hs bs hb m i)
    have hq := drop_pt s.tasks[m].parts i hi
    have hlen := waitL_len s bs m i
    have hsz : (i + 1) * 8 ≤ 70368744177664 := by omega
    have e1 : waitBad s bs m i = (eqz s.tasks[m].parts[i].kind 3 && !(partS s bs m i).isSome) := by
      unfold waitBad waitF; rw [kindAt_is s m i hm hi]; cases eqz s.tasks[m].parts[i].kind 3 <;> simp
    have e2 : waitV s bs m i = if eqz s.tasks[m].parts[i].kind 3 = true then (partS s bs m i).getD 0 else 0 := by
      unfold waitV waitF; rw [kindAt_is s m i hm hi]; split <;> rfl
    rw [waitL_step, e1, e2]
    generalize partS s bs m i = r at *
    generalize s.tasks[m].parts[i] = p at *
    generalize waitL s bs m i = q at *
    simp only [St.c, slI, slT] at h1
    simp +contextual (maxSteps := 400000) [B40_0, push_cast, -Int.not_lt, -Int.not_le, ↓evI_call, ↓evI_calli, ↓evI_callv, ↓evI_mxn, loopIn, loopIn0, keepL, emp, A.dang, A.dangC, g0, g1, g2, g3, g4, g5, hi, hi', slI, slT, slP, St.c, Tk.c, hq, hw, h1, hlen, hsz, asList, Pt.c]
    cases r with
    | none =>
      refine Step.split (fun cc => ?_) (fun cc => ?_)
      · rw [if_pos rfl]; exact Step.ret0 (by simp [cc]) (by simp [put_at])
      · exact Step.go (by simp [cc]) (by simp [put_at, cc])
    | some v =>
      refine Step.split (fun cc => ?_) (fun cc => ?_)
      · rw [if_neg (show ¬ (some v = none) by simp)]; exact Step.go (by simp) (by simp [put_at, cc])
      · exact Step.go (by simp) (by simp [put_at, cc])
theorem no_lock (s : St) (bs : List Int) (m : Nat) (hm : m < s.tasks.length) (g : Good s) (hl : ¬ bs.length = s.tasks.length) (h : fstP (waitBad s bs m) 0 s.tasks[m].parts.length = none) : longest s.tasks[m].parts ≤ 0 := by
  refine maxL_le _ 0 (Int.le_refl _) _ fun p hp => ?_
  obtain ⟨i, hi, rfl⟩ := List.getElem_of_mem hp
  have hb := fstP_none _ _ |>.1 h i (by omega) (by omega)
  unfold waitBad waitF partS at hb
  rw [kindAt_is s m i hm hi, if_neg hl] at hb
  unfold kLen
  split
  · next hk => rw [if_pos (by simp [eqz, hk])] at hb; simp at hb
  · exact Int.le_refl _
theorem waitsR_is (s : St) (hs : Sm s) (bs : List Int) (hb : ∀ b ∈ bs, I64' b) (n : Int) : pureOf (callL tab0 ext0) false 40 [.agg (St.c s), slI bs, vi n] = some (.tup [slI ((waitsS s bs n).getD []), vb (waitsS s bs n).isSome]) := by
  rw [pureOf_b, callL_tab _ _ rfl tab40 rfl]
  have h1 := pure_vb (k := false) (thereR_is s n hs.fits)
  rcases (Bool.eq_false_or_eq_true (thereS s n)).symm with ht | ht
  · have e : waitsS s bs n = none := by unfold waitsS; rw [if_neg (by simp [ht])]
    rw [e]
    rw [ht] at h1
    simp only [St.c, slI, slT] at h1
    simp [C40, push_cast, -Int.not_lt, -Int.not_le, ↓evI_call, ↓evI_calli, ↓evI_callv, ↓evI_mxn, St.c, slI, slT, h1, frzK]
  rw [ht] at h1
  obtain ⟨g, h0, hn⟩ := (thereS_iff s n).1 ht
  obtain ⟨m, rfl⟩ := nat_of n h0
  have hm : m < s.tasks.length := by omega
  have hm' : (m : Int) < s.tasks.length := by omega
  have e : waitsS s bs m = if (fstP (waitBad s bs m) 0 s.tasks[m].parts.length).isNone = true then some (waitL s bs m s.tasks[m].parts.length) else none := by
    unfold waitsS; rw [if_pos ht]; simp [hm]
  rw [e]
  have h2 := pure_vi (k := false) (longestR_is s.tasks[m] (by have := hs.parts _ (List.getElem_mem hm); omega))
  have hlp := waitsR_loop s hs bs hb m hm s.tasks[m].parts.length 0
  have hd := drop_tk s.tasks m hm
  have hno := no_lock s bs m hm g
  unfold FQ at hlp
  generalize waitL s bs m s.tasks[m].parts.length = w at hlp ⊢
  generalize fstP (waitBad s bs m) 0 s.tasks[m].parts.length = f at hlp hno ⊢
  simp only [St.c, slI, slT, slP, Tk.c] at h1 h2 hlp hd
  rcases (Bool.eq_false_or_eq_true (eqz (bs.length : Int) s.tasks.length)).symm with hl | hl
  · by_cases hg : 0 < longest s.tasks[m].parts
    · have hf : f.isNone = false := by
        cases f with
        | some _ => rfl
        | none => have := hno (by simp [eqz] at hl; omega) rfl; omega
      rw [if_neg (by simp [hf])]
      simp [C40, push_cast, -Int.not_lt, -Int.not_le, ↓evI_call, ↓evI_calli, ↓evI_callv, ↓evI_mxn, St.c, slI, slT, slP, Tk.c, h1, h2, hm, hm', hd, hl, hg, frzK]
    · simp [C40, push_cast, -Int.not_lt, -Int.not_le, ↓evI_call, ↓evI_calli, ↓evI_callv, ↓evI_mxn, St.c, slI, slT, slP, Tk.c, h1, h2, hm, hm', hd, hl, hg]
      refine behind (hlp _ (by omega) (by simp [put_at, waitL])) ?_
      intro a h
      cases f with
      | some v =>
        obtain ⟨e', junk, rfl, k8, k9⟩ := h
        simp [push_cast, -Int.not_lt, -Int.not_le, ↓evI_call, ↓evI_calli, ↓evI_callv, ↓evI_mxn, k8, k9, frzK]
      | none =>
        obtain ⟨e', rfl, k8⟩ := h
        simp [push_cast, -Int.not_lt, -Int.not_le, ↓evI_call, ↓evI_calli, ↓evI_callv, ↓evI_mxn, k8, frzK, plain_mapM (plain_vi _)]
  · simp [C40, push_cast, -Int.not_lt, -Int.not_le, ↓evI_call, ↓evI_calli, ↓evI_callv, ↓evI_mxn, St.c, slI, slT, slP, Tk.c, h1, h2, hm, hm', hd, hl]
    refine behind (hlp _ (by omega) (by simp [put_at, waitL])) ?_
    intro a h
    cases f with
    | some v =>
      obtain ⟨e', junk, rfl, k8, k9⟩ := h
      simp [push_cast, -Int.not_lt, -Int.not_le, ↓evI_call, ↓evI_calli, ↓evI_callv, ↓evI_mxn, k8, k9, frzK]
    | none =>
      obtain ⟨e', rfl, k8⟩ := h
      simp [push_cast, -Int.not_lt, -Int.not_le, ↓evI_call, ↓evI_calli, ↓evI_callv, ↓evI_mxn, k8, frzK, plain_mapM (plain_vi _)]
end Go.Proofs.YtclebnamhpgdmaaGreatEv
