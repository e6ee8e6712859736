/- package admit. -/
import Derived.Test.YtclebnamhpgdmaaBound
import Derived.Test.YtclebnamhpgdmaaLib
set_option linter.unusedSimpArgs false
set_option linter.unusedVariables false
namespace Go.Proofs.YtclebnamhpgdmaaEv
open Go
set_option maxHeartbeats 4000000
def dlAt (s : St) (i : Nat) : Int := (s.tasks[i]?.map Tk.deadline).getD 0
theorem dlAt_is (s : St) (i : Nat) (h : i < s.tasks.length) : dlAt s i = s.tasks[i].deadline := by unfold dlAt; simp [h]
/-! ### one round -/
def rBad (s : St) (bs : List Int) (i : Nat) : Bool := match nextS s bs i with
  | none => true
  | some x => decide (dlAt s i < x)
def rNext (s : St) (bs : List Int) (i : Nat) : Int := (nextS s bs i).getD 0
def rL (s : St) (bs : List Int) (i : Nat) : List Int := (List.range i).map (rNext s bs)
theorem rL_len (s bs i) : (rL s bs i).length = i := by simp [rL]
theorem rL_step (s bs i) : rL s bs (i + 1) = rL s bs i ++ [rNext s bs i] := by unfold rL; rw [List.range_succ, List.map_append]; rfl
def roundS (s : St) (bs : List Int) : Option (List Int) := if (fstP (rBad s bs) 0 s.tasks.length).isNone = true then some (rL s bs s.tasks.length) else none
theorem round_loop (s : St) (hs : Sm s) (bs : List Int) (hb : ∀ b ∈ bs, I64' b) :
    ∀ d i (e : Env), i + d = s.tasks.length → (e 1 = slI bs ∧ e 2 = .ptr 0 0 ∧ e 6 = .sl ((rL s bs i).map vi) (rL s bs i).length 2 ∧ e 12 = slT s.tasks ∧ e 13 = vi s.tasks.length ∧ e 14 = vi i) → ∃ zz, evL tab0 ext1 0 L52_0 (e, [St.c s]) = some zz ∧ FQ (rBad s bs) ([St.c s]) 0 (fun _ e => e 4 = .sl [] 0 2 ∧ e 5 = vb false) (fun e => e 6 = .sl ((rL s bs s.tasks.length).map vi) (rL s bs s.tasks.length).length 2) i d zz := by
  have hc := hs.tasks
  refine fq_loop (St := fun i e => e 1 = slI bs ∧ e 2 = .ptr 0 0 ∧ e 6 = .sl ((rL s bs i).map vi) (rL s bs i).length 2 ∧ e 12 = slT s.tasks ∧ e 13 = vi s.tasks.length ∧ e 14 = vi i) _ _ _ _ _ ?_ ?_
  · rintro e ⟨g0, g1, g2, g3, g4, g5⟩
    exact ⟨_, (go52_0 _ _).trans (by simp [B52_0, push_cast, -Int.not_lt, -Int.not_le, ↓evI_call, ↓evI_calli, ↓evI_calln, ↓evI_callz, ↓evI_callv, ↓evI_mxn, loopIn, loopIn0, keepL, emp, A.dang, A.dangC, g0, g1, g2, g3, g4, g5, slI, slT, slP, St.c, Tk.c]; rfl), by simp [put_at, g2]⟩
  · rintro i e hi ⟨g0, g1, g2, g3, g4, g5⟩
    rw [go52_0]
    have hi' : (i : Int) < (s.tasks.length : Nat) := by omega
    have hw : IntKind.wrap .i64 ((i : Int) + 1) = (i : Int) + 1 := wrap_in _ (by omega) (by omega)
    have h1 := pure_ansO (k := false) (next_is s hs bs hb i)
    have hlen := rL_len s bs i
    have e1 : rBad s bs i = match nextS s bs i with | none => true | some x => decide (s.tasks[i].deadline < x) := by unfold rBad; rw [dlAt_is s i hi]
    have e2 : rNext s bs i = (nextS s bs i).getD 0 := rfl
    rw [rL_step, e1, e2]
    have hd := drop_tk s.tasks i hi
    generalize nextS s bs i = r at *
    generalize rL s bs i = q at *
    have hsz : (q.length + 1) * 8 ≤ 70368744177664 := by omega
    simp only [St.c, slI, slT, slP, Tk.c] at h1 hd
    cases r with
    | none =>
      simp +contextual (maxSteps := 400000) [B52_0, push_cast, -Int.not_lt, -Int.not_le, ↓evI_call, ↓evI_calli, ↓evI_calln, ↓evI_callz, ↓evI_callv, ↓evI_mxn, loopIn, loopIn0, keepL, emp, A.dang, A.dangC, g0, g1, g2, g3, g4, g5, hi, hi', slI, slT, slP, St.c, Tk.c, hd, hw, h1, hsz, asList]
      exact Step.ret [_] rfl (by simp [put_at])
    | some x =>
    simp +contextual (maxSteps := 400000) [B52_0, push_cast, -Int.not_lt, -Int.not_le, ↓evI_call, ↓evI_calli, ↓evI_calln, ↓evI_callz, ↓evI_callv, ↓evI_mxn, loopIn, loopIn0, keepL, emp, A.dang, A.dangC, g0, g1, g2, g3, g4, g5, hi, hi', slI, slT, slP, St.c, Tk.c, hd, hw, h1, hsz, asList]
    refine Step.split (fun cc => ?_) (fun cc => ?_)
    · exact Step.ret [_] (by simpa using cc) (by simp [put_at])
    · exact Step.goJ [_] (by simp) (by simpa using cc) (by simp [put_at])
theorem round_is (s : St) (hs : Sm s) (bs : List Int) (hb : ∀ b ∈ bs, I64' b) : pureOf (callL tab0 ext1) false 52 [.agg (St.c s), slI bs] = some (.tup [slI ((roundS s bs).getD []), vb (roundS s bs).isSome]) := by
  rw [pureOf_b, callL_tab _ _ rfl tab52 rfl]
  have hlp := round_loop s hs bs hb s.tasks.length 0
  unfold FQ at hlp
  unfold roundS
  generalize rL s bs s.tasks.length = w at hlp ⊢
  generalize fstP (rBad s bs) 0 s.tasks.length = f at hlp ⊢
  simp only [St.c, slI, slT] at hlp
  simp [C52, push_cast, -Int.not_lt, -Int.not_le, ↓evI_call, ↓evI_calli, ↓evI_calln, ↓evI_callz, ↓evI_callv, ↓evI_mxn, St.c, slI, slT]
  refine behind (hlp _ (by omega) (by simp [put_at, rL])) ?_
  intro a h
  cases f with
  | some v =>
    obtain ⟨e', junk, rfl, k8, k9⟩ := h
    simp [push_cast, -Int.not_lt, -Int.not_le, ↓evI_call, ↓evI_calli, ↓evI_calln, ↓evI_callz, ↓evI_callv, ↓evI_mxn, k8, k9, frzK]
  | none =>
    obtain ⟨e', rfl, k8⟩ := h
    simp [push_cast, -Int.not_lt, -Int.not_le, ↓evI_call, ↓evI_calli, ↓evI_calln, ↓evI_callz, ↓evI_callv, ↓evI_mxn, k8, frzK, plain_mapM (plain_vi _)]
/-! ### do bounds hold? -/
def dlBad (s : St) (bs : List Int) (i : Nat) : Bool := decide (bAt bs i < 1) || decide (dlAt s i < bAt bs i)
def nxBad (s : St) (bs : List Int) (i : Nat) : Bool := match nextS s bs i with
  | none => true
  | some x => decide (bAt bs i < x)
def holdsS (s : St) (bs : List Int) : Bool := okS s && decide (bs.length = s.tasks.length) && (fstP (dlBad s bs) 0 s.tasks.length).isNone && (fstP (nxBad s bs) 0 s.tasks.length).isNone
theorem holds_loop0 (s : St) (hs : Sm s) (bs : List Int) (hl : bs.length = s.tasks.length) :
    ∀ d i (e : Env), i + d = s.tasks.length → (e 1 = slI bs ∧ e 2 = .ptr 0 0 ∧ e 29 = slT s.tasks ∧ e 30 = vi s.tasks.length ∧ e 31 = vi i) → ∃ zz, evL tab0 ext1 0 L25_0 (e, [St.c s]) = some zz ∧ FQ (dlBad s bs) ([St.c s]) 0 (fun _ e => e 4 = vb false) (fun e => e 1 = slI bs ∧ e 2 = .ptr 0 0) i d zz := by
  have hc := hs.tasks
  refine fq_loop (St := fun i e => e 1 = slI bs ∧ e 2 = .ptr 0 0 ∧ e 29 = slT s.tasks ∧ e 30 = vi s.tasks.length ∧ e 31 = vi i) _ _ _ _ _ ?_ ?_
  · rintro e ⟨g0, g1, g2, g3, g4⟩
    exact ⟨_, (go25_0 _ _).trans (by simp [B25_0, push_cast, -Int.not_lt, -Int.not_le, ↓evI_call, ↓evI_calli, ↓evI_calln, ↓evI_callz, ↓evI_callv, ↓evI_mxn, loopIn, loopIn0, keepL, emp, A.dang, A.dangC, g0, g1, g2, g3, g4, slI, slT, slP, St.c, Tk.c]; rfl), by simp [put_at, g0, g1, slI]⟩
  · rintro i e hi ⟨g0, g1, g2, g3, g4⟩
    rw [go25_0]
    have hi' : (i : Int) < (s.tasks.length : Nat) := by omega
    have hw : IntKind.wrap .i64 ((i : Int) + 1) = (i : Int) + 1 := wrap_in _ (by omega) (by omega)
    have hi3 : i < bs.length := by omega
    have hi4 : (i : Int) < bs.length := by omega
    have e1 : dlBad s bs i = (decide (bs[i] < 1) || decide (s.tasks[i].deadline < bs[i])) := by unfold dlBad; rw [dlAt_is s i hi, bAt_is bs i hi3]
    rw [e1]
    simp +contextual (maxSteps := 400000) [B25_0, push_cast, -Int.not_lt, -Int.not_le, ↓evI_call, ↓evI_calli, ↓evI_calln, ↓evI_callz, ↓evI_callv, ↓evI_mxn, loopIn, loopIn0, keepL, emp, A.dang, A.dangC, g0, g1, g2, g3, g4, hi, hi', slI, slT, slP, St.c, Tk.c, drop_tk _ i hi, drop_int _ i hi3, hi4, hw]
    (repeat' refine Step.split (fun cc => ?_) (fun cc => ?_)) <;> first | (refine Step.ret0 ?_ ?_ <;> first | (simp_all [put_at, eqz]; done) | (simp [put_at, *]; done) | ((try simp [eqz] at *); omega)) | (refine Step.go ?_ ?_ <;> first | (simp_all [put_at, eqz]; done) | (simp [put_at, *]; done) | ((try simp [eqz] at *); omega)) | (refine Step.ret _ ?_ ?_ <;> first | (simp_all [put_at, eqz]; done) | (simp [put_at, *]; done) | ((try simp [eqz] at *); omega)) | (refine Step.goJ _ (by simp) ?_ ?_ <;> first | (simp_all [put_at, eqz]; done) | (simp [put_at, *]; done) | ((try simp [eqz] at *); omega))
theorem holds_loop2 (s : St) (hs : Sm s) (bs : List Int) (hb : ∀ b ∈ bs, I64' b) (hl : bs.length = s.tasks.length) :
    ∀ d i (e : Env), i + d = s.tasks.length → (e 1 = slI bs ∧ e 2 = .ptr 0 0 ∧ e 51 = slI bs ∧ e 52 = vi s.tasks.length ∧ e 53 = vi i) → ∃ zz, evL tab0 ext1 0 L25_2 (e, [St.c s]) = some zz ∧ FQ (nxBad s bs) ([St.c s]) 2 (fun _ e => e 4 = vb false) (fun _ => True) i d zz := by
  have hc := hs.tasks
  refine fq_loop (St := fun i e => e 1 = slI bs ∧ e 2 = .ptr 0 0 ∧ e 51 = slI bs ∧ e 52 = vi s.tasks.length ∧ e 53 = vi i) _ _ _ _ _ ?_ ?_
  · rintro e ⟨g0, g1, g2, g3, g4⟩
    exact ⟨_, (go25_2 _ _).trans (by simp [B25_2, push_cast, -Int.not_lt, -Int.not_le, ↓evI_call, ↓evI_calli, ↓evI_calln, ↓evI_callz, ↓evI_callv, ↓evI_mxn, loopIn, loopIn0, keepL, emp, A.dang, A.dangC, g0, g1, g2, g3, g4, slI, slT, slP, St.c]; rfl), by trivial⟩
  · rintro i e hi ⟨g0, g1, g2, g3, g4⟩
    rw [go25_2]
    have hi' : (i : Int) < (s.tasks.length : Nat) := by omega
    have hw : IntKind.wrap .i64 ((i : Int) + 1) = (i : Int) + 1 := wrap_in _ (by omega) (by omega)
    have hi3 : i < bs.length := by omega
    have hi4 : (i : Int) < bs.length := by omega
    have h1 := pure_ansO (k := false) (next_is s hs bs hb i)
    have e1 : nxBad s bs i = match nextS s bs i with | none => true | some x => decide (bs[i] < x) := by unfold nxBad; rw [bAt_is bs i hi3]
    rw [e1]
    have hd := drop_int bs i hi3
    generalize nextS s bs i = r at *
    simp only [St.c, slI, slT] at h1
    cases r with
    | none =>
      simp +contextual (maxSteps := 400000) [B25_2, push_cast, -Int.not_lt, -Int.not_le, ↓evI_call, ↓evI_calli, ↓evI_calln, ↓evI_callz, ↓evI_callv, ↓evI_mxn, loopIn, loopIn0, keepL, emp, A.dang, A.dangC, g0, g1, g2, g3, g4, hi, hi', slI, slT, slP, St.c, hd, hi4, hw, h1]
      exact Step.ret0 rfl (by simp [put_at])
    | some x =>
    simp +contextual (maxSteps := 400000) [B25_2, push_cast, -Int.not_lt, -Int.not_le, ↓evI_call, ↓evI_calli, ↓evI_calln, ↓evI_callz, ↓evI_callv, ↓evI_mxn, loopIn, loopIn0, keepL, emp, A.dang, A.dangC, g0, g1, g2, g3, g4, hi, hi', slI, slT, slP, St.c, hd, hi4, hw, h1]
    (repeat' refine Step.split (fun cc => ?_) (fun cc => ?_)) <;> first | (refine Step.ret0 ?_ ?_ <;> first | (simp_all [put_at, eqz]; done) | (simp [put_at, *]; done) | ((try simp [eqz] at *); omega)) | (refine Step.go ?_ ?_ <;> first | (simp_all [put_at, eqz]; done) | (simp [put_at, *]; done) | ((try simp [eqz] at *); omega)) | (refine Step.ret _ ?_ ?_ <;> first | (simp_all [put_at, eqz]; done) | (simp [put_at, *]; done) | ((try simp [eqz] at *); omega)) | (refine Step.goJ _ (by simp) ?_ ?_ <;> first | (simp_all [put_at, eqz]; done) | (simp [put_at, *]; done) | ((try simp [eqz] at *); omega))
theorem holds_is (s : St) (hs : Sm s) (bs : List Int) (hb : ∀ b ∈ bs, I64' b) : Ans (vb (holdsS s bs)) [] (callL tab0 ext1 25 [.agg (St.c s), slI bs] []) := by
  rw [callL_tab _ _ rfl tab25 rfl]
  have h1 := pure1 (okS_pure s hs.fits)
  unfold holdsS
  rcases (Bool.eq_false_or_eq_true (okS s)).symm with ho | ho
  · rw [ho]
    have c1' : eqz (chk s).2 0 = false := ho
    generalize (chk s).2 = z at h1 c1'
    simp only [St.c, slI, slT] at h1
    simp [C25, push_cast, -Int.not_lt, -Int.not_le, ↓evI_call, ↓evI_calli, ↓evI_calln, ↓evI_callz, ↓evI_callv, ↓evI_mxn, St.c, slI, slT, h1, c1']
    exact Ans.nil rfl
  · rw [ho]
    have c1' : eqz (chk s).2 0 = true := ho
    have c2 : (chk s).2 = 0 := by simpa [eqz] using c1'
    rw [c2] at h1
    by_cases hl : bs.length = s.tasks.length
    · have hl' : eqz (bs.length : Int) s.tasks.length = true := by simp [eqz, hl]
      have hl2 : (bs.length : Int) = s.tasks.length := by omega
      have hp0 := holds_loop0 s hs bs hl s.tasks.length 0
      have hp2 := holds_loop2 s hs bs hb hl s.tasks.length 0
      rw [decide_eq_true hl]
      unfold FQ at hp0 hp2
      generalize fstP (dlBad s bs) 0 s.tasks.length = f at hp0 ⊢
      generalize fstP (nxBad s bs) 0 s.tasks.length = f2 at hp2 ⊢
      simp only [St.c, slI, slT] at h1 hp0 hp2
      simp [C25, push_cast, -Int.not_lt, -Int.not_le, ↓evI_call, ↓evI_calli, ↓evI_calln, ↓evI_callz, ↓evI_callv, ↓evI_mxn, St.c, slI, slT, h1, eqz_self, hl']
      refine behindP (P := fun r => Ans _ [] r) (hp0 _ (by omega) (by simp [put_at])) ?_
      intro a h
      cases f with
      | some v =>
        obtain ⟨e', junk, rfl, k4⟩ := h
        simp [push_cast, -Int.not_lt, -Int.not_le, ↓evI_call, ↓evI_calli, ↓evI_calln, ↓evI_callz, ↓evI_callv, ↓evI_mxn, k4]
        exact Ans.nil rfl
      | none =>
        obtain ⟨e', rfl, k1, k2⟩ := h
        simp [push_cast, -Int.not_lt, -Int.not_le, ↓evI_call, ↓evI_calli, ↓evI_calln, ↓evI_callz, ↓evI_callv, ↓evI_mxn, k1, k2, hl2]
        refine behindP (P := fun r => Ans _ [] r) (hp2 _ (by omega) (by simp [put_at, k1, k2])) ?_
        intro a h
        cases f2 with
        | some v =>
          obtain ⟨e', junk, rfl, k4⟩ := h
          simp [push_cast, -Int.not_lt, -Int.not_le, ↓evI_call, ↓evI_calli, ↓evI_calln, ↓evI_callz, ↓evI_callv, ↓evI_mxn, k4]
          exact Ans.nil rfl
        | none =>
          obtain ⟨e', rfl, -⟩ := h
          simp [push_cast, -Int.not_lt, -Int.not_le, ↓evI_call, ↓evI_calli, ↓evI_calln, ↓evI_callz, ↓evI_callv, ↓evI_mxn]
          exact Ans.nil rfl
    · have hl' : eqz (bs.length : Int) s.tasks.length = false := by simp [eqz]; omega
      rw [decide_eq_false hl]
      simp only [St.c, slI, slT] at h1
      simp [C25, push_cast, -Int.not_lt, -Int.not_le, ↓evI_call, ↓evI_calli, ↓evI_calln, ↓evI_callz, ↓evI_callv, ↓evI_mxn, St.c, slI, slT, h1, eqz_self, hl']
      exact Ans.nil rfl
/-! ### the least bounds -/
def stF (s : St) (i : Nat) : Int := allK (ptsAt s i) 1 + allK (ptsAt s i) 2 + allK (ptsAt s i) 3
def stL (s : St) (i : Nat) : List Int := (List.range i).map (stF s)
theorem stL_len (s i) : (stL s i).length = i := by simp [stL]
theorem stL_step (s i) : stL s (i + 1) = stL s i ++ [stF s i] := by unfold stL; rw [List.range_succ, List.map_append]; rfl
def itS (s : St) : Nat → List Int → List Int × Int
  | 0, _ => ([], 20)
  | k + 1, bs => match roundS s bs with
    | none => ([], 19)
    | some nx => if nx = bs then (bs, 0) else itS s k nx
def leastB (s : St) : List Int × Int := itS s 200 (stL s s.tasks.length)
theorem round_ok {s : St} {bs nx : List Int} (h : roundS s bs = some nx) : nx.length = s.tasks.length ∧ (∀ i, i < s.tasks.length → nextS s bs i = some (bAt nx i) ∧ bAt nx i ≤ dlAt s i) ∧ ∀ b ∈ nx, I64' b → I64' b := by
  unfold roundS at h
  split at h
  · rename_i hf
    cases h
    refine ⟨rL_len .., fun i hi => ?_, fun _ _ h => h⟩
    have h1 := (fstP_none _ _).1 (by simpa using hf) i (Nat.zero_le _) (by omega)
    have h2 : bAt (rL s bs s.tasks.length) i = rNext s bs i := by
      unfold bAt rL
      simp [hi]
    unfold rBad at h1
    rw [h2]
    unfold rNext
    cases hx : nextS s bs i with
    | none => rw [hx] at h1; cases h1
    | some x =>
      rw [hx] at h1
      have h1 : ¬ dlAt s i < x := by simpa using h1
      exact ⟨rfl, by simpa using h1⟩
  · cases h
theorem next_b {s : St} (hs : Sm s) {bs : List Int} {n x : Int} (h : nextS s bs n = some x) : thereS s n = true ∧ 0 ≤ x ∧ x ≤ 9200000 := by
  unfold nextS at h
  split at h
  · obtain ⟨y, hy, rfl⟩ := Option.map_eq_some_iff.1 h
    have h1 := own_b hs hy
    have h2 := others_b s hs bs n (bAt bs n.toNat)
    exact ⟨h1.1, by show 0 ≤ y + _; omega, by show y + _ ≤ _; omega⟩
  · cases h
theorem round_i64 {s : St} (hs : Sm s) {bs nx : List Int} (h : roundS s bs = some nx) : ∀ b ∈ nx, I64' b := by
  intro b hb
  obtain ⟨h1, h2, _⟩ := round_ok h
  obtain ⟨i, hi, rfl⟩ := List.getElem_of_mem hb
  have h3 := (h2 i (by omega)).1
  rw [bAt_is nx i hi] at h3
  have := next_b hs h3
  exact ⟨by omega, by omega⟩
theorem stF_b {s : St} (g : Good s) (i : Nat) : 0 ≤ stF s i ∧ stF s i ≤ 1800 := by
  have h1 := all_bounds (ptsAt_ok g i) 1
  have h2 := all_bounds (ptsAt_ok g i) 2
  have h3 := all_bounds (ptsAt_ok g i) 3
  unfold stF; omega
theorem stL_i64 {s : St} (g : Good s) (n : Nat) : ∀ b ∈ stL s n, I64' b := by
  intro b hb
  obtain ⟨i, _, rfl⟩ := List.mem_map.1 hb
  have := stF_b g i
  exact ⟨by omega, by omega⟩
theorem least_loop0 (s : St) (hs : Sm s) (g : Good s) :
    ∀ d i (e : Env), i + d = s.tasks.length → (e 1 = .ptr 0 0 ∧ e 4 = .sl ((stL s i).map vi) (stL s i).length 2 ∧ e 10 = slT s.tasks ∧ e 11 = vi s.tasks.length ∧ e 12 = vi i) → ∃ zz, evL tab0 ext1 0 L38_0 (e, [St.c s]) = some zz ∧ FQ (fun _ => false) ([St.c s]) 0 (fun _ _ => True) (fun e => e 1 = .ptr 0 0 ∧ e 4 = .sl ((stL s s.tasks.length).map vi) (stL s s.tasks.length).length 2) i d zz := by
  have hc := hs.tasks
  refine fq_loop (St := fun i e => e 1 = .ptr 0 0 ∧ e 4 = .sl ((stL s i).map vi) (stL s i).length 2 ∧ e 10 = slT s.tasks ∧ e 11 = vi s.tasks.length ∧ e 12 = vi i) _ _ _ _ _ ?_ ?_
  · rintro e ⟨g0, g1, g2, g3, g4⟩
    exact ⟨_, (go38_0 _ _).trans (by simp [B38_0, push_cast, -Int.not_lt, -Int.not_le, ↓evI_call, ↓evI_calli, ↓evI_calln, ↓evI_callz, ↓evI_callv, ↓evI_mxn, loopIn, loopIn0, keepL, emp, A.dang, A.dangC, g0, g1, g2, g3, g4, slI, slT, slP, St.c, Tk.c]; rfl), by simp [put_at, g0, g1]⟩
  · rintro i e hi ⟨g0, g1, g2, g3, g4⟩
    rw [go38_0]
    have hi' : (i : Int) < (s.tasks.length : Nat) := by omega
    have hw : IntKind.wrap .i64 ((i : Int) + 1) = (i : Int) + 1 := wrap_in _ (by omega) (by omega)
    have hp := g.pts (List.getElem_mem hi)
    have h1 := pure1 (pure_vi (k := false) (kind_30 s.tasks[i] hp))
    have h2 := pure1 (pure_vi (k := false) (kind_31 s.tasks[i] hp))
    have h3 := pure1 (pure_vi (k := false) (kind_51 s.tasks[i] hp))
    have b1 := all_bounds hp 1
    have b2 := all_bounds hp 2
    have b3 := all_bounds hp 3
    have e1 : stF s i = allK s.tasks[i].parts 1 + allK s.tasks[i].parts 2 + allK s.tasks[i].parts 3 := by unfold stF; rw [ptsAt_is s i hi]
    have hlen := stL_len s i
    rw [stL_step, e1]
    have hd := drop_tk s.tasks i hi
    generalize stL s i = q at *
    generalize allK s.tasks[i].parts 1 = x1 at *
    generalize allK s.tasks[i].parts 2 = x2 at *
    generalize allK s.tasks[i].parts 3 = x3 at *
    have hsz : (q.length + 1) * 8 ≤ 70368744177664 := by omega
    have w1 : IntKind.wrap .i64 (x1 + x2) = x1 + x2 := wrap_in _ (by omega) (by omega)
    have w2 : IntKind.wrap .i64 (x1 + x2 + x3) = x1 + x2 + x3 := wrap_in _ (by omega) (by omega)
    simp only [St.c, slI, slT, slP, Tk.c] at h1 h2 h3 hd
    simp +contextual (maxSteps := 400000) [B38_0, push_cast, -Int.not_lt, -Int.not_le, ↓evI_call, ↓evI_calli, ↓evI_calln, ↓evI_callz, ↓evI_callv, ↓evI_mxn, loopIn, loopIn0, keepL, emp, A.dang, A.dangC, g0, g1, g2, g3, g4, hi, hi', slI, slT, slP, St.c, Tk.c, hd, hw, h1, h2, h3, w1, w2, hsz, asList]
    (repeat' refine Step.split (fun cc => ?_) (fun cc => ?_)) <;> first | (refine Step.ret0 ?_ ?_ <;> first | (simp_all [put_at, eqz]; done) | (simp [put_at, *]; done) | ((try simp [eqz] at *); omega)) | (refine Step.go ?_ ?_ <;> first | (simp_all [put_at, eqz]; done) | (simp [put_at, *]; done) | ((try simp [eqz] at *); omega)) | (refine Step.ret _ ?_ ?_ <;> first | (simp_all [put_at, eqz]; done) | (simp [put_at, *]; done) | ((try simp [eqz] at *); omega)) | (refine Step.goJ _ (by simp) ?_ ?_ <;> first | (simp_all [put_at, eqz]; done) | (simp [put_at, *]; done) | ((try simp [eqz] at *); omega))
def ItQ (s : St) (d : Nat) (bs : List Int) (zz : Out × Env × Bx) : Prop :=
  (∃ e' junk f, zz = (.ret, e', [St.c s] ++ junk) ∧ e' 2 = .sl ((itS s d bs).1.map vi) (itS s d bs).1.length f ∧ e' 3 = vi (itS s d bs).2) ∨ (∃ e', zz = (.ex 2, e', [St.c s]) ∧ itS s d bs = ([], 20))
theorem least_loop2 (s : St) (hs : Sm s) : ∀ (d k : Nat) (bs : List Int) (f : Nat) (e : Env), (f = 0 ∨ f = 2) → k + d = 200 → bs.length = s.tasks.length → (∀ b ∈ bs, I64' b) → e 1 = .ptr 0 0 → e 4 = .sl (bs.map vi) bs.length f → e 28 = vi k →
    ∃ zz, evL tab0 ext1 0 L38_2 (e, [St.c s]) = some zz ∧ ItQ s d bs zz := by
  intro d
  induction d with
  | zero =>
    intro k bs f e hf hk hl hb h1 h4 h28
    obtain rfl : k = 200 := by omega
    exact ⟨_, (go38_2 _ _).trans (by simp [B38_2, push_cast, -Int.not_lt, -Int.not_le, ↓evI_call, ↓evI_calli, ↓evI_calln, ↓evI_callz, ↓evI_callv, ↓evI_mxn, loopIn, loopIn0, keepL, emp, A.dang, A.dangC, h1, h4, h28, St.c, slI, slT]; rfl), .inr ⟨_, rfl, rfl⟩⟩
  | succ d ih =>
    intro k bs f e hf hk hl hb h1 h4 h28
    have hk2 : (k : Int) < 200 := by omega
    have hw : IntKind.wrap .i64 ((k : Int) + 1) = (k : Int) + 1 := wrap_in _ (by omega) (by omega)
    have hr := round_is s hs bs hb
    have hc9 := hs.tasks
    unfold ItQ
    cases hx : roundS s bs with
    | none =>
      rw [hx] at hr
      have e1 : itS s (d + 1) bs = ([], 19) := by rw [itS, hx]
      rw [e1]
      simp only [St.c, slI, slT] at hr
      rcases hf with rfl | rfl
      · exact ⟨_, (go38_2 _ _).trans (by simp [B38_2, push_cast, -Int.not_lt, -Int.not_le, ↓evI_call, ↓evI_calli, ↓evI_calln, ↓evI_callz, ↓evI_callv, ↓evI_mxn, loopIn, loopIn0, keepL, emp, A.dang, A.dangC, h1, h4, h28, St.c, slI, slT, hk2, hr]; rfl), .inl ⟨_, [], 2, rfl, by simp [put_at], by simp [put_at]⟩⟩
      · exact ⟨_, (go38_2 _ _).trans (by simp [B38_2, push_cast, -Int.not_lt, -Int.not_le, ↓evI_call, ↓evI_calli, ↓evI_calln, ↓evI_callz, ↓evI_callv, ↓evI_mxn, loopIn, loopIn0, keepL, emp, A.dang, A.dangC, h1, h4, h28, St.c, slI, slT, hk2, hr]; rfl), .inl ⟨_, [], 2, rfl, by simp [put_at], by simp [put_at]⟩⟩
    | some nx =>
      rw [hx] at hr
      have e1 : itS s (d + 1) bs = if nx = bs then (bs, 0) else itS s d nx := by rw [itS, hx]
      obtain ⟨hn, _, _⟩ := round_ok hx
      have hq := pure1 (pure_vb (k := false) (eqI_is nx bs (by omega)))
      by_cases he : nx = bs
      · rw [e1, if_pos he]
        rw [decide_eq_true he] at hq
        simp only [St.c, slI, slT] at hr hq
        rcases hf with rfl | rfl
        · exact ⟨_, (go38_2 _ _).trans (by simp [B38_2, push_cast, -Int.not_lt, -Int.not_le, ↓evI_call, ↓evI_calli, ↓evI_calln, ↓evI_callz, ↓evI_callv, ↓evI_mxn, loopIn, loopIn0, keepL, emp, A.dang, A.dangC, h1, h4, h28, St.c, slI, slT, hk2, hr, hq]; rfl), .inl ⟨_, [], 0, rfl, by simp [put_at], by simp [put_at]⟩⟩
        · exact ⟨_, (go38_2 _ _).trans (by simp [B38_2, push_cast, -Int.not_lt, -Int.not_le, ↓evI_call, ↓evI_calli, ↓evI_calln, ↓evI_callz, ↓evI_callv, ↓evI_mxn, loopIn, loopIn0, keepL, emp, A.dang, A.dangC, h1, h4, h28, St.c, slI, slT, hk2, hr, hq]; rfl), .inl ⟨_, [], 0, rfl, by simp [put_at], by simp [put_at]⟩⟩
      · rw [e1, if_neg he]
        rw [decide_eq_false he] at hq
        simp only [St.c, slI, slT] at hr hq
        have key : ∃ e2, evL tab0 ext1 0 L38_2 (e, [St.c s]) = evL tab0 ext1 0 L38_2 (e2, [St.c s]) ∧ e2 1 = .ptr 0 0 ∧ e2 4 = .sl (nx.map vi) nx.length 0 ∧ e2 28 = vi ((k + 1 : Nat) : Int) := by
          rcases hf with rfl | rfl
          · refine ⟨_, (go38_2 _ _).trans (by simp [B38_2, push_cast, -Int.not_lt, -Int.not_le, ↓evI_call, ↓evI_calli, ↓evI_calln, ↓evI_callz, ↓evI_callv, ↓evI_mxn, loopIn, loopIn0, keepL, emp, A.dang, A.dangC, h1, h4, h28, St.c, slI, slT, hk2, hr, hq, hw]; rfl), ?_⟩
            simp [put_at]
          · refine ⟨_, (go38_2 _ _).trans (by simp [B38_2, push_cast, -Int.not_lt, -Int.not_le, ↓evI_call, ↓evI_calli, ↓evI_calln, ↓evI_callz, ↓evI_callv, ↓evI_mxn, loopIn, loopIn0, keepL, emp, A.dang, A.dangC, h1, h4, h28, St.c, slI, slT, hk2, hr, hq, hw]; rfl), ?_⟩
            simp [put_at]
        obtain ⟨e2, h, k1, k4, k28⟩ := key
        rw [h]
        exact ih (k + 1) nx 0 e2 (.inl rfl) (by omega) hn (round_i64 hs hx) k1 k4 k28
theorem least_is (s : St) (hs : Sm s) (g : Good s) : pureOf (callL tab0 ext1) false 38 [.agg (St.c s)] = some (.tup [slI (leastB s).1, vi (leastB s).2]) := by
  rw [pureOf_b, callL_tab _ _ rfl tab38 rfl]
  have hp0 := least_loop0 s hs g s.tasks.length 0
  have hp2 := least_loop2 s hs 200 0 (stL s s.tasks.length)
  have hl := stL_len s s.tasks.length
  have hi := stL_i64 g s.tasks.length
  unfold leastB
  unfold ItQ at hp2
  generalize stL s s.tasks.length = st at *
  generalize itS s 200 st = w at *
  simp only [St.c, slI, slT] at hp0 hp2
  simp [C38, push_cast, -Int.not_lt, -Int.not_le, ↓evI_call, ↓evI_calli, ↓evI_calln, ↓evI_callz, ↓evI_callv, ↓evI_mxn, St.c, slI, slT]
  refine behind (hp0 _ (by omega) (by simp [put_at, stL])) ?_
  intro a h
  obtain ⟨e', rfl, hx⟩ := h.never; clear h; have h := hx
  obtain ⟨k1, k4⟩ := h
  simp [push_cast, -Int.not_lt, -Int.not_le, ↓evI_call, ↓evI_calli, ↓evI_calln, ↓evI_callz, ↓evI_callv, ↓evI_mxn, k1, k4]
  refine behind (hp2 2 _ (.inr rfl) (by trivial) hl hi (by simp [put_at, k1]) (by simp [put_at, k4]) (by simp [put_at])) ?_
  rintro a (⟨e', junk, f, rfl, k2, k3⟩ | ⟨e', rfl, hw⟩)
  · simp [push_cast, -Int.not_lt, -Int.not_le, ↓evI_call, ↓evI_calli, ↓evI_calln, ↓evI_callz, ↓evI_callv, ↓evI_mxn, k2, k3, frzK]
  · rw [hw]
    simp [push_cast, -Int.not_lt, -Int.not_le, ↓evI_call, ↓evI_calli, ↓evI_calln, ↓evI_callz, ↓evI_callv, ↓evI_mxn, frzK]
/-! ### the verdict -/
def wl (s : St) (b : List Int) (i : Nat) : List (List Int) := (List.range i).map fun j : Nat => (waitsS s b j).getD []
theorem wl_len (s b i) : (wl s b i).length = i := by simp [wl]
theorem wl_step (s b i) : wl s b (i + 1) = wl s b i ++ [(waitsS s b (i : Nat)).getD []] := by unfold wl; rw [List.range_succ, List.map_append]; rfl
structure Vd where
  ok : Bool
  bounds : List Int
  waits : List (List Int)
  deriving DecidableEq
def slW (l : List (List Int)) : A := .sl (l.map slI) l.length 0
def Vd.c (v : Vd) : List A := [vb v.ok, slI v.bounds, slW v.waits]
def anS (s : St) : Vd × Int := if okS s = true then (if eqz (leastB s).2 0 = true then (⟨true, (leastB s).1, wl s (leastB s).1 s.tasks.length⟩, 0) else (⟨false, [], []⟩, (leastB s).2)) else (⟨false, [], []⟩, (chk s).2)
theorem it_ok {s : St} (hs : Sm s) : ∀ (k : Nat) (bs : List Int), bs.length = s.tasks.length → (∀ b ∈ bs, I64' b) → (itS s k bs).2 = 0 → (itS s k bs).1.length = s.tasks.length ∧ (∀ b ∈ (itS s k bs).1, I64' b) ∧ roundS s (itS s k bs).1 = some (itS s k bs).1
  | 0, bs, _, _, h => by simp [itS] at h
  | k + 1, bs, hl, hb, h => by
    unfold itS at h ⊢
    cases hx : roundS s bs with
    | none => rw [hx] at h; simp at h
    | some nx =>
      rw [hx] at h
      simp only at h ⊢
      by_cases he : nx = bs
      · rw [if_pos he] at h ⊢
        exact ⟨hl, hb, by rw [hx, he]⟩
      · rw [if_neg he] at h ⊢
        exact it_ok hs k nx (round_ok hx).1 (round_i64 hs hx) h
theorem least_ok {s : St} (hs : Sm s) (g : Good s) (h : (leastB s).2 = 0) : (leastB s).1.length = s.tasks.length ∧ (∀ b ∈ (leastB s).1, I64' b) ∧ roundS s (leastB s).1 = some (leastB s).1 :=
  it_ok hs 200 _ (stL_len ..) (stL_i64 g _) h
theorem slI_mapM (d : Nat) (bx : Bx) (l : List (List Int)) : (l.map slI).mapM (frzC bx d) = some (l.map slI) := by
  induction l with
  | nil => rfl
  | cons a l ih =>
    rw [List.map_cons, List.mapM_cons, ih]
    cases d <;> rfl
def Zc (g : Nat) : List A := [vb false, .sl [] 0 g, .sl [] 0 g]
def Vc (b : List Int) (ws : List (List Int)) (g : Nat) : List A := [vb true, slI b, .sl (ws.map slI) ws.length g]
theorem an_own (s : St) (b : List Int) (e : Env) : evL tab0 ext1 0 L23_0 (e, [St.c s, Zc 1, Vc b [] 1]) = evL tab0 ext1 0 L23_0 (e, [St.c s, Zc 2, Vc b [] 2]) := by
  rw [go23_0, go23_0]
  congr 1
theorem an_loop (s : St) (hs : Sm s) (b : List Int) (hb : ∀ x ∈ b, I64' x) : ∀ (d i : Nat) (e : Env), i + d = s.tasks.length → e 1 = .ptr 0 0 → e 2 = .ptr 1 0 → e 6 = slI b → e 8 = .ptr 2 0 → e 34 = vi s.tasks.length → e 35 = vi i →
    ∃ e', evL tab0 ext1 0 L23_0 (e, [St.c s, Zc 2, Vc b (wl s b i) 2]) = some (.ex 0, e', [St.c s, Zc 2, Vc b (wl s b s.tasks.length) 2]) ∧ e' 2 = .ptr 1 0 ∧ e' 8 = .ptr 2 0 := by
  have hc := hs.tasks
  intro d
  induction d with
  | zero =>
    intro i e hi h1 h2 h6 h8 h34 h35
    obtain rfl : i = s.tasks.length := by omega
    generalize wl s b s.tasks.length = w
    exact ⟨_, (go23_0 _ _).trans (by simp [B23_0, push_cast, -Int.not_lt, -Int.not_le, ↓evI_call, ↓evI_calli, ↓evI_calln, ↓evI_callz, ↓evI_callv, ↓evI_mxn, loopIn, loopIn0, keepL, emp, A.dang, A.dangC, St.c, slI, slT, Zc, Vc, h1, h2, h6, h8, h34, h35]; rfl), by simp [put_at], by simp [put_at]⟩
  | succ d ih =>
    intro i e hi h1 h2 h6 h8 h34 h35
    have hi' : (i : Int) < s.tasks.length := by omega
    have hw : IntKind.wrap .i64 ((i : Int) + 1) = (i : Int) + 1 := wrap_in _ (by omega) (by omega)
    have hq := pure1 (waits_is s hs b hb i)
    have hlen := wl_len s b i
    have hst := wl_step s b i
    have ih' := ih (i + 1) (put 35 (vi ((i : Int) + 1)) (put 1 (.ptr 0 0) (put 2 (.ptr 1 0) (put 6 (slI b) (put 8 (.ptr 2 0) (put 34 (vi s.tasks.length) emp)))))) (by omega) (by simp [put_at]) (by simp [put_at]) (by simp [put_at]) (by simp [put_at]) (by simp [put_at]) (by simp [put_at])
    rw [hst] at ih'
    generalize (waitsS s b (i : Nat)).getD [] = x at *
    generalize (waitsS s b (i : Nat)).isSome = y at *
    generalize wl s b i = q at *
    have hsz : (q.length + 1) * 24 ≤ 70368744177664 := by omega
    have key : evL tab0 ext1 0 L23_0 (e, [St.c s, Zc 2, Vc b q 2]) = evL tab0 ext1 0 L23_0 (put 35 (vi ((i : Int) + 1)) (put 1 (.ptr 0 0) (put 2 (.ptr 1 0) (put 6 (slI b) (put 8 (.ptr 2 0) (put 34 (vi s.tasks.length) emp))))), [St.c s, Zc 2, Vc b (q ++ [x]) 2]) := by
      refine (go23_0 _ _).trans ?_
      simp only [St.c, slI, slT] at hq
      simp [B23_0, push_cast, -Int.not_lt, -Int.not_le, ↓evI_call, ↓evI_calli, ↓evI_calln, ↓evI_callz, ↓evI_callv, ↓evI_mxn, loopIn, loopIn0, keepL, emp, A.dang, A.dangC, St.c, slI, slT, Zc, Vc, h1, h2, h6, h8, h34, h35, hi', hw, hq, hsz, asList]
      exact loop_env (by simp [put_at, slI])
    rw [key]
    exact ih'
theorem analyze_is (s : St) (hs : Sm s) : pureOf (callL tab0 ext1) false 23 [.agg (St.c s)] = some (.tup [.agg (anS s).1.c, vi (anS s).2]) := by
  rw [pureOf_b, callL_tab _ _ rfl tab23 rfl]
  have h1 := pure1 (okS_pure s hs.fits)
  unfold anS
  rcases (Bool.eq_false_or_eq_true (okS s)).symm with ho | ho
  · rw [if_neg (by simp [ho])]
    have c1' : eqz (chk s).2 0 = false := ho
    generalize (chk s).2 = z at h1 c1'
    simp only [St.c, slI, slT] at h1
    simp [C23, push_cast, -Int.not_lt, -Int.not_le, ↓evI_call, ↓evI_calli, ↓evI_calln, ↓evI_callz, ↓evI_callv, ↓evI_mxn, St.c, slI, slT, h1, c1', frzK, Vd.c, slW]
  · rw [if_pos ho]
    have g := (okS_iff s).1 ho
    have c2 := (chk_good s).2 g
    rw [c2] at h1
    have h2 := least_is s hs g
    rcases (Bool.eq_false_or_eq_true (eqz (leastB s).2 0)).symm with hz | hz
    · rw [if_neg (by simp [hz])]
      generalize leastB s = r at *
      obtain ⟨b, z⟩ := r
      simp only [St.c, slI, slT] at h1 h2 hz
      simp [C23, push_cast, -Int.not_lt, -Int.not_le, ↓evI_call, ↓evI_calli, ↓evI_calln, ↓evI_callz, ↓evI_callv, ↓evI_mxn, St.c, slI, slT, h1, h2, hz, eqz_self, frzK, Vd.c, slW]
    · rw [if_pos hz]
      have hz2 : (leastB s).2 = 0 := by simpa [eqz] using hz
      obtain ⟨-, hb, -⟩ := least_ok hs g hz2
      have hlp := an_loop s hs (leastB s).1 hb s.tasks.length 0
      have hown := an_own s (leastB s).1
      have e0 : wl s (leastB s).1 0 = [] := rfl
      rw [hz2] at h2
      rw [e0] at hlp
      generalize (leastB s).1 = b at *
      generalize wl s b s.tasks.length = w at *
      have hlp2 := fun (e : Env) (h : e 1 = .ptr 0 0 ∧ e 2 = .ptr 1 0 ∧ e 6 = slI b ∧ e 8 = .ptr 2 0 ∧ e 34 = vi s.tasks.length ∧ e 35 = vi ((0 : Nat) : Int)) =>
        (hown e ▸ hlp e (by omega) h.1 h.2.1 h.2.2.1 h.2.2.2.1 h.2.2.2.2.1 h.2.2.2.2.2 : ∃ e', evL tab0 ext1 0 L23_0 (e, [St.c s, Zc 1, Vc b [] 1]) = some (.ex 0, e', [St.c s, Zc 2, Vc b w 2]) ∧ e' 2 = .ptr 1 0 ∧ e' 8 = .ptr 2 0)
      have hlp3 := fun e h => exA (hlp2 e h)
      simp only [St.c, slI, slT, Zc, Vc, List.map_nil, List.length_nil] at h1 h2 hlp3
      simp [C23, push_cast, -Int.not_lt, -Int.not_le, ↓evI_call, ↓evI_calli, ↓evI_calln, ↓evI_callz, ↓evI_callv, ↓evI_mxn, St.c, slI, slT, h1, h2, eqz_self]
      refine behind (hlp3 _ (by simp [put_at])) ?_
      rintro _ ⟨e', rfl, k2, k8⟩
      simp [push_cast, -Int.not_lt, -Int.not_le, ↓evI_call, ↓evI_calli, ↓evI_calln, ↓evI_callz, ↓evI_callv, ↓evI_mxn, k2, k8, frzK, Vd.c, slW, slI, plain_mapM (plain_vi _)]
end Go.Proofs.YtclebnamhpgdmaaEv
