/- The reference's rounds, verdicts. -/
import Derived.Test.YtamblgbmdhldbaaGreatDoorAdmit
set_option linter.unusedSimpArgs false
set_option linter.unusedVariables false
namespace Go.Proofs.YtamblgbmdhldbaaGreatDoorEv
open Go
set_option maxHeartbeats 4000000
def tn (s : St) (bs : List Int) : Nat → Bool
  | 0 => false
  | i + 1 => tn s bs i || !eqz (rNext s bs i) (bAt bs i)
theorem tn_is (s : St) (bs : List Int) : ∀ i, i ≤ bs.length → tn s bs i = !decide (rL s bs i = bs.take i)
  | 0, _ => by simp [tn, rL]
  | i + 1, h => by
    rw [tn, tn_is s bs i (by omega), rL_step, take_succ' bs i (by omega), bAt_is bs i (by omega)]
    have h3 : (rL s bs i ++ [rNext s bs i] = bs.take i ++ [bs[i]]) ↔ (rL s bs i = bs.take i ∧ rNext s bs i = bs[i]) := ⟨fun h => ⟨(List.append_inj' h rfl).1, by have := (List.append_inj' h rfl).2; simpa using this⟩, fun ⟨a, b⟩ => by rw [a, b]⟩
    have h4 : decide (rL s bs i ++ [rNext s bs i] = bs.take i ++ [bs[i]]) = (decide (rL s bs i = bs.take i) && eqz (rNext s bs i) bs[i]) := by
      rw [Bool.eq_iff_iff]
      simp only [decide_eq_true_eq, Bool.and_eq_true, eqz]
      exact h3
    rw [h4]
    cases decide (rL s bs i = bs.take i) <;> cases eqz (rNext s bs i) bs[i] <;> rfl
theorem roundR_loop (s : St) (hs : Sm s) (bs : List Int) (hb : ∀ b ∈ bs, I64' b) (hl : bs.length = s.tasks.length) :
    ∀ d i (e : Env), i + d = s.tasks.length → (e 1 = slI bs ∧ e 2 = .ptr 0 0 ∧ e 7 = .sl ((rL s bs i).map vi) (rL s bs i).length 2 ∧ e 8 = vb (tn s bs i) ∧ e 9 = vi i) → ∃ zz, evL tab0 ext1 0 L36_0 (e, [St.c s]) = some zz ∧ FQ (rBad s bs) ([St.c s]) 0 (fun _ e => e 4 = .sl [] 0 2 ∧ e 5 = vb false ∧ e 6 = vi 19) (fun e => e 7 = .sl ((rL s bs s.tasks.length).map vi) (rL s bs s.tasks.length).length 2 ∧ e 8 = vb (tn s bs s.tasks.length)) i d zz := by
  have hc := hs.tasks
  refine fq_loop (St := fun i e => e 1 = slI bs ∧ e 2 = .ptr 0 0 ∧ e 7 = .sl ((rL s bs i).map vi) (rL s bs i).length 2 ∧ e 8 = vb (tn s bs i) ∧ e 9 = vi i) _ _ _ _ _ ?_ ?_
  · rintro e ⟨g0, g1, g2, g3, g4⟩
    exact ⟨_, (go36_0 _ _).trans (by simp [B36_0, push_cast, -Int.not_lt, -Int.not_le, ↓evI_call, ↓evI_calli, ↓evI_callz, ↓evI_callv, ↓evI_mxn, loopIn, loopIn0, keepL, emp, A.dang, A.dangC, g0, g1, g2, g3, g4, slI, slT, slP, St.c, Tk.c, hl]; rfl), by simp [put_at, g2, g3]⟩
  · rintro i e hi ⟨g0, g1, g2, g3, g4⟩
    rw [go36_0]
    have hi' : (i : Int) < (s.tasks.length : Nat) := by omega
    have hw : IntKind.wrap .i64 ((i : Int) + 1) = (i : Int) + 1 := wrap_in _ (by omega) (by omega)
    have hi3 : i < bs.length := by omega
    have hi4 : (i : Int) < bs.length := by omega
    have h1 := pure_ansO (k := false) (nextR_is s hs bs hb i)
    have hlen := rL_len s bs i
    have e1 : rBad s bs i = match nextS s bs i with | none => true | some x => decide (s.tasks[i].deadline < x) := by unfold rBad; rw [dlAt_is s i hi]; cases nextS s bs i <;> rfl
    have e2 : rNext s bs i = (nextS s bs i).getD 0 := rfl
    have e3 : tn s bs (i + 1) = (tn s bs i || !eqz (rNext s bs i) bs[i]) := by rw [tn, bAt_is bs i hi3]
    rw [rL_step, e3, e1, e2]
    have hd := drop_tk s.tasks i hi
    have hd2 := drop_int bs i hi3
    generalize nextS s bs i = r at *
    generalize rL s bs i = q at *
    generalize tn s bs i = u at *
    have hsz : (q.length + 1) * 8 ≤ 70368744177664 := by omega
    simp only [St.c, slI, slT, slP, Tk.c] at h1 hd
    cases r with
    | none =>
      simp +contextual (maxSteps := 400000) [B36_0, push_cast, -Int.not_lt, -Int.not_le, ↓evI_call, ↓evI_calli, ↓evI_callz, ↓evI_callv, ↓evI_mxn, loopIn, loopIn0, keepL, emp, A.dang, A.dangC, g0, g1, g2, g3, g4, hi, hi', slI, slT, slP, St.c, Tk.c, hd, hd2, hi4, hw, h1, hsz, asList]
      exact Step.ret0 rfl (by simp [put_at])
    | some x =>
    cases u with
    | true =>
      simp +contextual (maxSteps := 400000) [B36_0, push_cast, -Int.not_lt, -Int.not_le, ↓evI_call, ↓evI_calli, ↓evI_callz, ↓evI_callv, ↓evI_mxn, loopIn, loopIn0, keepL, emp, A.dang, A.dangC, g0, g1, g2, g3, g4, hi, hi', slI, slT, slP, St.c, Tk.c, hd, hd2, hi4, hw, h1, hsz, asList]
      refine Step.split (fun cc => ?_) (fun cc => ?_)
      · exact Step.ret0 (by simpa using cc) (by simp [put_at])
      · exact Step.go (by simpa using cc) (by simp [put_at])
    | false =>
    simp +contextual (maxSteps := 400000) [B36_0, push_cast, -Int.not_lt, -Int.not_le, ↓evI_call, ↓evI_calli, ↓evI_callz, ↓evI_callv, ↓evI_mxn, loopIn, loopIn0, keepL, emp, A.dang, A.dangC, g0, g1, g2, g3, g4, hi, hi', slI, slT, slP, St.c, Tk.c, hd, hd2, hi4, hw, h1, hsz, asList]
    refine Step.split (fun cc => ?_) (fun cc => ?_)
    · exact Step.ret0 (by simpa using cc) (by simp [put_at])
    · exact Step.go (by simpa using cc) (by simp [put_at])
theorem roundR_is (s : St) (hs : Sm s) (bs : List Int) (hb : ∀ b ∈ bs, I64' b) (hl : bs.length = s.tasks.length) : pureOf (callL tab0 ext1) false 36 [.agg (St.c s), slI bs] = some (match roundS s bs with
    | none => .tup [slI [], vb false, vi 19]
    | some nx => .tup [slI nx, vb (!decide (nx = bs)), vi 0]) := by
  rw [pureOf_b, callL_tab _ _ rfl tab36 rfl]
  have hlp := roundR_loop s hs bs hb hl s.tasks.length 0
  have ht := tn_is s bs s.tasks.length (by omega)
  rw [List.take_of_length_le (by omega)] at ht
  unfold FQ at hlp
  unfold roundS
  rw [ht] at hlp
  generalize rL s bs s.tasks.length = w at hlp ⊢
  generalize fstP (rBad s bs) 0 s.tasks.length = f at hlp ⊢
  simp only [St.c, slI, slT] at hlp
  simp [C36, push_cast, -Int.not_lt, -Int.not_le, ↓evI_call, ↓evI_calli, ↓evI_callz, ↓evI_callv, ↓evI_mxn, St.c, slI, slT]
  refine behind (hlp _ (by omega) (by simp [put_at, rL, tn])) ?_
  intro a h
  cases f with
  | some v =>
    obtain ⟨e', junk, rfl, k4, k5, k6⟩ := h
    simp [push_cast, -Int.not_lt, -Int.not_le, ↓evI_call, ↓evI_calli, ↓evI_callz, ↓evI_callv, ↓evI_mxn, k4, k5, k6, frzK]
  | none =>
    obtain ⟨e', rfl, k7, k8⟩ := h
    simp [push_cast, -Int.not_lt, -Int.not_le, ↓evI_call, ↓evI_calli, ↓evI_callz, ↓evI_callv, ↓evI_mxn, k7, k8, frzK, plain_mapM (plain_vi _)]
theorem startR_loop (s : St) (hs : Sm s) (g : Good s) :
    ∀ d i (e : Env), i + d = s.tasks.length → (e 1 = .ptr 0 0 ∧ e 2 = .ptr 1 0 ∧ e 6 = .sl ((stL s i).map vi) (stL s i).length 2 ∧ e 7 = vi i) → ∃ zz, evL tab0 ext1 0 L23_0 (e, [St.c s, Zc 2]) = some zz ∧ FQ (fun _ => false) ([St.c s, Zc 2]) 0 (fun _ _ => True) (fun e => e 1 = .ptr 0 0 ∧ e 2 = .ptr 1 0 ∧ e 6 = .sl ((stL s s.tasks.length).map vi) (stL s s.tasks.length).length 2) i d zz := by
  have hc := hs.tasks
  refine fq_loop (St := fun i e => e 1 = .ptr 0 0 ∧ e 2 = .ptr 1 0 ∧ e 6 = .sl ((stL s i).map vi) (stL s i).length 2 ∧ e 7 = vi i) _ _ _ _ _ ?_ ?_
  · rintro e ⟨g0, g1, g2, g3⟩
    exact ⟨_, (go23_0 _ _).trans (by simp [B23_0, push_cast, -Int.not_lt, -Int.not_le, ↓evI_call, ↓evI_calli, ↓evI_callz, ↓evI_callv, ↓evI_mxn, loopIn, loopIn0, keepL, emp, A.dang, A.dangC, g0, g1, g2, g3, slI, slT, slP, St.c, Tk.c, Zc]; rfl), by simp [put_at, g0, g1, g2]⟩
  · rintro i e hi ⟨g0, g1, g2, g3⟩
    rw [go23_0]
    have hi' : (i : Int) < (s.tasks.length : Nat) := by omega
    have hw : IntKind.wrap .i64 ((i : Int) + 1) = (i : Int) + 1 := wrap_in _ (by omega) (by omega)
    have hp := g.pts (List.getElem_mem hi)
    have h1 := pure1 (pure_vi (k := false) (allR_is s.tasks[i] 1 hp))
    have h2 := pure1 (pure_vi (k := false) (allR_is s.tasks[i] 2 hp))
    have h3 := pure1 (pure_vi (k := false) (allR_is s.tasks[i] 3 hp))
    have b1 := all_bounds hp 1
    have b2 := all_bounds hp 2
    have b3 := all_bounds hp 3
    have e1 : stF s i = allK s.tasks[i].parts 1 + allK s.tasks[i].parts 2 + allK s.tasks[i].parts 3 := by unfold stF; rw [ptsAt_is s i hi]
    have hlen := stL_len s i
    rw [stL_step, e1]
    have hd := drop_tk s.tasks i hi
    generalize stL s i = q at *
    generalize allK s.tasks[i].parts 1 = x1 at *
    generalize allK s.tasks[i].parts 2 = x2 at *
    generalize allK s.tasks[i].parts 3 = x3 at *
    have hsz : (q.length + 1) * 8 ≤ 70368744177664 := by omega
    have w1 : IntKind.wrap .i64 (x1 + x2) = x1 + x2 := wrap_in _ (by omega) (by omega)
    have w2 : IntKind.wrap .i64 (x1 + x2 + x3) = x1 + x2 + x3 := wrap_in _ (by omega) (by omega)
    simp only [St.c, slI, slT, slP, Tk.c] at h1 h2 h3 hd
    simp +contextual (maxSteps := 400000) [B23_0, push_cast, -Int.not_lt, -Int.not_le, ↓evI_call, ↓evI_calli, ↓evI_callz, ↓evI_callv, ↓evI_mxn, loopIn, loopIn0, keepL, emp, A.dang, A.dangC, g0, g1, g2, g3, hi, hi', slI, slT, slP, St.c, Tk.c, Zc, hd, hw, h1, h2, h3, w1, w2, hsz, asList]
    (repeat' refine Step.split (fun cc => ?_) (fun cc => ?_)) <;> first | (refine Step.ret0 ?_ ?_ <;> first | (simp_all [put_at, eqz]; done) | (simp [put_at, *]; done) | ((try simp [eqz] at *); omega)) | (refine Step.go ?_ ?_ <;> first | (simp_all [put_at, eqz]; done) | (simp [put_at, *]; done) | ((try simp [eqz] at *); omega)) | (refine Step.ret _ ?_ ?_ <;> first | (simp_all [put_at, eqz]; done) | (simp [put_at, *]; done) | ((try simp [eqz] at *); omega)) | (refine Step.goJ _ (by simp) ?_ ?_ <;> first | (simp_all [put_at, eqz]; done) | (simp [put_at, *]; done) | ((try simp [eqz] at *); omega))
theorem startR_own (s : St) (e : Env) : evL tab0 ext1 0 L23_0 (e, [St.c s, Zc 1]) = evL tab0 ext1 0 L23_0 (e, [St.c s, Zc 2]) := by
  rw [go23_0, go23_0]
  congr 1
theorem anR_own (s : St) (b : List Int) (e : Env) : evL tab0 ext1 0 L23_4 (e, [St.c s, Zc 2, Vc b [] 1]) = evL tab0 ext1 0 L23_4 (e, [St.c s, Zc 2, Vc b [] 2]) := by
  rw [go23_4, go23_4]
  congr 1
theorem anR_loop (s : St) (hs : Sm s) (b : List Int) (hb : ∀ x ∈ b, I64' x) (hl : b.length = s.tasks.length) (f : Nat) : ∀ (d i : Nat) (e : Env), i + d = s.tasks.length → e 1 = .ptr 0 0 → e 2 = .ptr 1 0 → e 6 = .sl (b.map vi) b.length f → e 13 = .ptr 2 0 → e 14 = vi i →
    ∃ e', evL tab0 ext1 0 L23_4 (e, [St.c s, Zc 2, Vc b (wl s b i) 2]) = some (.ex 4, e', [St.c s, Zc 2, Vc b (wl s b s.tasks.length) 2]) ∧ e' 2 = .ptr 1 0 ∧ e' 13 = .ptr 2 0 := by
  have hc := hs.tasks
  intro d
  induction d with
  | zero =>
    intro i e hi h1 h2 h6 h13 h14
    obtain rfl : i = s.tasks.length := by omega
    generalize wl s b s.tasks.length = w
    exact ⟨_, (go23_4 _ _).trans (by simp [B23_4, push_cast, -Int.not_lt, -Int.not_le, ↓evI_call, ↓evI_calli, ↓evI_callz, ↓evI_callv, ↓evI_mxn, loopIn, loopIn0, keepL, emp, A.dang, A.dangC, St.c, slI, slT, Zc, Vc, h1, h2, h6, h13, h14, hl]; rfl), by simp [put_at], by simp [put_at]⟩
  | succ d ih =>
    intro i e hi h1 h2 h6 h13 h14
    have hi' : (i : Int) < b.length := by omega
    have hw : IntKind.wrap .i64 ((i : Int) + 1) = (i : Int) + 1 := wrap_in _ (by omega) (by omega)
    have hq := pure1 (waitsR_is s hs b hb i)
    have hlen := wl_len s b i
    have hst := wl_step s b i
    have ih' := ih (i + 1) (put 14 (vi ((i : Int) + 1)) (put 1 (.ptr 0 0) (put 2 (.ptr 1 0) (put 6 (.sl (b.map vi) b.length f) (put 13 (.ptr 2 0) emp))))) (by omega) (by simp [put_at]) (by simp [put_at]) (by simp [put_at]) (by simp [put_at]) (by simp [put_at])
    rw [hst] at ih'
    generalize (waitsS s b (i : Nat)).getD [] = x at *
    generalize (waitsS s b (i : Nat)).isSome = y at *
    generalize wl s b i = q at *
    have hsz : (q.length + 1) * 24 ≤ 70368744177664 := by omega
    have key : evL tab0 ext1 0 L23_4 (e, [St.c s, Zc 2, Vc b q 2]) = evL tab0 ext1 0 L23_4 (put 14 (vi ((i : Int) + 1)) (put 1 (.ptr 0 0) (put 2 (.ptr 1 0) (put 6 (.sl (b.map vi) b.length f) (put 13 (.ptr 2 0) emp)))), [St.c s, Zc 2, Vc b (q ++ [x]) 2]) := by
      refine (go23_4 _ _).trans ?_
      simp only [St.c, slI, slT] at hq
      simp [B23_4, push_cast, -Int.not_lt, -Int.not_le, ↓evI_call, ↓evI_calli, ↓evI_callz, ↓evI_callv, ↓evI_mxn, loopIn, loopIn0, keepL, emp, A.dang, A.dangC, St.c, slI, slT, Zc, Vc, h1, h2, h6, h13, h14, hi', hw, hq, hsz, asList]
      exact loop_env (by simp [put_at])
    rw [key]
    exact ih'
def EXQ {α : Type} (Q : α → Prop) (r : Option α) : Prop := ∃ zz, r = some zz ∧ Q zz
def ItRb (s : St) (b : List Int) (w : List (List Int)) (zz : Out × Env × Bx) : Prop := ∃ e' junk, zz = (.ret, e', [St.c s, Vc b w 0] ++ junk) ∧ e' 2 = .ptr 1 0 ∧ e' 3 = vi 0
def ItR (s : St) (d : Nat) (bs : List Int) (zz : Out × Env × Bx) : Prop :=
  (∃ e' z, zz = (.ret, e', [St.c s, Zc 1]) ∧ itS s d bs = ([], z) ∧ eqz z 0 = false ∧ e' 2 = .ptr 1 0 ∧ e' 3 = vi z) ∨
  (∃ e' b junk, zz = (.ret, e', [St.c s, Vc b (wl s b s.tasks.length) 0] ++ junk) ∧ itS s d bs = (b, 0) ∧ e' 2 = .ptr 1 0 ∧ e' 3 = vi 0) ∨
  (∃ e', zz = (.ex 2, e', [St.c s, Zc 2]) ∧ itS s d bs = ([], 20) ∧ e' 2 = .ptr 1 0)
theorem itR_loop (s : St) (hs : Sm s) : ∀ (d k : Nat) (bs : List Int) (f : Nat) (e : Env), (f = 0 ∨ f = 2) → k + d = 200 → bs.length = s.tasks.length → (∀ b ∈ bs, I64' b) → e 1 = .ptr 0 0 → e 2 = .ptr 1 0 → e 6 = .sl (bs.map vi) bs.length f → e 9 = vi k →
    ∃ zz, evL tab0 ext1 0 L23_2 (e, [St.c s, Zc 2]) = some zz ∧ ItR s d bs zz := by
  intro d
  induction d with
  | zero =>
    intro k bs f e hf hk hl hb h1 h2 h6 h9
    obtain rfl : k = 200 := by omega
    exact ⟨_, (go23_2 _ _).trans (by simp [B23_2, push_cast, -Int.not_lt, -Int.not_le, ↓evI_call, ↓evI_calli, ↓evI_callz, ↓evI_callv, ↓evI_mxn, loopIn, loopIn0, keepL, emp, A.dang, A.dangC, h1, h2, h6, h9, St.c, slI, slT, Zc]; rfl), .inr (.inr ⟨_, rfl, rfl, by simp [put_at]⟩)⟩
  | succ d ih =>
    intro k bs f e hf hk hl hb h1 h2 h6 h9
    have hk2 : (k : Int) < 200 := by omega
    have hw : IntKind.wrap .i64 ((k : Int) + 1) = (k : Int) + 1 := wrap_in _ (by omega) (by omega)
    have hr := roundR_is s hs bs hb hl
    have hc9 := hs.tasks
    unfold ItR
    cases hx : roundS s bs with
    | none =>
      rw [hx] at hr
      have e1 : itS s (d + 1) bs = ([], 19) := by rw [itS, hx]
      rw [e1]
      simp only [St.c, slI, slT] at hr
      rcases hf with rfl | rfl
      · exact ⟨_, (go23_2 _ _).trans (by simp [B23_2, push_cast, -Int.not_lt, -Int.not_le, ↓evI_call, ↓evI_calli, ↓evI_callz, ↓evI_callv, ↓evI_mxn, loopIn, loopIn0, keepL, emp, A.dang, A.dangC, h1, h2, h6, h9, St.c, slI, slT, Zc, hk2, hr, eqz]; rfl), .inl ⟨_, 19, rfl, rfl, rfl, by simp [put_at], by simp [put_at]⟩⟩
      · exact ⟨_, (go23_2 _ _).trans (by simp [B23_2, push_cast, -Int.not_lt, -Int.not_le, ↓evI_call, ↓evI_calli, ↓evI_callz, ↓evI_callv, ↓evI_mxn, loopIn, loopIn0, keepL, emp, A.dang, A.dangC, h1, h2, h6, h9, St.c, slI, slT, Zc, hk2, hr, eqz]; rfl), .inl ⟨_, 19, rfl, rfl, rfl, by simp [put_at], by simp [put_at]⟩⟩
    | some nx =>
      rw [hx] at hr
      have e1 : itS s (d + 1) bs = if nx = bs then (bs, 0) else itS s d nx := by rw [itS, hx]
      obtain ⟨hn, _, _⟩ := round_ok hx
      by_cases he : nx = bs
      · rw [e1, if_pos he]
        suffices hh : ∃ zz, evL tab0 ext1 0 L23_2 (e, [St.c s, Zc 2]) = some zz ∧ ItRb s bs (wl s bs s.tasks.length) zz by
          obtain ⟨zz, q1, e', junk, q2, q3, q4⟩ := hh
          exact ⟨zz, q1, .inr (.inl ⟨e', bs, junk, q2, rfl, q3, q4⟩)⟩
        subst he
        simp only [decide_true, Bool.not_true] at hr
        have hlp := fun f => anR_loop s hs nx hb hl f s.tasks.length 0
        have hown := anR_own s nx
        have e0 : wl s nx 0 = [] := rfl
        rw [e0] at hlp
        generalize wl s nx s.tasks.length = w at *
        have hlp2 := fun (f : Nat) (e : Env) (h : e 1 = .ptr 0 0 ∧ e 2 = .ptr 1 0 ∧ e 6 = .sl (nx.map vi) nx.length f ∧ e 13 = .ptr 2 0 ∧ e 14 = vi ((0 : Nat) : Int)) =>
          (hown e ▸ hlp f e (by omega) h.1 h.2.1 h.2.2.1 h.2.2.2.1 h.2.2.2.2 : ∃ e', evL tab0 ext1 0 L23_4 (e, [St.c s, Zc 2, Vc nx [] 1]) = some (.ex 4, e', [St.c s, Zc 2, Vc nx w 2]) ∧ e' 2 = .ptr 1 0 ∧ e' 13 = .ptr 2 0)
        have hlp3 := fun f e h => exA (hlp2 f e h)
        simp only [St.c, slI, slT, Zc, Vc, List.map_nil, List.length_nil] at hr hlp3
        rcases hf with rfl | rfl
        · show EXQ (ItRb s nx w) (evL tab0 ext1 0 L23_2 (e, [St.c s, Zc 2]))
          rw [go23_2]
          simp [B23_2, push_cast, -Int.not_lt, -Int.not_le, ↓evI_call, ↓evI_calli, ↓evI_callz, ↓evI_callv, ↓evI_mxn, loopIn, loopIn0, keepL, emp, A.dang, A.dangC, h1, h2, h6, h9, St.c, slI, slT, Zc, Vc, hk2, hr, eqz_self]
          refine behindP (P := EXQ (ItRb s nx w)) (hlp3 0 _ (by simp [put_at])) ?_
          rintro _ ⟨e', rfl, k2, k13⟩
          simp [push_cast, -Int.not_lt, -Int.not_le, ↓evI_call, ↓evI_calli, ↓evI_callz, ↓evI_callv, ↓evI_mxn, k2, k13]
          exact ⟨_, rfl, _, _, rfl, by simp [put_at, k2], by simp [put_at]⟩
        · show EXQ (ItRb s nx w) (evL tab0 ext1 0 L23_2 (e, [St.c s, Zc 2]))
          rw [go23_2]
          simp [B23_2, push_cast, -Int.not_lt, -Int.not_le, ↓evI_call, ↓evI_calli, ↓evI_callz, ↓evI_callv, ↓evI_mxn, loopIn, loopIn0, keepL, emp, A.dang, A.dangC, h1, h2, h6, h9, St.c, slI, slT, Zc, Vc, hk2, hr, eqz_self]
          refine behindP (P := EXQ (ItRb s nx w)) (hlp3 2 _ (by simp [put_at])) ?_
          rintro _ ⟨e', rfl, k2, k13⟩
          simp [push_cast, -Int.not_lt, -Int.not_le, ↓evI_call, ↓evI_calli, ↓evI_callz, ↓evI_callv, ↓evI_mxn, k2, k13]
          exact ⟨_, rfl, _, _, rfl, by simp [put_at, k2], by simp [put_at]⟩
      · rw [e1, if_neg he]
        simp only [decide_eq_false he, St.c, slI, slT, Bool.not_false] at hr
        have key : ∃ e2, evL tab0 ext1 0 L23_2 (e, [St.c s, Zc 2]) = evL tab0 ext1 0 L23_2 (e2, [St.c s, Zc 2]) ∧ e2 1 = .ptr 0 0 ∧ e2 2 = .ptr 1 0 ∧ e2 6 = .sl (nx.map vi) nx.length 0 ∧ e2 9 = vi ((k + 1 : Nat) : Int) := by
          rcases hf with rfl | rfl
          · refine ⟨_, (go23_2 _ _).trans (by simp [B23_2, push_cast, -Int.not_lt, -Int.not_le, ↓evI_call, ↓evI_calli, ↓evI_callz, ↓evI_callv, ↓evI_mxn, loopIn, loopIn0, keepL, emp, A.dang, A.dangC, h1, h2, h6, h9, St.c, slI, slT, Zc, hk2, hr, hw, eqz_self]; rfl), ?_⟩
            simp [put_at]
          · refine ⟨_, (go23_2 _ _).trans (by simp [B23_2, push_cast, -Int.not_lt, -Int.not_le, ↓evI_call, ↓evI_calli, ↓evI_callz, ↓evI_callv, ↓evI_mxn, loopIn, loopIn0, keepL, emp, A.dang, A.dangC, h1, h2, h6, h9, St.c, slI, slT, Zc, hk2, hr, hw, eqz_self]; rfl), ?_⟩
            simp [put_at]
        obtain ⟨e2, h, k1, k2, k6, k9⟩ := key
        rw [h]
        exact ih (k + 1) nx 0 e2 (.inl rfl) (by omega) hn (round_i64 hs hx) k1 k2 k6 k9
theorem analyzeR_is (s : St) (hs : Sm s) : pureOf (callL tab0 ext1) false 23 [.agg (St.c s)] = some (.tup [.agg (anS s).1.c, vi (anS s).2]) := by
  rw [pureOf_b, callL_tab _ _ rfl tab23 rfl]
  have h1 := pure1 (pure_tup2 (k := false) (checkR_is s hs.fits))
  unfold anS
  rcases (Bool.eq_false_or_eq_true (okS s)).symm with ho | ho
  · rw [if_neg (by simp [ho])]
    have c1' : eqz (chk s).2 0 = false := ho
    generalize (chk s).2 = z at h1 c1'
    simp only [St.c, slI, slT] at h1
    simp [C23, push_cast, -Int.not_lt, -Int.not_le, ↓evI_call, ↓evI_calli, ↓evI_callz, ↓evI_callv, ↓evI_mxn, St.c, slI, slT, h1, c1', frzK, Vd.c, slW]
  · rw [if_pos ho]
    have g := (okS_iff s).1 ho
    have c2 := (chk_good s).2 g
    rw [c2] at h1
    have hp0 := startR_loop s hs g s.tasks.length 0
    have hown := startR_own s
    have hp2 := itR_loop s hs 200 0 (stL s s.tasks.length)
    have hl := stL_len s s.tasks.length
    have hi := stL_i64 g s.tasks.length
    have hz0 : stL s 0 = [] := rfl
    rw [hz0] at hp0
    unfold leastB
    unfold ItR at hp2
    generalize stL s s.tasks.length = st at *
    have hp1 := fun (e : Env) (h : e 1 = .ptr 0 0 ∧ e 2 = .ptr 1 0 ∧ e 6 = .sl ([] : List A) 0 2 ∧ e 7 = vi ((0 : Nat) : Int)) => (hown e ▸ hp0 e (by omega) h : ∃ zz, evL tab0 ext1 0 L23_0 (e, [St.c s, Zc 1]) = some zz ∧ FQ (fun _ => false) [St.c s, Zc 2] 0 (fun _ _ => True) (fun e => e 1 = .ptr 0 0 ∧ e 2 = .ptr 1 0 ∧ e 6 = .sl (st.map vi) st.length 2) 0 s.tasks.length zz)
    simp only [St.c, slI, slT, Zc, Vc] at h1 hp1 hp2
    simp [C23, push_cast, -Int.not_lt, -Int.not_le, ↓evI_call, ↓evI_calli, ↓evI_callz, ↓evI_callv, ↓evI_mxn, St.c, slI, slT, h1, eqz_self]
    refine behind (hp1 _ (by simp [put_at])) ?_
    intro a h
    obtain ⟨e', rfl, hx⟩ := h.never; clear h; have h := hx
    obtain ⟨k1, k2, k6⟩ := h
    simp [push_cast, -Int.not_lt, -Int.not_le, ↓evI_call, ↓evI_calli, ↓evI_callz, ↓evI_callv, ↓evI_mxn, k1, k2, k6]
    refine behind (hp2 2 _ (.inr rfl) (by trivial) hl hi (by simp [put_at, k1]) (by simp [put_at, k2]) (by simp [put_at, k6]) (by simp [put_at])) ?_
    rintro a (⟨e', z, rfl, e1, hz, k2, k3⟩ | ⟨e', b, junk, rfl, e1, k2, k3⟩ | ⟨e', rfl, e1, k2⟩)
    · rw [e1, if_neg (by simp [hz])]
      simp [push_cast, -Int.not_lt, -Int.not_le, ↓evI_call, ↓evI_calli, ↓evI_callz, ↓evI_callv, ↓evI_mxn, k2, k3, frzK, Vd.c, slW, slI]
    · rw [e1]
      simp only [eqz_self, if_true]
      generalize wl s b s.tasks.length = w
      simp [push_cast, -Int.not_lt, -Int.not_le, ↓evI_call, ↓evI_calli, ↓evI_callz, ↓evI_callv, ↓evI_mxn, k2, k3, frzK, Vd.c, slW, slI, plain_mapM (plain_vi _), slI_mapM]
    · rw [e1, if_neg (by simp [eqz])]
      simp [push_cast, -Int.not_lt, -Int.not_le, ↓evI_call, ↓evI_calli, ↓evI_callz, ↓evI_callv, ↓evI_mxn, k2, frzK, Vd.c, slW, slI]
end Go.Proofs.YtamblgbmdhldbaaGreatDoorEv
