/- wait.All, wait.Sum. -/
import Derived.Test.YtclebnamhpgdmaaGreatWaits
set_option linter.unusedSimpArgs false
set_option linter.unusedVariables false
namespace Go.Proofs.YtclebnamhpgdmaaGreatEv
open Go
set_option maxHeartbeats 4000000
def waitC (s : St) (bs : List Int) (m N i : Nat) : List A := (waitL s bs m i ++ List.replicate (N - i) 0).map vi
theorem waitC_len (s bs m N i) (h : i ≤ N) : (waitC s bs m N i).length = N := by simp [waitC, waitL_len]; omega
theorem waitC_plain (s bs m N i) : (waitC s bs m N i).all A.plain = true := plain_vi _
theorem plainOwn' {l : List A} (h : l.all A.plain = true) : l.map A.own = l := by
  simp only [List.all_eq_true] at h
  refine (List.map_congr_left fun a ha => ?_).trans (List.map_id' l)
  have := h a ha
  cases a <;> simp_all [A.plain, A.own]
theorem waitC_set (s bs m N i) (h : i < N) : (waitC s bs m N i).take i ++ vi (waitV s bs m i) :: (waitC s bs m N i).drop (i + 1) = waitC s bs m N (i + 1) := by
  unfold waitC
  have e : N - i = (N - (i + 1)) + 1 := by omega
  rw [e, List.replicate_succ, List.map_append, List.map_cons]
  have := put_mid ((waitL s bs m i).map vi) ((List.replicate (N - (i + 1)) 0).map vi) (vi 0) (vi (waitV s bs m i)) i (by simp [waitL_len])
  rw [this, waitL_step, List.append_assoc, List.map_append, List.map_append]; rfl
theorem waitC_keep (s bs m N i) (h : i < N) (hv : waitV s bs m i = 0) : waitC s bs m N (i + 1) = waitC s bs m N i := by
  unfold waitC
  have e : N - i = (N - (i + 1)) + 1 := by omega
  rw [e, List.replicate_succ, waitL_step, hv, List.append_assoc]; rfl
theorem wa_loop (s : St) (hs : Sm s) (bs : List Int) (hb : ∀ b ∈ bs, I64' b) (m : Nat) (hm : m < s.tasks.length) (N : Nat) (hN : N = s.tasks[m].parts.length) : ∀ (k i : Nat) (e : Env), i + k = N → e 1 = slI bs → e 2 = vi m → e 3 = .ptr 0 0 → e 10 = .bs 1 N 1 → e 46 = slP s.tasks[m].parts → e 47 = vi N → e 48 = vi i →
    match fstP (waitBad s bs m) i k with
    | none => ∃ e', evL tab0 ext0 0 L37_0 (e, [St.c s, waitC s bs m N i]) = some (.ex 0, e', [St.c s, waitC s bs m N N]) ∧ e' 10 = .bs 1 N 1
    | some _ => ∃ e' bx', evL tab0 ext0 0 L37_0 (e, [St.c s, waitC s bs m N i]) = some (.ret, e', bx') ∧ e' 6 = .sl [] 0 2 ∧ e' 7 = vb false := by
  have hp := hs.parts _ (List.getElem_mem hm)
  intro k
  induction k with
  | zero =>
    intro i e hi h1 h2 h3 h10 h46 h47 h48
    obtain rfl : i = N := by omega
    have pd := plain_dang (m := 2) (waitC_plain s bs m i i)
    have po := plainOwn' (waitC_plain s bs m i i)
    generalize waitC s bs m i i = C at pd po ⊢
    exact ⟨_, (go37_0 _ _).trans (by simp [B37_0, push_cast, -Int.not_lt, -Int.not_le, ↓evI_call, ↓evI_calli, ↓evI_callv, ↓evI_mxn, loopIn, loopIn0, keepL, emp, A.dang, A.dangC, St.c, slI, slT, slP, h1, h2, h3, h10, h46, h47, h48, pd, po, -List.all_eq_true, -List.map_map]; rfl), by simp [put_at]⟩
  | succ k ih =>
    intro i e hi h1 h2 h3 h10 h46 h47 h48
    have hiN : i < N := by omega
    have hil : i < s.tasks[m].parts.length := by omega
    have hi' : (i : Int) < N := by omega
    have hi2 : (i : Int) < s.tasks[m].parts.length := by omega
    have hw : IntKind.wrap .i64 ((i : Int) + 1) = (i : Int) + 1 := wrap_in _ (by omega) (by omega)
    have hc := pure_ansO (k := false) (part_is' s hs bs hb m i)
    have hq := drop_pt s.tasks[m].parts i hil
    have pd := plain_dang (m := 2) (waitC_plain s bs m N i)
    have po := plainOwn' (waitC_plain s bs m N i)
    have hlC := waitC_len s bs m N i (by omega)
    have e1 : waitBad s bs m i = (eqz s.tasks[m].parts[i].kind 3 && !(partS s bs m i).isSome) := by
      unfold waitBad waitF; rw [kindAt_is s m i hm hil]; cases eqz s.tasks[m].parts[i].kind 3 <;> simp
    have e2 : waitV s bs m i = if eqz s.tasks[m].parts[i].kind 3 = true then (partS s bs m i).getD 0 else 0 := by
      unfold waitV waitF; rw [kindAt_is s m i hm hil]; split <;> rfl
    have hset := waitC_set s bs m N i hiN
    have hkeep := waitC_keep s bs m N i hiN
    have ih' := ih (i + 1) (put 48 (vi ((i : Int) + 1)) (put 1 (slI bs) (put 2 (vi m) (put 3 (.ptr 0 0) (put 10 (.bs 1 N 1) (put 46 (slP s.tasks[m].parts) (put 47 (vi N) emp))))))) (by omega) (by simp [put_at]) (by simp [put_at]) (by simp [put_at]) (by simp [put_at]) (by simp [put_at]) (by simp [put_at]) (by simp [put_at])
    rw [fstP, e1]
    rw [e2] at hset hkeep
    have hB1 : i + 1 ≤ N := by omega
    generalize partS s bs m i = r at *
    obtain ⟨p, hpp⟩ : ∃ p, p = s.tasks[m].parts[i] := ⟨_, rfl⟩
    rw [← hpp] at hq hset hkeep ⊢
    rcases (Bool.eq_false_or_eq_true (eqz p.kind 3)).symm with hk | hk
    · have hkeep := hkeep (by rw [hk]; rfl)
      rw [hkeep] at ih'
      rw [hk]
      generalize waitC s bs m N i = C at *
      have key : evL tab0 ext0 0 L37_0 (e, [St.c s, C]) = evL tab0 ext0 0 L37_0 (put 48 (vi ((i : Int) + 1)) (put 1 (slI bs) (put 2 (vi m) (put 3 (.ptr 0 0) (put 10 (.bs 1 N 1) (put 46 (slP s.tasks[m].parts) (put 47 (vi N) emp)))))), [St.c s, C]) := by
        refine (go37_0 _ _).trans ?_
        simp only [St.c, slI, slT] at hc
        simp [B37_0, push_cast, -Int.not_lt, -Int.not_le, ↓evI_call, ↓evI_calli, ↓evI_callv, ↓evI_mxn, loopIn, loopIn0, keepL, emp, A.dang, A.dangC, St.c, slI, slT, slP, Pt.c, h1, h2, h3, h10, h46, h47, h48, pd, po, hi', hi2, hil, hq, hk, hw, -List.all_eq_true, -List.map_map]
        exact (loop_env (e' := put 48 (vi ((i : Int) + 1)) (put 1 (slI bs) (put 2 (vi m) (put 3 (.ptr 0 0) (put 10 (.bs 1 N 1) (put 46 (slP s.tasks[m].parts) (put 47 (vi N) emp))))))) (by simp [put_at, slI, slP])).trans (loop_junk (bx := [St.c s, C]) [[vi p.kind, vi p.len, vi p.res]] (by simp) _)
      rw [key]
      exact ih'
    · rw [hk] at hset ⊢
      simp only [if_true] at hset
      have ih'' := ih'
      cases r with
      | none =>
        simp only [Option.isSome_none, Bool.not_false, Bool.and_self, if_true]
        generalize waitC s bs m N i = C at *
        simp only [St.c, slI, slT] at hc
        exact ⟨_, _, (go37_0 _ _).trans (by simp [B37_0, push_cast, -Int.not_lt, -Int.not_le, ↓evI_call, ↓evI_calli, ↓evI_callv, ↓evI_mxn, loopIn, loopIn0, keepL, emp, A.dang, A.dangC, St.c, slI, slT, slP, Pt.c, h1, h2, h3, h10, h46, h47, h48, pd, po, hi', hi2, hil, hq, hk, hw, hc, -List.all_eq_true, -List.map_map]; exact ⟨rfl, rfl⟩), by simp [put_at], by simp [put_at]⟩
      | some v =>
        simp only [Option.isSome_some, Bool.not_true, Bool.and_false, Bool.false_eq_true, if_false]
        simp only [Option.getD_some] at hset
        rw [← hset] at ih'
        generalize waitC s bs m N i = C at *
        have key : evL tab0 ext0 0 L37_0 (e, [St.c s, C]) = evL tab0 ext0 0 L37_0 (put 48 (vi ((i : Int) + 1)) (put 1 (slI bs) (put 2 (vi m) (put 3 (.ptr 0 0) (put 10 (.bs 1 N 1) (put 46 (slP s.tasks[m].parts) (put 47 (vi N) emp)))))), [St.c s, C.take i ++ vi v :: C.drop (i + 1)]) := by
          refine (go37_0 _ _).trans ?_
          simp only [St.c, slI, slT] at hc
          simp [B37_0, push_cast, -Int.not_lt, -Int.not_le, ↓evI_call, ↓evI_calli, ↓evI_callv, ↓evI_mxn, loopIn, loopIn0, keepL, emp, A.dang, A.dangC, St.c, slI, slT, slP, Pt.c, h1, h2, h3, h10, h46, h47, h48, pd, po, hi', hi2, hil, hiN, hq, hk, hw, hc, hlC, hB1, -List.all_eq_true, -List.map_map]
          exact (loop_env (e' := put 48 (vi ((i : Int) + 1)) (put 1 (slI bs) (put 2 (vi m) (put 3 (.ptr 0 0) (put 10 (.bs 1 N 1) (put 46 (slP s.tasks[m].parts) (put 47 (vi N) emp))))))) (by simp [put_at, slI, slP])).trans (loop_junk (bx := [St.c s, C.take i ++ vi v :: C.drop (i + 1)]) [[vi p.kind, vi p.len, vi p.res]] (by simp) _)
        rw [key]
        exact ih'
theorem exA {x : Option (Out × Env × Bx)} {o : Out} {bx : Bx} {Q : Env → Prop} (h : ∃ e', x = some (o, e', bx) ∧ Q e') : ∃ a, x = some a ∧ ∃ e', a = (o, e', bx) ∧ Q e' := by
  obtain ⟨e', h1, h2⟩ := h
  exact ⟨_, h1, e', rfl, h2⟩
theorem exB {x : Option (Out × Env × Bx)} {o : Out} {Q : Env → Prop} (h : ∃ e' bx', x = some (o, e', bx') ∧ Q e') : ∃ a, x = some a ∧ ∃ e' bx', a = (o, e', bx') ∧ Q e' := by
  obtain ⟨e', bx', h1, h2⟩ := h
  exact ⟨_, h1, e', bx', rfl, h2⟩
theorem waits_is (s : St) (hs : Sm s) (bs : List Int) (hb : ∀ b ∈ bs, I64' b) (n : Int) : pureOf (callL tab0 ext0) false 37 [.agg (St.c s), slI bs, vi n] = some (.tup [slI ((waitsS s bs n).getD []), vb (waitsS s bs n).isSome]) := by
  rw [pureOf_b, callL_tab _ _ rfl tab37 rfl]
  have h1 := okS_pure s hs.fits
  rcases (Bool.eq_false_or_eq_true (thereS s n)).symm with ht | ht
  · have e : waitsS s bs n = none := by unfold waitsS; rw [if_neg (by simp [ht])]
    rw [e]
    by_cases c1 : (chk s).2 = 0
    · have c1' : eqz (chk s).2 0 = true := by simp [eqz, c1]
      rw [c1] at h1
      have c2 : n < 0 ∨ (s.tasks.length : Int) ≤ n := by
        unfold thereS okS at ht
        simp [c1', eqz, c1] at ht
        omega
      clear ht
      simp only [St.c, slI, slT] at h1
      by_cases c3 : n < 0
      · simp [C37, push_cast, -Int.not_lt, -Int.not_le, ↓evI_call, ↓evI_calli, ↓evI_callv, ↓evI_mxn, St.c, slI, slT, h1, eqz_self, c3, frzK]
      · have c4 : (s.tasks.length : Int) ≤ n := by omega
        simp [C37, push_cast, -Int.not_lt, -Int.not_le, ↓evI_call, ↓evI_calli, ↓evI_callv, ↓evI_mxn, St.c, slI, slT, h1, eqz_self, c3, c4, frzK]
    · have c1' : eqz (chk s).2 0 = false := by simp [eqz, c1]
      generalize (chk s).2 = z at h1 c1'
      simp only [St.c, slI, slT] at h1
      simp [C37, push_cast, -Int.not_lt, -Int.not_le, ↓evI_call, ↓evI_calli, ↓evI_callv, ↓evI_mxn, St.c, slI, slT, h1, c1', frzK]
  obtain ⟨g, h0, hn⟩ := (thereS_iff s n).1 ht
  have c1 := (chk_good s).2 g
  rw [c1] at h1
  obtain ⟨m, rfl⟩ := nat_of n h0
  have hm : m < s.tasks.length := by omega
  have hm' : (m : Int) < s.tasks.length := by omega
  have c3 : ¬ (m : Int) < 0 := by omega
  have c4 : ¬ (s.tasks.length : Int) ≤ m := by omega
  have e : waitsS s bs m = if (fstP (waitBad s bs m) 0 s.tasks[m].parts.length).isNone = true then some (waitL s bs m s.tasks[m].parts.length) else none := by
    unfold waitsS; rw [if_pos ht]; simp [hm]
  rw [e]
  have hp := hs.parts _ (List.getElem_mem hm)
  have hsz : s.tasks[m].parts.length * 8 ≤ 70368744177664 := by omega
  have hszI : (s.tasks[m].parts.length : Int) * 8 ≤ 70368744177664 := by omega
  have hpos : 0 < s.tasks[m].parts.length := (g.task _ (List.getElem_mem hm)).parts.1
  have hlp := wa_loop s hs bs hb m hm _ rfl s.tasks[m].parts.length 0
  have hC0 : waitC s bs m s.tasks[m].parts.length 0 = List.replicate s.tasks[m].parts.length (vi 0) := by simp [waitC, waitL]
  have hCN : waitC s bs m s.tasks[m].parts.length s.tasks[m].parts.length = (waitL s bs m s.tasks[m].parts.length).map vi := by simp [waitC]
  have hlN := waitL_len s bs m s.tasks[m].parts.length
  rw [hC0, hCN] at hlp
  generalize waitL s bs m s.tasks[m].parts.length = w at hlp hlN ⊢
  generalize fstP (waitBad s bs m) 0 s.tasks[m].parts.length = f at hlp ⊢
  have hd := drop_tk s.tasks m hm
  simp only [St.c, slI, slT, slP, Tk.c] at h1 hlp hd
  simp [C37, push_cast, -Int.not_lt, -Int.not_le, ↓evI_call, ↓evI_calli, ↓evI_callv, ↓evI_mxn, St.c, slI, slT, slP, Tk.c, h1, eqz_self, c3, c4, hm, hm', hd, hsz, hszI, hpos]
  cases f with
  | none =>
    dsimp only at hlp
    have hq := fun (e : Env) (h : e 1 = .sl (bs.map vi) bs.length 0 ∧ e 2 = vi m ∧ e 3 = .ptr 0 0 ∧ e 10 = .bs 1 s.tasks[m].parts.length 1 ∧ e 46 = .sl (s.tasks[m].parts.flatMap Pt.c) s.tasks[m].parts.length 0 ∧ e 47 = vi s.tasks[m].parts.length ∧ e 48 = vi ((0 : Nat) : Int)) => exA (hlp e (by omega) h.1 h.2.1 h.2.2.1 h.2.2.2.1 h.2.2.2.2.1 h.2.2.2.2.2.1 h.2.2.2.2.2.2)
    refine behind (hq _ (by simp [put_at])) ?_
    rintro _ ⟨e', rfl, k10⟩
    simp [push_cast, -Int.not_lt, -Int.not_le, ↓evI_call, ↓evI_calli, ↓evI_callv, ↓evI_mxn, k10, frzK, ← hlN, plain_mapM (plain_vi _), -List.all_eq_true, -List.map_map]
    rw [List.take_of_length_le (by simp), plain_mapM (plain_vi _)]; rfl
  | some v =>
    dsimp only at hlp
    have hq := fun (e : Env) (h : e 1 = .sl (bs.map vi) bs.length 0 ∧ e 2 = vi m ∧ e 3 = .ptr 0 0 ∧ e 10 = .bs 1 s.tasks[m].parts.length 1 ∧ e 46 = .sl (s.tasks[m].parts.flatMap Pt.c) s.tasks[m].parts.length 0 ∧ e 47 = vi s.tasks[m].parts.length ∧ e 48 = vi ((0 : Nat) : Int)) => exB (hlp e (by omega) h.1 h.2.1 h.2.2.1 h.2.2.2.1 h.2.2.2.2.1 h.2.2.2.2.2.1 h.2.2.2.2.2.2)
    refine behind (hq _ (by simp [put_at])) ?_
    rintro _ ⟨e', bx', rfl, k6, k7⟩
    simp [push_cast, -Int.not_lt, -Int.not_le, ↓evI_call, ↓evI_calli, ↓evI_callv, ↓evI_mxn, k6, k7, frzK]
end Go.Proofs.YtclebnamhpgdmaaGreatEv
