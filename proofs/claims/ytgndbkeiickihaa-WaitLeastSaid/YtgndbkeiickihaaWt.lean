/- package wait: the program's, the reference's Part. -/
import Derived.Test.YtgndbkeiickihaaTk
set_option linter.unusedSimpArgs false
set_option linter.unusedVariables false
namespace Go.Proofs.YtgndbkeiickihaaEv
open Go
set_option maxHeartbeats 2000000
def partS (s : St) (bs : List Int) (n k : Int) : Option Int := if bs.length = s.tasks.length then (if eqz s.proto 1 = true then fairS s n k else if eqz s.proto 2 = true then agentS s bs n k else tokS s n k) else none
theorem part_is' (s : St) (hs : Sm s) (bs : List Int) (hb : ∀ b ∈ bs, I64' b) (n k : Int) : Ans (ansO (partS s bs n k)) [] (callL tab0 ext0 29 [.agg (St.c s), slI bs, vi n, vi k] []) := by
  rw [callL_tab _ _ rfl tab29 rfl]
  have h1 := pure_ansO (k := false) (fair_is s hs n k)
  have h2 := pure_ansO (k := false) (agent_is s hs bs hb n k)
  have h3 := pure_ansO (k := false) (tok_is s hs n k)
  unfold partS
  by_cases hl : bs.length = s.tasks.length
  · rw [if_pos hl]
    have hl' : eqz (bs.length : Int) s.tasks.length = true := by simp [eqz, hl]
    generalize fairS s n k = r1 at *
    generalize agentS s bs n k = r2 at *
    generalize tokS s n k = r3 at *
    simp only [St.c, slI, slT] at h1 h2 h3
    rcases (Bool.eq_false_or_eq_true (eqz s.proto 1)).symm with p1 | p1
    · rcases (Bool.eq_false_or_eq_true (eqz s.proto 2)).symm with p2 | p2
      · rw [if_neg (by simp [p1]), if_neg (by simp [p2])]
        simp [C29, push_cast, -Int.not_lt, -Int.not_le, ↓evI_call, ↓evI_calli, ↓evI_calln, ↓evI_callz, ↓evI_callv, ↓evI_mxn, St.c, slI, slT, hl', p1, p2, h3]
        exact Ans.nil rfl
      · rw [if_neg (by simp [p1]), if_pos p2]
        simp [C29, push_cast, -Int.not_lt, -Int.not_le, ↓evI_call, ↓evI_calli, ↓evI_calln, ↓evI_callz, ↓evI_callv, ↓evI_mxn, St.c, slI, slT, hl', p1, p2, h2]
        exact Ans.nil rfl
    · rw [if_pos p1]
      simp [C29, push_cast, -Int.not_lt, -Int.not_le, ↓evI_call, ↓evI_calli, ↓evI_calln, ↓evI_callz, ↓evI_callv, ↓evI_mxn, St.c, slI, slT, hl', p1, h1]
      exact Ans.nil rfl
  · rw [if_neg hl]
    have hl' : eqz (bs.length : Int) s.tasks.length = false := by simp [eqz]; omega
    simp [C29, push_cast, -Int.not_lt, -Int.not_le, ↓evI_call, ↓evI_calli, ↓evI_calln, ↓evI_callz, ↓evI_callv, ↓evI_mxn, St.c, slI, slT, hl']
    exact Ans.nil rfl
end Go.Proofs.YtgndbkeiickihaaEv
/- The waits of a task's parts. -/
namespace Go.Proofs.YtgndbkeiickihaaEv
open Go
set_option maxHeartbeats 4000000
def kindAt (s : St) (m i : Nat) : Int := ((s.tasks[m]?.bind fun t => t.parts[i]?).map Pt.kind).getD 0
theorem kindAt_is (s : St) (m i : Nat) (hm : m < s.tasks.length) (hi : i < s.tasks[m].parts.length) : kindAt s m i = s.tasks[m].parts[i].kind := by unfold kindAt; simp [hm, hi]
def waitF (s : St) (bs : List Int) (m i : Nat) : Option Int := if eqz (kindAt s m i) 3 = true then partS s bs m i else some 0
def waitBad (s : St) (bs : List Int) (m i : Nat) : Bool := !(waitF s bs m i).isSome
def waitV (s : St) (bs : List Int) (m i : Nat) : Int := (waitF s bs m i).getD 0
def waitL (s : St) (bs : List Int) (m i : Nat) : List Int := (List.range i).map (waitV s bs m)
theorem waitL_len (s bs m i) : (waitL s bs m i).length = i := by simp [waitL]
theorem waitL_step (s bs m i) : waitL s bs m (i + 1) = waitL s bs m i ++ [waitV s bs m i] := by unfold waitL; rw [List.range_succ, List.map_append]; rfl
def waitsS (s : St) (bs : List Int) (n : Int) : Option (List Int) := if thereS s n = true then (if (fstP (waitBad s bs n.toNat) 0 ((s.tasks[n.toNat]?.map fun t => t.parts.length).getD 0)).isNone = true then some (waitL s bs n.toNat ((s.tasks[n.toNat]?.map fun t => t.parts.length).getD 0)) else none) else none
end Go.Proofs.YtgndbkeiickihaaEv
/- wait.All, wait.Sum. -/
namespace Go.Proofs.YtgndbkeiickihaaEv
open Go
set_option maxHeartbeats 4000000
def waitC (s : St) (bs : List Int) (m N i : Nat) : List A := (waitL s bs m i ++ List.replicate (N - i) 0).map vi
theorem waitC_len (s bs m N i) (h : i ≤ N) : (waitC s bs m N i).length = N := by simp [waitC, waitL_len]; omega
theorem waitC_plain (s bs m N i) : (waitC s bs m N i).all A.plain = true := plain_vi _
theorem plainOwn' {l : List A} (h : l.all A.plain = true) : l.map A.own = l := by
  simp only [List.all_eq_true] at h
  refine (List.map_congr_left fun a ha => ?_).trans (List.map_id' l)
  have := h a ha
  cases a <;> simp_all [A.plain, A.own]
theorem waitC_set (s bs m N i) (h : i < N) : (waitC s bs m N i).take i ++ vi (waitV s bs m i) :: (waitC s bs m N i).drop (i + 1) = waitC s bs m N (i + 1) := by
  unfold waitC
  have e : N - i = (N - (i + 1)) + 1 := by omega
  rw [e, List.replicate_succ, List.map_append, List.map_cons]
  have := put_mid ((waitL s bs m i).map vi) ((List.replicate (N - (i + 1)) 0).map vi) (vi 0) (vi (waitV s bs m i)) i (by simp [waitL_len])
  rw [this, waitL_step, List.append_assoc, List.map_append, List.map_append]; rfl
theorem waitC_keep (s bs m N i) (h : i < N) (hv : waitV s bs m i = 0) : waitC s bs m N (i + 1) = waitC s bs m N i := by
  unfold waitC
  have e : N - i = (N - (i + 1)) + 1 := by omega
  rw [e, List.replicate_succ, waitL_step, hv, List.append_assoc]; rfl
theorem wa_loop (s : St) (hs : Sm s) (bs : List Int) (hb : ∀ b ∈ bs, I64' b) (m : Nat) (hm : m < s.tasks.length) (N : Nat) (hN : N = s.tasks[m].parts.length) : ∀ (k i : Nat) (e : Env), i + k = N → e 1 = slI bs → e 2 = vi m → e 3 = .ptr 0 0 → e 10 = .bs 1 N 1 → e 46 = slP s.tasks[m].parts → e 47 = vi N → e 48 = vi i →
    match fstP (waitBad s bs m) i k with
    | none => ∃ e', evL tab0 ext0 0 L27_0 (e, [St.c s, waitC s bs m N i]) = some (.ex 0, e', [St.c s, waitC s bs m N N]) ∧ e' 10 = .bs 1 N 1
    | some _ => ∃ e' bx', evL tab0 ext0 0 L27_0 (e, [St.c s, waitC s bs m N i]) = some (.ret, e', bx') ∧ e' 6 = .sl [] 0 2 ∧ e' 7 = vb false := by
  have hp := hs.parts _ (List.getElem_mem hm)
  intro k
  induction k with
  | zero =>
    intro i e hi h1 h2 h3 h10 h46 h47 h48
    obtain rfl : i = N := by omega
    have pd := plain_dang (m := 2) (waitC_plain s bs m i i)
    have po := plainOwn' (waitC_plain s bs m i i)
    generalize waitC s bs m i i = C at pd po ⊢
    exact ⟨_, (go27_0 _ _).trans (by simp [B27_0, push_cast, -Int.not_lt, -Int.not_le, ↓evI_call, ↓evI_calli, ↓evI_calln, ↓evI_callz, ↓evI_callv, ↓evI_mxn, loopIn, loopIn0, keepL, emp, A.dang, A.dangC, St.c, slI, slT, slP, h1, h2, h3, h10, h46, h47, h48, pd, po, -List.all_eq_true, -List.map_map]; rfl), by simp [put_at]⟩
  | succ k ih =>
    intro i e hi h1 h2 h3 h10 h46 h47 h48
    have hiN : i < N := by omega
    have hil : i < s.tasks[m].parts.length := by omega
    have hi' : (i : Int) < N := by omega
    have hi2 : (i : Int) < s.tasks[m].parts.length := by omega
    have hw : IntKind.wrap .i64 ((i : Int) + 1) = (i : Int) + 1 := wrap_in _ (by omega) (by omega)
    have hc := pure_ansO (k := false) (part_is' s hs bs hb m i)
    have hq := drop_pt s.tasks[m].parts i hil
    have pd := plain_dang (m := 2) (waitC_plain s bs m N i)
    have po := plainOwn' (waitC_plain s bs m N i)
    have hlC := waitC_len s bs m N i (by omega)
    have e1 : waitBad s bs m i = (eqz s.tasks[m].parts[i].kind 3 && !(partS s bs m i).isSome) := by
      unfold waitBad waitF; rw [kindAt_is s m i hm hil]; cases eqz s.tasks[m].parts[i].kind 3 <;> simp
    have e2 : waitV s bs m i = if eqz s.tasks[m].parts[i].kind 3 = true then (partS s bs m i).getD 0 else 0 := by
      unfold waitV waitF; rw [kindAt_is s m i hm hil]; split <;> rfl
    have hset := waitC_set s bs m N i hiN
    have hkeep := waitC_keep s bs m N i hiN
    have ih' := ih (i + 1) (put 48 (vi ((i : Int) + 1)) (put 1 (slI bs) (put 2 (vi m) (put 3 (.ptr 0 0) (put 10 (.bs 1 N 1) (put 46 (slP s.tasks[m].parts) (put 47 (vi N) emp))))))) (by omega) (by simp [put_at]) (by simp [put_at]) (by simp [put_at]) (by simp [put_at]) (by simp [put_at]) (by simp [put_at]) (by simp [put_at])
    rw [fstP, e1]
    rw [e2] at hset hkeep
    have hB1 : i + 1 ≤ N := by omega
    generalize partS s bs m i = r at *
    obtain ⟨p, hpp⟩ : ∃ p, p = s.tasks[m].parts[i] := ⟨_, rfl⟩
    rw [← hpp] at hq hset hkeep ⊢
    rcases (Bool.eq_false_or_eq_true (eqz p.kind 3)).symm with hk | hk
    · have hkeep := hkeep (by rw [hk]; rfl)
      rw [hkeep] at ih'
      rw [hk]
      generalize waitC s bs m N i = C at *
      have key : evL tab0 ext0 0 L27_0 (e, [St.c s, C]) = evL tab0 ext0 0 L27_0 (put 48 (vi ((i : Int) + 1)) (put 1 (slI bs) (put 2 (vi m) (put 3 (.ptr 0 0) (put 10 (.bs 1 N 1) (put 46 (slP s.tasks[m].parts) (put 47 (vi N) emp)))))), [St.c s, C]) := by
        refine (go27_0 _ _).trans ?_
        simp only [St.c, slI, slT] at hc
        simp [B27_0, push_cast, -Int.not_lt, -Int.not_le, ↓evI_call, ↓evI_calli, ↓evI_calln, ↓evI_callz, ↓evI_callv, ↓evI_mxn, loopIn, loopIn0, keepL, emp, A.dang, A.dangC, St.c, slI, slT, slP, Pt.c, h1, h2, h3, h10, h46, h47, h48, pd, po, hi', hi2, hil, hq, hk, hw, -List.all_eq_true, -List.map_map]
        exact (loop_env (e' := put 48 (vi ((i : Int) + 1)) (put 1 (slI bs) (put 2 (vi m) (put 3 (.ptr 0 0) (put 10 (.bs 1 N 1) (put 46 (slP s.tasks[m].parts) (put 47 (vi N) emp))))))) (by simp [put_at, slI, slP])).trans (loop_junk (bx := [St.c s, C]) [[vi p.kind, vi p.len, vi p.res]] (by simp) _)
      rw [key]
      exact ih'
    · rw [hk] at hset ⊢
      simp only [if_true] at hset
      have ih'' := ih'
      cases r with
      | none =>
        simp only [Option.isSome_none, Bool.not_false, Bool.and_self, if_true]
        generalize waitC s bs m N i = C at *
        simp only [St.c, slI, slT] at hc
        exact ⟨_, _, (go27_0 _ _).trans (by simp [B27_0, push_cast, -Int.not_lt, -Int.not_le, ↓evI_call, ↓evI_calli, ↓evI_calln, ↓evI_callz, ↓evI_callv, ↓evI_mxn, loopIn, loopIn0, keepL, emp, A.dang, A.dangC, St.c, slI, slT, slP, Pt.c, h1, h2, h3, h10, h46, h47, h48, pd, po, hi', hi2, hil, hq, hk, hw, hc, -List.all_eq_true, -List.map_map]; exact ⟨rfl, rfl⟩), by simp [put_at], by simp [put_at]⟩
      | some v =>
        simp only [Option.isSome_some, Bool.not_true, Bool.and_false, Bool.false_eq_true, if_false]
        simp only [Option.getD_some] at hset
        rw [← hset] at ih'
        generalize waitC s bs m N i = C at *
        have key : evL tab0 ext0 0 L27_0 (e, [St.c s, C]) = evL tab0 ext0 0 L27_0 (put 48 (vi ((i : Int) + 1)) (put 1 (slI bs) (put 2 (vi m) (put 3 (.ptr 0 0) (put 10 (.bs 1 N 1) (put 46 (slP s.tasks[m].parts) (put 47 (vi N) emp)))))), [St.c s, C.take i ++ vi v :: C.drop (i + 1)]) := by
          refine (go27_0 _ _).trans ?_
          simp only [St.c, slI, slT] at hc
          simp [B27_0, push_cast, -Int.not_lt, -Int.not_le, ↓evI_call, ↓evI_calli, ↓evI_calln, ↓evI_callz, ↓evI_callv, ↓evI_mxn, loopIn, loopIn0, keepL, emp, A.dang, A.dangC, St.c, slI, slT, slP, Pt.c, h1, h2, h3, h10, h46, h47, h48, pd, po, hi', hi2, hil, hiN, hq, hk, hw, hc, hlC, hB1, -List.all_eq_true, -List.map_map]
          exact (loop_env (e' := put 48 (vi ((i : Int) + 1)) (put 1 (slI bs) (put 2 (vi m) (put 3 (.ptr 0 0) (put 10 (.bs 1 N 1) (put 46 (slP s.tasks[m].parts) (put 47 (vi N) emp))))))) (by simp [put_at, slI, slP])).trans (loop_junk (bx := [St.c s, C.take i ++ vi v :: C.drop (i + 1)]) [[vi p.kind, vi p.len, vi p.res]] (by simp) _)
        rw [key]
        exact ih'
theorem exA {x : Option (Out × Env × Bx)} {o : Out} {bx : Bx} {Q : Env → Prop} (h : ∃ e', x = some (o, e', bx) ∧ Q e') : ∃ a, x = some a ∧ ∃ e', a = (o, e', bx) ∧ Q e' := by
  obtain ⟨e', h1, h2⟩ := h
  exact ⟨_, h1, e', rfl, h2⟩
theorem exB {x : Option (Out × Env × Bx)} {o : Out} {Q : Env → Prop} (h : ∃ e' bx', x = some (o, e', bx') ∧ Q e') : ∃ a, x = some a ∧ ∃ e' bx', a = (o, e', bx') ∧ Q e' := by
  obtain ⟨e', bx', h1, h2⟩ := h
  exact ⟨_, h1, e', bx', rfl, h2⟩
theorem waits_is (s : St) (hs : Sm s) (bs : List Int) (hb : ∀ b ∈ bs, I64' b) (n : Int) : pureOf (callL tab0 ext0) false 27 [.agg (St.c s), slI bs, vi n] = some (.tup [slI ((waitsS s bs n).getD []), vb (waitsS s bs n).isSome]) := by
  rw [pureOf_b, callL_tab _ _ rfl tab27 rfl]
  have h1 := okS_pure s hs.fits
  rcases (Bool.eq_false_or_eq_true (thereS s n)).symm with ht | ht
  · have e : waitsS s bs n = none := by unfold waitsS; rw [if_neg (by simp [ht])]
    rw [e]
    by_cases c1 : (chk s).2 = 0
    · have c1' : eqz (chk s).2 0 = true := by simp [eqz, c1]
      rw [c1] at h1
      have c2 : n < 0 ∨ (s.tasks.length : Int) ≤ n := by
        unfold thereS okS at ht
        simp [c1', eqz, c1] at ht
        omega
      clear ht
      simp only [St.c, slI, slT] at h1
      by_cases c3 : n < 0
      · simp [C27, push_cast, -Int.not_lt, -Int.not_le, ↓evI_call, ↓evI_calli, ↓evI_calln, ↓evI_callz, ↓evI_callv, ↓evI_mxn, St.c, slI, slT, h1, eqz_self, c3, frzK]
      · have c4 : (s.tasks.length : Int) ≤ n := by omega
        simp [C27, push_cast, -Int.not_lt, -Int.not_le, ↓evI_call, ↓evI_calli, ↓evI_calln, ↓evI_callz, ↓evI_callv, ↓evI_mxn, St.c, slI, slT, h1, eqz_self, c3, c4, frzK]
    · have c1' : eqz (chk s).2 0 = false := by simp [eqz, c1]
      generalize (chk s).2 = z at h1 c1'
      simp only [St.c, slI, slT] at h1
      simp [C27, push_cast, -Int.not_lt, -Int.not_le, ↓evI_call, ↓evI_calli, ↓evI_calln, ↓evI_callz, ↓evI_callv, ↓evI_mxn, St.c, slI, slT, h1, c1', frzK]
  obtain ⟨g, h0, hn⟩ := (thereS_iff s n).1 ht
  have c1 := (chk_good s).2 g
  rw [c1] at h1
  obtain ⟨m, rfl⟩ := nat_of n h0
  have hm : m < s.tasks.length := by omega
  have hm' : (m : Int) < s.tasks.length := by omega
  have c3 : ¬ (m : Int) < 0 := by omega
  have c4 : ¬ (s.tasks.length : Int) ≤ m := by omega
  have e : waitsS s bs m = if (fstP (waitBad s bs m) 0 s.tasks[m].parts.length).isNone = true then some (waitL s bs m s.tasks[m].parts.length) else none := by
    unfold waitsS; rw [if_pos ht]; simp [hm]
  rw [e]
  have hp := hs.parts _ (List.getElem_mem hm)
  have hsz : s.tasks[m].parts.length * 8 ≤ 70368744177664 := by omega
  have hszI : (s.tasks[m].parts.length : Int) * 8 ≤ 70368744177664 := by omega
  have hpos : 0 < s.tasks[m].parts.length := (g.task _ (List.getElem_mem hm)).parts.1
  have hlp := wa_loop s hs bs hb m hm _ rfl s.tasks[m].parts.length 0
  have hC0 : waitC s bs m s.tasks[m].parts.length 0 = List.replicate s.tasks[m].parts.length (vi 0) := by simp [waitC, waitL]
  have hCN : waitC s bs m s.tasks[m].parts.length s.tasks[m].parts.length = (waitL s bs m s.tasks[m].parts.length).map vi := by simp [waitC]
  have hlN := waitL_len s bs m s.tasks[m].parts.length
  rw [hC0, hCN] at hlp
  generalize waitL s bs m s.tasks[m].parts.length = w at hlp hlN ⊢
  generalize fstP (waitBad s bs m) 0 s.tasks[m].parts.length = f at hlp ⊢
  have hd := drop_tk s.tasks m hm
  simp only [St.c, slI, slT, slP, Tk.c] at h1 hlp hd
  simp [C27, push_cast, -Int.not_lt, -Int.not_le, ↓evI_call, ↓evI_calli, ↓evI_calln, ↓evI_callz, ↓evI_callv, ↓evI_mxn, St.c, slI, slT, slP, Tk.c, h1, eqz_self, c3, c4, hm, hm', hd, hsz, hszI, hpos]
  cases f with
  | none =>
    dsimp only at hlp
    have hq := fun (e : Env) (h : e 1 = .sl (bs.map vi) bs.length 0 ∧ e 2 = vi m ∧ e 3 = .ptr 0 0 ∧ e 10 = .bs 1 s.tasks[m].parts.length 1 ∧ e 46 = .sl (s.tasks[m].parts.flatMap Pt.c) s.tasks[m].parts.length 0 ∧ e 47 = vi s.tasks[m].parts.length ∧ e 48 = vi ((0 : Nat) : Int)) => exA (hlp e (by omega) h.1 h.2.1 h.2.2.1 h.2.2.2.1 h.2.2.2.2.1 h.2.2.2.2.2.1 h.2.2.2.2.2.2)
    refine behind (hq _ (by simp [put_at])) ?_
    rintro _ ⟨e', rfl, k10⟩
    simp [push_cast, -Int.not_lt, -Int.not_le, ↓evI_call, ↓evI_calli, ↓evI_calln, ↓evI_callz, ↓evI_callv, ↓evI_mxn, k10, frzK, ← hlN, plain_mapM (plain_vi _), -List.all_eq_true, -List.map_map]
    rw [List.take_of_length_le (by simp), plain_mapM (plain_vi _)]; rfl
  | some v =>
    dsimp only at hlp
    have hq := fun (e : Env) (h : e 1 = .sl (bs.map vi) bs.length 0 ∧ e 2 = vi m ∧ e 3 = .ptr 0 0 ∧ e 10 = .bs 1 s.tasks[m].parts.length 1 ∧ e 46 = .sl (s.tasks[m].parts.flatMap Pt.c) s.tasks[m].parts.length 0 ∧ e 47 = vi s.tasks[m].parts.length ∧ e 48 = vi ((0 : Nat) : Int)) => exB (hlp e (by omega) h.1 h.2.1 h.2.2.1 h.2.2.2.1 h.2.2.2.2.1 h.2.2.2.2.2.1 h.2.2.2.2.2.2)
    refine behind (hq _ (by simp [put_at])) ?_
    rintro _ ⟨e', bx', rfl, k6, k7⟩
    simp [push_cast, -Int.not_lt, -Int.not_le, ↓evI_call, ↓evI_calli, ↓evI_calln, ↓evI_callz, ↓evI_callv, ↓evI_mxn, k6, k7, frzK]
end Go.Proofs.YtgndbkeiickihaaEv
/- wait.Sum, the reference's. -/
namespace Go.Proofs.YtgndbkeiickihaaEv
open Go
set_option maxHeartbeats 2000000
theorem fairS_b {s : St} {n k x : Int} (h : fairS s n k = some x) : 1 ≤ x ∧ x ≤ 10000 := by
  unfold fairS at h
  obtain ⟨p, hp, rfl⟩ := Option.map_eq_some_iff.1 h
  obtain ⟨g, m, j, hm, hj, en, ek, ep, hk⟩ := lockS_some hp
  have h1 : 1 ≤ p.len ∧ p.len ≤ 60 := by rw [ep]; exact (g.pts (List.getElem_mem hm)).2 _ (List.getElem_mem hj)
  have h2 := othSum_bounds g n
  omega
theorem tokS_b {s : St} {n k x : Int} (h : tokS s n k = some x) : 1 ≤ x ∧ x ≤ 10000 := by
  unfold tokS at h
  obtain ⟨y, hy, rfl⟩ := Option.map_eq_some_iff.1 h
  have h1 := tokIn_b hy
  have h2 := out_bounds s n
  omega
theorem agentS_b' {s : St} {bs : List Int} {n k x : Int} (h : agentS s bs n k = some x) : 1 ≤ x ∧ x ≤ 10000 := by
  unfold agentS at h
  split at h
  · cases hk : lockS s n k with
    | none => rw [hk] at h; cases h
    | some p =>
      rw [hk] at h
      simp only [Option.bind_some] at h
      obtain ⟨h1, h2, h3, _⟩ := lfp_some.1 h
      have := least_bounds hk
      omega
  · cases h
theorem partS_b {s : St} {bs : List Int} {n k x : Int} (h : partS s bs n k = some x) : 1 ≤ x ∧ x ≤ 10000 := by
  unfold partS at h
  split at h
  · split at h
    · exact fairS_b h
    · split at h
      · exact agentS_b' h
      · exact tokS_b h
  · cases h
theorem waitV_b (s : St) (bs : List Int) (m i : Nat) : 0 ≤ waitV s bs m i ∧ waitV s bs m i ≤ 10000 := by
  unfold waitV waitF
  split
  · cases h : partS s bs m i with
    | none => simp
    | some x => have := partS_b h; simp; omega
  · simp
def wsumS (s : St) (bs : List Int) (n : Int) : Int := sumL id ((waitsS s bs n).getD [])
theorem waits_b {s : St} {bs : List Int} {n : Int} : ((waitsS s bs n).getD []).length ≤ ((s.tasks[n.toNat]?.map fun t => t.parts.length).getD 0) ∧ ∀ x ∈ (waitsS s bs n).getD [], 0 ≤ x ∧ x ≤ 10000 := by
  unfold waitsS
  split
  · split
    · simp only [Option.getD_some, waitL_len]
      refine ⟨Nat.le_refl _, fun x hx => ?_⟩
      unfold waitL at hx
      obtain ⟨i, _, rfl⟩ := List.mem_map.1 hx
      exact waitV_b ..
    · simp
  · simp
theorem waits_few {s : St} (hs : Sm s) (bs : List Int) (n : Int) : ((waitsS s bs n).getD []).length ≤ 10 := by
  have h := (waits_b (s := s) (bs := bs) (n := n)).1
  cases h2 : s.tasks[n.toNat]? with
  | none => rw [h2] at h; simp only [Option.map_none, Option.getD_none] at h; omega
  | some t => rw [h2] at h; simp at h; have := hs.parts t (List.mem_of_getElem? h2); omega
theorem w_take {l : List Int} (h : ∀ x ∈ l, 0 ≤ x ∧ x ≤ 10000) (hl : l.length ≤ 10) (i : Nat) : 0 ≤ sumL id (l.take i) ∧ sumL id (l.take i) ≤ 100000 := by
  have h2 := fun x hx => h x (List.mem_of_mem_take (i := i) hx)
  have h3 := sumL_ge id _ fun x hx => (h2 x hx).1
  have h4 := sumL_le id 10000 _ fun x hx => (h2 x hx).2
  have h5 : (l.take i).length ≤ 10 := by rw [List.length_take]; omega
  omega
theorem ws_loop (s : St) (l : List Int) (h : ∀ x ∈ l, 0 ≤ x ∧ x ≤ 10000) (hl : l.length ≤ 10) (b : Bool) :
    ∀ d i (e : Env), i + d = l.length → (e 9 = vb b ∧ e 10 = vi (sumL id (l.take i)) ∧ e 20 = slI l ∧ e 21 = vi l.length ∧ e 22 = vi i) → ∃ zz, evL tab0 ext0 0 L40_0 (e, [St.c s]) = some zz ∧ FQ (fun _ => false) ([St.c s]) 0 (fun _ _ => True) (fun e => e 9 = vb b ∧ e 10 = vi (sumL id l)) i d zz := by
  refine fq_loop (St := fun i e => e 9 = vb b ∧ e 10 = vi (sumL id (l.take i)) ∧ e 20 = slI l ∧ e 21 = vi l.length ∧ e 22 = vi i) _ _ _ _ _ ?_ ?_
  · rintro e ⟨g0, g1, g2, g3, g4⟩
    exact ⟨_, (go40_0 _ _).trans (by simp [B40_0, push_cast, -Int.not_lt, -Int.not_le, ↓evI_call, ↓evI_calli, ↓evI_calln, ↓evI_callz, ↓evI_callv, ↓evI_mxn, loopIn, loopIn0, keepL, emp, A.dang, A.dangC, g0, g1, g2, g3, g4, slI, slT, St.c]; rfl), by simp [put_at, g0, g1]⟩
  · rintro i e hi ⟨g0, g1, g2, g3, g4⟩
    rw [go40_0]
    have hi' : (i : Int) < (l.length : Nat) := by omega
    have hw : IntKind.wrap .i64 ((i : Int) + 1) = (i : Int) + 1 := wrap_in _ (by omega) (by omega)
    rw [sumL_take _ _ _ hi]
    have h1 := w_take h hl i
    have h2 := h _ (List.getElem_mem hi)
    have hw2 : IntKind.wrap .i64 (sumL id (l.take i) + l[i]) = sumL id (l.take i) + l[i] := wrap_in _ (by omega) (by omega)
    simp +contextual (maxSteps := 400000) [B40_0, push_cast, -Int.not_lt, -Int.not_le, ↓evI_call, ↓evI_calli, ↓evI_calln, ↓evI_callz, ↓evI_callv, ↓evI_mxn, loopIn, loopIn0, keepL, emp, A.dang, A.dangC, g0, g1, g2, g3, g4, hi, hi', slI, slT, St.c, drop_int _ i hi, hw, hw2]
    (repeat' refine Step.split (fun cc => ?_) (fun cc => ?_)) <;> first | (refine Step.ret0 ?_ ?_ <;> first | (simp_all [put_at, eqz]; done) | (simp [put_at, *]; done) | ((try simp [eqz] at *); omega)) | (refine Step.go ?_ ?_ <;> first | (simp_all [put_at, eqz]; done) | (simp [put_at, *]; done) | ((try simp [eqz] at *); omega)) | (refine Step.ret _ ?_ ?_ <;> first | (simp_all [put_at, eqz]; done) | (simp [put_at, *]; done) | ((try simp [eqz] at *); omega)) | (refine Step.goJ _ (by simp) ?_ ?_ <;> first | (simp_all [put_at, eqz]; done) | (simp [put_at, *]; done) | ((try simp [eqz] at *); omega))
theorem wsum_is (s : St) (hs : Sm s) (bs : List Int) (hb : ∀ b ∈ bs, I64' b) (n : Int) : Ans (.tup [vi (wsumS s bs n), vb (waitsS s bs n).isSome]) [] (callL tab0 ext0 40 [.agg (St.c s), slI bs, vi n] []) := by
  rw [callL_tab _ _ rfl tab40 rfl]
  have h1 := waits_is s hs bs hb n
  unfold wsumS
  have hlp := ws_loop s ((waitsS s bs n).getD []) waits_b.2 (waits_few hs bs n) (waitsS s bs n).isSome ((waitsS s bs n).getD []).length 0
  generalize (waitsS s bs n).getD [] = l at *
  generalize (waitsS s bs n).isSome = b at *
  simp only [St.c, slI, slT] at h1 hlp
  simp [C40, push_cast, -Int.not_lt, -Int.not_le, ↓evI_call, ↓evI_calli, ↓evI_calln, ↓evI_callz, ↓evI_callv, ↓evI_mxn, St.c, slI, slT, h1]
  refine behindP (P := fun r => Ans _ [] r) (hlp _ (by omega) (by simp [put_at, sumL])) ?_
  intro a h
  obtain ⟨e', rfl, hx⟩ := h.never; clear h; have h := hx
  simp [push_cast, -Int.not_lt, -Int.not_le, ↓evI_call, ↓evI_calli, ↓evI_calln, ↓evI_callz, ↓evI_callv, ↓evI_mxn, h]
  exact Ans.nil rfl
end Go.Proofs.YtgndbkeiickihaaEv
