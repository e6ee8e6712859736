/- swingbridgelaw8.TaskTwice. -/
import Derived.Test.YtkohggddaheefaaCopy
import Derived.Test.YtkohggddaheefaaRef7
import Derived.Test.YtkohggddaheefaaTsk
import Derived.Test.YtkohggddaheefaaTaTwP
import Derived.Test.YtkohggddaheefaaIn1
set_option linter.unusedSimpArgs false
set_option linter.unusedVariables false
namespace Go.Proofs.YtkohggddaheefaaEv
open Go
set_option maxHeartbeats 4000000
/-! ### the copy -/
def tkc2 (t : Tk) : List A := [vs t.name, vi t.period, vi t.deadline, vi t.prio, vi t.cluster, .sl (t.parts.flatMap Pt.c) t.parts.length 2]
def cpT (s : St) (i : Nat) : List A := (s.tasks.take i).flatMap tkc2 ++ (s.tasks.drop i).flatMap Tk.c
theorem len_tk2 (l : List Tk) : (l.flatMap tkc2).length = l.length * 6 := len_flat _ 6 (fun _ => rfl) l
theorem cpT_len (s : St) (i : Nat) (hi : i ≤ s.tasks.length) : (cpT s i).length = s.tasks.length * 6 := by
  unfold cpT
  rw [List.length_append, len_tk2, len_tk, List.length_take, List.length_drop, ← Nat.add_mul]
  congr 1; omega
theorem cpT_step (s : St) (i : Nat) (hi : i < s.tasks.length) : (cpT s i).take (i * 6 + 5) ++ .sl (s.tasks[i].parts.flatMap Pt.c) s.tasks[i].parts.length 2 :: (cpT s i).drop (i * 6 + 5 + 1) = cpT s (i + 1) := by
  have hA : ((s.tasks.take i).flatMap tkc2).length = i * 6 := by rw [len_tk2, List.length_take]; congr 1; omega
  have e1 : s.tasks.drop i = s.tasks[i] :: s.tasks.drop (i + 1) := List.drop_eq_getElem_cons hi
  have e2 : s.tasks.take (i + 1) = s.tasks.take i ++ [s.tasks[i]] := by rw [List.take_add_one, List.getElem?_eq_getElem hi]; rfl
  unfold cpT
  rw [e2, List.flatMap_append, e1, List.flatMap_cons]
  have hc : Tk.c s.tasks[i] = [vs s.tasks[i].name, vi s.tasks[i].period, vi s.tasks[i].deadline, vi s.tasks[i].prio, vi s.tasks[i].cluster, slP s.tasks[i].parts] := rfl
  have hc2 : [s.tasks[i]].flatMap tkc2 = [vs s.tasks[i].name, vi s.tasks[i].period, vi s.tasks[i].deadline, vi s.tasks[i].prio, vi s.tasks[i].cluster, .sl (s.tasks[i].parts.flatMap Pt.c) s.tasks[i].parts.length 2] := rfl
  rw [hc2, hc]
  generalize (s.tasks.take i).flatMap tkc2 = X at *
  generalize (s.tasks.drop (i + 1)).flatMap Tk.c = Y at *
  rw [List.take_append, List.take_of_length_le (by omega), hA, Nat.add_sub_cancel_left, Nat.add_assoc, List.drop_append, List.drop_of_length_le (by omega), hA, Nat.add_sub_cancel_left]
  simp
theorem cpT_own (s : St) (i : Nat) : (cpT s i).map A.own = cpT s i := by
  unfold cpT
  rw [List.map_append, plain_own (plain_tk _)]
  congr 1
  induction s.tasks.take i with
  | nil => rfl
  | cons t l ih => rw [List.flatMap_cons, List.map_append, ih]; rfl
theorem cpT_dang (s : St) (i m : Nat) : (cpT s i).all (A.dangC m) = true := by
  unfold cpT
  rw [List.all_append, plain_dang (plain_tk _), Bool.and_true]
  induction s.tasks.take i with
  | nil => rfl
  | cons t l ih => rw [List.flatMap_cons, List.all_append, ih]; rfl
theorem cpT_cp (s : St) : (cpT s s.tasks.length).map A.cp1 = s.tasks.flatMap Tk.c := by
  unfold cpT
  rw [List.drop_length, List.flatMap_nil, List.append_nil, List.take_length]
  induction s.tasks with
  | nil => rfl
  | cons t l ih => rw [List.flatMap_cons, List.map_append, ih]; rfl
theorem cpT_zero (s : St) : cpT s 0 = s.tasks.flatMap Tk.c := by simp [cpT]
def xS (s : St) : List A := [vi s.proto, .sl (s.cores.map vi) s.cores.length 2, .sl (s.homes.map vi) s.homes.length 2, .bs 4 s.tasks.length 6]
def EXC {α : Type} (Q : α → Prop) (r : Option α) : Prop := ∃ zz, r = some zz ∧ Q zz
def CoQ (s : St) (zz : Out × Env × Bx) : Prop := ∃ e', zz = (.ex 0, e', [St.c s, St.c s, z4, xS s, cpT s s.tasks.length]) ∧ e' 2 = .ptr 2 0 ∧ e' 3 = .ptr 3 0
theorem co_own (s : St) (T : List A) (e : Env) : evL tab0 ext0 1 L23_0 (e, [St.c s, St.c s, [vi 0, .sl [] 0 1, .sl [] 0 1, .sl [] 0 1], xS s, T]) = evL tab0 ext0 1 L23_0 (e, [St.c s, St.c s, z4, xS s, T]) := by
  rw [go23_0, go23_0]
  congr 1
theorem co_loop (s : St) (hs : Sm s) : ∀ (d i : Nat) (e : Env), i + d = s.tasks.length → e 1 = .ptr 1 0 → e 2 = .ptr 2 0 → e 3 = .ptr 3 0 → e 4 = vi i →
    EXC (CoQ s) (evL tab0 ext0 1 L23_0 (e, [St.c s, St.c s, z4, xS s, cpT s i])) := by
  have h9 := hs.tasks
  intro d
  induction d with
  | zero =>
    intro i e hi h1 h2 h3 h4
    obtain rfl : i = s.tasks.length := by omega
    have p1 := cpT_own s s.tasks.length
    have p2 := cpT_dang s s.tasks.length 5
    unfold CoQ
    generalize cpT s s.tasks.length = T at *
    rw [go23_0]
    simp [B23_0, push_cast, -Int.not_lt, -Int.not_le, ↓evI_call, ↓evI_calli, ↓evI_calln, ↓evI_callz, ↓evI_callv, ↓evI_mxn, loopIn, loopIn0, keepL, emp, A.dang, A.dangC, h1, h2, h3, h4, St.c, slI, slT, xS, z4, p1, p2, -List.all_eq_true]
    exact ⟨_, rfl, _, rfl, by simp [put_at], by simp [put_at]⟩
  | succ d ih =>
    intro i e hi h1 h2 h3 h4
    have hi1 : i < s.tasks.length := by omega
    have hi2 : (i : Int) < s.tasks.length := by omega
    have hw : IntKind.wrap .i64 ((i : Int) + 1) = (i : Int) + 1 := wrap_in _ (by omega) (by omega)
    have p1 := cpT_own s i
    have p2 := cpT_dang s i 5
    have p3 := cpT_len s i (by omega)
    have p4 := cpT_step s i hi1
    have hd := drop_tk s.tasks i hi1
    have hp := hs.parts _ (List.getElem_mem hi1)
    have hl3 := len_pt s.tasks[i].parts
    have hsz : s.tasks[i].parts.length * 24 ≤ 70368744177664 := by omega
    have p5 : i * 6 + 6 ≤ (cpT s i).length := by omega
    have p6 : i * 6 + 5 + 1 ≤ (cpT s i).length := by omega
    have ih1 := ih (i + 1)
    generalize cpT s i = T at *
    simp only [Tk.c, slP] at hd
    rw [go23_0]
    simp (maxSteps := 400000) [B23_0, push_cast, -Int.not_lt, -Int.not_le, ↓evI_call, ↓evI_calli, ↓evI_calln, ↓evI_callz, ↓evI_callv, ↓evI_mxn, loopIn, loopIn0, keepL, emp, A.dang, A.dangC, h1, h2, h3, h4, St.c, slI, slT, xS, z4, hi1, hi2, hw, p1, p2, p4, p5, p6, hd, hl3, hsz, asList, -List.all_eq_true]
    apply ih1
    all_goals first | omega | (simp [put_at]; done)
theorem copied_is (s : St) (hs : Sm s) (hN : 0 < s.tasks.length) : callL tab0 ext0 23 [.agg (St.c s)] [St.c s] = some (.agg [vi s.proto, .sl (s.cores.map vi) s.cores.length 0, .sl (s.homes.map vi) s.homes.length 0, .bs 4 s.tasks.length 6], [St.c s, St.c s, [vi s.proto, .sl (s.cores.map vi) s.cores.length 0, .sl (s.homes.map vi) s.homes.length 0, .bs 4 s.tasks.length 6], xS s, cpT s s.tasks.length]) := by
  rw [callL_tab _ _ rfl tab23 rfl]
  have h9 := hs.tasks
  have hc8 := hs.cores
  have hh10 := hs.homes
  have s1 : s.cores.length * 8 ≤ 70368744177664 := by omega
  have s2 : s.homes.length * 8 ≤ 70368744177664 := by omega
  have s3 : s.tasks.length * 72 ≤ 70368744177664 := by omega
  have hl := len_tk s.tasks
  have pn := plain_norm (plain_tk s.tasks)
  have hlp := fun e => co_loop s hs s.tasks.length 0 e (by omega)
  simp only [← co_own] at hlp
  rw [cpT_zero] at hlp
  unfold CoQ at hlp
  simp only [St.c, slI, slT, xS] at hlp ⊢
  generalize cpT s s.tasks.length = T2 at *
  generalize s.tasks.flatMap Tk.c = T at *
  simp (maxSteps := 400000) [C23, push_cast, -Int.not_lt, -Int.not_le, ↓evI_call, ↓evI_calli, ↓evI_calln, ↓evI_callz, ↓evI_callv, ↓evI_mxn, s1, s2, s3, hl, hN, pn, asList, -List.all_eq_true]
  refine behind (hlp _ (by simp [put_at]) (by simp [put_at]) (by simp [put_at]) (by simp [put_at])) ?_
  rintro _ ⟨e', rfl, k2, k3⟩
  simp [push_cast, -Int.not_lt, -Int.not_le, ↓evI_call, ↓evI_calli, ↓evI_calln, ↓evI_callz, ↓evI_callv, ↓evI_mxn, k2, k3, z4]
/-! ### the law -/
theorem strip5 (s : St) : strip [St.c s, St.c s, [vi s.proto, .sl (s.cores.map vi) s.cores.length 0, .sl (s.homes.map vi) s.homes.length 0, .bs 4 s.tasks.length 6], xS s, cpT s s.tasks.length] = [St.c s, St.c s, [vi s.proto, .sl (s.cores.map vi) s.cores.length 0, .sl (s.homes.map vi) s.homes.length 0, .bs 4 s.tasks.length 6], [vi s.proto, .sl (s.cores.map vi) s.cores.length 0, .sl (s.homes.map vi) s.homes.length 0, .bs 4 s.tasks.length 6], s.tasks.flatMap Tk.c] := by
  rw [← cpT_cp]; rfl
theorem mix_prio (a b : Tk) : Tk.c (mixT true a b) = (Tk.c a).take 3 ++ vi b.prio :: (Tk.c a).drop (3 + 1) := rfl
theorem mix_name (a b : Tk) : Tk.c (mixT false a b) = (Tk.c a).take 0 ++ vs b.name :: (Tk.c a).drop (0 + 1) := rfl
theorem mix_fits {s : St} (hs : Sm s) {i j : Nat} (hi : i < s.tasks.length) (hj : j < s.tasks.length) (pr : Bool) : Sm (twS s i (mixT pr s.tasks[i] s.tasks[j])) := by
  have hm : ∀ t ∈ (twS s i (mixT pr s.tasks[i] s.tasks[j])).tasks, t.parts.length ≤ 10 ∧ t.name.size ≤ 20 := by
    intro t ht
    obtain ⟨m, hm, rfl⟩ := List.getElem_of_mem ht
    have hm2 : m < s.tasks.length := by
      have : (twS s i (mixT pr s.tasks[i] s.tasks[j])).tasks.length = s.tasks.length := List.length_set ..
      omega
    have e := tw_get (mixT pr s.tasks[i] s.tasks[j]) (i := i) hm2
    rw [List.getElem?_eq_getElem hm] at e
    rw [Option.some.inj e]
    have a1 := hs.parts _ (List.getElem_mem hi)
    have a2 := hs.names _ (List.getElem_mem hi)
    have a3 := hs.names _ (List.getElem_mem hj)
    have a4 := hs.parts _ (List.getElem_mem hm2)
    have a5 := hs.names _ (List.getElem_mem hm2)
    split
    · unfold mixT
      cases pr
      · exact ⟨a1, a3⟩
      · exact ⟨a1, a2⟩
    · exact ⟨a4, a5⟩
  exact ⟨hs.cores, hs.homes, by show (s.tasks.set i _).length ≤ 9; rw [List.length_set]; exact hs.tasks, fun t ht => (hm t ht).1, fun t ht => (hm t ht).2⟩
theorem taskTwice_is (s : St) (a b : Int) (pr : Bool) (_ : s.ok) (ka : (Lit.int .u8 a).wf = true) (kb : (Lit.int .u8 b).wf = true) : Ans (vb true) [] (callL tab0 ext0 5 [.agg (St.c s), vu8 a, vu8 b, vb pr] []) := by
  rw [callL_tab _ _ rfl tab5 rfl]
  have h1 := pure_vb (k := false) known_15
  have h2 := pure_vb (k := false) (few_is_16 s)
  rcases (Bool.eq_false_or_eq_true (few8 s)).symm with hs | hs
  · rw [hs] at h2
    simp only [St.c, slI, slT] at h2
    simp [C5, push_cast, -Int.not_lt, -Int.not_le, ↓evI_call, ↓evI_calli, ↓evI_calln, ↓evI_callz, ↓evI_callv, ↓evI_mxn, St.c, slI, slT, h1, h2]
    exact ⟨_, rfl⟩
  rw [hs] at h2
  have hs := few8_sm s hs
  have h3 := pure_vb (k := false) (okR_is s hs.fits)
  have hok : eqz (chk s).2 0 = okS s := rfl
  rw [hok] at h3
  rcases (Bool.eq_false_or_eq_true (okS s)).symm with ho | ho
  · rw [ho] at h3
    simp only [St.c, slI, slT] at h2 h3
    simp [C5, push_cast, -Int.not_lt, -Int.not_le, ↓evI_call, ↓evI_calli, ↓evI_calln, ↓evI_callz, ↓evI_callv, ↓evI_mxn, St.c, slI, slT, h1, h2, h3]
    exact ⟨_, rfl⟩
  rw [ho] at h3
  have g := (okS_iff s).1 ho
  by_cases hN : s.tasks.length < 2
  · have hN2 : (s.tasks.length : Int) < 2 := by omega
    simp only [St.c, slI, slT] at h2 h3
    simp [C5, push_cast, -Int.not_lt, -Int.not_le, ↓evI_call, ↓evI_calli, ↓evI_calln, ↓evI_callz, ↓evI_callv, ↓evI_mxn, St.c, slI, slT, h1, h2, h3, hN, hN2]
    exact ⟨_, rfl⟩
  have hN2 : ¬ (s.tasks.length : Int) < 2 := by omega
  have h4 := copied_is s hs (by omega)
  have h9 := hs.tasks
  have hst := strip5 s
  have hN3 : ¬ (s.tasks.length : Int) = 0 := by omega
  have hN4 : ¬ s.tasks = [] := fun h => by rw [h] at hN; exact hN (by simp)
  have q : ∀ z : Int, (Lit.int .u8 z).wf = true → ∃ m : Nat, z.tmod s.tasks.length = m ∧ m < s.tasks.length ∧ IntKind.wrap .i64 z = z ∧ IntKind.wrap .i64 (m : Int) = m := fun z hz => by
    have q0 := u8_of hz
    have q1 := Int.tmod_eq_emod_of_nonneg (b := (s.tasks.length : Int)) q0.1
    have q2 := Int.emod_nonneg z (show (s.tasks.length : Int) ≠ 0 by omega)
    have q3 := Int.emod_lt_of_pos z (show (0 : Int) < s.tasks.length by omega)
    exact ⟨(z % s.tasks.length).toNat, by rw [q1]; omega, by omega, wrap_in _ (by omega) (by omega), wrap_in _ (by omega) (by omega)⟩
  obtain ⟨i, i1, i2, i3, i4⟩ := q a ka
  obtain ⟨j, j1, j2, j3, j4⟩ := q b kb
  clear q ka kb
  by_cases hij : i = j
  · subst hij
    simp only [St.c, slI, slT, xS] at h2 h3 h4 hst ⊢
    generalize cpT s s.tasks.length = T2 at *
    generalize s.tasks.flatMap Tk.c = T at *
    simp [C5, push_cast, -Int.not_lt, -Int.not_le, ↓evI_call, ↓evI_calli, ↓evI_calln, ↓evI_callz, ↓evI_callv, ↓evI_mxn, St.c, slI, slT, h1, h2, h3, h4, hst, hN, hN2, hN3, hN4, i1, i2, i3, i4, j1, j3, aft, eqz_self]
    exact ⟨_, rfl⟩
  have hij2 : eqz (i : Int) j = false := by simp [eqz]; omega
  have h5 := pure_tup2 (k := false) (check_is _ (mix_fits hs i2 j2 pr).fits)
  rw [tw_chk g i2 j2 hij pr] at h5
  have hsc : St.c (twS s i (mixT pr s.tasks[i] s.tasks[j])) = [vi s.proto, slI s.cores, slI s.homes, .sl ((s.tasks.set i (mixT pr s.tasks[i] s.tasks[j])).flatMap Tk.c) s.tasks.length 0] := by
    have e : s.tasks.length = (s.tasks.set i (mixT pr s.tasks[i] s.tasks[j])).length := (List.length_set ..).symm
    rw [e]; rfl
  rw [hsc] at h5
  have pk := plain_tk (s.tasks.set i (mixT pr s.tasks[i] s.tasks[j]))
  have lk : ((s.tasks.set i (mixT pr s.tasks[i] s.tasks[j])).flatMap Tk.c).length = s.tasks.length * 6 := by rw [len_tk, List.length_set]
  have mk : ∀ (bx : Bx) d, (((s.tasks.set i (mixT pr s.tasks[i] s.tasks[j])).flatMap Tk.c).take (s.tasks.length * 6)).mapM (frzC bx d) = some ((s.tasks.set i (mixT pr s.tasks[i] s.tasks[j])).flatMap Tk.c) := fun bx d => by
    rw [List.take_of_length_le (by omega)]; exact plain_mapM pk
  have mle : s.tasks.length * 6 ≤ ((s.tasks.set i (mixT pr s.tasks[i] s.tasks[j])).flatMap Tk.c).length := by omega
  have hl6 := len_tk s.tasks
  have b1 : i * 6 + 3 + 1 ≤ s.tasks.length * 6 := by omega
  have b2 : j * 6 + 3 + 1 ≤ s.tasks.length * 6 := by omega
  have b3 : i * 6 + 0 + 1 ≤ s.tasks.length * 6 := by omega
  have b4 : j * 6 + 0 + 1 ≤ s.tasks.length * 6 := by omega
  have i5 : (i : Int) < s.tasks.length := by omega
  have j5 : (j : Int) < s.tasks.length := by omega
  have hmx : foldM true (i : Int) [vi (j : Int)] = some ((max i j : Nat) : Int) := by
    show some (if (j : Int) > i then (j : Int) else i) = _
    congr 1
    split <;> omega
  have g3 := get_tk s.tasks j 3 j2 (by omega)
  have g0 := get_tk s.tasks j 0 j2 (by omega)
  have e3 : (Tk.c s.tasks[j])[3]? = some (vi s.tasks[j].prio) := rfl
  have e0 : (Tk.c s.tasks[j])[0]? = some (vs s.tasks[j].name) := rfl
  rw [e3] at g3
  rw [e0] at g0
  cases pr with
  | true =>
    have hset := set_tk i2 (by omega) (mix_prio s.tasks[i] s.tasks[j])
    generalize (s.tasks.set i (mixT true s.tasks[i] s.tasks[j])).flatMap Tk.c = T' at *
    simp only [St.c, slI, slT, xS] at h2 h3 h4 h5 hst ⊢
    generalize cpT s s.tasks.length = T2 at *
    generalize s.tasks.flatMap Tk.c = T at *
    have g3' : ∀ h : j * 6 + 3 < T.length, T[j * 6 + 3] = vi s.tasks[j].prio := fun h => by rw [List.getElem?_eq_getElem h] at g3; exact Option.some.inj g3
    simp [C5, push_cast, -Int.not_lt, -Int.not_le, ↓evI_call, ↓evI_calli, ↓evI_calln, ↓evI_callz, ↓evI_callv, ↓evI_mxn, St.c, slI, slT, h1, h2, h3, h4, h5, hst, hN, hN2, hN3, hN4, i1, i2, i3, i4, i5, j1, j2, j3, j4, j5, aft, hij2, b1, b2, hl6, g3, g3', hset, mk, mle, hmx, eqz_self, -List.all_eq_true]
    exact ⟨_, rfl⟩
  | false =>
    have hset := set_tk i2 (by omega) (mix_name s.tasks[i] s.tasks[j])
    generalize (s.tasks.set i (mixT false s.tasks[i] s.tasks[j])).flatMap Tk.c = T' at *
    simp only [St.c, slI, slT, xS] at h2 h3 h4 h5 hst ⊢
    generalize cpT s s.tasks.length = T2 at *
    generalize s.tasks.flatMap Tk.c = T at *
    simp only [Nat.add_zero] at g0 hset b3 b4
    have g0' : ∀ h : j * 6 < T.length, T[j * 6] = vs s.tasks[j].name := fun h => by rw [List.getElem?_eq_getElem h] at g0; exact Option.some.inj g0
    simp [C5, push_cast, -Int.not_lt, -Int.not_le, ↓evI_call, ↓evI_calli, ↓evI_calln, ↓evI_callz, ↓evI_callv, ↓evI_mxn, St.c, slI, slT, h1, h2, h3, h4, h5, hst, hN, hN2, hN3, hN4, i1, i2, i3, i4, i5, j1, j2, j3, j4, j5, aft, hij2, b3, b4, hl6, g0, g0', hset, mk, mle, hmx, eqz_self, -List.all_eq_true]
    exact ⟨_, rfl⟩
end Go.Proofs.YtkohggddaheefaaEv
