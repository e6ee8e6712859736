/- swingbridgelaw18.AdmitSlack. -/
import Derived.Test.YtclebnamhpgdmaaAdSlP
import Derived.Test.YtclebnamhpgdmaaAdmitR
import Derived.Test.YtclebnamhpgdmaaIn1
import Derived.Test.YtclebnamhpgdmaaExt2
import Derived.Test.YtclebnamhpgdmaaFrz
set_option linter.unusedSimpArgs false
set_option linter.unusedVariables false
namespace Go.Proofs.YtclebnamhpgdmaaEv
open Go
set_option maxHeartbeats 4000000
/-! ### the plain law -/
theorem modify_mid {α : Type} (f : α → α) : ∀ (l : List α) (q : Nat) (h : q < l.length), l.modify q f = l.take q ++ f l[q] :: l.drop (q + 1)
  | a :: l, 0, _ => by simp
  | a :: l, q + 1, h => by
    have := modify_mid f l q (by simpa using h)
    simp [this]
theorem dls_cells (s : St) (q : Nat) (d : Int) (hq : q < s.tasks.length) : (s.tasks.flatMap Tk.c).take (q * 6 + 2) ++ vi d :: (s.tasks.flatMap Tk.c).drop (q * 6 + 2 + 1) = (dls s q d).tasks.flatMap Tk.c := by
  have e0 : s.tasks = s.tasks.take q ++ s.tasks[q] :: s.tasks.drop (q + 1) := by rw [← List.drop_eq_getElem_cons hq, List.take_append_drop]
  have e1 : (dls s q d).tasks = s.tasks.take q ++ { s.tasks[q] with deadline := d } :: s.tasks.drop (q + 1) := modify_mid _ _ _ hq
  have hU : ((s.tasks.take q).flatMap Tk.c).length = q * 6 := by rw [len_tk, List.length_take]; congr 1; omega
  have e2 : s.tasks.flatMap Tk.c = (s.tasks.take q).flatMap Tk.c ++ (Tk.c s.tasks[q] ++ (s.tasks.drop (q + 1)).flatMap Tk.c) := by
    conv => lhs; rw [e0]
    rw [List.flatMap_append, List.flatMap_cons]
  rw [e1, e2, List.flatMap_append, List.flatMap_cons]
  generalize s.tasks[q] = t at *
  generalize (s.tasks.take q).flatMap Tk.c = U at *
  generalize (s.tasks.drop (q + 1)).flatMap Tk.c = R at *
  have := put_mid (U ++ [vs t.name, vi t.period]) (vi t.prio :: vi t.cluster :: slP t.parts :: R) (vi t.deadline) (vi d) (q * 6 + 2) (by simp [hU])
  simpa [Tk.c] using this
theorem dls_dls (s : St) (q : Nat) (d d2 : Int) : dls (dls s q d) q d2 = dls s q d2 := by
  unfold dls
  congr 1
  show (s.tasks.modify q _).modify q _ = s.tasks.modify q _
  apply List.ext_getElem?
  intro i
  simp only [List.getElem?_modify]
  cases s.tasks[i]? with
  | none => rfl
  | some t =>
    by_cases h : q = i <;> simp [h]
theorem dls_good {s : St} {q : Nat} {d : Int} (g : Good s) (h1 : 1 ≤ d) (h2 : d ≤ perAt s q) : Good (dls s q d) := by
  have hget : ∀ i (hi : i < (dls s q d).tasks.length) (hi' : i < s.tasks.length), (dls s q d).tasks[i] = if q = i then { s.tasks[i] with deadline := d } else s.tasks[i] := by
    intro i hi hi'
    have := dls_get (s := s) (q := q) (d := d) i
    rw [List.getElem?_eq_getElem hi, List.getElem?_eq_getElem hi'] at this
    exact Option.some.inj this
  refine ⟨g.proto, g.cores, g.core, g.homes, g.home, by rw [dls_len]; exact g.tasks, fun t ht => ?_, fun i j hi hj h => ?_⟩
  · obtain ⟨i, hi, rfl⟩ := List.getElem_of_mem ht
    have hi' := hi; rw [dls_len] at hi'
    have q1 := g.task _ (List.getElem_mem hi')
    rw [hget i hi hi']
    split
    · rename_i e
      subst e
      have hp : perAt s q = s.tasks[q].period := by unfold perAt; rw [List.getElem?_eq_getElem hi']; rfl
      exact ⟨q1.name, q1.period, ⟨h1, by rw [← hp]; exact h2⟩, q1.prio, q1.cluster, q1.parts, fun p hp => by have := q1.part p hp; exact ⟨this.kind, this.len, this.res, this.res0⟩⟩
    · exact ⟨q1.name, q1.period, q1.deadline, q1.prio, q1.cluster, q1.parts, fun p hp => by have := q1.part p hp; exact ⟨this.kind, this.len, this.res, this.res0⟩⟩
  · have hi' := hi; have hj' := hj
    rw [dls_len] at hi' hj'
    have u := g.uniq i j hi' hj' h
    rw [hget i hi hi', hget j hj hj']
    split <;> split <;> exact u
theorem dls_sm {s : St} {q : Nat} {d : Int} (hs : Sm s) : Sm (dls s q d) := by
  refine ⟨hs.cores, hs.homes, by rw [dls_len]; exact hs.tasks, fun t ht => ?_, fun t ht => ?_⟩
  all_goals
    obtain ⟨i, hi, rfl⟩ := List.getElem_of_mem ht
    have hi' := hi; rw [dls_len] at hi'
    have := dls_get (s := s) (q := q) (d := d) i
    rw [List.getElem?_eq_getElem hi, List.getElem?_eq_getElem hi'] at this
    rw [Option.some.inj this]
  · split
    · exact hs.parts s.tasks[i] (List.getElem_mem hi')
    · exact hs.parts s.tasks[i] (List.getElem_mem hi')
  · split
    · exact hs.names s.tasks[i] (List.getElem_mem hi')
    · exact hs.names s.tasks[i] (List.getElem_mem hi')
theorem it_code (s : St) : ∀ (k : Nat) (bs : List Int), (itS s k bs).2 = 0 ∨ (itS s k bs).2 = 19 ∨ (itS s k bs).2 = 20
  | 0, _ => .inr (.inr rfl)
  | k + 1, bs => by
    unfold itS
    cases roundS s bs with
    | none => exact .inr (.inl rfl)
    | some nx =>
      simp only
      split
      · exact .inl rfl
      · exact it_code s k nx
theorem an_code {s : St} (ho : okS s = true) (hz : (anS s).2 ≠ 0) : (anS s).2 = 19 ∨ (anS s).2 = 20 := by
  unfold anS at hz ⊢
  rw [if_pos ho] at hz ⊢
  split at hz
  · exact absurd rfl hz
  · rename_i h
    rw [if_neg h]
    rcases it_code s 200 (stL s s.tasks.length) with e | e
    · exact absurd e hz
    · exact e
/-- What is known of who is admitted. -/
theorem an_adm {s : St} (hs : Sm s) (hz : (anS s).2 = 0) : okS s = true ∧ (anS s).1.bounds.length = s.tasks.length ∧ ∀ i, i < s.tasks.length → bAt (anS s).1.bounds i ≤ dlAt s i := by
  have ho : okS s = true := by
    cases h : okS s with
    | true => rfl
    | false =>
      unfold anS at hz
      rw [if_neg (by simp [h])] at hz
      have : eqz (chk s).2 0 = false := h
      simp [eqz] at this
      exact absurd hz this
  have g := (okS_iff s).1 ho
  unfold anS at hz ⊢
  rw [if_pos ho] at hz ⊢
  split at hz
  · rename_i h
    rw [if_pos h]
    have h0 : (leastB s).2 = 0 := by simpa [eqz] using h
    obtain ⟨h1, _, h3⟩ := least_ok hs g h0
    obtain ⟨_, h5, _⟩ := round_ok h3
    exact ⟨ho, h1, fun i hi => (h5 i hi).2⟩
  · rename_i h
    exact absurd (by simpa [eqz] using hz) h
theorem tk_at (s : St) (q : Nat) (hq : q < s.tasks.length) : (s.tasks.flatMap Tk.c)[q * 6 + 1]? = some (vi (perAt s q)) ∧ (s.tasks.flatMap Tk.c)[q * 6 + 2]? = some (vi (dlAt s q)) := by
  have h := drop_flat Tk.c 6 (fun _ => rfl) s.tasks q hq
  have e1 : perAt s q = s.tasks[q].period := by unfold perAt; rw [List.getElem?_eq_getElem hq]; rfl
  have e2 : dlAt s q = s.tasks[q].deadline := by unfold dlAt; rw [List.getElem?_eq_getElem hq]; rfl
  rw [e1, e2, ← List.getElem?_drop, ← List.getElem?_drop, h]
  exact ⟨rfl, rfl⟩
/-! ### the walk -/
def slB (s : St) (v : Vd) (T : List A) : Bx := [St.c s, Vd.c v, [vi s.proto, slI s.cores, slI s.homes, .bs 3 s.tasks.length 6], T]
def slD (s : St) (q : Nat) (d : Int) : Int := if dlAt s q + d < perAt s q then dlAt s q + d else perAt s q
theorem slack_1 (s : St) (hf : few8 s = true) (g : Good s) (hz : (anS s).2 = 0) (a d : Int) (ha : 0 ≤ a ∧ a ≤ 255) (hd : 0 ≤ d ∧ d ≤ 255) (q : Nat) (hq : (q : Int) = a % s.tasks.length) (hqn : q < s.tasks.length) :
    ∃ e, evL tab0 ext2 0 (C.pre 8 C9.body) (initFrom 0 [.agg (St.c s), vu8 a, vu8 d], []) = some (.nor, e, slB s (anS s).1 ((dls s q (slD s q d)).tasks.flatMap Tk.c)) ∧ e 7 = .ptr 1 0 ∧ e 9 = vi q ∧ e 10 = .ptr 2 0 := by
  have h1 := pure_vb (k := false) known_21
  have h2 := pure2 (pure1 (pure_vb (k := false) (few_is_22 s)))
  rw [hf] at h2
  have hs := few8_sm s hf
  have h3 := pure2 (analyze_is s hs)
  obtain ⟨_, hbl, _⟩ := an_adm hs hz
  rw [hz] at h3
  have h9 := hs.tasks
  have hN2 : eqz (s.tasks.length : Int) 0 = false := by simp [eqz]; intro h; rw [h] at hqn; simp at hqn
  have hN3 : ¬ (s.tasks.length : Int) = 0 := by omega
  have hn0 : 0 < s.tasks.length := by omega
  have hN4 : ¬ s.tasks = [] := fun h => by rw [h] at hqn; simp at hqn
  have q1 := Int.tmod_eq_emod_of_nonneg (b := (s.tasks.length : Int)) ha.1
  rw [← hq] at q1
  have wa : IntKind.wrap .i64 a = a := wrap_in _ (by omega) (by omega)
  have wd : IntKind.wrap .i64 d = d := wrap_in _ (by omega) (by omega)
  have gt := g.task _ (List.getElem_mem hqn)
  have ep : perAt s q = s.tasks[q].period := by unfold perAt; rw [List.getElem?_eq_getElem hqn]; rfl
  have ed : dlAt s q = s.tasks[q].deadline := by unfold dlAt; rw [List.getElem?_eq_getElem hqn]; rfl
  have g1 := gt.period
  have g2 := gt.deadline
  rw [← ep] at g1 g2
  rw [← ed] at g2
  have wD : IntKind.wrap .i64 (dlAt s q + d) = dlAt s q + d := wrap_in _ (by omega) (by omega)
  obtain ⟨a1, a2⟩ := tk_at s q hqn
  have hl6 := len_tk s.tasks
  have t4 := plain_tk s.tasks
  have t3 := plain_norm t4
  have hc := dls_cells s q (slD s q d) hqn
  have hq2 : (q : Int) < s.tasks.length := by omega
  have hsz : s.tasks.length * 72 ≤ 70368744177664 := by omega
  have hb6 : q * 6 + 2 + 1 ≤ s.tasks.length * 6 := by omega
  have hmf : foldM false (perAt s q) [vi (dlAt s q + d)] = some (slD s q d) := by
    unfold slD; simp [foldM]
  unfold slB
  rw [← hc]
  generalize (anS s).1 = v at *
  obtain ⟨vk, vs0, vw⟩ := v
  simp only at hbl
  simp only [St.c, slI, slT, slP, Vd.c, slW] at h2 h3 ⊢
  generalize s.tasks.flatMap Tk.c = T at *
  have hbl2 : eqz (vs0.length : Int) s.tasks.length = true := by simp [eqz, hbl]
  have hbl3 : eqz (vs0.length : Int) 0 = false := by rw [hbl]; exact hN2
  exact ⟨_, (Eq.refl (evL tab0 ext2 0 (C.pre 8 C9.body) _)).trans (by
    simp [C9, C.pre, initFrom, push_cast, -Int.not_lt, -Int.not_le, ↓evI_call, ↓evI_calli, ↓evI_calln, ↓evI_callz, ↓evI_callv, ↓evI_mxn, h1, h2, h3, hn0, hN2, hN3, hN4, q1, wa, wd, wD, a1, a2, hl6, t3, hbl2, hbl3, hq2, hqn, hsz, hb6, hmf, asList, eqz_self, t4, -List.all_eq_true, -List.map_map]; rfl), by simp [put_at], by simp [put_at], by simp [put_at]⟩
theorem slack_0 (s : St) (a d : Int) (h : few8 s = false ∨ (few8 s = true ∧ (anS s).2 ≠ 0)) : ∃ e bx, evL tab0 ext2 0 (C.pre 8 C9.body) (initFrom 0 [.agg (St.c s), vu8 a, vu8 d], []) = some (.ret, e, bx) ∧ e 6 = vb true := by
  have h1 := pure_vb (k := false) known_21
  have h2 := pure2 (pure1 (pure_vb (k := false) (few_is_22 s)))
  rcases h with hf | ⟨hf, hz⟩
  · rw [hf] at h2
    simp only [St.c, slI, slT] at h2 ⊢
    exact ⟨_, _, (Eq.refl (evL tab0 ext2 0 (C.pre 8 C9.body) _)).trans (by simp [C9, C.pre, initFrom, push_cast, -Int.not_lt, -Int.not_le, ↓evI_call, ↓evI_calli, ↓evI_calln, ↓evI_callz, ↓evI_callv, ↓evI_mxn, h1, h2]; exact ⟨rfl, rfl⟩), by simp [put_at]⟩
  · rw [hf] at h2
    have hs := few8_sm s hf
    have h3 := pure2 (analyze_is s hs)
    have hz2 : eqz (anS s).2 0 = false := by simp [eqz]; exact hz
    generalize (anS s).2 = z at *
    generalize (anS s).1 = v at *
    obtain ⟨vk, vs0, vw⟩ := v
    simp only [St.c, slI, slT, slP, Vd.c, slW] at h2 h3 ⊢
    exact ⟨_, _, (Eq.refl (evL tab0 ext2 0 (C.pre 8 C9.body) _)).trans (by simp [C9, C.pre, initFrom, push_cast, -Int.not_lt, -Int.not_le, ↓evI_call, ↓evI_calli, ↓evI_calln, ↓evI_callz, ↓evI_callv, ↓evI_mxn, h1, h2, h3, hz, hz2]; exact ⟨rfl, rfl⟩), by simp [put_at]⟩
theorem slack_2 (t : St) (ht : Sm t) (v : Vd) (hv : anS t = (v, 0)) (b1 b2 q : Nat) (e : Env) (h7 : e 7 = .ipx b1 0 (Vd.c v)) (h9 : e 9 = vi q) (h10 : e 10 = .ipx b2 0 (St.c t)) :
    ∃ e' bx', evL tab0 ext2 0 (C.pre 1 (C.post 8 C9.body)) (e, []) = some (.nor, e', bx') ∧ e' 7 = e 7 ∧ e' 9 = e 9 ∧ e' 10 = e 10 := by
  have h3 := pure2 (analyze_is t ht)
  have h6 := anS_small t ht
  rw [hv] at h3 h6
  have h7' := pure2 (pure1 (pure_vb (k := false) (sameV_is v h6)))
  obtain ⟨vk, vs0, vw⟩ := v
  simp only [St.c, slI, slT, slP, Vd.c, slW] at h3 h7' h7 h10 ⊢
  exact ⟨_, _, (Eq.refl (evL tab0 ext2 0 (C.pre 1 (C.post 8 C9.body)) _)).trans (by simp [C9, C.pre, C.post, push_cast, -Int.not_lt, -Int.not_le, ↓evI_call, ↓evI_calli, ↓evI_calln, ↓evI_callz, ↓evI_callv, ↓evI_mxn, h3, h7', h7, h9, h10, eqz_self]; exact ⟨rfl, rfl⟩), by simp [put_at, h7], by simp [put_at, h9], by simp [put_at, h10]⟩
theorem slack_3r (s : St) (v : Vd) (T : List A) (q : Nat) (hq : q < v.bounds.length) (hb : bAt v.bounds q < 2) :
    ∃ e' bx', evL tab0 ext2 0 (C.pre 1 (C.post 1 (C.post 8 C9.body))) (put 10 (.ptr 2 0) (put 7 (.ptr 1 0) (put 9 (vi q) emp)), slB s v T) = some (.ret, e', bx') ∧ e' 6 = vb true := by
  obtain ⟨vk, vs0, vw⟩ := v
  simp only at hq hb
  have hd := drop_int vs0 q hq
  rw [bAt_is vs0 q hq] at hb
  have hq2 : (q : Int) < vs0.length := by omega
  simp only [slB, St.c, slI, slT, slP, Vd.c, slW]
  exact ⟨_, _, (Eq.refl (evL tab0 ext2 0 (C.pre 1 (C.post 1 (C.post 8 C9.body))) _)).trans (by simp [C9, C.pre, C.post, push_cast, -Int.not_lt, -Int.not_le, ↓evI_call, ↓evI_calli, ↓evI_calln, ↓evI_callz, ↓evI_callv, ↓evI_mxn, hd, hq, hq2, hb]; exact ⟨rfl, rfl⟩), by simp [put_at]⟩
theorem slack_3 (s t : St) (v : Vd) (q : Nat) (hq : q < v.bounds.length) (hqt : q < t.tasks.length) (hn : s.tasks.length = t.tasks.length) (hn9 : t.tasks.length ≤ 9) (hb : ¬ bAt v.bounds q < 2) (hb2 : bAt v.bounds q ≤ 3000) :
    ∃ e', evL tab0 ext2 0 (C.pre 1 (C.post 1 (C.post 8 C9.body))) (put 10 (.ptr 2 0) (put 7 (.ptr 1 0) (put 9 (vi q) emp)), slB s v (t.tasks.flatMap Tk.c)) = some (.nor, e', slB s v ((dls t q (bAt v.bounds q - 1)).tasks.flatMap Tk.c)) ∧ e' 10 = .ptr 2 0 := by
  obtain ⟨vk, vs0, vw⟩ := v
  simp only at hq hb hb2
  have hd := drop_int vs0 q hq
  have hc := dls_cells t q (bAt vs0 q - 1) hqt
  rw [bAt_is vs0 q hq] at hb hb2 hc
  have hq2 : (q : Int) < vs0.length := by omega
  have hq3 : (q : Int) < t.tasks.length := by omega
  have hl6 := len_tk t.tasks
  have hb6 : q * 6 + 2 + 1 ≤ t.tasks.length * 6 := by omega
  have wD : IntKind.wrap .i64 (vs0[q] - 1) = vs0[q] - 1 := wrap_in _ (by omega) (by omega)
  simp only [slB, St.c, slI, slT, slP, Vd.c, slW]
  rw [bAt_is vs0 q hq, ← hc, hn]
  generalize t.tasks.flatMap Tk.c = T at *
  exact ⟨_, (Eq.refl (evL tab0 ext2 0 (C.pre 1 (C.post 1 (C.post 8 C9.body))) _)).trans (by simp [C9, C.pre, C.post, push_cast, -Int.not_lt, -Int.not_le, ↓evI_call, ↓evI_calli, ↓evI_calln, ↓evI_callz, ↓evI_callv, ↓evI_mxn, hd, hq, hq2, hq3, hqt, hb, hl6, hb6, wD, -List.all_eq_true, -List.map_map]; rfl), by simp [put_at]⟩
theorem slack_4 (t : St) (ht : Sm t) (hz : (anS t).2 = 19 ∨ (anS t).2 = 20) (b2 : Nat) (e : Env) (h10 : e 10 = .ipx b2 0 (St.c t)) :
    ∃ e' bx', evL tab0 ext2 0 (C.post 1 (C.post 1 (C.post 8 C9.body))) (e, []) = some (.ret, e', bx') ∧ e' 6 = vb true := by
  have h3 := pure2 (analyze_is t ht)
  generalize (anS t).1 = v at *
  obtain ⟨vk, vs0, vw⟩ := v
  simp only [St.c, slI, slT, slP, Vd.c, slW] at h3 h10
  rcases hz with hz | hz <;> rw [hz] at h3
  all_goals exact ⟨_, _, (Eq.refl (evL tab0 ext2 0 (C.post 1 (C.post 1 (C.post 8 C9.body))) _)).trans (by simp [C9, C.post, push_cast, -Int.not_lt, -Int.not_le, ↓evI_call, ↓evI_calli, ↓evI_calln, ↓evI_callz, ↓evI_callv, ↓evI_mxn, h3, h10, eqz]; exact ⟨rfl, rfl⟩), by simp [put_at]⟩
/-! ### the pieces put together -/
theorem frz_bs {μ : Nat → Nat} {s : St} {v : Vd} {t : St} (hn : s.tasks.length = t.tasks.length) (hp : t.proto = s.proto) (hc : t.cores = s.cores) (hh : t.homes = s.homes) :
    frzP μ (slB s v (t.tasks.flatMap Tk.c)) (.ptr 2 0) = .ipx (μ 2) 0 (St.c t) ∧ frzP μ (slB s v (t.tasks.flatMap Tk.c)) (.ptr 1 0) = .ipx (μ 1) 0 (Vd.c v) := by
  obtain ⟨vk, vs0, vw⟩ := v
  have hl6 := len_tk t.tasks
  have t10 := fun (bx : Bx) (d : Nat) => plain_mapM (bx := bx) (d := d) (plain_tk t.tasks)
  have htk : (t.tasks.flatMap Tk.c).take (t.tasks.length * 6) = t.tasks.flatMap Tk.c := List.take_of_length_le (by rw [hl6]; exact Nat.le_refl _)
  simp only [St.c, slT]
  generalize t.tasks.flatMap Tk.c = T at *
  simp [frzP, slB, St.c, Vd.c, slI, slT, slW, frzC, vi, vb, hn, hp, hc, hh, hl6, htk, t10, -List.map_map]
theorem frz_vi {μ : Nat → Nat} {bx : Bx} (n : Int) : frzP μ bx (vi n) = vi n := by simp [frzP, frzR, frzC, vi]
theorem slack_wp {F : Fr} {hn : Hn} {lv : Nat → List Nat × Nat} {k : Nat} {c0 : Code} {a : Act} {w : World} {Q : Exit → Act → World → Prop} (s : St) (x y : Int) (hx : 0 ≤ x ∧ x ≤ 255) (hy : 0 ≤ y ∧ y ≤ 255) (h0 : F.nb = 0)
    (hc : comp Try.prog F.nt hn lv k c0 = some C9.body) (hI : Inv F (initFrom 0 [.agg (St.c s), vu8 x, vu8 y], []) a w) (hQ : ∀ a' w', Inv F (put 6 (vb true) emp, []) a' w' → Q .ret a' w') : c0.wp Try.prog Q a w := by
  have fin : ∀ {e : Env} {bx : Bx} {a' w'}, Inv F (e, bx) a' w' → e 6 = vb true → Inv F (put 6 (vb true) emp, []) a' w' := fun h he => forget h h0 _ fun i => by
    rw [put_at]
    split
    · rename_i hi; subst hi; exact .inr ⟨_, rfl, he⟩
    · exact .inl rfl
  by_cases hr : few8 s = false ∨ (few8 s = true ∧ (anS s).2 ≠ 0)
  · obtain ⟨e, bx, he, h6⟩ := slack_0 s x y hr
    have he' : evL tab0 ext2 F.nb (C.pre 8 C9.body) (initFrom 0 [.agg (St.c s), vu8 x, vu8 y], []) = some (.ret, e, bx) := by rw [h0]; exact he
    exact cut_sound tab_ok ext2_sound 8 hc rfl he' hI (fun h => by cases h) fun _ a' w' hI' => hQ a' w' (fin hI' h6)
  have hf : few8 s = true := by cases h : few8 s with
    | true => rfl
    | false => exact absurd (.inl h) hr
  have hz : (anS s).2 = 0 := Classical.byContradiction fun h => hr (.inr ⟨hf, h⟩)
  have hs := few8_sm s hf
  obtain ⟨ho, hbl, hbd⟩ := an_adm hs hz
  have g := (okS_iff s).1 ho
  have hN := g.tasks
  have q2 := Int.emod_nonneg x (show (s.tasks.length : Int) ≠ 0 by omega)
  have q3 := Int.emod_lt_of_pos x (show (0 : Int) < s.tasks.length by omega)
  obtain ⟨q, hq⟩ : ∃ q : Nat, (q : Int) = x % s.tasks.length := ⟨(x % s.tasks.length).toNat, by omega⟩
  have hqn : q < s.tasks.length := by omega
  have gt := g.task _ (List.getElem_mem hqn)
  have ep : perAt s q = s.tasks[q].period := by unfold perAt; rw [List.getElem?_eq_getElem hqn]; rfl
  have ed : dlAt s q = s.tasks[q].deadline := by unfold dlAt; rw [List.getElem?_eq_getElem hqn]; rfl
  have g1 := gt.period
  have g2 := gt.deadline
  rw [← ep] at g1 g2
  rw [← ed] at g2
  have hD : dlAt s q ≤ slD s q y ∧ slD s q y ≤ perAt s q := by unfold slD; split <;> omega
  have gd := dls_good (s := s) (q := q) (d := slD s q y) g (by omega) hD.2
  have hod : okS (dls s q (slD s q y)) = okS s := by rw [ho, (okS_iff _).2 gd]
  have hsd : Sm (dls s q (slD s q y)) := dls_sm hs
  have hup := slack_up hod ho hD.1 hz
  obtain ⟨e1, he1, e17, e19, e110⟩ := slack_1 s hf g hz x y hx hy q hq hqn
  have he1' : evL tab0 ext2 F.nb (C.pre 8 C9.body) (initFrom 0 [.agg (St.c s), vu8 x, vu8 y], []) = some (.nor, e1, slB s (anS s).1 ((dls s q (slD s q y)).tasks.flatMap Tk.c)) := by rw [h0]; exact he1
  refine cut_sound tab_ok ext2_sound 8 hc rfl he1' hI (fun _ a1 w1 hI1 => ?_) fun h => absurd rfl h
  obtain ⟨lim, μ, own, hG⟩ := hI1
  obtain ⟨F2, n0, n1, n2, hF⟩ := freeze hG
  have c1 := comp_post 8 hc rfl
  rw [← n1] at c1
  have hv : anS (dls s q (slD s q y)) = ((anS s).1, 0) := by rw [hup, ← hz]
  obtain ⟨z1, z2⟩ := frz_bs (μ := μ) (s := s) (v := (anS s).1) (t := dls s q (slD s q y)) dls_len.symm rfl rfl rfl
  obtain ⟨e2, bx2, he2, e27, e29, e210⟩ := slack_2 _ hsd _ hv (μ 1) (μ 2) q (fun i => frzP μ (slB s (anS s).1 ((dls s q (slD s q y)).tasks.flatMap Tk.c)) (e1 i)) (by simp only [e17]; exact z2) (by simp only [e19]; exact frz_vi _) (by simp only [e110]; exact z1)
  simp only [e17, e19, e110, z1, z2, frz_vi] at e27 e29 e210
  rw [← n0] at he2
  refine cut_sound tab_ok ext2_sound 1 c1 rfl he2 hF (fun _ a2 w2 hI2 => ?_) fun h => absurd rfl h
  have hT := thaw hG hI2 n2 n0 n1 (put 10 (.ptr 2 0) (put 7 (.ptr 1 0) (put 9 (vi q) emp))) (fun i => by
    simp only [put_at]
    split
    · rename_i hi; subst hi; exact .inr (.inr ⟨_, _, _, rfl, e210, by simp [slB]⟩)
    · split
      · rename_i hi; subst hi; exact .inr (.inr ⟨_, _, _, rfl, e27, by simp [slB]⟩)
      · split
        · rename_i hi; subst hi; exact .inr (.inl ⟨_, rfl, e29⟩)
        · exact .inl rfl)
  simp only at hT
  have hI3 : Inv F _ a2 w2 := ⟨lim, μ, own, hT⟩
  have c2 := comp_post 1 c1 rfl
  rw [n1] at c2
  have hq' : q < (anS s).1.bounds.length := by omega
  by_cases hb : bAt (anS s).1.bounds q < 2
  · obtain ⟨e3, bx3, he3, e36⟩ := slack_3r s (anS s).1 ((dls s q (slD s q y)).tasks.flatMap Tk.c) q hq' hb
    have he3' : evL tab0 ext2 F.nb (C.pre 1 (C.post 1 (C.post 8 C9.body))) (put 10 (.ptr 2 0) (put 7 (.ptr 1 0) (put 9 (vi q) emp)), slB s (anS s).1 ((dls s q (slD s q y)).tasks.flatMap Tk.c)) = some (.ret, e3, bx3) := by rw [h0]; exact he3
    exact cut_sound tab_ok ext2_sound 1 c2 rfl he3' hI3 (fun h => by cases h) fun _ a' w' hI' => hQ a' w' (fin hI' e36)
  have hbq := hbd q hqn
  obtain ⟨e3, he3, e310⟩ := slack_3 s (dls s q (slD s q y)) (anS s).1 q hq' (by rw [dls_len]; exact hqn) dls_len.symm (by rw [dls_len]; omega) hb (by omega)
  have he3' : evL tab0 ext2 F.nb (C.pre 1 (C.post 1 (C.post 8 C9.body))) (put 10 (.ptr 2 0) (put 7 (.ptr 1 0) (put 9 (vi q) emp)), slB s (anS s).1 ((dls s q (slD s q y)).tasks.flatMap Tk.c)) = some (.nor, e3, slB s (anS s).1 ((dls (dls s q (slD s q y)) q (bAt (anS s).1.bounds q - 1)).tasks.flatMap Tk.c)) := by rw [h0]; exact he3
  refine cut_sound tab_ok ext2_sound 1 c2 rfl he3' hI3 (fun _ a3 w3 hI4 => ?_) fun h => absurd rfl h
  rw [dls_dls] at hI4
  have gd2 := dls_good (s := s) (q := q) (d := bAt (anS s).1.bounds q - 1) g (by omega) (by omega)
  have hod2 : okS (dls s q (bAt (anS s).1.bounds q - 1)) = okS s := by rw [ho, (okS_iff _).2 gd2]
  have hsd2 : Sm (dls s q (bAt (anS s).1.bounds q - 1)) := dls_sm hs
  have hdn := slack_dn hod2 ho hs hsd2 hqn (by omega) (by omega) hz
  have hcd := an_code (by rw [hod2]; exact ho) hdn
  obtain ⟨lim4, μ4, own4, hG4⟩ := hI4
  obtain ⟨F4, m0, m1, m2, hF4⟩ := freeze hG4
  have c3 := comp_post 1 c2 rfl
  rw [← m1] at c3
  obtain ⟨z3, _⟩ := frz_bs (μ := μ4) (s := s) (v := (anS s).1) (t := dls s q (bAt (anS s).1.bounds q - 1)) dls_len.symm rfl rfl rfl
  obtain ⟨e4, bx4, he4, e46⟩ := slack_4 _ hsd2 hcd (μ4 2) (fun i => frzP μ4 (slB s (anS s).1 ((dls s q (bAt (anS s).1.bounds q - 1)).tasks.flatMap Tk.c)) (e3 i)) (by simp only [e310]; exact z3)
  rw [← m0] at he4
  refine (codeL_sound tab_ok ext2_sound F4 hn lv k _ _ _ _ _ c3 he4 a3 w3 Q hF4 fun a' w' hI5 => hQ a' w' ?_).wp
  have hT5 := thaw hG4 hI5 m2 m0 m1 (put 6 (vb true) emp) (fun i => by
    simp only [put_at]
    split
    · rename_i hi; subst hi; exact .inr (.inl ⟨_, rfl, e46⟩)
    · exact .inl rfl)
  exact fin ⟨lim4, μ4, own4, hT5⟩ (by simp [put_at])
/-- What the law's code does, as a whole. -/
noncomputable def evSl : Ev := fun nb c s => @ite _ (nb = 0 ∧ c = C9.body ∧ ∃ (t : St) (x y : Int), (0 ≤ x ∧ x ≤ 255) ∧ (0 ≤ y ∧ y ≤ 255) ∧ s = (initFrom 0 [.agg (St.c t), vu8 x, vu8 y], [])) (Classical.propDecidable _) (some (.ret, put 6 (vb true) emp, [])) none
theorem evSl_sound : CodeSound Try.prog evSl := by
  intro F hn lv k c0 c s out s' hc he a w Q hI hQ
  unfold evSl at he
  split at he
  · rename_i hcond
    obtain ⟨h0, rfl, t, x, y, hx, hy, rfl⟩ := hcond
    cases he
    have key : c0.wp Try.prog Q a w := slack_wp t x y hx hy h0 hc hI hQ
    obtain ⟨u, v, rfl, _⟩ := comp_seq hc
    exact key
  · cases he
noncomputable def ext7 : CallF := fun f args bx => if f = 9 then callOf tab0 extN evSl f args bx else ext2 f args bx
theorem ext7_sound : SoundF Try.prog ext7 := by
  intro f xs bx r bx' h
  unfold ext7 at h
  split at h
  · exact call_sound evSl_sound tab_ok (extN_sound _) _ _ _ _ _ h
  · exact ext2_sound _ _ _ _ _ h
theorem admitSlack_is (s : St) (x y : Int) (_ : s.ok) (k1 : (Lit.int .u8 x).wf = true) (k2 : (Lit.int .u8 y).wf = true) : Ans (vb true) [] (callL tab0 ext7 9 [.agg (St.c s), vu8 x, vu8 y] []) := by
  refine ⟨[], ?_⟩
  have h : ext7 9 [.agg (St.c s), vu8 x, vu8 y] [] = some (vb true, []) := by
    unfold ext7
    rw [if_pos rfl]
    unfold callOf
    simp only [extN, tab9]
    refine (if_pos (show ([.agg (St.c s), vu8 x, vu8 y] : List A).length = C9.np from rfl)).trans ?_
    have he : evSl ([] : Bx).length C9.body (initFrom 0 [.agg (St.c s), vu8 x, vu8 y], []) = some (.ret, put 6 (vb true) emp, []) := by
      unfold evSl
      exact if_pos ⟨rfl, rfl, s, x, y, u8_of k1, u8_of k2, rfl⟩
    rw [he]
    rfl
  unfold callL callOf
  rw [h]
  rfl
end Go.Proofs.YtclebnamhpgdmaaEv
