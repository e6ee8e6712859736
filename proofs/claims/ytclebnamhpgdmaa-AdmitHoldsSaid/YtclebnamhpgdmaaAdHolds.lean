/- swingbridgelaw18.AdmitHolds. -/
import Derived.Test.YtclebnamhpgdmaaAdLeast
import Derived.Test.YtclebnamhpgdmaaExt2
import Derived.Test.YtclebnamhpgdmaaU8s
set_option linter.unusedSimpArgs false
set_option linter.unusedVariables false
namespace Go.Proofs.YtclebnamhpgdmaaEv
open Go
set_option maxHeartbeats 4000000
/-! ### the plain law -/
theorem bAt_range' (f : Nat → Int) (n i : Nat) : bAt ((List.range n).map f) i = if i < n then f i else 0 := by
  unfold bAt
  by_cases h : i < n
  · simp [h]
  · rw [if_neg h]; simp [h]
theorem b8_at' {bs : List Int} (h : ∀ b ∈ bs, B8 b) (i : Nat) : 0 ≤ bAt bs i ∧ bAt bs i ≤ 255 := by
  unfold bAt
  rw [List.getD_eq_getElem?_getD]
  cases hi : bs[i]? with
  | none => simp
  | some x => exact h x (List.mem_of_getElem? hi)
theorem drop_u8' (l : List Int) (i : Nat) (h : i < l.length) : (l.map vu8).drop i = vu8 l[i] :: (l.drop (i + 1)).map vu8 := by
  rw [← List.map_drop, List.drop_eq_getElem_cons h]; rfl
theorem drop_slW' (l : List (List Int)) (i : Nat) (h : i < l.length) : (l.map slI).drop i = slI l[i] :: (l.drop (i + 1)).map slI := by
  rw [← List.map_drop, List.drop_eq_getElem_cons h]; rfl
def EXQ {α : Type} (Q : α → Prop) (r : Option α) : Prop := ∃ zz, r = some zz ∧ Q zz
def lwF (b ls : List Int) (i : Nat) : Int := if 0 < bAt ls i then (if 1 < bAt b i - bAt ls i then bAt b i - bAt ls i else 1) else bAt b i
def lowC (b ls : List Int) (i : Nat) : List Int := (List.range i).map (lwF b ls) ++ b.drop i
def tnL (b ls : List Int) : Nat → Bool
  | 0 => false
  | i + 1 => if 0 < bAt ls i then (tnL b ls i || decide (lwF b ls i < bAt b i)) else tnL b ls i
theorem lowC_len (b ls : List Int) (i : Nat) (h : i ≤ b.length) : (lowC b ls i).length = b.length := by simp [lowC]; omega
theorem lowC_set (b ls : List Int) (i : Nat) (h : i < b.length) : ((lowC b ls i).map vi).take i ++ vi (lwF b ls i) :: ((lowC b ls i).map vi).drop (i + 1) = (lowC b ls (i + 1)).map vi := by
  unfold lowC
  rw [List.drop_eq_getElem_cons h, List.map_append, List.map_cons]
  have := put_mid (((List.range i).map (lwF b ls)).map vi) ((b.drop (i + 1)).map vi) (vi b[i]) (vi (lwF b ls i)) i (by simp)
  rw [this, List.range_succ, List.map_append, List.map_append, List.map_append, List.append_assoc]; rfl
theorem lowC_keep (b ls : List Int) (i : Nat) (h : i < b.length) (hk : lwF b ls i = bAt b i) : lowC b ls (i + 1) = lowC b ls i := by
  unfold lowC
  rw [List.drop_eq_getElem_cons h, List.range_succ, List.map_append, List.append_assoc]
  congr 1
  show lwF b ls i :: b.drop (i + 1) = _
  rw [hk, bAt_is b i h]
theorem lowC_at (b ls : List Int) (i : Nat) (h : i < b.length) : ((lowC b ls i).map vi)[i]? = some (vi (bAt b i)) := by
  unfold lowC
  rw [List.map_append, List.getElem?_append_right (by simp)]
  simp [h, bAt_is b i h]
theorem lowC_at' (b ls : List Int) (i : Nat) (h : i < b.length) : ((lowC b ls (i + 1)).map vi)[i]? = some (vi (lwF b ls i)) := by
  unfold lowC
  rw [List.map_append, List.getElem?_append_left (by simp)]
  simp
theorem lowC_end (b ls : List Int) : lowC b ls b.length = (List.range b.length).map (lwF b ls) := by simp [lowC]
theorem bAt_low (b ls : List Int) (i : Nat) : bAt (lowC b ls b.length) i = if i < b.length then lwF b ls i else 0 := by rw [lowC_end, bAt_range']
theorem tnL_ex (b ls : List Int) : ∀ n, tnL b ls n = true → ∃ i, i < n ∧ lwF b ls i < bAt b i
  | 0, h => by cases h
  | n + 1, h => by
    unfold tnL at h
    split at h
    · rw [Bool.or_eq_true] at h
      rcases h with h | h
      · obtain ⟨i, hi, h2⟩ := tnL_ex b ls n h; exact ⟨i, by omega, h2⟩
      · exact ⟨n, by omega, by simpa using h⟩
    · obtain ⟨i, hi, h2⟩ := tnL_ex b ls n h; exact ⟨i, by omega, h2⟩
theorem no_less {s : St} (hs : Sm s) (g : Good s) (hz : (leastB s).2 = 0) (ls : List Int) (hls : ∀ x ∈ ls, B8 x) (ht : tnL (leastB s).1 ls s.tasks.length = true) : holdsS s (lowC (leastB s).1 ls s.tasks.length) = false := by
  cases hh : holdsS s (lowC (leastB s).1 ls s.tasks.length) with
  | false => rfl
  | true =>
    obtain ⟨_, h1, _⟩ := holds_hld hh
    have h2 := least_le hs g h1 hz
    obtain ⟨hl, _, _⟩ := least_ok hs g hz
    obtain ⟨i, hi, h3⟩ := tnL_ex _ _ _ ht
    have h4 := h2.le i
    rw [← hl, bAt_low, if_pos (by omega)] at h4
    omega
theorem low_i64 {s : St} (hs : Sm s) (g : Good s) (hz : (leastB s).2 = 0) (ls : List Int) (hls : ∀ x ∈ ls, B8 x) : ∀ x ∈ lowC (leastB s).1 ls s.tasks.length, I64' x := by
  obtain ⟨hl, hb, hr⟩ := least_ok hs g hz
  intro x hx
  rw [← hl, lowC_end] at hx
  obtain ⟨i, hi, rfl⟩ := List.mem_map.1 hx
  have hi : i < (leastB s).1.length := by simpa using hi
  have h1 := hb _ (List.getElem_mem hi)
  rw [← bAt_is _ i hi] at h1
  obtain ⟨q1, q2⟩ := h1
  have h2 := b8_at' hls i
  have h3 := least_pos hs g hz i (by omega)
  unfold lwF
  exact ⟨by repeat' split
            all_goals omega, by repeat' split
                                all_goals omega⟩
/-! ### the walk -/
theorem ah_loop2 (s : St) (hs : Sm s) (v : Vd) (lw : List Int) (b : List Int) (ls : List Int) (m : Nat) (hm : m < v.waits.length) (x : List Int) (hx : v.waits[m] = x) (hxl : x.length ≤ 1000) (N : Nat) (t : Bool) :
    ∀ d i (e : Env), i + d = x.length → (e 1 = slB ls ∧ e 2 = .ptr 0 0 ∧ e 5 = .ptr 1 0 ∧ e 7 = .bs 2 N 1 ∧ e 8 = vb t ∧ e 9 = vi m ∧ e 12 = slI x ∧ e 14 = vi i) → ∃ zz, evL tab0 ext2 0 L7_2 (e, [St.c s, Vd.c v, lw.map vi]) = some zz ∧ FQ (fun _ => false) ([St.c s, Vd.c v, lw.map vi]) 2 (fun _ _ => True) (fun e => e 1 = slB ls ∧ e 2 = .ptr 0 0 ∧ e 5 = .ptr 1 0 ∧ e 7 = .bs 2 N 1 ∧ e 8 = vb t ∧ e 9 = vi m) i d zz := by
  have pd := plain_dang (m := 3) (plain_vi lw)
  have po : (lw.map vi).map A.own = lw.map vi := by rw [List.map_map]; rfl
  have hm' : (m : Int) < v.waits.length := by omega
  have hdw := drop_slW' v.waits m hm
  rw [hx] at hdw
  simp only [slI] at hdw
  refine fq_loop (St := fun i e => e 1 = slB ls ∧ e 2 = .ptr 0 0 ∧ e 5 = .ptr 1 0 ∧ e 7 = .bs 2 N 1 ∧ e 8 = vb t ∧ e 9 = vi m ∧ e 12 = slI x ∧ e 14 = vi i) _ _ _ _ _ ?_ ?_
  · rintro e ⟨g0, g1, g2, g3, g4, g5, g6, g7⟩
    have x1 := 0
    exact ⟨_, (go7_2 _ _).trans (by simp [B7_2, push_cast, -Int.not_lt, -Int.not_le, ↓evI_call, ↓evI_calli, ↓evI_callv, ↓evI_mxn, loopIn, loopIn0, keepL, emp, A.dang, A.dangC, g0, g1, g2, g3, g4, g5, g6, g7, slI, slT, slP, St.c, slB, Vd.c, slW, pd, po, -List.all_eq_true, -List.map_map]; rfl), by simp [put_at, slI, slB]⟩
  · rintro i e hi ⟨g0, g1, g2, g3, g4, g5, g6, g7⟩
    rw [go7_2]
    have hi' : (i : Int) < (x.length : Nat) := by omega
    have hw : IntKind.wrap .i64 ((i : Int) + 1) = (i : Int) + 1 := wrap_in _ (by omega) (by omega)
    have hd := drop_int x i hi
    simp +contextual (maxSteps := 400000) [B7_2, push_cast, -Int.not_lt, -Int.not_le, ↓evI_call, ↓evI_calli, ↓evI_callv, ↓evI_mxn, loopIn, loopIn0, keepL, emp, A.dang, A.dangC, g0, g1, g2, g3, g4, g5, g6, g7, hi, hi', slI, slT, slP, St.c, slB, Vd.c, slW, pd, po, hw, hd, hm, hm', hdw, eqz_self, -List.all_eq_true, -List.map_map]
    exact Step.go rfl (by simp [put_at])
theorem ah_loop (s : St) (hs : Sm s) (b : List Int) (hb : ∀ x ∈ b, I64' x) (ls : List Int) (hls : ∀ x ∈ ls, B8 x) (hl : b.length = s.tasks.length) (hp : ∀ i, i < s.tasks.length → 1 ≤ bAt b i ∧ bAt b i ≤ 3000)
    (hn : ∀ i, i < s.tasks.length → nextS s b i = some (bAt b i) ∧ bAt b i ≤ dlAt s i) (hw : ∀ i : Nat, i < s.tasks.length → (waitsS s b i).isSome = true) (v : Vd) (hv1 : v.bounds = b) (hv2 : v.waits = wl s b s.tasks.length) :
    ∀ (d i : Nat) (e : Env), i + d = s.tasks.length → e 1 = slB ls → e 2 = .ptr 0 0 → e 5 = .ptr 1 0 → e 7 = .bs 2 b.length 1 → e 8 = vb (tnL b ls i) → e 9 = vi i →
    EXQ (fun zz => ∃ e', zz = (.ex 0, e', [St.c s, Vd.c v, (lowC b ls s.tasks.length).map vi]) ∧ e' 2 = .ptr 0 0 ∧ e' 7 = .bs 2 b.length 1 ∧ e' 8 = vb (tnL b ls s.tasks.length)) (evL tab0 ext2 0 L7_0 (e, [St.c s, Vd.c v, (lowC b ls i).map vi])) := by
  have ht9 := hs.tasks
  obtain ⟨vk, vs0, vw⟩ := v
  simp only at hv1 hv2
  subst hv1
  intro d
  induction d with
  | zero =>
    intro i e hi h1 h2 h5 h7 h8 h9
    obtain rfl : i = s.tasks.length := by omega
    have pd := plain_dang (m := 3) (plain_vi (lowC vs0 ls s.tasks.length))
    have po : ((lowC vs0 ls s.tasks.length).map vi).map A.own = (lowC vs0 ls s.tasks.length).map vi := by rw [List.map_map]; rfl
    generalize (lowC vs0 ls s.tasks.length).map vi = C at pd po ⊢
    generalize tnL vs0 ls s.tasks.length = t at h8 ⊢
    have hnl : ¬ s.tasks.length < vs0.length := by omega
    have hnl2 : ¬ (s.tasks.length : Int) < vs0.length := by omega
    rw [go7_0]
    simp [B7_0, push_cast, -Int.not_lt, -Int.not_le, ↓evI_call, ↓evI_calli, ↓evI_callv, ↓evI_mxn, loopIn, loopIn0, keepL, emp, A.dang, A.dangC, St.c, slI, slT, slB, Vd.c, slW, h1, h2, h5, h7, h8, h9, hnl, hnl2, pd, po, -List.all_eq_true, -List.map_map]
    exact ⟨_, rfl, _, rfl, by simp [put_at], by simp [put_at], by simp [put_at]⟩
  | succ d ih =>
    intro i e hi h1 h2 h5 h7 h8 h9
    have hi1 : i < s.tasks.length := by omega
    have hi2 : (i : Int) < s.tasks.length := by omega
    have hib : i < vs0.length := by omega
    have hib2 : (i : Int) < vs0.length := by omega
    have hww : IntKind.wrap .i64 ((i : Int) + 1) = (i : Int) + 1 := wrap_in _ (by omega) (by omega)
    obtain ⟨n1, n2⟩ := hn i hi1
    have hq1 := pure2 (pure_ansO (k := false) (next_is s hs vs0 hb i))
    rw [n1] at hq1
    obtain ⟨x, hx⟩ := Option.isSome_iff_exists.1 (hw i hi1)
    have hq2 := pure2 (pure1 (waits_is s hs vs0 hb i))
    rw [hx] at hq2
    simp only [Option.getD_some, Option.isSome_some] at hq1 hq2
    have hxl : x.length ≤ 10 := by have := waits_few hs vs0 i; rw [hx] at this; exact this
    have hwl : vw.length = s.tasks.length := by rw [hv2, wl_len]
    have hvi : i < vw.length := by omega
    have hvi2 : (i : Int) < vw.length := by omega
    have hvx : vw[i] = x := by
      have e0 : vw[i]? = some x := by rw [hv2]; unfold wl; simp [hi1, hx]
      rw [List.getElem?_eq_getElem hvi] at e0
      exact Option.some.inj e0
    have hdw := drop_slW' vw i hvi
    rw [hvx] at hdw
    have hdb := drop_int vs0 i hib
    rw [← bAt_is vs0 i hib] at hdb
    have hdt := drop_tk s.tasks i hi1
    rw [dlAt_is s i hi1] at n2
    have n2' : ¬ s.tasks[i].deadline < bAt vs0 i := by omega
    have pd := plain_dang (m := 3) (plain_vi (lowC vs0 ls i))
    have po : ((lowC vs0 ls i).map vi).map A.own = (lowC vs0 ls i).map vi := by rw [List.map_map]; rfl
    have hlC : ((lowC vs0 ls i).map vi).length = s.tasks.length := by rw [List.length_map, lowC_len vs0 ls i (by omega), hl]
    have hat := lowC_at vs0 ls i hib
    have hset := lowC_set vs0 ls i hib
    have hat2 := lowC_at' vs0 ls i hib
    have hkeep := lowC_keep vs0 ls i hib
    have hB1 : i + 1 ≤ s.tasks.length := by omega
    have hbb := hp i hi1
    have hls2 := b8_at' hls i
    have hin := fun t => ah_loop2 s hs ⟨vk, vs0, vw⟩ (lowC vs0 ls i) vs0 ls i hvi x hvx (by omega) vs0.length t x.length 0
    have htn : tnL vs0 ls (i + 1) = if 0 < bAt ls i then (tnL vs0 ls i || decide (lwF vs0 ls i < bAt vs0 i)) else tnL vs0 ls i := rfl
    have hlw : lwF vs0 ls i = if 0 < bAt ls i then (if 1 < bAt vs0 i - bAt ls i then bAt vs0 i - bAt ls i else 1) else bAt vs0 i := rfl
    rw [go7_0]
    generalize tnL vs0 ls i = tt at *
    generalize hC : (lowC vs0 ls i).map vi = C at *
    simp only [St.c, slI, slT, slP, Tk.c, Vd.c, slW, slB] at hq1 hq2 hdw hdt hin
    simp [B7_0, push_cast, -Int.not_lt, -Int.not_le, ↓evI_call, ↓evI_calli, ↓evI_callv, ↓evI_mxn, loopIn, loopIn0, keepL, emp, A.dang, A.dangC, St.c, slI, slT, slB, Vd.c, slW, h1, h2, h5, h7, h8, h9, pd, po, hi1, hi2, hq1, hq2, hdw, hdt, hdb, hib, hib2, hvi, hvi2, n2', eqz_self, Tk.c, slP, -List.all_eq_true, -List.map_map]
    refine behindP (P := EXQ _) (hin tt _ (by omega) (by simp [put_at])) ?_
    intro a h
    obtain ⟨e', rfl, hx⟩ := h.never; clear h; have h := hx
    obtain ⟨k1, k2, k5, k7, k8, k9⟩ := h
    have ih1 := ih (i + 1)
    by_cases hA : i < ls.length
    · have hA2 : (i : Int) < ls.length := by omega
      have hdu := drop_u8' ls i hA
      rw [← bAt_is ls i hA] at hdu
      have hcv : IntKind.wrap .i64 (bAt ls i) = bAt ls i := wrap_in _ (by omega) (by omega)
      by_cases hz : 0 < bAt ls i
      · rw [if_pos hz] at hlw htn
        have hsb : IntKind.wrap .i64 (bAt vs0 i - bAt ls i) = bAt vs0 i - bAt ls i := wrap_in _ (by omega) (by omega)
        have hlb : 1 ≤ lwF vs0 ls i := by rw [hlw]; split <;> omega
        have hfm : foldM true 1 [vi (bAt vs0 i - bAt ls i)] = some (lwF vs0 ls i) := by
          rw [hlw]
          show some (if 1 < bAt vs0 i - bAt ls i then _ else _) = _
          congr 1
        generalize lwF vs0 ls i = y at *
        generalize (lowC vs0 ls (i + 1)).map vi = C2 at *
        have hatp : ∀ h : i < C.length, C[i] = vi (bAt vs0 i) := fun h => by rw [List.getElem?_eq_getElem h] at hat; exact Option.some.inj hat
        have hatp2 : ∀ h : i < C2.length, C2[i] = vi y := fun h => by rw [List.getElem?_eq_getElem h] at hat2; exact Option.some.inj hat2
        cases tt with
        | true =>
          simp only [Bool.true_or] at htn
          rw [htn] at ih1
          simp [push_cast, -Int.not_lt, -Int.not_le, ↓evI_call, ↓evI_calli, ↓evI_callv, ↓evI_mxn, k1, k2, k5, k7, k8, k9, hA, hA2, hdu, hcv, hz, hi1, hi2, hat, hsb, hfm, hlC, hB1, hset, hat2, hatp, hatp2, hdb, hib, hib2, hww, -List.all_eq_true, -List.map_map]
          apply ih1
          all_goals first | omega | (simp [put_at, k1, k2, k5, k7, k8, slB]; done)
        | false =>
          simp only [Bool.false_or] at htn
          rw [htn] at ih1
          simp [push_cast, -Int.not_lt, -Int.not_le, ↓evI_call, ↓evI_calli, ↓evI_callv, ↓evI_mxn, k1, k2, k5, k7, k8, k9, hA, hA2, hdu, hcv, hz, hi1, hi2, hat, hsb, hfm, hlC, hB1, hset, hat2, hatp, hatp2, hdb, hib, hib2, hww, -List.all_eq_true, -List.map_map]
          apply ih1
          all_goals first | omega | (simp [put_at, k1, k2, k5, k7, k8, slB]; done)
      · rw [if_neg hz] at hlw htn
        rw [htn, hkeep hlw, hC] at ih1
        simp [push_cast, -Int.not_lt, -Int.not_le, ↓evI_call, ↓evI_calli, ↓evI_callv, ↓evI_mxn, k1, k2, k5, k7, k8, k9, hA, hA2, hdu, hcv, hz, hi1, hi2, hww, -List.all_eq_true, -List.map_map]
        apply ih1
        all_goals first | omega | (simp [put_at, k1, k2, k5, k7, k8, slB]; done)
    · have hA2 : ¬ (i : Int) < ls.length := by omega
      have hz : ¬ 0 < bAt ls i := by rw [bAt_out (by omega)]; omega
      rw [if_neg hz] at hlw htn
      rw [htn, hkeep hlw, hC] at ih1
      simp [push_cast, -Int.not_lt, -Int.not_le, ↓evI_call, ↓evI_calli, ↓evI_callv, ↓evI_mxn, k1, k2, k5, k7, k8, k9, hA, hA2, hww, -List.all_eq_true, -List.map_map]
      apply ih1
      all_goals first | omega | (simp [put_at, k1, k2, k5, k7, k8, slB]; done)
theorem admitHolds_is (s : St) (ls : List Int) (_ : s.ok) (hls : ∀ x ∈ ls, B8 x) : Ans (vb true) [] (callL tab0 ext2 7 [.agg (St.c s), slB ls] []) := by
  rw [callL_tab _ _ rfl tab7 rfl]
  have h1 := pure_vb (k := false) known_21
  have h2 := pure2 (pure1 (pure_vb (k := false) (few_is_22 s)))
  rcases (Bool.eq_false_or_eq_true (few8 s)).symm with hs | hs
  · rw [hs] at h2
    simp only [St.c, slI, slT] at h2
    simp [C7, push_cast, -Int.not_lt, -Int.not_le, ↓evI_call, ↓evI_calli, ↓evI_callv, ↓evI_mxn, St.c, slI, slT, h1, h2]
    exact ⟨_, rfl⟩
  rw [hs] at h2
  have hs := few8_sm s hs
  have h3 := pure2 (analyze_is s hs)
  rcases (Bool.eq_false_or_eq_true (eqz (anS s).2 0)).symm with hz | hz
  · have hv : (anS s).1 = ⟨false, [], []⟩ := by
      unfold anS at hz ⊢
      split
      · rename_i ho
        rw [if_pos ho] at hz
        split
        · rename_i h; rw [if_pos h] at hz; simp [eqz] at hz
        · rfl
      · rfl
    rw [hv] at h3
    generalize (anS s).2 = z at *
    simp only [St.c, slI, slT, Vd.c, slW] at h2 h3
    simp [C7, push_cast, -Int.not_lt, -Int.not_le, ↓evI_call, ↓evI_calli, ↓evI_callv, ↓evI_mxn, St.c, slI, slT, h1, h2, h3, hz, eqz_self]
    exact ⟨_, rfl⟩
  have hok : okS s = true ∧ eqz (leastB s).2 0 = true := by
    unfold anS at hz
    split at hz
    · rename_i ho
      split at hz
      · rename_i h; exact ⟨ho, h⟩
      · rename_i h; exact absurd hz h
    · rename_i ho; exact absurd hz ho
  obtain ⟨ho, hz2⟩ := hok
  have g := (okS_iff s).1 ho
  have hz3 : (leastB s).2 = 0 := by simpa [eqz] using hz2
  have ean : anS s = (⟨true, (leastB s).1, wl s (leastB s).1 s.tasks.length⟩, 0) := by unfold anS; rw [if_pos ho, if_pos hz2]
  rw [ean] at h3
  obtain ⟨hl, hb, hr⟩ := least_ok hs g hz3
  obtain ⟨_, r2, _⟩ := round_ok hr
  have hpos := least_pos hs g hz3
  have hp : ∀ i, i < s.tasks.length → 1 ≤ bAt (leastB s).1 i ∧ bAt (leastB s).1 i ≤ 3000 := fun i hi => ⟨hpos i hi, by
    have h := (r2 i hi).2
    rw [dlAt_is s i hi] at h
    have h4 := (g.task _ (List.getElem_mem hi)).deadline.2
    have h5 := (g.task _ (List.getElem_mem hi)).period.2
    omega⟩
  have hww : ∀ i : Nat, i < s.tasks.length → (waitsS s (leastB s).1 i).isSome = true := fun i hi => by
    have h := (r2 i hi).1
    unfold nextS at h
    rw [if_pos hl] at h
    obtain ⟨y, hy, _⟩ := Option.map_eq_some_iff.1 h
    unfold ownS at hy
    split at hy
    · assumption
    · cases hy
  have h4 := pure2 (pure1 (pure_vb (k := false) (okR_is s hs.fits)))
  have h4e : eqz (chk s).2 0 = true := ho
  rw [h4e] at h4
  have h5 := pure2 (pure_vb (k := false) (holds_is s hs (leastB s).1 hb))
  rw [fix_hold hs g hl hr hpos] at h5
  have h6 := pure2 (pure_vb (k := false) (holds_is s hs (lowC (leastB s).1 ls s.tasks.length) (low_i64 hs g hz3 ls hls)))
  have hlp := ah_loop s hs (leastB s).1 hb ls hls hl hp r2 hww ⟨true, (leastB s).1, wl s (leastB s).1 s.tasks.length⟩ rfl rfl s.tasks.length 0
  have hno := no_less hs g hz3 ls hls
  have hN : 0 < s.tasks.length := by have := g.tasks.1; omega
  have hlw := wl_len s (leastB s).1 s.tasks.length
  have hlC := lowC_len (leastB s).1 ls s.tasks.length (by omega)
  have e0 : lowC (leastB s).1 ls 0 = (leastB s).1 := by simp [lowC]
  have e1 : tnL (leastB s).1 ls 0 = false := rfl
  rw [e0, e1] at hlp
  have ht9 := hs.tasks
  generalize wl s (leastB s).1 s.tasks.length = w at *
  generalize lowC (leastB s).1 ls s.tasks.length = L at *
  generalize tnL (leastB s).1 ls s.tasks.length = tn at *
  generalize (leastB s).1 = b at *
  have hsz : b.length * 8 ≤ 70368744177664 := by omega
  have hsz2 : (b.length : Int) * 8 ≤ 70368744177664 := by omega
  have hN' : 0 < b.length := by omega
  have q1 : eqz (b.length : Int) s.tasks.length = true := by simp [eqz, hl]
  have q2 : eqz (w.length : Int) s.tasks.length = true := by simp [eqz, hlw]
  simp only [St.c, slI, slT, Vd.c, slW, slB] at h2 h3 h4 h5 h6 hlp
  simp [C7, push_cast, -Int.not_lt, -Int.not_le, ↓evI_call, ↓evI_calli, ↓evI_callv, ↓evI_mxn, St.c, slI, slT, slB, h1, h2, h3, h4, h5, eqz_self, q1, q2, hsz, hN', asList, plain_norm (plain_vi b), -List.all_eq_true, -List.map_map]
  refine behindP (P := fun r => Ans _ [] r) (hlp _ (by omega) (by simp [put_at]) (by simp [put_at]) (by simp [put_at]) (by simp [put_at]) (by simp [put_at]) (by simp [put_at])) ?_
  rintro _ ⟨e', rfl, k2, k7, k8⟩
  cases tn with
  | false =>
    simp [push_cast, -Int.not_lt, -Int.not_le, ↓evI_call, ↓evI_calli, ↓evI_callv, ↓evI_mxn, k2, k7, k8]
    exact ⟨_, rfl⟩
  | true =>
    rw [hno rfl] at h6
    have hL : L.length = s.tasks.length := by omega
    have pf : ∀ bx : Bx, ((L.map vi).take s.tasks.length).mapM (frzC bx 2) = some (L.map vi) := fun bx => by rw [List.take_of_length_le (by simp; omega)]; exact plain_mapM (plain_vi L)
    rw [hL] at h6
    simp [push_cast, -Int.not_lt, -Int.not_le, ↓evI_call, ↓evI_calli, ↓evI_callv, ↓evI_mxn, k2, k7, k8, pf, h6, hL, hl, -List.all_eq_true, -List.map_map]
    exact ⟨_, rfl⟩
end Go.Proofs.YtclebnamhpgdmaaEv
