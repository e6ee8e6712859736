/- package bound: the program's, the reference's. -/
import Derived.Test.YtclebnamhpgdmaaEach
import Derived.Test.YtclebnamhpgdmaaWt
set_option linter.unusedSimpArgs false
set_option linter.unusedVariables false
namespace Go.Proofs.YtclebnamhpgdmaaEv
open Go
set_option maxHeartbeats 4000000
def ownS (s : St) (bs : List Int) (n : Int) : Option Int := if (waitsS s bs n).isSome = true then some (allK (ptsAt s n.toNat) 1 + allK (ptsAt s n.toNat) 2 + wsumS s bs n) else none
theorem waits_there {s : St} {bs : List Int} {n : Int} (h : (waitsS s bs n).isSome = true) : thereS s n = true := by
  unfold waitsS at h
  split at h
  · assumption
  · cases h
theorem wsum_b (s : St) (hs : Sm s) (bs : List Int) (n : Int) : 0 ≤ wsumS s bs n ∧ wsumS s bs n ≤ 100000 := by
  have h := w_take (waits_b (s := s) (bs := bs) (n := n)).2 (waits_few hs bs n) ((waitsS s bs n).getD []).length
  rw [List.take_length] at h; exact h
theorem pure_tup2b {Φ : CallF} {k f args a b} (h : Ans (.tup [vi a, vb b]) [] (Φ f args [])) : pureOf Φ k f args = some (.tup [vi a, vb b]) := by
  obtain ⟨j, h⟩ := h
  exact pureOf_eq h rfl
theorem own_is (s : St) (hs : Sm s) (bs : List Int) (hb : ∀ b ∈ bs, I64' b) (n : Int) : Ans (ansO (ownS s bs n)) [] (callL tab0 ext1 17 [.agg (St.c s), slI bs, vi n] []) := by
  refine Ans.up up1 ?_
  rw [callL_tab _ _ rfl tab17 rfl]
  have h1 := pure_tup2b (k := false) (wsum_is s hs bs hb n)
  have hwb := wsum_b s hs bs n
  unfold ownS
  rcases (Bool.eq_false_or_eq_true (waitsS s bs n).isSome).symm with hw | hw
  · rw [hw] at h1
    rw [if_neg (by simp [hw])]
    simp only [St.c, slI, slT] at h1
    simp [C17, push_cast, -Int.not_lt, -Int.not_le, ↓evI_call, ↓evI_calli, ↓evI_calln, ↓evI_callz, ↓evI_callv, ↓evI_mxn, St.c, slI, slT, h1]
    exact Ans.nil rfl
  · rw [hw] at h1
    rw [if_pos hw]
    obtain ⟨g, h0, hn⟩ := (thereS_iff s n).1 (waits_there hw)
    obtain ⟨m, rfl⟩ := nat_of n h0
    have hm : m < s.tasks.length := by omega
    have hp := g.pts (List.getElem_mem hm)
    have h2 := pure_vi (k := false) (kind_30 s.tasks[m] hp)
    have h3 := pure_vi (k := false) (kind_31 s.tasks[m] hp)
    have b1 := all_bounds hp 1
    have b2 := all_bounds hp 2
    have hdm := drop_tk s.tasks m hm
    rw [Int.toNat_natCast, ptsAt_is s m hm]
    generalize wsumS s bs m = x3 at *
    generalize allK s.tasks[m].parts 1 = x1 at *
    generalize allK s.tasks[m].parts 2 = x2 at *
    have w1 : IntKind.wrap .i64 (x1 + x2) = x1 + x2 := wrap_in _ (by omega) (by omega)
    have w2 : IntKind.wrap .i64 (x1 + x2 + x3) = x1 + x2 + x3 := wrap_in _ (by omega) (by omega)
    simp only [St.c, slI, slT, slP, Tk.c] at h1 h2 h3 hdm
    simp [C17, push_cast, -Int.not_lt, -Int.not_le, ↓evI_call, ↓evI_calli, ↓evI_calln, ↓evI_callz, ↓evI_callv, ↓evI_mxn, St.c, slI, slT, slP, Tk.c, h1, h2, h3, hm, hn, hdm, w1, w2]
    exact Ans.nil rfl
/-! ### what others do -/
def othW (s : St) (bs : List Int) (m : Nat) (w : Int) (i : Nat) : Int := if eqz (i : Int) m = true then 0 else workS w (bAt bs i) (perAt s i) (eachS s m i)
theorem othW_b (s : St) (bs m w i) : 0 ≤ othW s bs m w i ∧ othW s bs m w i ≤ 1000000 := by
  unfold othW
  split
  · omega
  · exact work_le ..
def corAt (s : St) (m : Nat) : Int := s.cores.getD (clAt s m).toNat 0
theorem corAt_b {s : St} (g : Good s) {m : Nat} (hm : m < s.tasks.length) : 1 ≤ corAt s m ∧ corAt s m ≤ 3 := by
  unfold corAt
  rw [clAt_is s m hm]
  have hc := (g.task _ (List.getElem_mem hm)).cluster
  have : s.tasks[m].cluster.toNat < s.cores.length := by omega
  rw [List.getD_eq_getElem?_getD, List.getElem?_eq_getElem this]
  exact g.core _ (List.getElem_mem this)
def negL (bs : List Int) : Bool := bs.any fun b => decide (b < 0)
def othersS (s : St) (bs : List Int) (n w : Int) : Int :=
  if thereS s n = true ∧ bs.length = s.tasks.length ∧ negL bs = false then sumN (othW s bs n.toNat w) s.tasks.length / corAt s n.toNat else 0
theorem oth_sum_b (s : St) (hs : Sm s) (bs m w) (i : Nat) (hi : i ≤ s.tasks.length) : 0 ≤ sumN (othW s bs m w) i ∧ sumN (othW s bs m w) i ≤ 9000000 := by
  have h1 : 0 ≤ sumN (othW s bs m w) i := sumN_ge _ fun i _ => (othW_b ..).1
  have h2 : sumN (othW s bs m w) i ≤ i * 1000000 := sumN_le _ fun i _ => (othW_b ..).2
  have := hs.tasks
  omega
theorem oth_step (s : St) (bs m w) (i : Nat) : sumN (othW s bs m w) (i + 1) = if eqz (i : Int) m = true then sumN (othW s bs m w) i else sumN (othW s bs m w) i + workS w (bAt bs i) (perAt s i) (eachS s m i) := by
  rw [sumN]
  have h : othW s bs m w i = if eqz (i : Int) m = true then 0 else workS w (bAt bs i) (perAt s i) (eachS s m i) := rfl
  rw [h]; split <;> omega
theorem neg_all {bs : List Int} (h : negL bs = false) {b : Int} (hb : b ∈ bs) : 0 ≤ b := by
  unfold negL at h
  rw [List.any_eq_false] at h
  have := h b hb
  simpa using this
theorem corDrop {s : St} (g : Good s) {m : Nat} (hm : m < s.tasks.length) : 0 ≤ s.tasks[m].cluster ∧ s.tasks[m].cluster < s.cores.length ∧ (s.cores.map vi).drop s.tasks[m].cluster.toNat = vi (corAt s m) :: (s.cores.drop (s.tasks[m].cluster.toNat + 1)).map vi := by
  have hc := (g.task _ (List.getElem_mem hm)).cluster
  have h2 : s.tasks[m].cluster.toNat < s.cores.length := by omega
  refine ⟨hc.1, hc.2, ?_⟩
  rw [drop_int _ _ h2]
  unfold corAt
  rw [clAt_is s m hm, List.getD_eq_getElem?_getD, List.getElem?_eq_getElem h2]; rfl
theorem quo_is {a b : Int} (ha : 0 ≤ a) (ha2 : a ≤ 9000000) (hb : 1 ≤ b) : IntKind.wrap .i64 (a.tdiv b) = a / b ∧ 0 ≤ a / b ∧ a / b ≤ 9000000 := by
  have h1 := Int.ediv_nonneg ha (show 0 ≤ b by omega)
  have h2 := Int.ediv_le_self b ha
  rw [Int.tdiv_eq_ediv_of_nonneg ha]
  exact ⟨wrap_in _ (by omega) (by omega), h1, by omega⟩
theorem oth1_loop (s : St) (hs : Sm s) (g : Good s) (bs : List Int) (hb : ∀ b ∈ bs, I64' b) (hl : bs.length = s.tasks.length) (m : Nat) (hm : m < s.tasks.length) (w : Int) (hw0 : I64' w) :
    ∀ d i (e : Env), i + d = s.tasks.length → (e 1 = slI bs ∧ e 2 = vi m ∧ e 3 = vi w ∧ e 4 = .ptr 0 0 ∧ e 12 = vi (sumN (othW s bs m w) i) ∧ e 47 = slT s.tasks ∧ e 48 = vi s.tasks.length ∧ e 49 = vi i) → ∃ zz, evL tab0 ext1 0 L18_0 (e, [St.c s]) = some zz ∧ FQ (fun _ => false) ([St.c s]) 0 (fun _ _ => True) (fun e => e 2 = vi m ∧ e 4 = .ptr 0 0 ∧ e 12 = vi (sumN (othW s bs m w) s.tasks.length)) i d zz := by
  have hc := hs.tasks
  refine fq_loop (St := fun i e => e 1 = slI bs ∧ e 2 = vi m ∧ e 3 = vi w ∧ e 4 = .ptr 0 0 ∧ e 12 = vi (sumN (othW s bs m w) i) ∧ e 47 = slT s.tasks ∧ e 48 = vi s.tasks.length ∧ e 49 = vi i) _ _ _ _ _ ?_ ?_
  · rintro e ⟨g0, g1, g2, g3, g4, g5, g6, g7⟩
    exact ⟨_, (go18_0 _ _).trans (by simp [B18_0, push_cast, -Int.not_lt, -Int.not_le, ↓evI_call, ↓evI_calli, ↓evI_calln, ↓evI_callz, ↓evI_callv, ↓evI_mxn, loopIn, loopIn0, keepL, emp, A.dang, A.dangC, g0, g1, g2, g3, g4, g5, g6, g7, slI, slT, slP, St.c, Tk.c]; rfl), by simp [put_at, g1, g3, g4]⟩
  · rintro i e hi ⟨g0, g1, g2, g3, g4, g5, g6, g7⟩
    rw [go18_0]
    have hi' : (i : Int) < (s.tasks.length : Nat) := by omega
    have hw : IntKind.wrap .i64 ((i : Int) + 1) = (i : Int) + 1 := wrap_in _ (by omega) (by omega)
    have hi3 : i < bs.length := by omega
    have hi4 : (i : Int) < bs.length := by omega
    have hg := g.task _ (List.getElem_mem hi)
    have ha := each_bounds g m i
    have h2 := pure_vi (k := false) (each_is s g hs m i hm hi)
    have h3 := pure1 (pure_vi (k := false) (work_is w bs[i] s.tasks[i].period (eachS s m i) hw0 (hb _ (List.getElem_mem hi3)) hg.period.2 (by omega)))
    have hs2 := oth_sum_b s hs bs m w i (by omega)
    rw [oth_step, bAt_is bs i hi3, perAt_is s i hi]
    have hwk := work_le w bs[i] s.tasks[i].period (eachS s m i)
    generalize workS w bs[i] s.tasks[i].period (eachS s m i) = k at h3 hwk ⊢
    generalize sumN (othW s bs m w) i = q at g4 hs2 ⊢
    have hw3 : IntKind.wrap .i64 (q + k) = q + k := wrap_i _ (by omega) (by omega)
    simp only [St.c, slI, slT] at h2
    simp +contextual (maxSteps := 400000) [B18_0, push_cast, -Int.not_lt, -Int.not_le, ↓evI_call, ↓evI_calli, ↓evI_calln, ↓evI_callz, ↓evI_callv, ↓evI_mxn, loopIn, loopIn0, keepL, emp, A.dang, A.dangC, g0, g1, g2, g3, g4, g5, g6, g7, hi, hi', slI, slT, slP, St.c, Tk.c, drop_tk _ i hi, drop_int _ i hi3, hi4, hw, h2, h3, hw3]
    (repeat' refine Step.split (fun cc => ?_) (fun cc => ?_)) <;> first | (refine Step.ret0 ?_ ?_ <;> first | (simp_all [put_at, eqz]; done) | (simp [put_at, *]; done) | ((try simp [eqz] at *); omega)) | (refine Step.go ?_ ?_ <;> first | (simp_all [put_at, eqz]; done) | (simp [put_at, *]; done) | ((try simp [eqz] at *); omega)) | (refine Step.ret _ ?_ ?_ <;> first | (simp_all [put_at, eqz]; done) | (simp [put_at, *]; done) | ((try simp [eqz] at *); omega)) | (refine Step.goJ _ (by simp) ?_ ?_ <;> first | (simp_all [put_at, eqz]; done) | (simp [put_at, *]; done) | ((try simp [eqz] at *); omega))
theorem below_is (b : Int) (bx : Bx) (hc : Clean bx) : ∃ junk, callL tab0 ext0 33 [vi b] bx = some (vb (decide (b < 0)), bx ++ junk) := by
  rw [callL_tab _ _ rfl tab33 rfl]
  exact ⟨[], by simp [C33, push_cast, -Int.not_lt, -Int.not_le, ↓evI_call, ↓evI_calli, ↓evI_calln, ↓evI_callz, ↓evI_callv, ↓evI_mxn]⟩
theorem others_is (s : St) (hs : Sm s) (bs : List Int) (hb : ∀ b ∈ bs, I64' b) (n w : Int) (hw0 : I64' w) : Ans (vi (othersS s bs n w)) [] (callL tab0 ext1 18 [.agg (St.c s), slI bs, vi n, vi w] []) := by
  rw [callL_tab _ _ rfl tab18 rfl]
  have h1 := pure1 (okS_pure s hs.fits)
  unfold othersS
  rcases (Bool.eq_false_or_eq_true (thereS s n)).symm with ht | ht
  · rw [if_neg (by simp [ht])]
    by_cases c1 : (chk s).2 = 0
    · have c1' : eqz (chk s).2 0 = true := by simp [eqz, c1]
      rw [c1] at h1
      have c2 : n < 0 ∨ (s.tasks.length : Int) ≤ n := by
        unfold thereS okS at ht
        simp [c1', eqz, c1] at ht
        omega
      clear ht
      simp only [St.c, slI, slT] at h1
      by_cases c3 : n < 0
      · simp [C18, push_cast, -Int.not_lt, -Int.not_le, ↓evI_call, ↓evI_calli, ↓evI_calln, ↓evI_callz, ↓evI_callv, ↓evI_mxn, St.c, slI, slT, h1, eqz_self, c3]
        exact Ans.nil rfl
      · have c4 : (s.tasks.length : Int) ≤ n := by omega
        simp [C18, push_cast, -Int.not_lt, -Int.not_le, ↓evI_call, ↓evI_calli, ↓evI_calln, ↓evI_callz, ↓evI_callv, ↓evI_mxn, St.c, slI, slT, h1, eqz_self, c3, c4]
        exact Ans.nil rfl
    · have c1' : eqz (chk s).2 0 = false := by simp [eqz, c1]
      generalize (chk s).2 = z at h1 c1'
      simp only [St.c, slI, slT] at h1
      simp [C18, push_cast, -Int.not_lt, -Int.not_le, ↓evI_call, ↓evI_calli, ↓evI_calln, ↓evI_callz, ↓evI_callv, ↓evI_mxn, St.c, slI, slT, h1, c1']
      exact Ans.nil rfl
  obtain ⟨g, h0, hn⟩ := (thereS_iff s n).1 ht
  have c1 := (chk_good s).2 g
  rw [c1] at h1
  obtain ⟨m, rfl⟩ := nat_of n h0
  have hm : m < s.tasks.length := by omega
  have hm' : (m : Int) < s.tasks.length := by omega
  have c3 : ¬ (m : Int) < 0 := by omega
  have c4 : ¬ (s.tasks.length : Int) ≤ m := by omega
  by_cases hl : bs.length = s.tasks.length
  · have hl' : eqz (bs.length : Int) s.tasks.length = true := by simp [eqz, hl]
    have ht9 := hs.tasks
    have h4 := up1 _ _ _ _ (hasI 33 [] (fun b => decide (b < 0)) bs [St.c s] (clean_St ..) rfl (by omega) (fun x _ => below_is x _ (clean_St ..)))
    have hv := aft_vb (clean_St s.proto s.cores s.homes s.tasks) (bs.any fun b => decide (b < 0))
    have hneg : (bs.any fun b => decide (b < 0)) = negL bs := rfl
    rw [hneg] at h4 hv
    rcases (Bool.eq_false_or_eq_true (negL bs)).symm with hz | hz
    · rw [if_pos ⟨ht, hl, hz⟩]
      rw [hz] at h4 hv
      have hlp := oth1_loop s hs g bs hb hl m hm w hw0 s.tasks.length 0
      have hcb := corAt_b g hm
      have hsb := oth_sum_b s hs bs m w s.tasks.length (Nat.le_refl _)
      obtain ⟨q1, -, -⟩ := quo_is hsb.1 hsb.2 hcb.1
      obtain ⟨d1, d2, d3⟩ := corDrop g hm
      have d4 : ¬ corAt s m = 0 := by omega
      have hd := drop_tk s.tasks m hm
      rw [Int.toNat_natCast]
      generalize corAt s m = co at *
      generalize sumN (othW s bs m w) s.tasks.length = su at *
      simp only [St.c, slI, slT, slP, Tk.c, List.length_singleton] at h1 h4 hv hlp hd
      simp [C18, push_cast, -Int.not_lt, -Int.not_le, ↓evI_call, ↓evI_calli, ↓evI_calln, ↓evI_callz, ↓evI_callv, ↓evI_mxn, St.c, slI, slT, slP, Tk.c, h1, h4, hv, eqz_self, c3, c4, hl', hm, hm', hd]
      refine behindP (P := fun r => Ans _ [] r) (hlp _ (by omega) (by simp [put_at, sumN])) ?_
      intro a h
      obtain ⟨e', rfl, hx⟩ := h.never; clear h; have h := hx
      obtain ⟨k2, k4, k12⟩ := h
      simp [push_cast, -Int.not_lt, -Int.not_le, ↓evI_call, ↓evI_calli, ↓evI_calln, ↓evI_callz, ↓evI_callv, ↓evI_mxn, k2, k4, k12, hm, hm', hd, d1, d2, d3, d4, q1]
      exact Ans.nil rfl
    · rw [if_neg (by simp [hz])]
      rw [hz] at h4 hv
      simp only [St.c, slI, slT, slP, Tk.c, List.length_singleton] at h1 h4 hv
      simp [C18, push_cast, -Int.not_lt, -Int.not_le, ↓evI_call, ↓evI_calli, ↓evI_calln, ↓evI_callz, ↓evI_callv, ↓evI_mxn, St.c, slI, slT, slP, Tk.c, h1, h4, hv, eqz_self, c3, c4, hl']
      exact Ans.nil rfl
  · rw [if_neg (by simp [hl])]
    have hl' : eqz (bs.length : Int) s.tasks.length = false := by simp [eqz]; omega
    simp only [St.c, slI, slT] at h1
    simp [C18, push_cast, -Int.not_lt, -Int.not_le, ↓evI_call, ↓evI_calli, ↓evI_calln, ↓evI_callz, ↓evI_callv, ↓evI_mxn, St.c, slI, slT, h1, eqz_self, c3, c4, hl']
    exact Ans.nil rfl
theorem negP {bs : List Int} : (negL bs = false) ↔ fstP (fun i => decide (bAt bs i < 0)) 0 bs.length = none := by
  unfold negL
  rw [List.any_eq_false, fstP_none]
  constructor
  · intro h k _ hk
    have hk : k < bs.length := by omega
    rw [bAt_is bs k hk]
    have := h _ (List.getElem_mem hk)
    simpa using this
  · intro h b hb
    obtain ⟨k, hk, rfl⟩ := List.getElem_of_mem hb
    have := h k (Nat.zero_le _) (by omega)
    rw [bAt_is bs k hk] at this
    simpa using this
/-! ### how late one is at most -/
def nextS (s : St) (bs : List Int) (n : Int) : Option Int := if bs.length = s.tasks.length then (ownS s bs n).map fun x => x + othersS s bs n (bAt bs n.toNat) else none
theorem own_b {s : St} (hs : Sm s) {bs : List Int} {n x : Int} (h : ownS s bs n = some x) : thereS s n = true ∧ 0 ≤ x ∧ x ≤ 200000 := by
  unfold ownS at h
  split at h
  · rename_i hw
    cases h
    have ht := waits_there hw
    have g := ((thereS_iff s n).1 ht).1
    have h1 := all_bounds (ptsAt_ok g n.toNat) 1
    have h2 := all_bounds (ptsAt_ok g n.toNat) 2
    have h3 := wsum_b s hs bs n
    exact ⟨ht, by omega, by omega⟩
  · cases h
theorem others_b (s : St) (hs : Sm s) (bs : List Int) (n w : Int) : 0 ≤ othersS s bs n w ∧ othersS s bs n w ≤ 9000000 := by
  unfold othersS
  split
  · rename_i h
    obtain ⟨g, h0, hn⟩ := (thereS_iff s n).1 h.1
    have hsb := oth_sum_b s hs bs n.toNat w s.tasks.length (Nat.le_refl _)
    have hcb := corAt_b g (show n.toNat < s.tasks.length by omega)
    exact (quo_is hsb.1 hsb.2 hcb.1).2
  · omega
theorem next_is (s : St) (hs : Sm s) (bs : List Int) (hb : ∀ b ∈ bs, I64' b) (n : Int) : Ans (ansO (nextS s bs n)) [] (callL tab0 ext1 16 [.agg (St.c s), slI bs, vi n] []) := by
  rw [callL_tab _ _ rfl tab16 rfl]
  have h1 := pure_ansO (k := false) (own_is s hs bs hb n)
  unfold nextS
  cases ho : ownS s bs n with
  | none =>
    rw [ho] at h1
    have e : (if bs.length = s.tasks.length then (none : Option Int).map fun x => x + othersS s bs n (bAt bs n.toNat) else none) = none := by split <;> rfl
    rw [e]
    simp only [St.c, slI, slT] at h1
    simp [C16, push_cast, -Int.not_lt, -Int.not_le, ↓evI_call, ↓evI_calli, ↓evI_calln, ↓evI_callz, ↓evI_callv, ↓evI_mxn, St.c, slI, slT, h1]
    exact Ans.nil rfl
  | some x =>
    rw [ho] at h1
    obtain ⟨ht, hx0, hx1⟩ := own_b hs ho
    obtain ⟨g, h0, hn⟩ := (thereS_iff s n).1 ht
    obtain ⟨m, rfl⟩ := nat_of n h0
    have hm : m < s.tasks.length := by omega
    by_cases hl : bs.length = s.tasks.length
    · rw [if_pos hl]
      have hl' : eqz (bs.length : Int) s.tasks.length = true := by simp [eqz, hl]
      have hm2 : m < bs.length := by omega
      have hm3 : (m : Int) < bs.length := by omega
      have h2 := pure_vi (k := false) (others_is s hs bs hb m bs[m] (hb _ (List.getElem_mem hm2)))
      have hob := others_b s hs bs m bs[m]
      have hd := drop_int bs m hm2
      rw [Int.toNat_natCast, bAt_is bs m hm2]
      generalize othersS s bs m bs[m] = y at *
      have hw : IntKind.wrap .i64 (x + y) = x + y := wrap_in _ (by omega) (by omega)
      simp only [St.c, slI, slT] at h1 h2
      simp [C16, push_cast, -Int.not_lt, -Int.not_le, ↓evI_call, ↓evI_calli, ↓evI_calln, ↓evI_callz, ↓evI_callv, ↓evI_mxn, St.c, slI, slT, h1, h2, hl', hm2, hm3, hd, hw]
      exact Ans.nil rfl
    · rw [if_neg hl]
      have hl' : eqz (bs.length : Int) s.tasks.length = false := by simp [eqz]; omega
      simp only [St.c, slI, slT] at h1
      simp [C16, push_cast, -Int.not_lt, -Int.not_le, ↓evI_call, ↓evI_calli, ↓evI_calln, ↓evI_callz, ↓evI_callv, ↓evI_mxn, St.c, slI, slT, h1, hl']
      exact Ans.nil rfl
end Go.Proofs.YtclebnamhpgdmaaEv
