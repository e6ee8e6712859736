/- What is told is at least what is one's own; so the least bounds are below all that hold. -/
import Derived.Test.YtclebnamhpgdmaaAdmit
import Derived.Test.YtclebnamhpgdmaaBoMono
set_option linter.unusedSimpArgs false
set_option linter.unusedVariables false
namespace Go.Proofs.YtclebnamhpgdmaaEv
open Go
set_option maxHeartbeats 2000000
theorem ins_nonneg {s : St} {n k x : Int} {p : Pt} (hp : lockS s n k = some p) (h : tokIn s n k = some x) : p.len ≤ x := by
  have h2 : 0 ≤ insS s n := by
    obtain ⟨g, _⟩ := lockS_some hp
    exact (ins_bounds g n).1
  unfold tokIn at h
  rw [hp] at h
  cases h
  show p.len ≤ p.len + insS s n
  omega
theorem part_ge {s : St} {bs : List Int} {n k x : Int} (h : partS s bs n k = some x) : ∃ p, lockS s n k = some p ∧ p.len ≤ x := by
  unfold partS at h
  split at h
  · rename_i hl
    split at h
    · unfold fairS at h
      obtain ⟨p, hp, rfl⟩ := Option.map_eq_some_iff.1 h
      obtain ⟨g, _⟩ := lockS_some hp
      exact ⟨p, hp, by have := othSum_bounds g n; omega⟩
    · split at h
      · unfold agentS at h
        rw [if_pos hl] at h
        cases hp : lockS s n k with
        | none => rw [hp] at h; cases h
        | some p =>
          rw [hp] at h
          simp only [Option.bind_some] at h
          obtain ⟨h1, _⟩ := lfp_some.1 h
          refine ⟨p, rfl, ?_⟩
          have := (lower_bounds s n (homeOf s p)).1
          unfold leastS at h1
          omega
      · unfold tokS at h
        obtain ⟨i, hi, rfl⟩ := Option.map_eq_some_iff.1 h
        have hi2 := hi
        unfold tokIn at hi2
        obtain ⟨p, hp, _⟩ := Option.map_eq_some_iff.1 hi2
        exact ⟨p, hp, by have := ins_nonneg hp hi; have := (out_bounds s n).1; omega⟩
  · cases h
theorem waitV_ge {s : St} {bs : List Int} {m i : Nat} (hm : m < s.tasks.length) (hi : i < s.tasks[m].parts.length) (h : waitBad s bs m i = false) : kLen 3 s.tasks[m].parts[i] ≤ waitV s bs m i := by
  obtain ⟨b, hb⟩ := wait_ok h
  unfold waitV
  rw [hb]
  unfold waitF at hb
  rw [kindAt_is s m i hm hi] at hb
  unfold kLen
  split at hb
  · rename_i hk
    have hk : s.tasks[m].parts[i].kind = 3 := by simpa [eqz] using hk
    rw [if_pos hk]
    obtain ⟨p, hp, hle⟩ := part_ge hb
    obtain ⟨_, m', j', hm', hj', e1, e2, rfl, _⟩ := lockS_some hp
    obtain rfl : m = m' := by omega
    obtain rfl : i = j' := by omega
    exact hle
  · rename_i hk
    have hk : ¬ s.tasks[m].parts[i].kind = 3 := by simpa [eqz] using hk
    rw [if_neg hk]
    cases hb; exact Int.le_refl _
theorem sumL_sumN {α : Type} (f : α → Int) (d : α) : ∀ (l : List α), sumL f l = sumN (fun i => f (l.getD i d)) l.length := by
  intro l
  have : ∀ n, n ≤ l.length → sumL f (l.take n) = sumN (fun i => f (l.getD i d)) n := by
    intro n
    induction n with
    | zero => intro _; simp [sumL, sumN]
    | succ n ih =>
      intro h
      rw [sumL_take f l n (by omega), ih (by omega), sumN]
      congr 2
      rw [List.getD_eq_getElem?_getD, List.getElem?_eq_getElem (by omega)]; rfl
  have h := this l.length (Nat.le_refl _)
  rwa [List.take_length] at h
theorem wsum_ge {s : St} {bs : List Int} {n : Int} (h : (waitsS s bs n).isSome = true) : allK (ptsAt s n.toNat) 3 ≤ wsumS s bs n := by
  obtain ⟨l, hl⟩ := Option.isSome_iff_exists.1 h
  obtain ⟨ht, hb, rfl⟩ := waits_some.1 hl
  obtain ⟨g, h0, hn⟩ := (thereS_iff s n).1 ht
  have hm : n.toNat < s.tasks.length := by omega
  unfold wsumS
  rw [hl]
  simp only [Option.getD_some]
  unfold waitL
  rw [sumL_range]
  unfold allK
  rw [sumL_sumN (kLen 3) default]
  refine sumN_mono _ fun i hi => ?_
  have hb' := hb i hi
  rw [ptsAt_is s _ hm] at hi ⊢
  rw [List.getD_eq_getElem?_getD, List.getElem?_eq_getElem hi]
  exact waitV_ge hm hi hb'
theorem own_ge {s : St} {bs : List Int} {n x : Int} (h : ownS s bs n = some x) : stF s n.toNat ≤ x := by
  unfold ownS at h
  split at h
  · rename_i hw
    have := wsum_ge hw
    cases h
    unfold stF; omega
  · cases h
theorem next_ge {s : St} (hs : Sm s) {bs : List Int} {n x : Int} (h : nextS s bs n = some x) : stF s n.toNat ≤ x := by
  unfold nextS at h
  split at h
  · obtain ⟨y, hy, rfl⟩ := Option.map_eq_some_iff.1 h
    have h1 := own_ge hy
    have h2 := (others_b s hs bs n (bAt bs n.toNat)).1
    show _ ≤ y + _
    omega
  · cases h
/-- Bounds that hold. -/
structure Hld (s : St) (c : List Int) : Prop where
  len : c.length = s.tasks.length
  pos : ∀ i, i < s.tasks.length → 0 ≤ bAt c i
  nx : ∀ i, i < s.tasks.length → ∃ x, nextS s c i = some x ∧ x ≤ bAt c i
theorem bAt_out {bs : List Int} {i : Nat} (h : bs.length ≤ i) : bAt bs i = 0 := by unfold bAt; rw [List.getD_eq_getElem?_getD, List.getElem?_eq_none h]; rfl
theorem it_le {s : St} (hs : Sm s) {c : List Int} (hc : Hld s c) : ∀ (k : Nat) (bs : List Int), LeB bs c → (itS s k bs).2 = 0 → LeB (itS s k bs).1 c
  | 0, bs, _, h => by simp [itS] at h
  | k + 1, bs, hl, h => by
    unfold itS at h ⊢
    cases hx : roundS s bs with
    | none => rw [hx] at h; simp at h
    | some nx =>
      rw [hx] at h
      simp only at h ⊢
      by_cases he : nx = bs
      · rw [if_pos he] at h ⊢; exact hl
      · rw [if_neg he] at h ⊢
        refine it_le hs hc k nx ?_ h
        obtain ⟨r1, r2, _⟩ := round_ok hx
        refine ⟨by rw [r1, hc.len], fun i => ?_, fun i => ?_⟩
        · by_cases hi : i < s.tasks.length
          · have := (next_b hs (r2 i hi).1).2.1
            exact this
          · rw [bAt_out (by omega)]; omega
        · by_cases hi : i < s.tasks.length
          · obtain ⟨x, hx1, hx2⟩ := hc.nx i hi
            obtain ⟨a, ha, hax⟩ := next_mono (s := s) hl hx1
            rw [(r2 i hi).1] at ha
            cases ha
            omega
          · rw [bAt_out (by omega), bAt_out (by have := hc.len; omega)]; omega
theorem bAt_stL (s : St) (n i : Nat) : bAt (stL s n) i = if i < n then stF s i else 0 := by
  unfold stL bAt
  rw [List.getD_eq_getElem?_getD]
  by_cases h : i < n
  · simp [h]
  · rw [if_neg h]; simp [h]
theorem start_le {s : St} (hs : Sm s) (g : Good s) {c : List Int} (hc : Hld s c) : LeB (stL s s.tasks.length) c := by
  refine ⟨by rw [stL_len, hc.len], fun i => ?_, fun i => ?_⟩
  · rw [bAt_stL]; split
    · exact (stF_b g i).1
    · omega
  · rw [bAt_stL]
    by_cases hi : i < s.tasks.length
    · rw [if_pos hi]
      obtain ⟨x, hx1, hx2⟩ := hc.nx i hi
      have := next_ge hs hx1
      rw [Int.toNat_natCast] at this
      omega
    · rw [if_neg hi, bAt_out (by have := hc.len; omega)]; omega
theorem least_le {s : St} (hs : Sm s) (g : Good s) {c : List Int} (hc : Hld s c) (h : (leastB s).2 = 0) : LeB (leastB s).1 c := it_le hs hc 200 _ (start_le hs g hc) h
theorem holds_hld {s : St} {c : List Int} (h : holdsS s c = true) : Good s ∧ Hld s c ∧ ∀ i, i < s.tasks.length → 1 ≤ bAt c i ∧ bAt c i ≤ dlAt s i := by
  unfold holdsS at h
  simp only [Bool.and_eq_true, decide_eq_true_eq] at h
  obtain ⟨⟨⟨h1, h2⟩, h3⟩, h4⟩ := h
  have h3 := fun k (hk : k < s.tasks.length) => (fstP_none _ _).1 (by simpa using h3) k (Nat.zero_le _) (by omega)
  have h4 := fun k (hk : k < s.tasks.length) => (fstP_none _ _).1 (by simpa using h4) k (Nat.zero_le _) (by omega)
  have h3' : ∀ i, i < s.tasks.length → 1 ≤ bAt c i ∧ bAt c i ≤ dlAt s i := fun i hi => by
    have := h3 i hi
    unfold dlBad at this
    simp at this
    omega
  refine ⟨(okS_iff s).1 h1, ⟨h2, fun i hi => by have := (h3' i hi).1; omega, fun i hi => ?_⟩, h3'⟩
  have := h4 i hi
  unfold nxBad at this
  cases hx : nextS s c i with
  | none => rw [hx] at this; cases this
  | some x => rw [hx] at this; exact ⟨x, rfl, by simpa using this⟩
theorem eq_of_bAt {a b : List Int} (hl : a.length = b.length) (h : ∀ i, bAt a i = bAt b i) : a = b := by
  refine List.ext_getElem hl fun i h1 h2 => ?_
  have := h i
  rwa [bAt_is a i h1, bAt_is b i h2] at this
theorem fix_hold {s : St} {b : List Int} (hs : Sm s) (g : Good s) (hl : b.length = s.tasks.length) (hr : roundS s b = some b) (h1 : ∀ i, i < s.tasks.length → 1 ≤ bAt b i) : holdsS s b = true := by
  obtain ⟨_, r2, _⟩ := round_ok hr
  unfold holdsS
  simp only [Bool.and_eq_true, decide_eq_true_eq]
  refine ⟨⟨⟨(okS_iff s).2 g, hl⟩, ?_⟩, ?_⟩
  · rw [(fstP_none _ _).2 fun k _ hk => ?_]; rfl
    have hk : k < s.tasks.length := by omega
    have := h1 k hk; have := (r2 k hk).2
    unfold dlBad; simp; omega
  · rw [(fstP_none _ _).2 fun k _ hk => ?_]; rfl
    have hk : k < s.tasks.length := by omega
    unfold nxBad
    rw [(r2 k hk).1]
    simp
theorem le_sumL {α : Type} (f : α → Int) : ∀ (l : List α) (a : α), a ∈ l → (∀ x ∈ l, 0 ≤ f x) → f a ≤ sumL f l
  | b :: l, a, h, hn => by
    have h2 := sumL_ge f l fun x hx => hn x (by simp [hx])
    rw [sumL]
    rcases List.mem_cons.1 h with rfl | h
    · omega
    · have := le_sumL f l a h fun x hx => hn x (by simp [hx])
      have := hn b (by simp)
      omega
theorem least_pos {s : St} (hs : Sm s) (g : Good s) (h : (leastB s).2 = 0) : ∀ i, i < s.tasks.length → 1 ≤ bAt (leastB s).1 i := by
  intro i hi
  obtain ⟨hl, hb, hr⟩ := least_ok hs g h
  obtain ⟨_, r2, _⟩ := round_ok hr
  have h1 := next_ge hs (r2 i hi).1
  rw [Int.toNat_natCast] at h1
  have hp := (g.task _ (List.getElem_mem hi)).parts.1
  have hq := (g.task _ (List.getElem_mem hi)).part _ (List.getElem_mem (show 0 < s.tasks[i].parts.length by omega))
  have h2 : 1 ≤ stF s i := by
    unfold stF
    rw [ptsAt_is s i hi]
    have pk := g.pts (List.getElem_mem hi)
    have b1 := all_bounds pk 1
    have b2 := all_bounds pk 2
    have b3 := all_bounds pk 3
    have hk := hq.kind
    have hlen := hq.len
    have key : ∀ k : Int, s.tasks[i].parts[0].kind = k → 1 ≤ allK s.tasks[i].parts k := by
      intro k hk
      have h3 : kLen k s.tasks[i].parts[0] = s.tasks[i].parts[0].len := by unfold kLen; rw [if_pos hk]
      have h4 := le_sumL (kLen k) s.tasks[i].parts _ (List.getElem_mem (show 0 < s.tasks[i].parts.length by omega)) fun p hp => by
        have := pk.2 p hp
        unfold kLen; split <;> omega
      unfold allK
      omega
    rcases (by omega : s.tasks[i].parts[0].kind = 1 ∨ s.tasks[i].parts[0].kind = 2 ∨ s.tasks[i].parts[0].kind = 3) with h3 | h3 | h3
    · have := key 1 h3; omega
    · have := key 2 h3; omega
    · have := key 3 h3; omega
  omega
end Go.Proofs.YtclebnamhpgdmaaEv
