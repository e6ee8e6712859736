/- A set of which one deadline is another: what is told of it. -/
import Derived.Test.YtclebnamhpgdmaaAdmit
set_option linter.unusedSimpArgs false
set_option linter.unusedVariables false
namespace Go.Proofs.YtclebnamhpgdmaaEv
open Go
set_option maxHeartbeats 2000000
/-- One task's deadline is another. -/
def dls (s : St) (q : Nat) (d : Int) : St := ⟨s.proto, s.cores, s.homes, s.tasks.modify q fun t => { t with deadline := d }⟩
section
variable {s : St} {q : Nat} {d : Int}
theorem dls_len : (dls s q d).tasks.length = s.tasks.length := List.length_modify ..
theorem dls_get (i : Nat) : (dls s q d).tasks[i]? = (s.tasks[i]?).map fun t => if q = i then { t with deadline := d } else t := by
  show (s.tasks.modify q _)[i]? = _
  rw [List.getElem?_modify]
  by_cases h : q = i
  · simp [h]
  · simp [h]
theorem dls_map {β : Type} (f : Tk → β) (hf : ∀ t : Tk, f { t with deadline := d } = f t) (i : Nat) : (dls s q d).tasks[i]?.map f = s.tasks[i]?.map f := by
  rw [dls_get, Option.map_map]
  congr 1
  funext t
  show f (if q = i then _ else t) = f t
  split
  · exact hf t
  · rfl
variable (ho : okS (dls s q d) = okS s)
include ho
theorem d_there (n : Int) : thereS (dls s q d) n = thereS s n := by unfold thereS; rw [ho, dls_len]
omit ho in
theorem d_prio (i : Nat) : prioAt (dls s q d) i = prioAt s i := by unfold prioAt; rw [dls_map _ (fun _ => rfl)]
omit ho in
theorem d_per (i : Nat) : perAt (dls s q d) i = perAt s i := by unfold perAt; rw [dls_map _ (fun _ => rfl)]
omit ho in
theorem d_long (i : Nat) : longAt (dls s q d) i = longAt s i := by unfold longAt; rw [dls_map _ (fun _ => rfl)]
omit ho in
theorem d_clus (i : Nat) : clusterAt (dls s q d) i = clusterAt s i := by unfold clusterAt; rw [dls_map _ (fun _ => rfl)]
omit ho in
theorem d_cl (i : Nat) : clAt (dls s q d) i = clAt s i := by unfold clAt; rw [dls_map _ (fun _ => rfl)]
omit ho in
theorem d_pts (i : Nat) : ptsAt (dls s q d) i = ptsAt s i := by unfold ptsAt; rw [dls_map _ (fun _ => rfl)]
omit ho in
theorem d_bind {β : Type} (f : Tk → Option β) (hf : ∀ t : Tk, f { t with deadline := d } = f t) (i : Nat) : (dls s q d).tasks[i]?.bind f = s.tasks[i]?.bind f := by
  rw [dls_get, Option.bind_map]
  congr 1
  funext t
  show f (if q = i then _ else t) = f t
  split
  · exact hf t
  · rfl
omit ho in
theorem d_kind (i j : Nat) : kindAt (dls s q d) i j = kindAt s i j := by unfold kindAt; rw [d_bind _ (fun _ => rfl)]
theorem d_lock (n j : Int) : lockS (dls s q d) n j = lockS s n j := by unfold lockS; rw [d_there ho, d_bind _ (fun _ => rfl)]
theorem d_homed (n c : Int) : homedS (dls s q d) n c = homedS s n c := by unfold homedS; rw [d_there ho, dls_map _ (fun _ => rfl)]; rfl
theorem d_at (n c : Int) : atS (dls s q d) n c = atS s n c := by unfold atS; rw [d_homed ho]
theorem d_most (n c : Int) : mostS (dls s q d) n c = mostS s n c := by unfold mostS; rw [d_homed ho]
theorem d_lower (n c : Int) : lowerS (dls s q d) n c = lowerS s n c := by
  unfold lowerS
  have h : lowF (dls s q d) n.toNat c = lowF s n.toNat c := by funext i; unfold lowF; rw [d_prio, d_prio, d_most ho]
  rw [d_there ho, dls_len, h]
theorem d_higher (bs : List Int) (n c w : Int) : higherS (dls s q d) bs n c w = higherS s bs n c w := by
  unfold higherS
  have h : hiF (dls s q d) bs n.toNat c w = hiF s bs n.toNat c w := by funext i; unfold hiF; rw [d_prio, d_prio, d_at ho, d_per]
  rw [d_there ho, dls_len, h]
theorem d_agent (bs : List Int) (n j : Int) : agentS (dls s q d) bs n j = agentS s bs n j := by
  have hh : ∀ p, homeOf (dls s q d) p = homeOf s p := fun p => rfl
  unfold agentS leastS
  rw [dls_len, d_lock ho]
  simp only [hh, d_lower ho, d_higher ho]
omit ho in
theorem d_oth (n : Int) : othSum (dls s q d) n = othSum s n := by
  unfold othSum
  have h : othF (dls s q d) n = othF s n := by funext i; unfold othF; rw [d_long]
  rw [dls_len, h]
theorem d_fair (n j : Int) : fairS (dls s q d) n j = fairS s n j := by unfold fairS; rw [d_lock ho, d_oth]
omit ho in
theorem d_othR (n : Int) : ∀ i, othR (dls s q d) n i = othR s n i
  | 0 => rfl
  | i + 1 => by rw [othR, othR, d_othR n i, d_long]
theorem d_ins (n : Int) : insS (dls s q d) n = insS s n := by
  have hc : coresS (dls s q d) = coresS s := by unfold coresS; rw [ho]; rfl
  unfold insS
  rw [hc, d_othR, dls_len]
theorem d_stay (c : Int) : stayS (dls s q d) c = stayS s c := by
  unfold stayS
  have h : outF (dls s q d) c = outF s c := by funext i; unfold outF; rw [d_clus, d_long, d_ins ho]
  rw [dls_len, h]
omit ho in
theorem sumL_modify (f : Tk → Int) (hf : ∀ t : Tk, f { t with deadline := d } = f t) : ∀ (l : List Tk) (q : Nat), sumL f (l.modify q fun t => { t with deadline := d }) = sumL f l
  | [], q => by cases q <;> rfl
  | t :: l, 0 => by show sumL f (_ :: l) = _; rw [sumL, sumL]; simp [hf]
  | t :: l, q + 1 => by show sumL f (t :: l.modify q _) = _; rw [sumL, sumL, sumL_modify f hf l q]
theorem d_askers (c : Int) : askersS (dls s q d) c = askersS s c := by
  have ha : asks (dls s q d) c = asks s c := by funext t; unfold asks; rw [ho]
  unfold askersS
  rw [ha]
  exact sumL_modify _ (fun _ => rfl) _ _
theorem d_out (n : Int) : outS (dls s q d) n = outS s n := by
  have hc : ∀ c, coreAt (dls s q d) c = coreAt s c := fun c => rfl
  unfold outS roundsS
  rw [d_there ho, d_long, d_clus, d_stay ho, d_askers ho, hc]
theorem d_tok (n j : Int) : tokS (dls s q d) n j = tokS s n j := by unfold tokS tokIn; rw [d_lock ho, d_ins ho, d_out ho]
theorem d_part (bs : List Int) (n j : Int) : partS (dls s q d) bs n j = partS s bs n j := by
  have hp : (dls s q d).proto = s.proto := rfl
  unfold partS
  rw [dls_len, hp, d_fair ho, d_agent ho, d_tok ho]
theorem d_waitF (bs : List Int) (n j : Nat) : waitF (dls s q d) bs n j = waitF s bs n j := by unfold waitF; rw [d_kind, d_part ho]
theorem d_waits (bs : List Int) (n : Int) : waitsS (dls s q d) bs n = waitsS s bs n := by
  have h1 : waitBad (dls s q d) bs n.toNat = waitBad s bs n.toNat := by funext j; unfold waitBad; rw [d_waitF ho]
  have h2 : waitV (dls s q d) bs n.toNat = waitV s bs n.toNat := by funext j; unfold waitV; rw [d_waitF ho]
  unfold waitsS waitL
  rw [d_there ho, dls_map _ (fun _ => rfl), h1, h2]
theorem d_own (bs : List Int) (n : Int) : ownS (dls s q d) bs n = ownS s bs n := by unfold ownS wsumS; rw [d_waits ho, d_pts]
theorem d_each (m i : Nat) : eachS (dls s q d) m i = eachS s m i := by
  have hp : (dls s q d).proto = s.proto := rfl
  unfold eachS
  rw [hp, d_cl, d_cl, d_prio, d_prio, d_pts, d_at ho]
theorem d_others (bs : List Int) (n w : Int) : othersS (dls s q d) bs n w = othersS s bs n w := by
  have hc : ∀ m, corAt (dls s q d) m = corAt s m := fun m => by unfold corAt; rw [d_cl]; rfl
  have h : othW (dls s q d) bs n.toNat w = othW s bs n.toNat w := by funext i; unfold othW; rw [d_per, d_each ho]
  unfold othersS
  rw [d_there ho, dls_len, hc, h]
theorem d_next (bs : List Int) (n : Int) : nextS (dls s q d) bs n = nextS s bs n := by
  unfold nextS
  rw [dls_len, d_own ho]
  simp only [d_others ho]
theorem d_rL (bs : List Int) (i : Nat) : rL (dls s q d) bs i = rL s bs i := by
  have h : rNext (dls s q d) bs = rNext s bs := by funext i; unfold rNext; rw [d_next ho]
  unfold rL; rw [h]
theorem d_wl (b : List Int) (i : Nat) : wl (dls s q d) b i = wl s b i := by
  unfold wl
  exact List.map_congr_left fun j _ => by rw [d_waits ho]
omit ho in
theorem d_stL (i : Nat) : stL (dls s q d) i = stL s i := by
  have h : stF (dls s q d) = stF s := by funext i; unfold stF; rw [d_pts]
  unfold stL; rw [h]
omit ho in
theorem d_dl (i : Nat) (hi : i < s.tasks.length) : dlAt (dls s q d) i = if q = i then d else dlAt s i := by
  rw [dlAt_is s i hi]
  unfold dlAt
  rw [dls_get, List.getElem?_eq_getElem hi]
  show (if q = i then _ else s.tasks[i]).deadline = _
  split <;> rfl
omit ho in
theorem round_some {s : St} {bs nx : List Int} : roundS s bs = some nx ↔ (∀ i, i < s.tasks.length → rBad s bs i = false) ∧ nx = rL s bs s.tasks.length := by
  unfold roundS
  constructor
  · intro h
    split at h
    · rename_i hf
      cases h
      exact ⟨fun i hi => (fstP_none _ _).1 (by simpa using hf) i (Nat.zero_le _) (by omega), rfl⟩
    · cases h
  · rintro ⟨h, rfl⟩
    rw [if_pos]
    rw [(fstP_none _ _).2 fun i _ hi => h i (by omega)]; rfl
theorem d_bad {bs : List Int} {i : Nat} : rBad (dls s q d) bs i = false ↔ ∃ x, nextS s bs i = some x ∧ x ≤ dlAt (dls s q d) i := by
  unfold rBad
  rw [d_next ho]
  cases nextS s bs i with
  | none => simp
  | some x => simp
omit ho in
theorem bad_iff {s : St} {bs : List Int} {i : Nat} : rBad s bs i = false ↔ ∃ x, nextS s bs i = some x ∧ x ≤ dlAt s i := by
  unfold rBad
  cases nextS s bs i with
  | none => simp
  | some x => simp
/-- A later deadline: who was in time still is. -/
theorem d_round_up (hd : dlAt s q ≤ d) {bs nx : List Int} (h : roundS s bs = some nx) : roundS (dls s q d) bs = some nx := by
  obtain ⟨h1, rfl⟩ := round_some.1 h
  refine round_some.2 ⟨fun i hi => ?_, by rw [dls_len, d_rL ho]⟩
  rw [dls_len] at hi
  obtain ⟨x, hx, hx2⟩ := bad_iff.1 (h1 i hi)
  refine (d_bad ho).2 ⟨x, hx, ?_⟩
  rw [d_dl i hi]
  split
  · rename_i e; subst e; omega
  · exact hx2
/-- An earlier deadline: who is in time was. -/
theorem d_round_dn (hd : d ≤ dlAt s q) {bs nx : List Int} (h : roundS (dls s q d) bs = some nx) : roundS s bs = some nx := by
  obtain ⟨h1, h2⟩ := round_some.1 h
  rw [dls_len, d_rL ho] at h2
  refine round_some.2 ⟨fun i hi => ?_, h2⟩
  obtain ⟨x, hx, hx2⟩ := (d_bad ho).1 (h1 i (by rw [dls_len]; exact hi))
  refine bad_iff.2 ⟨x, hx, ?_⟩
  rw [d_dl i hi] at hx2
  split at hx2
  · rename_i e; subst e; omega
  · exact hx2
theorem d_it_up (hd : dlAt s q ≤ d) : ∀ (k : Nat) (bs : List Int), (itS s k bs).2 = 0 → itS (dls s q d) k bs = itS s k bs
  | 0, bs, h => by simp [itS] at h
  | k + 1, bs, h => by
    rw [itS] at h ⊢
    rw [itS]
    cases hr : roundS s bs with
    | none => rw [hr] at h; simp at h
    | some nx =>
      rw [hr] at h
      rw [d_round_up ho hd hr]
      simp only at h ⊢
      split
      · rfl
      · rename_i hne
        rw [if_neg hne] at h
        exact d_it_up hd k nx h
theorem d_it_dn (hd : d ≤ dlAt s q) : ∀ (k : Nat) (bs : List Int), (itS (dls s q d) k bs).2 = 0 → itS s k bs = itS (dls s q d) k bs
  | 0, bs, h => by simp [itS] at h
  | k + 1, bs, h => by
    rw [itS] at h
    rw [itS, itS]
    cases hr : roundS (dls s q d) bs with
    | none => rw [hr] at h; simp at h
    | some nx =>
      rw [hr] at h
      rw [d_round_dn ho hd hr]
      simp only at h ⊢
      split
      · rfl
      · rename_i hne
        rw [if_neg hne] at h
        exact d_it_dn hd k nx h
theorem slack_up (hs : okS s = true) (hd : dlAt s q ≤ d) (hz : (anS s).2 = 0) : anS (dls s q d) = anS s := by
  unfold anS at hz ⊢
  rw [if_pos hs] at hz
  rw [ho, if_pos hs, if_pos hs]
  by_cases hl : eqz (leastB s).2 0 = true
  · have hl0 : (leastB s).2 = 0 := by simpa [eqz] using hl
    have e : leastB (dls s q d) = leastB s := by
      unfold leastB at hl0 ⊢
      rw [dls_len, d_stL]
      exact d_it_up ho hd 200 _ hl0
    rw [e, if_pos hl, if_pos hl, dls_len, d_wl ho]
  · rw [if_neg hl] at hz
    exact absurd (by simpa [eqz] using hz) hl
theorem slack_dn (hs : okS s = true) (hm : Sm s) (hm2 : Sm (dls s q d)) (hq : q < s.tasks.length) (hd : d ≤ dlAt s q) (hb : d < bAt (anS s).1.bounds q) (hz : (anS s).2 = 0) : (anS (dls s q d)).2 ≠ 0 := by
  intro h0
  have hs2 : okS (dls s q d) = true := by rw [ho]; exact hs
  have g2 := (okS_iff _).1 hs2
  unfold anS at hz hb h0
  rw [if_pos hs] at hz hb
  rw [if_pos hs2] at h0
  have hl2 : eqz (leastB (dls s q d)).2 0 = true := by
    by_cases h : eqz (leastB (dls s q d)).2 0 = true
    · exact h
    · rw [if_neg h] at h0; exact absurd (by simpa [eqz] using h0) h
  have hl : eqz (leastB s).2 0 = true := by
    by_cases h : eqz (leastB s).2 0 = true
    · exact h
    · rw [if_neg h] at hz; exact absurd (by simpa [eqz] using hz) h
  rw [if_pos hl] at hb
  have hl20 : (leastB (dls s q d)).2 = 0 := by simpa [eqz] using hl2
  have e : leastB s = leastB (dls s q d) := by
    unfold leastB at hl20 ⊢
    rw [dls_len, d_stL] at hl20 ⊢
    exact d_it_dn ho hd 200 _ hl20
  obtain ⟨_, _, h3⟩ := least_ok hm2 g2 hl20
  obtain ⟨_, h5, _⟩ := round_ok h3
  have h6 := (h5 q (by rw [dls_len]; exact hq)).2
  rw [d_dl q hq, if_pos rfl] at h6
  rw [e] at hb
  simp only at hb
  omega
end
end Go.Proofs.YtclebnamhpgdmaaEv
