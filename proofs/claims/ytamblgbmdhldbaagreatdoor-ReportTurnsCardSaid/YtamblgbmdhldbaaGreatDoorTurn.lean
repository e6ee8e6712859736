/- However its tasks stand: a set turned round. -/
import Derived.Test.YtamblgbmdhldbaaGreatDoorAdmit
set_option linter.unusedSimpArgs false
set_option linter.unusedVariables false
namespace Go.Proofs.YtamblgbmdhldbaaGreatDoorEv
open Go
set_option maxHeartbeats 2000000
/-! ### a row turned round -/
def rot {α : Type} (k : Nat) (l : List α) : List α := l.drop k ++ l.take k
def sg (n k i : Nat) : Nat := if i + k < n then i + k else i + k - n
theorem rot_len {α : Type} (k : Nat) (l : List α) : (rot k l).length = l.length := by
  unfold rot; rw [List.length_append, List.length_drop, List.length_take]; omega
theorem sg_lt {n k i : Nat} (hk : k < n) (hi : i < n) : sg n k i < n := by unfold sg; split <;> omega
theorem sg_inj {n k i j : Nat} (hk : k < n) (hi : i < n) (hj : j < n) : sg n k i = sg n k j ↔ i = j := by unfold sg; split <;> split <;> omega
theorem sg_sur {n k j : Nat} (hk : k < n) (hj : j < n) : ∃ i, i < n ∧ sg n k i = j := by
  by_cases h : k ≤ j
  · exact ⟨j - k, by omega, by unfold sg; rw [if_pos (by omega)]; omega⟩
  · exact ⟨j + n - k, by omega, by unfold sg; rw [if_neg (by omega)]; omega⟩
theorem rot_get {α : Type} {k : Nat} {l : List α} {n i : Nat} (hl : l.length = n) (hk : k < n) (hi : i < n) : (rot k l)[i]? = l[sg n k i]? := by
  unfold rot sg
  by_cases h : i + k < n
  · rw [if_pos h, List.getElem?_append_left (by rw [List.length_drop]; omega), List.getElem?_drop, Nat.add_comm]
  · rw [if_neg h, List.getElem?_append_right (by rw [List.length_drop]; omega), List.length_drop, List.getElem?_take_of_lt (by omega)]
    congr 1; omega
theorem rot_mem {α : Type} {k : Nat} {l : List α} {x : α} : x ∈ rot k l ↔ x ∈ l := by
  unfold rot
  rw [List.mem_append, or_comm, ← List.mem_append, List.take_append_drop]
theorem rot_back {α : Type} {k : Nat} {l : List α} (hk : k ≤ l.length) : rot (l.length - k) (rot k l) = l := by
  have h : (l.drop k).length = l.length - k := List.length_drop ..
  unfold rot
  rw [List.drop_append_of_le_length (by omega), List.take_append_of_le_length (by omega), ← h, List.drop_length, List.take_length]
  exact List.take_append_drop k l
theorem rot_inj {α : Type} {k : Nat} {l m : List α} (hl : l.length = m.length) (hk : k ≤ l.length) : rot k l = rot k m ↔ l = m := by
  refine ⟨fun h => ?_, fun h => by rw [h]⟩
  rw [← rot_back hk, h, hl, rot_back (by omega)]
theorem ext_get {α : Type} {l m : List α} {n : Nat} (h1 : l.length = n) (h2 : m.length = n) (h : ∀ i, i < n → l[i]? = m[i]?) : l = m := by
  refine List.ext_getElem? fun i => ?_
  by_cases hi : i < n
  · exact h i hi
  · rw [List.getElem?_eq_none (by omega), List.getElem?_eq_none (by omega)]
/-! ### sums -/
theorem sumN_split (f : Nat → Int) (a : Nat) : ∀ b, sumN f (a + b) = sumN f a + sumN (fun i => f (a + i)) b
  | 0 => by simp [sumN]
  | b + 1 => by rw [← Nat.add_assoc, sumN, sumN, sumN_split f a b]; omega
theorem maxN_split (f : Nat → Int) (a : Nat) : ∀ b, maxN f (a + b) = max (maxN f a) (maxN (fun i => f (a + i)) b)
  | 0 => by have := maxN_nonneg f a; simp only [maxN, Nat.add_zero]; omega
  | b + 1 => by rw [← Nat.add_assoc, maxN, maxN, maxN_split f a b]; omega
theorem sumN_rot {n k : Nat} (hk : k < n) (f g : Nat → Int) (h : ∀ i, i < n → g i = f (sg n k i)) : sumN g n = sumN f n := by
  obtain ⟨b, rfl⟩ : ∃ b, n = b + k := ⟨n - k, by omega⟩
  rw [sumN_split g b k, Nat.add_comm b k, sumN_split f k b, Int.add_comm]
  congr 1
  · refine sumN_congr k fun i hi => ?_
    rw [h (b + i) (by omega)]; unfold sg; rw [if_neg (by omega)]; congr 1; omega
  · refine sumN_congr b fun i hi => ?_
    rw [h i (by omega)]; unfold sg; rw [if_pos (by omega)]; congr 1; omega
theorem maxN_rot {n k : Nat} (hk : k < n) (f g : Nat → Int) (h : ∀ i, i < n → g i = f (sg n k i)) : maxN g n = maxN f n := by
  obtain ⟨b, rfl⟩ : ∃ b, n = b + k := ⟨n - k, by omega⟩
  rw [maxN_split g b k, Nat.add_comm b k, maxN_split f k b, Int.max_comm]
  congr 1
  · refine maxN_congr k fun i hi => ?_
    rw [h (b + i) (by omega)]; unfold sg; rw [if_neg (by omega)]; congr 1; omega
  · refine maxN_congr b fun i hi => ?_
    rw [h i (by omega)]; unfold sg; rw [if_pos (by omega)]; congr 1; omega
/-- The values of those that aren't left out. -/
def oL (f : Nat → Int) (c : Nat → Bool) : Nat → List Int
  | 0 => []
  | i + 1 => if c i = true then oL f c i else oL f c i ++ [f i]
theorem oL_congr {f g : Nat → Int} {c d : Nat → Bool} : ∀ n, (∀ i, i < n → f i = g i ∧ c i = d i) → oL f c n = oL g d n
  | 0, _ => rfl
  | n + 1, h => by rw [oL, oL, oL_congr n fun i hi => h i (by omega), (h n (by omega)).1, (h n (by omega)).2]
theorem oL_split (f : Nat → Int) (c : Nat → Bool) (a : Nat) : ∀ b, oL f c (a + b) = oL f c a ++ oL (fun i => f (a + i)) (fun i => c (a + i)) b
  | 0 => by simp [oL]
  | b + 1 => by rw [← Nat.add_assoc, oL, oL, oL_split f c a b]; split <;> simp
theorem oL_rot {n k : Nat} (hk : k < n) (f g : Nat → Int) (c d : Nat → Bool) (h : ∀ i, i < n → g i = f (sg n k i) ∧ d i = c (sg n k i)) : (oL g d n).Perm (oL f c n) := by
  obtain ⟨b, rfl⟩ : ∃ b, n = b + k := ⟨n - k, by omega⟩
  rw [oL_split g d b k, Nat.add_comm b k, oL_split f c k b]
  have e1 : oL (fun i => g (b + i)) (fun i => d (b + i)) k = oL f c k := oL_congr k fun i hi => by
    have := h (b + i) (by omega)
    have e : sg (b + k) k (b + i) = i := by unfold sg; rw [if_neg (by omega)]; omega
    rwa [e] at this
  have e2 : oL g d b = oL (fun i => f (k + i)) (fun i => c (k + i)) b := oL_congr b fun i hi => by
    have := h i (by omega)
    have e : sg (b + k) k i = k + i := by unfold sg; rw [if_pos (by omega)]; omega
    rwa [e] at this
  rw [e1, e2]
  exact List.perm_append_comm
theorem othR_oL (s : St) (n : Int) : ∀ i, othR s n i = oL (longAt s) (fun i => eqz (i : Int) n) i
  | 0 => rfl
  | i + 1 => by rw [othR, oL, othR_oL s n i]
theorem sumTop_perm {l m : List Int} (h : l.Perm m) (k : Int) : sumTop l k = sumTop m k := by
  unfold sumTop topS
  rw [h.length_eq, sortD_uniq ((sortD_perm l).trans h) (sortD_sorted l)]
/-! ### the set -/
def trn (s : St) (k : Nat) : St := ⟨s.proto, s.cores, s.homes, rot k s.tasks⟩
theorem trn_len (s k) : (trn s k).tasks.length = s.tasks.length := rot_len ..
theorem twice_symm (a b : Tk) : twice a b = twice b a := by
  unfold twice
  congr 1
  · exact decide_eq_decide.2 eq_comm
  · exact decide_eq_decide.2 eq_comm
theorem trn_good1 {s : St} (g : Good s) {k : Nat} (hk : k ≤ s.tasks.length) : Good (trn s k) := by
  have hl := trn_len s k
  refine ⟨g.proto, g.cores, g.core, g.homes, g.home, by rw [hl]; exact g.tasks, fun t ht => ?_, fun i j hi hj hij => ?_⟩
  · obtain ⟨a1, a2, a3, a4, a5, a6, a7⟩ := g.task t (rot_mem.1 ht)
    exact ⟨a1, a2, a3, a4, a5, a6, fun p hp => by
      obtain ⟨b1, b2, b3, b4⟩ := a7 p hp
      exact ⟨b1, b2, b3, b4⟩⟩
  · have hn := g.tasks.1
    by_cases hk2 : k = s.tasks.length
    · have e : (trn s k).tasks = s.tasks := by show rot k s.tasks = _; unfold rot; rw [hk2]; simp
      simp only [e]
      exact g.uniq i j (by omega) (by omega) hij
    · have hk3 : k < s.tasks.length := by omega
      have gi : (trn s k).tasks[i] = s.tasks[sg s.tasks.length k i]'(sg_lt hk3 (by omega)) := by
        have this : (trn s k).tasks[i]? = s.tasks[sg s.tasks.length k i]? := rot_get rfl hk3 (by omega)
        rw [List.getElem?_eq_getElem (h := sg_lt hk3 (by omega)), List.getElem?_eq_getElem (h := hi)] at this
        exact Option.some.inj this
      have gj : (trn s k).tasks[j] = s.tasks[sg s.tasks.length k j]'(sg_lt hk3 (by omega)) := by
        have this : (trn s k).tasks[j]? = s.tasks[sg s.tasks.length k j]? := rot_get rfl hk3 (by omega)
        rw [List.getElem?_eq_getElem (h := sg_lt hk3 (by omega)), List.getElem?_eq_getElem (h := hj)] at this
        exact Option.some.inj this
      rw [gi, gj]
      have hne : sg s.tasks.length k i ≠ sg s.tasks.length k j := fun h => by have := (sg_inj hk3 (by omega) (by omega)).1 h; omega
      rcases Nat.lt_or_gt_of_ne hne with h | h
      · exact g.uniq _ _ (sg_lt hk3 (by omega)) (sg_lt hk3 (by omega)) h
      · rw [twice_symm]; exact g.uniq _ _ (sg_lt hk3 (by omega)) (sg_lt hk3 (by omega)) h
theorem trn_ok (s : St) {k : Nat} (hk : k ≤ s.tasks.length) : okS (trn s k) = okS s := by
  rw [Bool.eq_iff_iff, okS_iff, okS_iff]
  refine ⟨fun g => ?_, fun g => trn_good1 g hk⟩
  have h := trn_good1 g (k := s.tasks.length - k) (by rw [trn_len]; omega)
  have e : trn (trn s k) (s.tasks.length - k) = s := by
    show St.mk s.proto s.cores s.homes (rot _ (rot k s.tasks)) = s
    rw [rot_back hk]
  rwa [e] at h
section
variable {s : St} {k : Nat} (hk : k < s.tasks.length)
include hk
theorem t_get {i : Nat} (hi : i < s.tasks.length) : (trn s k).tasks[i]? = s.tasks[sg s.tasks.length k i]? := rot_get rfl hk hi
theorem t_there {n : Nat} (hn : n < s.tasks.length) : thereS (trn s k) n = thereS s (sg s.tasks.length k n : Nat) := by
  have h := sg_lt hk hn
  unfold thereS
  rw [trn_ok s (by omega), trn_len]
  rw [decide_eq_true (show (0 : Int) ≤ n by omega), decide_eq_true (show (n : Int) < s.tasks.length by omega), decide_eq_true (show (0 : Int) ≤ (sg s.tasks.length k n : Nat) by omega), decide_eq_true (show ((sg s.tasks.length k n : Nat) : Int) < s.tasks.length by omega)]
theorem t_prio {i : Nat} (hi : i < s.tasks.length) : prioAt (trn s k) i = prioAt s (sg s.tasks.length k i) := by unfold prioAt; rw [t_get hk hi]
theorem t_per {i : Nat} (hi : i < s.tasks.length) : perAt (trn s k) i = perAt s (sg s.tasks.length k i) := by unfold perAt; rw [t_get hk hi]
theorem t_long {i : Nat} (hi : i < s.tasks.length) : longAt (trn s k) i = longAt s (sg s.tasks.length k i) := by unfold longAt; rw [t_get hk hi]
theorem t_clus {i : Nat} (hi : i < s.tasks.length) : clusterAt (trn s k) i = clusterAt s (sg s.tasks.length k i) := by unfold clusterAt; rw [t_get hk hi]
theorem t_cl {i : Nat} (hi : i < s.tasks.length) : clAt (trn s k) i = clAt s (sg s.tasks.length k i) := by unfold clAt; rw [t_get hk hi]
theorem t_pts {i : Nat} (hi : i < s.tasks.length) : ptsAt (trn s k) i = ptsAt s (sg s.tasks.length k i) := by unfold ptsAt; rw [t_get hk hi]
theorem t_dl {i : Nat} (hi : i < s.tasks.length) : dlAt (trn s k) i = dlAt s (sg s.tasks.length k i) := by unfold dlAt; rw [t_get hk hi]
theorem t_kind {i : Nat} (j : Nat) (hi : i < s.tasks.length) : kindAt (trn s k) i j = kindAt s (sg s.tasks.length k i) j := by unfold kindAt; rw [t_get hk hi]
theorem t_b {bs : List Int} (hb : bs.length = s.tasks.length) {i : Nat} (hi : i < s.tasks.length) : bAt (rot k bs) i = bAt bs (sg s.tasks.length k i) := by
  unfold bAt
  rw [List.getD_eq_getElem?_getD, List.getD_eq_getElem?_getD, rot_get hb hk hi]
theorem t_eqz {i n : Nat} (hi : i < s.tasks.length) (hn : n < s.tasks.length) : eqz (i : Int) n = eqz ((sg s.tasks.length k i : Nat) : Int) (sg s.tasks.length k n : Nat) := by
  have := sg_inj hk hi hn
  unfold eqz
  exact decide_eq_decide.2 (by omega)
theorem t_lock {n : Nat} (hn : n < s.tasks.length) (j : Int) : lockS (trn s k) n j = lockS s (sg s.tasks.length k n : Nat) j := by
  unfold lockS
  rw [t_there hk hn, Int.toNat_natCast, Int.toNat_natCast, t_get hk hn]
theorem t_homed {n : Nat} (hn : n < s.tasks.length) (c : Int) : homedS (trn s k) n c = homedS s (sg s.tasks.length k n : Nat) c := by
  unfold homedS
  rw [t_there hk hn, Int.toNat_natCast, Int.toNat_natCast, t_get hk hn]
  rfl
theorem t_at {n : Nat} (hn : n < s.tasks.length) (c : Int) : atS (trn s k) n c = atS s (sg s.tasks.length k n : Nat) c := by unfold atS; rw [t_homed hk hn]
theorem t_most {n : Nat} (hn : n < s.tasks.length) (c : Int) : mostS (trn s k) n c = mostS s (sg s.tasks.length k n : Nat) c := by unfold mostS; rw [t_homed hk hn]
theorem t_lower {n : Nat} (hn : n < s.tasks.length) (c : Int) : lowerS (trn s k) n c = lowerS s (sg s.tasks.length k n : Nat) c := by
  unfold lowerS
  rw [t_there hk hn, Int.toNat_natCast, Int.toNat_natCast, trn_len]
  rw [maxN_rot hk (lowF s (sg s.tasks.length k n) c) (lowF (trn s k) n c) fun i hi => by unfold lowF; rw [t_prio hk hi, t_prio hk hn, t_most hk hi]]
theorem t_higher {bs : List Int} (hb : bs.length = s.tasks.length) {n : Nat} (hn : n < s.tasks.length) (c w : Int) : higherS (trn s k) (rot k bs) n c w = higherS s bs (sg s.tasks.length k n : Nat) c w := by
  unfold higherS
  rw [t_there hk hn, Int.toNat_natCast, Int.toNat_natCast, trn_len, rot_len]
  rw [sumN_rot hk (hiF s bs (sg s.tasks.length k n) c w) (hiF (trn s k) (rot k bs) n c w) fun i hi => by unfold hiF; rw [t_prio hk hi, t_prio hk hn, t_at hk hi, t_b hk hb hi, t_per hk hi]]
theorem t_agent {bs : List Int} (hb : bs.length = s.tasks.length) {n : Nat} (hn : n < s.tasks.length) (j : Int) : agentS (trn s k) (rot k bs) n j = agentS s bs (sg s.tasks.length k n : Nat) j := by
  have hh : ∀ p, homeOf (trn s k) p = homeOf s p := fun p => rfl
  unfold agentS leastS
  rw [rot_len, trn_len, t_lock hk hn]
  simp only [hh, t_lower hk hn, t_higher hk hb hn]
theorem t_oth {n : Nat} (hn : n < s.tasks.length) : othSum (trn s k) n = othSum s (sg s.tasks.length k n : Nat) := by
  unfold othSum
  rw [trn_len]
  exact sumN_rot hk _ _ fun i hi => by unfold othF; rw [t_eqz hk hi hn, t_long hk hi]
theorem t_fair {n : Nat} (hn : n < s.tasks.length) (j : Int) : fairS (trn s k) n j = fairS s (sg s.tasks.length k n : Nat) j := by
  unfold fairS; rw [t_lock hk hn, t_oth hk hn]
theorem t_ins {n : Nat} (hn : n < s.tasks.length) : insS (trn s k) n = insS s (sg s.tasks.length k n : Nat) := by
  have hc : coresS (trn s k) = coresS s := by unfold coresS; rw [trn_ok s (by omega)]; rfl
  unfold insS
  rw [hc, othR_oL, othR_oL, trn_len]
  exact sumTop_perm (oL_rot hk _ _ _ _ fun i hi => ⟨t_long hk hi, t_eqz hk hi hn⟩) _
theorem t_stay (c : Int) : stayS (trn s k) c = stayS s c := by
  unfold stayS
  rw [trn_len]
  exact maxN_rot hk _ _ fun i hi => by unfold outF; rw [t_clus hk hi, t_long hk hi, t_ins hk hi]
theorem t_askers (c : Int) : askersS (trn s k) c = askersS s c := by
  have ha : asks (trn s k) c = asks s c := by funext t; unfold asks; rw [trn_ok s (by omega)]
  unfold askersS
  rw [ha]
  show sumL _ (rot k s.tasks) = _
  unfold rot
  rw [sumL_append, Int.add_comm, ← sumL_append, List.take_append_drop]
theorem t_out {n : Nat} (hn : n < s.tasks.length) : outS (trn s k) n = outS s (sg s.tasks.length k n : Nat) := by
  have hc : ∀ c, coreAt (trn s k) c = coreAt s c := fun c => rfl
  unfold outS roundsS
  rw [t_there hk hn, Int.toNat_natCast, Int.toNat_natCast, t_long hk hn, t_clus hk hn, t_stay hk, t_askers hk, hc]
theorem t_tok {n : Nat} (hn : n < s.tasks.length) (j : Int) : tokS (trn s k) n j = tokS s (sg s.tasks.length k n : Nat) j := by
  unfold tokS tokIn; rw [t_lock hk hn, t_ins hk hn, t_out hk hn]
theorem t_part {bs : List Int} (hb : bs.length = s.tasks.length) {n : Nat} (hn : n < s.tasks.length) (j : Int) : partS (trn s k) (rot k bs) n j = partS s bs (sg s.tasks.length k n : Nat) j := by
  have hp : (trn s k).proto = s.proto := rfl
  unfold partS
  rw [rot_len, trn_len, hp, t_fair hk hn, t_agent hk hb hn, t_tok hk hn]
theorem t_waitF {bs : List Int} (hb : bs.length = s.tasks.length) {n : Nat} (hn : n < s.tasks.length) (j : Nat) : waitF (trn s k) (rot k bs) n j = waitF s bs (sg s.tasks.length k n) j := by
  unfold waitF; rw [t_kind hk j hn, t_part hk hb hn]
theorem t_waits {bs : List Int} (hb : bs.length = s.tasks.length) {n : Nat} (hn : n < s.tasks.length) : waitsS (trn s k) (rot k bs) n = waitsS s bs (sg s.tasks.length k n : Nat) := by
  have h1 : waitBad (trn s k) (rot k bs) n = waitBad s bs (sg s.tasks.length k n) := by funext j; unfold waitBad; rw [t_waitF hk hb hn]
  have h2 : waitV (trn s k) (rot k bs) n = waitV s bs (sg s.tasks.length k n) := by funext j; unfold waitV; rw [t_waitF hk hb hn]
  unfold waitsS waitL
  rw [t_there hk hn, Int.toNat_natCast, Int.toNat_natCast, t_get hk hn, h1, h2]
theorem t_own {bs : List Int} (hb : bs.length = s.tasks.length) {n : Nat} (hn : n < s.tasks.length) : ownS (trn s k) (rot k bs) n = ownS s bs (sg s.tasks.length k n : Nat) := by
  unfold ownS wsumS
  rw [t_waits hk hb hn, Int.toNat_natCast, Int.toNat_natCast, t_pts hk hn]
theorem t_each {m i : Nat} (hm : m < s.tasks.length) (hi : i < s.tasks.length) : eachS (trn s k) m i = eachS s (sg s.tasks.length k m) (sg s.tasks.length k i) := by
  have hp : (trn s k).proto = s.proto := rfl
  unfold eachS
  rw [hp, t_cl hk hm, t_cl hk hi, t_prio hk hm, t_prio hk hi, t_pts hk hi, t_at hk hi]
theorem t_others {bs : List Int} (hb : bs.length = s.tasks.length) {n : Nat} (hn : n < s.tasks.length) (w : Int) : othersS (trn s k) (rot k bs) n w = othersS s bs (sg s.tasks.length k n : Nat) w := by
  have hc : corAt (trn s k) n = corAt s (sg s.tasks.length k n) := by unfold corAt; rw [t_cl hk hn]; rfl
  have hneg : negL (rot k bs) = negL bs := by
    unfold negL rot
    rw [List.any_append, Bool.or_comm, ← List.any_append, List.take_append_drop]
  unfold othersS
  rw [t_there hk hn, Int.toNat_natCast, Int.toNat_natCast, trn_len, rot_len, hneg, hc]
  rw [sumN_rot hk (othW s bs (sg s.tasks.length k n) w) (othW (trn s k) (rot k bs) n w) fun i hi => by unfold othW; rw [t_eqz hk hi hn, t_b hk hb hi, t_per hk hi, t_each hk hn hi]]
theorem t_next {bs : List Int} (hb : bs.length = s.tasks.length) {n : Nat} (hn : n < s.tasks.length) : nextS (trn s k) (rot k bs) n = nextS s bs (sg s.tasks.length k n : Nat) := by
  unfold nextS
  rw [rot_len, trn_len, t_own hk hb hn, Int.toNat_natCast, Int.toNat_natCast, t_b hk hb hn]
  simp only [t_others hk hb hn]
theorem t_round {bs : List Int} (hb : bs.length = s.tasks.length) : roundS (trn s k) (rot k bs) = (roundS s bs).map (rot k) := by
  have h1 : ∀ i, i < s.tasks.length → rBad (trn s k) (rot k bs) i = rBad s bs (sg s.tasks.length k i) := fun i hi => by unfold rBad; rw [t_next hk hb hi, t_dl hk hi]
  have h2 : rL (trn s k) (rot k bs) s.tasks.length = rot k (rL s bs s.tasks.length) := by
    refine ext_get (rL_len ..) (by rw [rot_len, rL_len]) fun i hi => ?_
    rw [rot_get (rL_len ..) hk hi]
    unfold rL rNext
    rw [List.getElem?_map, List.getElem?_map, List.getElem?_range hi, List.getElem?_range (sg_lt hk hi)]
    simp only [Option.map_some]
    rw [t_next hk hb hi]
  have h3 : (fstP (rBad (trn s k) (rot k bs)) 0 s.tasks.length).isNone = (fstP (rBad s bs) 0 s.tasks.length).isNone := by
    rw [Bool.eq_iff_iff, Option.isNone_iff_eq_none, Option.isNone_iff_eq_none, fstP_none, fstP_none]
    refine ⟨fun h j hj1 hj2 => ?_, fun h i hi1 hi2 => ?_⟩
    · obtain ⟨i, hi, rfl⟩ := sg_sur hk (j := j) (by omega)
      rw [← h1 i hi]; exact h i (by omega) (by omega)
    · rw [h1 i (by omega)]; exact h _ (by omega) (by have := sg_lt hk (i := i) (by omega); omega)
  unfold roundS
  rw [trn_len, h3, h2]
  split <;> rfl
theorem t_it : ∀ (d : Nat) (bs : List Int), bs.length = s.tasks.length → itS (trn s k) d (rot k bs) = (rot k (itS s d bs).1, (itS s d bs).2)
  | 0, _, _ => by simp [itS, rot]
  | d + 1, bs, hb => by
    unfold itS
    rw [t_round hk hb]
    cases hx : roundS s bs with
    | none => simp [rot]
    | some nx =>
      have hn := (round_ok hx).1
      simp only [Option.map_some]
      by_cases he : nx = bs
      · rw [if_pos he, if_pos (by rw [he])]
      · rw [if_neg he, if_neg (fun h => he ((rot_inj (by omega) (by omega)).1 h))]
        exact t_it d nx hn
theorem t_least : leastB (trn s k) = (rot k (leastB s).1, (leastB s).2) := by
  have h : stL (trn s k) s.tasks.length = rot k (stL s s.tasks.length) := by
    refine ext_get (stL_len ..) (by rw [rot_len, stL_len]) fun i hi => ?_
    rw [rot_get (stL_len ..) hk hi]
    unfold stL stF
    rw [List.getElem?_map, List.getElem?_map, List.getElem?_range hi, List.getElem?_range (sg_lt hk hi)]
    simp only [Option.map_some]
    rw [t_pts hk hi]
  unfold leastB
  rw [trn_len, h]
  exact t_it hk 200 _ (stL_len ..)
/-- The verdict of a set turned round. -/
theorem t_an : (okS s = true → (anS (trn s k)).2 = (anS s).2 ∧ (anS (trn s k)).1.ok = (anS s).1.ok ∧ (anS (trn s k)).1.bounds = rot k (anS s).1.bounds) ∧
    (okS s = false → eqz (anS s).2 0 = false ∧ eqz (anS (trn s k)).2 0 = false ∧ (anS s).1.ok = false ∧ (anS (trn s k)).1.ok = false) := by
  have ho := trn_ok s (k := k) (by omega)
  refine ⟨fun h => ?_, fun h => ?_⟩
  · unfold anS
    rw [ho, if_pos h, if_pos h, t_least hk]
    split
    · exact ⟨rfl, rfl, rfl⟩
    · exact ⟨rfl, rfl, by simp [rot]⟩
  · have h2 : okS (trn s k) = false := by rw [ho, h]
    unfold anS
    rw [if_neg (by simp [h]), if_neg (by simp [h2])]
    exact ⟨h, h2, rfl, rfl⟩
end
end Go.Proofs.YtamblgbmdhldbaaGreatDoorEv
