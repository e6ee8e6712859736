/- With longer locks nobody waits less: plain law. -/
import Derived.Test.YtgndbkeiickihaaWt
import Derived.Test.YtgndbkeiickihaaAgMono
set_option linter.unusedSimpArgs false
set_option linter.unusedVariables false
namespace Go.Proofs.YtgndbkeiickihaaEv
open Go
set_option maxHeartbeats 2000000
/-! ### sums of the greatest ones -/
def LeL : List Int → List Int → Prop
  | [], [] => True
  | a :: l, b :: m => a ≤ b ∧ LeL l m
  | _, _ => False
theorem LeL.len : ∀ {l m : List Int}, LeL l m → l.length = m.length
  | [], [], _ => rfl
  | a :: l, b :: m, h => by have := LeL.len h.2; simp [this]
theorem LeL.refl : ∀ l : List Int, LeL l l
  | [] => trivial
  | a :: l => ⟨Int.le_refl _, LeL.refl l⟩
theorem LeL.app : ∀ {l m p q : List Int}, LeL l m → LeL p q → LeL (l ++ p) (m ++ q)
  | [], [], _, _, _, h => h
  | a :: l, b :: m, _, _, h, k => ⟨h.1, LeL.app h.2 k⟩
theorem LeL.take : ∀ (n : Nat) {l m : List Int}, LeL l m → LeL (l.take n) (m.take n)
  | 0, _, _, _ => by simp [LeL]
  | n + 1, [], [], _ => by simp [LeL]
  | n + 1, a :: l, b :: m, h => ⟨h.1, LeL.take n h.2⟩
theorem LeL.sum : ∀ {l m : List Int}, LeL l m → sumL id l ≤ sumL id m
  | [], [], _ => Int.le_refl _
  | a :: l, b :: m, h => by have := LeL.sum h.2; have := h.1; unfold sumL; simp only [id]; omega
theorem LeL.max : ∀ {l m : List Int}, LeL l m → maxL id l ≤ maxL id m
  | [], [], _ => Int.le_refl _
  | a :: l, b :: m, h => by have := LeL.max h.2; have := h.1; unfold maxL; simp only [id]; omega
abbrev Dsc (l : List Int) : Prop := l.Pairwise (fun a b => b ≤ a)
theorem ins_up : ∀ {l m : List Int} {a y : Int}, LeL l m → Dsc (a :: l) → a ≤ y → LeL (a :: l) (insD y m)
  | [], [], a, y, _, _, h => ⟨h, trivial⟩
  | d :: l, c :: m, a, y, h, hs, hy => by
    have h1 := h.1
    have hd : d ≤ a := (List.pairwise_cons.1 hs).1 d (by simp)
    have ht := (List.pairwise_cons.1 hs).2
    unfold insD
    split
    · exact ⟨hy, h1, h.2⟩
    · exact ⟨by omega, ins_up h.2 ht (by omega)⟩
theorem ins_dn : ∀ {l m : List Int} {x b : Int}, LeL l m → Dsc (b :: m) → x ≤ b → LeL (insD x l) (b :: m)
  | [], [], x, b, _, _, h => ⟨h, trivial⟩
  | d :: l, c :: m, x, b, h, hs, hx => by
    have h1 := h.1
    have hc : c ≤ b := (List.pairwise_cons.1 hs).1 c (by simp)
    have ht := (List.pairwise_cons.1 hs).2
    unfold insD
    split
    · exact ⟨hx, h1, h.2⟩
    · exact ⟨by omega, ins_dn h.2 ht (by omega)⟩
theorem ins_mono2 : ∀ {l m : List Int} {x y : Int}, LeL l m → Dsc l → Dsc m → x ≤ y → LeL (insD x l) (insD y m)
  | [], [], x, y, _, _, _, h => ⟨h, trivial⟩
  | a :: l, b :: m, x, y, h, hl, hm, hxy => by
    have h1 := h.1
    unfold insD
    split
    · split
      · exact ⟨hxy, h1, h.2⟩
      · exact ⟨by omega, ins_up h.2 hl (by omega)⟩
    · split
      · exact ⟨by omega, ins_dn h.2 hm (by omega)⟩
      · exact ⟨h1, ins_mono2 h.2 (List.pairwise_cons.1 hl).2 (List.pairwise_cons.1 hm).2 hxy⟩
theorem sortD_dsc : ∀ l : List Int, Dsc (sortD l)
  | [] => List.Pairwise.nil
  | a :: l => insD_sorted a _ (sortD_dsc l)
theorem sortD_mono : ∀ {l m : List Int}, LeL l m → LeL (sortD l) (sortD m)
  | [], [], _ => trivial
  | a :: l, b :: m, h => ins_mono2 (sortD_mono h.2) (sortD_dsc l) (sortD_dsc m) h.1
theorem sumTop_le {l m : List Int} (h : LeL l m) (k : Int) : sumTop l k ≤ sumTop m k := by
  unfold sumTop topS
  rw [h.len]
  exact (LeL.take _ (sortD_mono h)).sum
/-! ### sets of which some parts are longer -/
def LePs : List Pt → List Pt → Prop
  | [], [] => True
  | p :: l, q :: m => (p.kind = q.kind ∧ p.res = q.res ∧ 1 ≤ p.len ∧ p.len ≤ q.len) ∧ LePs l m
  | _, _ => False
theorem LePs.len : ∀ {l m : List Pt}, LePs l m → l.length = m.length
  | [], [], _ => rfl
  | a :: l, b :: m, h => by have := LePs.len h.2; simp [this]
theorem LePs.refl : ∀ {l : List Pt}, (∀ p ∈ l, 1 ≤ p.len) → LePs l l
  | [], _ => trivial
  | a :: l, h => ⟨⟨rfl, rfl, h a (by simp), Int.le_refl _⟩, LePs.refl fun p hp => h p (by simp [hp])⟩
theorem LePs.get : ∀ {l m : List Pt} (_ : LePs l m) (i : Nat), (l[i]? = none ∧ m[i]? = none) ∨ ∃ p q, l[i]? = some p ∧ m[i]? = some q ∧ p.kind = q.kind ∧ p.res = q.res ∧ 1 ≤ p.len ∧ p.len ≤ q.len
  | [], [], _, i => .inl ⟨rfl, rfl⟩
  | a :: l, b :: m, h, 0 => .inr ⟨a, b, rfl, rfl, h.1⟩
  | a :: l, b :: m, h, i + 1 => by simpa using LePs.get h.2 i
theorem LePs.lng : ∀ {l m : List Pt}, LePs l m → longest l ≤ longest m ∧ (0 < longest l ↔ 0 < longest m)
  | [], [], _ => ⟨Int.le_refl _, Iff.rfl⟩
  | p :: l, q :: m, h => by
    obtain ⟨i1, i2⟩ := LePs.lng h.2
    obtain ⟨h1, h2, h3, h4⟩ := h.1
    have z1 : 0 ≤ longest l := maxL_nonneg (kLen 3) l
    have z2 : 0 ≤ longest m := maxL_nonneg (kLen 3) m
    have k1 : kLen 3 p ≤ kLen 3 q ∧ (0 < kLen 3 p ↔ 0 < kLen 3 q) := by unfold kLen; rw [h1]; split <;> omega
    have e1 : longest (p :: l) = max (kLen 3 p) (longest l) := rfl
    have e2 : longest (q :: m) = max (kLen 3 q) (longest m) := rfl
    rw [e1, e2]
    omega
structure LeT (a b : Tk) : Prop where
  period : a.period = b.period
  prio : a.prio = b.prio
  cluster : a.cluster = b.cluster
  parts : LePs a.parts b.parts
structure LeS (s t : St) : Prop where
  gs : Good s
  gt : Good t
  proto : s.proto = t.proto
  cores : s.cores = t.cores
  homes : s.homes = t.homes
  len : s.tasks.length = t.tasks.length
  at_ : ∀ i, i < s.tasks.length → ∃ a b, s.tasks[i]? = some a ∧ t.tasks[i]? = some b ∧ LeT a b
theorem maxN_le2 {f g : Nat → Int} (n : Nat) (hf : ∀ i, i < n → f i ≤ g i) : maxN f n ≤ maxN g n := by
  refine maxN_le (maxN_nonneg _ _) n fun i hi => ?_
  have := le_maxN (f := g) n i hi
  have := hf i hi
  omega
section
variable {s t : St} (h : LeS s t)
include h
theorem LeS.two (i : Nat) : (s.tasks[i]? = none ∧ t.tasks[i]? = none) ∨ ∃ a b, s.tasks[i]? = some a ∧ t.tasks[i]? = some b ∧ LeT a b := by
  by_cases hi : i < s.tasks.length
  · exact .inr (h.at_ i hi)
  · exact .inl ⟨List.getElem?_eq_none (by omega), List.getElem?_eq_none (by have := h.len; omega)⟩
theorem l_there (n : Int) : thereS t n = thereS s n := by
  rw [Bool.eq_iff_iff, thereS_iff, thereS_iff, h.len]
  exact ⟨fun x => ⟨h.gs, x.2⟩, fun x => ⟨h.gt, x.2⟩⟩
theorem l_prio (i : Nat) : prioAt t i = prioAt s i := by
  unfold prioAt
  rcases h.two i with ⟨e1, e2⟩ | ⟨a, b, e1, e2, e3⟩ <;> rw [e1, e2]
  simp [e3.prio]
theorem l_per (i : Nat) : perAt t i = perAt s i := by
  unfold perAt
  rcases h.two i with ⟨e1, e2⟩ | ⟨a, b, e1, e2, e3⟩ <;> rw [e1, e2]
  simp [e3.period]
theorem l_clus (i : Nat) : clusterAt t i = clusterAt s i := by
  unfold clusterAt
  rcases h.two i with ⟨e1, e2⟩ | ⟨a, b, e1, e2, e3⟩ <;> rw [e1, e2]
  simp [e3.cluster]
theorem l_long (i : Nat) : longAt s i ≤ longAt t i ∧ (0 < longAt s i ↔ 0 < longAt t i) := by
  unfold longAt
  rcases h.two i with ⟨e1, e2⟩ | ⟨a, b, e1, e2, e3⟩ <;> rw [e1, e2]
  · exact ⟨Int.le_refl _, Iff.rfl⟩
  · exact e3.parts.lng
theorem l_home (p q : Pt) (hr : p.res = q.res) : homeOf t q = homeOf s p := by unfold homeOf; rw [h.homes, hr]
theorem l_homed (n c : Int) : LeL (homedS s n c) (homedS t n c) := by
  unfold homedS
  rw [l_there h]
  split
  · have key : ∀ {l m : List Pt}, LePs l m → LeL (homedL s l c) (homedL t m c) := by
      intro l
      induction l with
      | nil => intro m hm; cases m with
        | nil => trivial
        | cons q m => exact hm.elim
      | cons p l ih => intro m hm; cases m with
        | nil => exact hm.elim
        | cons q m =>
          have := ih hm.2
          obtain ⟨h1, h2, h3, h4⟩ := hm.1
          have e : lockAt t c q = lockAt s c p := by unfold lockAt; rw [l_home h p q h2, h1]
          unfold homedL at this ⊢
          rw [List.filter_cons, List.filter_cons, e]
          split
          · exact ⟨h4, this⟩
          · exact this
    rcases h.two n.toNat with ⟨e1, e2⟩ | ⟨a, b, e1, e2, e3⟩ <;> rw [e1, e2]
    · exact LeL.refl _
    · exact key e3.parts
  · trivial
theorem l_at (n c : Int) : atS s n c ≤ atS t n c := (l_homed h n c).sum
theorem l_most (n c : Int) : mostS s n c ≤ mostS t n c := (l_homed h n c).max
theorem l_lower (n c : Int) : lowerS s n c ≤ lowerS t n c := by
  unfold lowerS
  rw [l_there h, ← h.len]
  split
  · refine maxN_le2 _ fun i _ => ?_
    unfold lowF
    rw [l_prio h, l_prio h]
    split
    · exact l_most h _ _
    · exact Int.le_refl _
  · exact Int.le_refl _
theorem l_higher (bs : List Int) (n c w : Int) : higherS s bs n c w ≤ higherS t bs n c w := by
  unfold higherS
  rw [l_there h, ← h.len]
  split
  · have := sumN_mono (f := hiF s bs n.toNat c w) (g := hiF t bs n.toNat c w) s.tasks.length fun i _ => by
      unfold hiF
      rw [l_prio h, l_prio h, l_per h]
      split
      · by_cases hb : bAt bs i < 0
        · rw [work_neg hb, work_neg hb]; exact Int.le_refl _
        · exact work_mono (Int.le_refl _) (Int.le_refl _) (by omega) (l_at h _ _)
      · exact Int.le_refl _
    omega
  · exact Int.le_refl _
theorem l_lock {n k : Int} {q : Pt} (hq : lockS t n k = some q) : ∃ p, lockS s n k = some p ∧ p.res = q.res ∧ p.len ≤ q.len := by
  unfold lockS at hq ⊢
  rw [l_there h] at hq
  split at hq
  · rename_i hc
    rw [if_pos hc]
    rcases h.two n.toNat with ⟨e1, e2⟩ | ⟨a, b, e1, e2, e3⟩
    · rw [e2] at hq; cases hq
    · rw [e2] at hq
      rw [e1]
      simp only [Option.bind_some] at hq ⊢
      rcases e3.parts.get k.toNat with ⟨f1, f2⟩ | ⟨p, q', f1, f2, f3, f4, f5, f6⟩
      · rw [f2] at hq; cases hq
      · rw [f2] at hq
        rw [f1]
        simp only [Option.filter_some] at hq ⊢
        rw [f3]
        split at hq
        · rename_i hk; cases hq; rw [if_pos hk]; exact ⟨p, rfl, f4, f6⟩
        · cases hq
  · cases hq
theorem l_oth (n : Int) : othSum s n ≤ othSum t n := by
  unfold othSum
  rw [← h.len]
  refine sumN_mono _ fun i _ => ?_
  unfold othF
  split
  · exact Int.le_refl _
  · exact (l_long h i).1
theorem l_fair {n k b : Int} (hb : fairS t n k = some b) : ∃ a, fairS s n k = some a ∧ a ≤ b := by
  unfold fairS at hb ⊢
  obtain ⟨q, hq, rfl⟩ := Option.map_eq_some_iff.1 hb
  obtain ⟨p, hp, _, hl⟩ := l_lock h hq
  rw [hp]
  have := l_oth h n
  exact ⟨p.len + othSum s n, rfl, by omega⟩
theorem l_agent {bs : List Int} {n k b : Int} (hb : agentS t bs n k = some b) : ∃ a, agentS s bs n k = some a ∧ a ≤ b := by
  unfold agentS at hb ⊢
  rw [h.len]
  split at hb
  · rename_i hlc
    rw [if_pos hlc]
    obtain ⟨q, hq, hb⟩ := Option.bind_eq_some_iff.1 hb
    obtain ⟨p, hp, hr, hl⟩ := l_lock h hq
    rw [hp]
    simp only [Option.bind_some]
    obtain ⟨h1, h2, h3, _⟩ := lfp_some.1 hb
    have e1 := l_home h p q hr
    have e2 : leastS s n p ≤ leastS t n q := by
      unfold leastS
      rw [e1]
      have := l_lower h n (homeOf s p)
      omega
    rw [e1] at h3
    refine lfp_pre (fun u v _ h => by have := higher_mono_w s bs n (homeOf s p) h; omega) (fun v _ => by have := higher_bounds s bs n (homeOf s p) v; omega) (by omega) h2 ?_
    have := l_higher h bs n (homeOf s p) b
    omega
  · cases hb
theorem l_othR (n : Int) : ∀ i, LeL (othR s n i) (othR t n i)
  | 0 => trivial
  | i + 1 => by
    rw [othR, othR]
    split
    · exact l_othR n i
    · exact (l_othR n i).app ⟨(l_long h i).1, trivial⟩
theorem l_ins (n : Int) : insS s n ≤ insS t n := by
  have hc : coresS t = coresS s := by unfold coresS; rw [(okS_iff _).2 h.gs, (okS_iff _).2 h.gt, h.cores]
  unfold insS
  rw [hc, ← h.len]
  exact sumTop_le (l_othR h n _) _
theorem l_stay (c : Int) : stayS s c ≤ stayS t c := by
  unfold stayS
  rw [← h.len]
  refine maxN_le2 _ fun i _ => ?_
  obtain ⟨h1, h2⟩ := l_long h i
  have h3 := l_ins h i
  unfold outF
  rw [l_clus h]
  by_cases hc : eqz (clusterAt s i) c = true ∧ 0 < longAt s i
  · rw [if_pos hc, if_pos ⟨hc.1, h2.1 hc.2⟩]; omega
  · rw [if_neg hc, if_neg fun x => hc ⟨x.1, h2.2 x.2⟩]; omega
theorem l_askers (c : Int) : askersS t c = askersS s c := by
  unfold askersS
  have key : ∀ (l m : List Tk), l.length = m.length → (∀ i, i < l.length → ∃ a b, l[i]? = some a ∧ m[i]? = some b ∧ LeT a b) → sumL (asks t c) m = sumL (asks s c) l := by
    intro l
    induction l with
    | nil => intro m hm _; cases m with
      | nil => rfl
      | cons b m => simp at hm
    | cons a l ih => intro m hm hx; cases m with
      | nil => simp at hm
      | cons b m =>
        obtain ⟨a', b', e1, e2, e3⟩ := hx 0 (by simp)
        cases e1; cases e2
        have i1 := ih m (by simpa using hm) fun i hi => by simpa using hx (i + 1) (by simpa using hi)
        have i2 : asks t c b = asks s c a := by
          unfold asks
          rw [(okS_iff _).2 h.gs, (okS_iff _).2 h.gt, e3.cluster]
          have := e3.parts.lng.2
          by_cases hc : 0 < longest a.parts
          · simp [hc, this.1 hc]
          · rw [if_neg fun x => hc (this.2 x.2), if_neg fun x => hc x.2]
        unfold sumL
        rw [i1, i2]
  exact key _ _ h.len h.at_
theorem l_out (n : Int) : outS s n ≤ outS t n := by
  unfold outS
  rw [l_there h]
  split
  · rename_i ht
    obtain ⟨h1, h2⟩ := l_long h n.toNat
    have h0 := (longAt_bounds h.gs n.toNat).1
    have h0' := (longAt_bounds h.gt n.toNat).1
    by_cases hz : longAt s n.toNat = 0
    · have hz2 : longAt t n.toNat = 0 := by omega
      rw [if_pos (by simp [eqz, hz]), if_pos (by simp [eqz, hz2])]; exact Int.le_refl _
    · have hz2 : ¬ longAt t n.toNat = 0 := by omega
      rw [if_neg (by simp [eqz, hz]), if_neg (by simp [eqz, hz2]), l_clus h]
      have e : roundsS t (clusterAt s n.toNat) = roundsS s (clusterAt s n.toNat) := by
        unfold roundsS coreAt; rw [l_askers h, h.cores]
      rw [e]
      have hn := ((thereS_iff s n).1 ht).2
      have hnt : n.toNat < s.tasks.length := by omega
      have hco := core_at h.gs (List.getElem_mem hnt)
      rw [← clusterAt_is s _ hnt] at hco
      have hr := (rounds_bounds s (clusterAt s n.toNat) (by have := h.gs.tasks; omega) hco.2.2.2.1).1
      exact Int.mul_le_mul_of_nonneg_left (l_stay h _) hr
  · exact Int.le_refl _
theorem l_tok {n k b : Int} (hb : tokS t n k = some b) : ∃ a, tokS s n k = some a ∧ a ≤ b := by
  unfold tokS tokIn at hb ⊢
  obtain ⟨x, hx, rfl⟩ := Option.map_eq_some_iff.1 hb
  obtain ⟨q, hq, rfl⟩ := Option.map_eq_some_iff.1 hx
  obtain ⟨p, hp, _, hl⟩ := l_lock h hq
  rw [hp]
  have := l_ins h n
  have := l_out h n
  exact ⟨p.len + insS s n + outS s n, rfl, by omega⟩
theorem l_part {bs : List Int} {n k b : Int} (hb : partS t bs n k = some b) : ∃ a, partS s bs n k = some a ∧ a ≤ b := by
  unfold partS at hb ⊢
  rw [h.len, h.proto]
  split at hb
  · rename_i hl
    rw [if_pos hl]
    split at hb
    · rename_i p1; rw [if_pos p1]; exact l_fair h hb
    · rename_i p1
      rw [if_neg p1]
      split at hb
      · rename_i p2; rw [if_pos p2]; exact l_agent h hb
      · rename_i p2; rw [if_neg p2]; exact l_tok h hb
  · cases hb
theorem l_kind (m i : Nat) : kindAt t m i = kindAt s m i := by
  unfold kindAt
  rcases h.two m with ⟨e1, e2⟩ | ⟨a, b, e1, e2, e3⟩ <;> rw [e1, e2]
  simp only [Option.bind_some]
  rcases e3.parts.get i with ⟨f1, f2⟩ | ⟨p, q', f1, f2, f3, f4, f5, f6⟩ <;> rw [f1, f2]
  simp [f3]
theorem l_waitF {bs : List Int} {m i : Nat} {b : Int} (hb : waitF t bs m i = some b) : ∃ a, waitF s bs m i = some a ∧ a ≤ b := by
  unfold waitF at hb ⊢
  rw [l_kind h] at hb
  split at hb
  · rename_i hk; rw [if_pos hk]; exact l_part h hb
  · rename_i hk; rw [if_neg hk]; exact ⟨b, hb, Int.le_refl _⟩
end
/-! ### what a request takes is its own length at least -/
theorem insW_nonneg {s : St} {n k x : Int} {p : Pt} (hp : lockS s n k = some p) (h : tokIn s n k = some x) : p.len ≤ x := by
  have h2 : 0 ≤ insS s n := by
    obtain ⟨g, _⟩ := lockS_some hp
    exact (ins_bounds g n).1
  unfold tokIn at h
  rw [hp] at h
  cases h
  show p.len ≤ p.len + insS s n
  omega
theorem partW_ge {s : St} {bs : List Int} {n k x : Int} (h : partS s bs n k = some x) : ∃ p, lockS s n k = some p ∧ p.len ≤ x := by
  unfold partS at h
  split at h
  · rename_i hl
    split at h
    · unfold fairS at h
      obtain ⟨p, hp, rfl⟩ := Option.map_eq_some_iff.1 h
      obtain ⟨g, _⟩ := lockS_some hp
      exact ⟨p, hp, by have := othSum_bounds g n; omega⟩
    · split at h
      · unfold agentS at h
        rw [if_pos hl] at h
        cases hp : lockS s n k with
        | none => rw [hp] at h; cases h
        | some p =>
          rw [hp] at h
          simp only [Option.bind_some] at h
          obtain ⟨h1, _⟩ := lfp_some.1 h
          refine ⟨p, rfl, ?_⟩
          have := (lower_bounds s n (homeOf s p)).1
          unfold leastS at h1
          omega
      · unfold tokS at h
        obtain ⟨i, hi, rfl⟩ := Option.map_eq_some_iff.1 h
        have hi2 := hi
        unfold tokIn at hi2
        obtain ⟨p, hp, _⟩ := Option.map_eq_some_iff.1 hi2
        exact ⟨p, hp, by have := insW_nonneg hp hi; have := (out_bounds s n).1; omega⟩
  · cases h
/-- Waits, place by place. -/
theorem waitsS_some {s : St} {bs : List Int} {n : Nat} (hn : n < s.tasks.length) {l : List Int} : waitsS s bs n = some l ↔ thereS s n = true ∧ (∀ i, i < s.tasks[n].parts.length → waitBad s bs n i = false) ∧ l = waitL s bs n s.tasks[n].parts.length := by
  have e : (s.tasks[(n : Int).toNat]?.map fun t => t.parts.length).getD 0 = s.tasks[n].parts.length := by simp [hn]
  unfold waitsS
  rw [e]
  constructor
  · intro h
    split at h
    · rename_i ht
      split at h
      · rename_i hf
        cases h
        exact ⟨ht, fun i hi => (fstP_none _ _).1 (by simpa using hf) i (Nat.zero_le _) (by omega), rfl⟩
      · cases h
    · cases h
  · rintro ⟨ht, hb, rfl⟩
    rw [if_pos ht, if_pos]
    · rfl
    · rw [Int.toNat_natCast, (fstP_none _ _).2 fun k _ hk => hb k (by omega)]; rfl
/-- What the law wants of a task's waits: of its own, and beside the longer set. -/
theorem wait_least {s : St} {bs : List Int} {n : Nat} (g : Good s) (hn : n < s.tasks.length) {l : List Int} (hw : waitsS s bs n = some l) :
    l.length = s.tasks[n].parts.length ∧ ∀ i (hi : i < s.tasks[n].parts.length) (hl : i < l.length), (0 < l[i] ↔ s.tasks[n].parts[i].kind = 3) ∧ (s.tasks[n].parts[i].kind = 3 → s.tasks[n].parts[i].len ≤ l[i]) := by
  obtain ⟨_, hb, rfl⟩ := (waitsS_some hn).1 hw
  refine ⟨waitL_len .., fun i hi hl => ?_⟩
  have e : (waitL s bs n s.tasks[n].parts.length)[i] = waitV s bs n i := by simp [waitL]
  rw [e]
  have hbi := hb i hi
  unfold waitBad at hbi
  obtain ⟨x, hx⟩ := Option.isSome_iff_exists.1 (show (waitF s bs n i).isSome = true by simpa using hbi)
  have ev : waitV s bs n i = x := by unfold waitV; rw [hx]; rfl
  rw [ev]
  unfold waitF at hx
  rw [kindAt_is s n i hn hi] at hx
  split at hx
  · rename_i hk
    have hk : s.tasks[n].parts[i].kind = 3 := by simpa [eqz] using hk
    obtain ⟨p, hp, hle⟩ := partW_ge hx
    obtain ⟨_, m', j', hm', hj', e1, e2, rfl, _⟩ := lockS_some hp
    obtain rfl : n = m' := by omega
    obtain rfl : i = j' := by omega
    have := (g.task _ (List.getElem_mem hn)).part _ (List.getElem_mem hi)
    have := this.len
    exact ⟨⟨fun _ => hk, fun _ => by omega⟩, fun _ => hle⟩
  · rename_i hk
    have hk : ¬ s.tasks[n].parts[i].kind = 3 := by simpa [eqz] using hk
    cases hx
    exact ⟨⟨fun h => absurd h (by omega), fun h => absurd h hk⟩, fun h => absurd h hk⟩
theorem wait_more {s t : St} (h : LeS s t) {bs : List Int} {n : Nat} (hn : n < s.tasks.length) {l' : List Int} (hw : waitsS t bs n = some l') :
    ∃ l, waitsS s bs n = some l ∧ ∀ i (h1 : i < l.length) (h2 : i < l'.length), l[i] ≤ l'[i] := by
  have hn' : n < t.tasks.length := by have := h.len; omega
  obtain ⟨a, b, e1, e2, e3⟩ := h.at_ n hn
  have hlp : s.tasks[n].parts.length = t.tasks[n].parts.length := by
    have f1 : s.tasks[n] = a := by rw [List.getElem?_eq_getElem hn] at e1; exact Option.some.inj e1
    have f2 : t.tasks[n] = b := by rw [List.getElem?_eq_getElem hn'] at e2; exact Option.some.inj e2
    rw [f1, f2]; exact e3.parts.len
  obtain ⟨ht, hb, rfl⟩ := (waitsS_some hn').1 hw
  have key : ∀ i, i < s.tasks[n].parts.length → waitBad s bs n i = false ∧ waitV s bs n i ≤ waitV t bs n i := by
    intro i hi
    have hbi := hb i (by omega)
    unfold waitBad at hbi
    obtain ⟨x, hx⟩ := Option.isSome_iff_exists.1 (show (waitF t bs n i).isSome = true by simpa using hbi)
    obtain ⟨y, hy, hle⟩ := l_waitF h hx
    refine ⟨by unfold waitBad; rw [hy]; rfl, ?_⟩
    unfold waitV
    rw [hx, hy]
    exact hle
  refine ⟨waitL s bs n s.tasks[n].parts.length, (waitsS_some hn).2 ⟨by rw [← l_there h]; exact ht, fun i hi => (key i hi).1, rfl⟩, fun i h1 h2 => ?_⟩
  rw [waitL_len] at h1
  simp only [waitL, List.getElem_map, List.getElem_range]
  exact (key i h1).2
/-! ### one part is longer -/
theorem modify_midW {α : Type} (f : α → α) : ∀ (l : List α) (q : Nat) (h : q < l.length), l.modify q f = l.take q ++ f l[q] :: l.drop (q + 1)
  | a :: l, 0, _ => by simp
  | a :: l, q + 1, h => by
    have := modify_midW f l q (by simpa using h)
    simp [this]
def lnP (k : Nat) (L : Int) (ps : List Pt) : List Pt := ps.modify k fun p => { p with len := L }
def lns (s : St) (q k : Nat) (L : Int) : St := ⟨s.proto, s.cores, s.homes, s.tasks.modify q fun t => { t with parts := lnP k L t.parts }⟩
theorem lnP_get (k : Nat) (L : Int) (ps : List Pt) (i : Nat) : (lnP k L ps)[i]? = (ps[i]?).map fun p => if k = i then { p with len := L } else p := by
  unfold lnP
  rw [List.getElem?_modify]
  by_cases h : k = i <;> simp [h]
theorem lnP_len (k : Nat) (L : Int) (ps : List Pt) : (lnP k L ps).length = ps.length := List.length_modify ..
theorem lns_get (s : St) (q k : Nat) (L : Int) (i : Nat) : (lns s q k L).tasks[i]? = (s.tasks[i]?).map fun t => if q = i then { t with parts := lnP k L t.parts } else t := by
  show (s.tasks.modify q _)[i]? = _
  rw [List.getElem?_modify]
  by_cases h : q = i <;> simp [h]
theorem lns_len (s : St) (q k : Nat) (L : Int) : (lns s q k L).tasks.length = s.tasks.length := List.length_modify ..
theorem lnP_le : ∀ (ps : List Pt) (k : Nat) (L : Int), (∀ p ∈ ps, 1 ≤ p.len) → (∀ p, ps[k]? = some p → p.len ≤ L) → LePs ps (lnP k L ps)
  | [], k, L, _, _ => by simp [lnP, LePs]
  | p :: ps, 0, L, h1, h2 => ⟨⟨rfl, rfl, h1 p (by simp), h2 p rfl⟩, LePs.refl fun x hx => h1 x (by simp [hx])⟩
  | p :: ps, k + 1, L, h1, h2 => ⟨⟨rfl, rfl, h1 p (by simp), Int.le_refl _⟩, lnP_le ps k L (fun x hx => h1 x (by simp [hx])) fun x hx => h2 x (by simpa using hx)⟩
theorem lnP_mem {k : Nat} {L : Int} {ps : List Pt} {p : Pt} (h : p ∈ lnP k L ps) : ∃ p0 ∈ ps, p.kind = p0.kind ∧ p.res = p0.res ∧ (p.len = p0.len ∨ p.len = L) := by
  obtain ⟨i, hi, rfl⟩ := List.getElem_of_mem h
  have hg := lnP_get k L ps i
  rw [List.getElem?_eq_getElem hi] at hg
  have hi' : i < ps.length := by rw [lnP_len] at hi; exact hi
  rw [List.getElem?_eq_getElem hi'] at hg
  simp only [Option.map_some, Option.some.injEq] at hg
  refine ⟨ps[i], List.getElem_mem hi', ?_⟩
  rw [hg]
  split
  · exact ⟨rfl, rfl, .inr rfl⟩
  · exact ⟨rfl, rfl, .inl rfl⟩
theorem lns_mem {s : St} {q k : Nat} {L : Int} {i : Nat} (hi : i < (lns s q k L).tasks.length) (hi' : i < s.tasks.length) : (lns s q k L).tasks[i] = if q = i then { s.tasks[i] with parts := lnP k L s.tasks[i].parts } else s.tasks[i] := by
  have := lns_get s q k L i
  rw [List.getElem?_eq_getElem hi, List.getElem?_eq_getElem hi'] at this
  exact Option.some.inj this
theorem lns_good {s : St} {q k : Nat} {L : Int} (g : Good s) (h1 : 1 ≤ L) (h2 : L ≤ 60) : Good (lns s q k L) := by
  refine ⟨g.proto, g.cores, g.core, g.homes, g.home, by rw [lns_len]; exact g.tasks, fun t ht => ?_, fun i j hi hj h => ?_⟩
  · obtain ⟨i, hi, rfl⟩ := List.getElem_of_mem ht
    have hi' := hi; rw [lns_len] at hi'
    have q1 := g.task _ (List.getElem_mem hi')
    rw [lns_mem hi hi']
    split
    · refine ⟨q1.name, q1.period, q1.deadline, q1.prio, q1.cluster, by show 1 ≤ (lnP k L _).length ∧ (lnP k L _).length ≤ 6; rw [lnP_len]; exact q1.parts, fun p hp => ?_⟩
      obtain ⟨p0, m0, e1, e2, e3⟩ := lnP_mem hp
      have gp := q1.part p0 m0
      have gl := gp.len
      exact ⟨by rw [e1]; exact gp.kind, by omega, by rw [e1, e2]; exact gp.res, by rw [e1, e2]; exact gp.res0⟩
    · exact ⟨q1.name, q1.period, q1.deadline, q1.prio, q1.cluster, q1.parts, fun p hp => by have := q1.part p hp; exact ⟨this.kind, this.len, this.res, this.res0⟩⟩
  · have hi' := hi; have hj' := hj
    rw [lns_len] at hi' hj'
    have u := g.uniq i j hi' hj' h
    rw [lns_mem hi hi', lns_mem hj hj']
    split <;> split <;> exact u
theorem lns_sm {s : St} {q k : Nat} {L : Int} (hs : Sm s) : Sm (lns s q k L) := by
  refine ⟨hs.cores, hs.homes, by rw [lns_len]; exact hs.tasks, fun t ht => ?_, fun t ht => ?_⟩
  all_goals
    obtain ⟨i, hi, rfl⟩ := List.getElem_of_mem ht
    have hi' := hi; rw [lns_len] at hi'
    rw [lns_mem hi hi']
  · split
    · show (lnP k L _).length ≤ 10; rw [lnP_len]; exact hs.parts s.tasks[i] (List.getElem_mem hi')
    · exact hs.parts s.tasks[i] (List.getElem_mem hi')
  · split
    · exact hs.names s.tasks[i] (List.getElem_mem hi')
    · exact hs.names s.tasks[i] (List.getElem_mem hi')
theorem lns_le {s : St} {q k : Nat} {L : Int} (g : Good s) (hq : q < s.tasks.length) (hk : k < s.tasks[q].parts.length) (h1 : s.tasks[q].parts[k].len ≤ L) (h2 : L ≤ 60) : LeS s (lns s q k L) := by
  have hk1 := ((g.task _ (List.getElem_mem hq)).part _ (List.getElem_mem hk)).len.1
  refine ⟨g, lns_good g (by omega) h2, rfl, rfl, rfl, (lns_len ..).symm, fun i hi => ⟨s.tasks[i], if q = i then { s.tasks[i] with parts := lnP k L s.tasks[i].parts } else s.tasks[i], List.getElem?_eq_getElem hi, by rw [lns_get, List.getElem?_eq_getElem hi]; rfl, ?_⟩⟩
  have hl : ∀ p ∈ s.tasks[i].parts, 1 ≤ p.len := fun p hp => ((g.task _ (List.getElem_mem hi)).part p hp).len.1
  split
  · rename_i e
    subst e
    exact ⟨rfl, rfl, rfl, lnP_le _ _ _ hl fun p hp => by rw [List.getElem?_eq_getElem hk] at hp; cases hp; exact h1⟩
  · exact ⟨rfl, rfl, rfl, LePs.refl hl⟩
/-- The cells of the longer set. -/
theorem lnP_cells (ps : List Pt) (k : Nat) (L : Int) (hk : k < ps.length) : (ps.flatMap Pt.c).take (k * 3 + 1) ++ vi L :: (ps.flatMap Pt.c).drop (k * 3 + 1 + 1) = (lnP k L ps).flatMap Pt.c := by
  have e0 : ps = ps.take k ++ ps[k] :: ps.drop (k + 1) := by rw [← List.drop_eq_getElem_cons hk, List.take_append_drop]
  have e1 : lnP k L ps = ps.take k ++ { ps[k] with len := L } :: ps.drop (k + 1) := modify_midW _ _ _ hk
  have hU : ((ps.take k).flatMap Pt.c).length = k * 3 := by rw [len_flat Pt.c 3 (fun _ => rfl), List.length_take]; congr 1; omega
  have e2 : ps.flatMap Pt.c = (ps.take k).flatMap Pt.c ++ (Pt.c ps[k] ++ (ps.drop (k + 1)).flatMap Pt.c) := by
    conv => lhs; rw [e0]
    rw [List.flatMap_append, List.flatMap_cons]
  rw [e1, e2, List.flatMap_append, List.flatMap_cons]
  generalize ps[k] = p at *
  generalize (ps.take k).flatMap Pt.c = U at *
  generalize (ps.drop (k + 1)).flatMap Pt.c = R at *
  have := put_mid (U ++ [vi p.kind]) (vi p.res :: R) (vi p.len) (vi L) (k * 3 + 1) (by simp [hU])
  simpa [Pt.c] using this
theorem lns_cells (s : St) (q k : Nat) (L : Int) (hq : q < s.tasks.length) : (s.tasks.flatMap Tk.c).take (q * 6 + 5) ++ slP (lnP k L s.tasks[q].parts) :: (s.tasks.flatMap Tk.c).drop (q * 6 + 5 + 1) = (lns s q k L).tasks.flatMap Tk.c := by
  have e0 : s.tasks = s.tasks.take q ++ s.tasks[q] :: s.tasks.drop (q + 1) := by rw [← List.drop_eq_getElem_cons hq, List.take_append_drop]
  have e1 : (lns s q k L).tasks = s.tasks.take q ++ { s.tasks[q] with parts := lnP k L s.tasks[q].parts } :: s.tasks.drop (q + 1) := modify_midW _ _ _ hq
  have hU : ((s.tasks.take q).flatMap Tk.c).length = q * 6 := by rw [len_tk, List.length_take]; congr 1; omega
  have e2 : s.tasks.flatMap Tk.c = (s.tasks.take q).flatMap Tk.c ++ (Tk.c s.tasks[q] ++ (s.tasks.drop (q + 1)).flatMap Tk.c) := by
    conv => lhs; rw [e0]
    rw [List.flatMap_append, List.flatMap_cons]
  rw [e1, e2, List.flatMap_append, List.flatMap_cons]
  generalize s.tasks[q] = t at *
  generalize (s.tasks.take q).flatMap Tk.c = U at *
  generalize (s.tasks.drop (q + 1)).flatMap Tk.c = R at *
  have := put_mid (U ++ [vs t.name, vi t.period, vi t.deadline, vi t.prio, vi t.cluster]) R (slP t.parts) (slP (lnP k L t.parts)) (q * 6 + 5) (by simp [hU])
  simpa [Tk.c] using this
end Go.Proofs.YtgndbkeiickihaaEv
