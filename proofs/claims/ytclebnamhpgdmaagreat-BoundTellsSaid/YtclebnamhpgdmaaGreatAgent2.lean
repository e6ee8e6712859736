/- agent.Part: the least number that is told of itself. -/
import Derived.Test.YtclebnamhpgdmaaGreatLfp
set_option linter.unusedSimpArgs false
set_option linter.unusedVariables false
namespace Go.Proofs.YtclebnamhpgdmaaGreatEv
open Go
set_option maxHeartbeats 2000000
/-- A task's Lock. -/
def lockS (s : St) (n k : Int) : Option Pt := if thereS s n = true ∧ 0 ≤ k then (s.tasks[n.toNat]?.bind fun t => t.parts[k.toNat]?).filter (fun p => eqz p.kind 3) else none
theorem lockS_no (s : St) (n k : Int) (h : thereS s n = false) : lockS s n k = none := by unfold lockS; rw [if_neg (by simp [h])]
theorem lockS_neg (s : St) (n k : Int) (h : k < 0) : lockS s n k = none := by unfold lockS; rw [if_neg (by omega)]
theorem lockS_nat (s : St) (m k : Nat) (ht : thereS s m = true) (hm : m < s.tasks.length) : lockS s m k = (s.tasks[m].parts[k]?).filter (fun p => eqz p.kind 3) := by
  unfold lockS; rw [if_pos ⟨ht, by omega⟩]; simp [hm]
theorem lockS_some {s : St} {n k : Int} {p : Pt} (h : lockS s n k = some p) : Good s ∧ ∃ (m j : Nat) (hm : m < s.tasks.length) (hj : j < s.tasks[m].parts.length), n = m ∧ k = j ∧ p = s.tasks[m].parts[j] ∧ p.kind = 3 := by
  unfold lockS at h
  split at h
  · rename_i hc
    obtain ⟨g, h0, hn⟩ := (thereS_iff s n).1 hc.1
    obtain ⟨m, rfl⟩ := nat_of n h0
    obtain ⟨j, rfl⟩ := nat_of k hc.2
    have hm : m < s.tasks.length := by omega
    simp only [Int.toNat_natCast, List.getElem?_eq_getElem hm, Option.bind_some, Option.filter_eq_some_iff] at h
    obtain ⟨h1, h2⟩ := h
    obtain ⟨hj, rfl⟩ := List.getElem?_eq_some_iff.1 h1
    exact ⟨g, m, j, hm, hj, rfl, rfl, rfl, by simpa [eqz] using h2⟩
  · cases h
def RQ (bx : Bx) (r : Option Int) (a : Out × Env × Bx) : Prop := match r with
  | some v => ∃ e' junk, a = (.ret, e', bx ++ junk) ∧ e' 8 = vi v ∧ e' 9 = vb true
  | none => ∃ e', a = (.ex 0, e', bx)
theorem rounds {go : Env → Option (Out × Env × Bx)} {bx : Bx} {f : Int → Int} {lo : Int} (hm : ∀ u v, lo ≤ u → u ≤ v → f u ≤ f v) (hlo : ∀ v, lo ≤ f v) (St : Int → Env → Prop)
    (h1 : ∀ w e, St w e → lo ≤ w → 3000 < w → ∃ e', go e = some (.ex 0, e', bx))
    (h2 : ∀ w e, St w e → lo ≤ w → w ≤ 3000 → f w = w → ∃ e' junk, go e = some (.ret, e', bx ++ junk) ∧ e' 8 = vi w ∧ e' 9 = vb true)
    (h3 : ∀ w e, St w e → lo ≤ w → w ≤ 3000 → w < f w → ∃ e', go e = go e' ∧ St (f w) e') :
    ∀ e, St lo e → ∃ a, go e = some a ∧ RQ bx (lfp f lo 3000) a := by
  have key : ∀ (d : Nat) (w : Int) e, (3001 - w).toNat = d → St w e → lo ≤ w → w ≤ f w → (∀ v, lo ≤ v → v < w → f v ≠ v) → ∃ a, go e = some a ∧ RQ bx (lfp f lo 3000) a := by
    intro d
    induction d using Nat.strongRecOn with
    | ind d ih =>
      intro w e hd hs hw hf hv
      by_cases hle : w ≤ 3000
      · by_cases he : f w = w
        · obtain ⟨e', junk, k1, k2⟩ := h2 w e hs hw hle he
          refine ⟨_, k1, ?_⟩
          rw [lfp_some.2 ⟨hw, hle, he, hv⟩]
          exact ⟨e', junk, rfl, k2⟩
        · obtain ⟨e', k1, k2⟩ := h3 w e hs hw hle (by omega)
          obtain ⟨a, a1, a2⟩ := ih (3001 - f w).toNat (by omega) (f w) e' rfl k2 (hlo w) (hm _ _ hw hf) (fun v v1 v2 v3 => by
            by_cases hvw : v < w
            · exact hv v v1 hvw v3
            · have := hm w v hw (by omega); omega)
          exact ⟨a, k1.trans a1, a2⟩
      · obtain ⟨e', k1⟩ := h1 w e hs hw (by omega)
        refine ⟨_, k1, ?_⟩
        rw [lfp_none.2 fun v v1 v2 => hv v v1 (by omega)]
        exact ⟨e', rfl⟩
  intro e hs
  exact key _ lo e rfl hs (Int.le_refl _) (hlo lo) fun v v1 v2 => by omega
def leastS (s : St) (n : Int) (p : Pt) : Int := p.len + lowerS s n (homeOf s p)
def agentS (s : St) (bs : List Int) (n k : Int) : Option Int := if bs.length = s.tasks.length then (lockS s n k).bind fun p => lfp (fun w => leastS s n p + higherS s bs n (homeOf s p) w) (leastS s n p) 3000 else none
def ansO (r : Option Int) : A := .tup [vi (r.getD 0), vb r.isSome]
theorem pure_ansO {Φ : CallF} {k f args r} (h : Ans (ansO r) [] (Φ f args [])) : pureOf Φ k f args = some (.tup [vi (r.getD 0), vb r.isSome]) := pure_tupb h
theorem least_bounds {s : St} {n k : Int} {p : Pt} (h : lockS s n k = some p) : 1 ≤ leastS s n p ∧ leastS s n p ≤ 120 := by
  obtain ⟨g, m, j, hm, hj, _, _, rfl, _⟩ := lockS_some h
  have h1 := ((g.task _ (List.getElem_mem hm)).part _ (List.getElem_mem hj)).len
  have h2 := lower_bounds s n (homeOf s s.tasks[m].parts[j])
  unfold leastS; omega
/-- Where a Lock's home is. -/
theorem home_at {s : St} (g : Good s) {t : Tk} (ht : t ∈ s.tasks) {p : Pt} (hp : p ∈ t.parts) (hk : p.kind = 3) : 0 ≤ p.res ∧ p.res < s.homes.length ∧ (s.homes.map vi).drop p.res.toNat = vi (homeOf s p) :: (s.homes.drop (p.res.toNat + 1)).map vi := by
  have gp := ((g.task t ht).part p hp).res hk
  have hh : p.res.toNat < s.homes.length := by omega
  refine ⟨gp.1, gp.2, ?_⟩
  rw [drop_int _ _ hh]; unfold homeOf; simp [hh]
theorem agent_loop (s : St) (hs : Sm s) (bs : List Int) (hb : ∀ b ∈ bs, I64' b) (n : Int) (p : Pt) (home lst : Int) (hl : 1 ≤ lst ∧ lst ≤ 120) :
    ∀ e : Env, (e 1 = slI bs ∧ e 2 = vi n ∧ e 4 = .ptr 0 0 ∧ e 11 = vi home ∧ e 12 = vi lst ∧ e 13 = vi lst) → ∃ a, evL tab0 ext0 0 L77_0 (e, [St.c s, Pt.c p]) = some a ∧ RQ [St.c s, Pt.c p] (lfp (fun w => lst + higherS s bs n home w) lst 3000) a := by
  have hH := fun w => higher_bounds s bs n home w
  refine rounds (go := fun e => evL tab0 ext0 0 L77_0 (e, [St.c s, Pt.c p])) (fun u v _ h => by have := higher_mono_w s bs n home h; omega) (fun v => by have := hH v; omega) (fun w e => e 1 = slI bs ∧ e 2 = vi n ∧ e 4 = .ptr 0 0 ∧ e 11 = vi home ∧ e 12 = vi lst ∧ e 13 = vi w) ?_ ?_ ?_
  · rintro w e ⟨h1, h2, h3, h4, h5, h6⟩ hw hw2
    have c : ¬ w ≤ 3000 := by omega
    exact ⟨_, (go77_0 _ _).trans (by simp [B77_0, push_cast, -Int.not_lt, -Int.not_le, ↓evI_call, ↓evI_calli, ↓evI_callv, ↓evI_mxn, loopIn, loopIn0, keepL, emp, A.dang, A.dangC, h1, h2, h3, h4, h5, h6, c, slI, slT, St.c, Pt.c]; rfl)⟩
  · rintro w e ⟨h1, h2, h3, h4, h5, h6⟩ hw hw2 hf
    have k1 := pure_vi (k := false) (higher_is s hs bs hb n home w ⟨by omega, by omega⟩)
    have kw := wrap_i (lst + higherS s bs n home w) (by have := hH w; omega) (by have := hH w; omega)
    rw [hf] at kw
    simp only [St.c, slI, slT] at k1
    exact ⟨_, _, (go77_0 _ _).trans (by simp [B77_0, push_cast, -Int.not_lt, -Int.not_le, ↓evI_call, ↓evI_calli, ↓evI_callv, ↓evI_mxn, loopIn, loopIn0, keepL, emp, A.dang, A.dangC, h1, h2, h3, h4, h5, h6, hw2, slI, slT, St.c, Pt.c, k1, hf, kw, eqz_self]; exact ⟨rfl, rfl⟩), by simp [put_at]⟩
  · rintro w e ⟨h1, h2, h3, h4, h5, h6⟩ hw hw2 hf
    have k1 := pure_vi (k := false) (higher_is s hs bs hb n home w ⟨by omega, by omega⟩)
    have kw := wrap_i (lst + higherS s bs n home w) (by have := hH w; omega) (by have := hH w; omega)
    have c1 : eqz (lst + higherS s bs n home w) w = false := by simp [eqz]; omega
    have c2 : ¬ lst + higherS s bs n home w < w := by omega
    simp only [St.c, slI, slT] at k1
    exact ⟨_, (go77_0 _ _).trans (by simp [B77_0, push_cast, -Int.not_lt, -Int.not_le, ↓evI_call, ↓evI_calli, ↓evI_callv, ↓evI_mxn, loopIn, loopIn0, keepL, emp, A.dang, A.dangC, h1, h2, h3, h4, h5, h6, hw2, slI, slT, St.c, Pt.c, k1, kw, c1, c2]; rfl), by simp [put_at, slI]⟩
theorem agent_is (s : St) (hs : Sm s) (bs : List Int) (hb : ∀ b ∈ bs, I64' b) (n k : Int) : Ans (ansO (agentS s bs n k)) [] (callL tab0 ext0 77 [.agg (St.c s), slI bs, vi n, vi k] []) := by
  rw [callL_tab _ _ rfl tab77 rfl]
  have h1 := pure_vb (k := false) (there_89 s n hs.fits)
  unfold agentS
  rcases Decidable.em (¬ bs.length = s.tasks.length) with hl | hl
  · have hl' : eqz (bs.length : Int) s.tasks.length = false := by simp [eqz]; omega
    rw [if_neg hl]
    simp only [St.c, slI, slT] at h1
    rcases (Bool.eq_false_or_eq_true (thereS s n)) with ht | ht <;> rw [ht] at h1 <;> simp [C77, push_cast, -Int.not_lt, -Int.not_le, ↓evI_call, ↓evI_calli, ↓evI_callv, ↓evI_mxn, St.c, slI, slT, h1, hl'] <;> exact Ans.nil rfl
  replace hl := Decidable.not_not.1 hl
  have hl' : eqz (bs.length : Int) s.tasks.length = true := by simp [eqz, hl]
  rw [if_pos hl]
  rcases (Bool.eq_false_or_eq_true (thereS s n)).symm with ht | ht
  · rw [ht] at h1
    rw [lockS_no s n k ht]
    simp only [St.c, slI, slT] at h1
    simp [C77, push_cast, -Int.not_lt, -Int.not_le, ↓evI_call, ↓evI_calli, ↓evI_callv, ↓evI_mxn, St.c, slI, slT, h1]
    exact Ans.nil rfl
  rw [ht] at h1
  obtain ⟨g, h0, hn⟩ := (thereS_iff s n).1 ht
  obtain ⟨m, rfl⟩ := nat_of n h0
  have hm : m < s.tasks.length := by omega
  by_cases hk0 : k < 0
  · rw [lockS_neg s m k hk0]
    simp only [St.c, slI, slT] at h1
    simp [C77, push_cast, -Int.not_lt, -Int.not_le, ↓evI_call, ↓evI_calli, ↓evI_callv, ↓evI_mxn, St.c, slI, slT, h1, hl', hk0]
    exact Ans.nil rfl
  obtain ⟨j, rfl⟩ := nat_of k (by omega)
  rw [lockS_nat s m j ht hm]
  rcases Decidable.em (¬ j < s.tasks[m].parts.length) with hj | hj
  · have hj' : (s.tasks[m].parts.length : Int) ≤ j := by omega
    rw [List.getElem?_eq_none (by omega)]
    simp only [St.c, slI, slT] at h1
    simp [C77, push_cast, -Int.not_lt, -Int.not_le, ↓evI_call, ↓evI_calli, ↓evI_callv, ↓evI_mxn, St.c, slI, slT, slP, Tk.c, h1, hl', hm, hn, drop_tk _ m hm, hk0, hj']
    exact Ans.nil rfl
  replace hj := Decidable.not_not.1 hj
  have hj' : ¬ (s.tasks[m].parts.length : Int) ≤ j := by omega
  have hj2 : (j : Int) < s.tasks[m].parts.length := by omega
  have hlk := lockS_nat s m j ht hm
  rw [List.getElem?_eq_getElem hj] at hlk ⊢
  obtain ⟨p, hp⟩ : ∃ p, p = s.tasks[m].parts[j] := ⟨_, rfl⟩
  have hdrop := drop_pt s.tasks[m].parts j hj
  rw [← hp] at hlk hdrop ⊢
  rcases (Bool.eq_false_or_eq_true (eqz p.kind 3)).symm with hk | hk
  · simp only [Option.filter_some, hk] at hlk ⊢
    simp only [St.c, slI, slT] at h1
    simp [C77, push_cast, -Int.not_lt, -Int.not_le, ↓evI_call, ↓evI_calli, ↓evI_callv, ↓evI_mxn, St.c, slI, slT, slP, Tk.c, Pt.c, h1, hl', hm, hn, drop_tk _ m hm, hk0, hj', hj2, hj, hdrop, hk]
    exact Ans.nil rfl
  simp only [Option.filter_some, hk, if_true] at hlk ⊢
  have hlb := least_bounds hlk
  obtain ⟨r1, r2, r3⟩ := home_at g (List.getElem_mem hm) (p := p) (by rw [hp]; exact List.getElem_mem hj) (by simpa [eqz] using hk)
  have h2 := pure_vi (k := false) (lower_is s hs m (homeOf s p))
  have hlp := agent_loop s hs bs hb m p (homeOf s p) (leastS s m p) hlb
  have hw : IntKind.wrap .i64 (p.len + lowerS s m (homeOf s p)) = leastS s m p := wrap_i _ (by unfold leastS at hlb; omega) (by unfold leastS at hlb; omega)
  simp only [Option.bind_some]
  generalize lfp _ _ _ = r at hlp ⊢
  simp only [St.c, slI, slT, Pt.c] at h1 h2 hlp
  simp [C77, push_cast, -Int.not_lt, -Int.not_le, ↓evI_call, ↓evI_calli, ↓evI_callv, ↓evI_mxn, St.c, slI, slT, slP, Tk.c, Pt.c, h1, h2, hl', hm, hn, drop_tk _ m hm, hk0, hj', hj2, hj, hdrop, hk, r1, r2, r3, hw]
  refine behindP (P := fun r' => Ans _ [] r') (hlp _ (by simp [put_at])) ?_
  intro a h
  cases r with
  | some v =>
    obtain ⟨e', junk, rfl, k8, k9⟩ := h
    simp [push_cast, -Int.not_lt, -Int.not_le, ↓evI_call, ↓evI_calli, ↓evI_callv, ↓evI_mxn, k8, k9]
    exact Ans.nil rfl
  | none =>
    obtain ⟨e', rfl⟩ := h
    simp [push_cast, -Int.not_lt, -Int.not_le, ↓evI_call, ↓evI_calli, ↓evI_callv, ↓evI_mxn]
    exact Ans.nil rfl
end Go.Proofs.YtclebnamhpgdmaaGreatEv
