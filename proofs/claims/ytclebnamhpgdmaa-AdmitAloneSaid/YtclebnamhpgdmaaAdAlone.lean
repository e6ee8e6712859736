/- swingbridgelaw18.AdmitAlone: its own set is written to, then told of; it is run in two orders. -/
import Derived.Test.YtclebnamhpgdmaaExpl
import Derived.Test.YtclebnamhpgdmaaAdmit
import Derived.Test.YtclebnamhpgdmaaIn1
import Derived.Test.YtclebnamhpgdmaaExt2
import Derived.Test.YtclebnamhpgdmaaTwoZ
set_option linter.unusedSimpArgs false
set_option linter.unusedVariables false
namespace Go.Proofs.YtclebnamhpgdmaaEv
open Go
set_option maxHeartbeats 4000000
/-! ### the plain law -/
def sAl (p d a b c : Int) : St := ⟨p, [1], [0], [⟨⟨#[97]⟩, 300, d, 1, 0, [⟨1, a, 0⟩, ⟨2, b, 0⟩, ⟨3, c, 0⟩]⟩]⟩
theorem sAl_good {p d a b c : Int} (hd : 1 ≤ d ∧ d ≤ 256) (hp : 1 ≤ p ∧ p ≤ 3) (ha : 1 ≤ a ∧ a ≤ 60) (hb : 1 ≤ b ∧ b ≤ 60) (hc : 1 ≤ c ∧ c ≤ 60) : Good (sAl p d a b c) := by
  refine ⟨hp, by simp [sAl], by simp [sAl], by simp [sAl], by simp [sAl], by simp [sAl], fun t ht => ?_, fun i j hi hj h => ?_⟩
  · simp only [sAl, List.mem_singleton] at ht
    subst ht
    refine ⟨rfl, by simp, by show 1 ≤ d ∧ d ≤ 300; omega, by simp, by simp [sAl], by simp, fun q hq => ?_⟩
    simp only [List.mem_cons, List.not_mem_nil, or_false] at hq
    rcases hq with rfl | rfl | rfl
    · exact ⟨by simp, ha, by simp, by simp⟩
    · exact ⟨by simp, hb, by simp, by simp⟩
    · exact ⟨by simp, hc, by simp [sAl], by simp⟩
  · simp only [sAl, List.length_singleton] at hi hj
    omega
theorem sAl_sm (p d a b c : Int) : Sm (sAl p d a b c) := ⟨by simp [sAl], by simp [sAl], by simp [sAl], by simp [sAl], by simp [sAl]; decide⟩
theorem sAl_part {p d a b c : Int} (hd : 1 ≤ d ∧ d ≤ 256) (hp : 1 ≤ p ∧ p ≤ 3) (ha : 1 ≤ a ∧ a ≤ 60) (hb : 1 ≤ b ∧ b ≤ 60) (hc : 1 ≤ c ∧ c ≤ 60) (x : Int) : partS (sAl p d a b c) [x] 0 2 = some c := by
  have g := sAl_good hd hp ha hb hc
  have ht : thereS (sAl p d a b c) 0 = true := (thereS_iff _ _).2 ⟨g, by simp, by simp [sAl]⟩
  have ho : okS (sAl p d a b c) = true := (okS_iff _).2 g
  have hk : lockS (sAl p d a b c) 0 2 = some ⟨3, c, 0⟩ := by unfold lockS; rw [if_pos ⟨ht, by omega⟩]; simp [sAl, eqz]
  unfold partS
  rw [if_pos (by simp [sAl])]
  rcases (by omega : p = 1 ∨ p = 2 ∨ p = 3) with rfl | rfl | rfl
  · rw [if_pos (by simp [sAl, eqz])]
    unfold fairS
    rw [hk]
    simp [othSum, sAl, sumN, othF, eqz]
  · rw [if_neg (by simp [sAl, eqz]), if_pos (by simp [sAl, eqz])]
    unfold agentS
    rw [if_pos (by simp [sAl]), hk]
    have hlo : lowerS (sAl 2 d a b c) 0 (homeOf (sAl 2 d a b c) ⟨3, c, 0⟩) = 0 := by
      unfold lowerS; rw [if_pos ht]; simp [sAl, maxN, lowF]
    have hhi : ∀ w, higherS (sAl 2 d a b c) [x] 0 (homeOf (sAl 2 d a b c) ⟨3, c, 0⟩) w = 0 := fun w => by
      unfold higherS; rw [if_pos ⟨ht, by simp [sAl]⟩]; simp [sAl, sumN, hiF]; omega
    have hle : leastS (sAl 2 d a b c) 0 ⟨3, c, 0⟩ = c := by unfold leastS; rw [hlo]; simp
    simp only [Option.bind_some, hle, hhi]
    exact lfp_lo (by omega) (by omega)
  · rw [if_neg (by simp [sAl, eqz]), if_neg (by simp [sAl, eqz])]
    have hi : insS (sAl 3 d a b c) 0 = 0 := by unfold insS; simp [sAl, othR, eqz, sumTop, topS, sortD, sumL]
    have hu : outS (sAl 3 d a b c) 0 = 0 := by
      unfold outS
      rw [if_pos ht]
      split
      · rfl
      · have hr : roundsS (sAl 3 d a b c) (clusterAt (sAl 3 d a b c) (Int.toNat 0)) = 0 := by
          unfold roundsS askersS asks
          rw [ho]
          simp [sAl, clusterAt, coreAt, sumL, eqz, ceilS]
          split <;> (simp <;> omega)
        rw [hr]; omega
    unfold tokS tokIn
    rw [hk]
    simp [hi, hu]
theorem sAl_waits {p d a b c : Int} (hd : 1 ≤ d ∧ d ≤ 256) (hp : 1 ≤ p ∧ p ≤ 3) (ha : 1 ≤ a ∧ a ≤ 60) (hb : 1 ≤ b ∧ b ≤ 60) (hc : 1 ≤ c ∧ c ≤ 60) (x : Int) : waitsS (sAl p d a b c) [x] 0 = some [0, 0, c] := by
  have g := sAl_good hd hp ha hb hc
  have ht : thereS (sAl p d a b c) 0 = true := (thereS_iff _ _).2 ⟨g, by simp, by simp [sAl]⟩
  have h2 := sAl_part hd hp ha hb hc x
  have f0 : waitF (sAl p d a b c) [x] 0 0 = some 0 := by unfold waitF kindAt; simp [sAl, eqz]
  have f1 : waitF (sAl p d a b c) [x] 0 1 = some 0 := by unfold waitF kindAt; simp [sAl, eqz]
  have f2 : waitF (sAl p d a b c) [x] 0 2 = some c := by
    unfold waitF kindAt
    rw [if_pos (by simp [sAl, eqz])]
    exact h2
  have hl : (ptsAt (sAl p d a b c) 0).length = 3 := by simp [ptsAt, sAl]
  refine waits_some.2 ⟨ht, fun i hi => ?_, ?_⟩
  · have hi : i < 3 := by rw [Int.toNat_zero, hl] at hi; exact hi
    unfold waitBad
    rcases i with _ | _ | _ | i
    · show (!(waitF _ _ 0 0).isSome) = false; rw [f0]; rfl
    · show (!(waitF _ _ 0 1).isSome) = false; rw [f1]; rfl
    · show (!(waitF _ _ 0 2).isSome) = false; rw [f2]; rfl
    · omega
  · rw [Int.toNat_zero, hl]
    unfold waitL waitV
    simp [List.range_succ, f0, f1, f2]
theorem sAl_next {p d a b c : Int} (hd : 1 ≤ d ∧ d ≤ 256) (hp : 1 ≤ p ∧ p ≤ 3) (ha : 1 ≤ a ∧ a ≤ 60) (hb : 1 ≤ b ∧ b ≤ 60) (hc : 1 ≤ c ∧ c ≤ 60) (x : Int) : nextS (sAl p d a b c) [x] 0 = some (a + b + c) := by
  have h := next_of (n := 0) (by simp [sAl]) (sAl_waits hd hp ha hb hc x)
  rw [Int.natCast_zero] at h
  rw [h]
  have ho : ∀ w, othersS (sAl p d a b c) [x] 0 w = 0 := fun w => by
    unfold othersS
    split
    · simp [sAl, sumN, othW, eqz]
    · rfl
  rw [ho]
  simp [ptsAt, sAl, allK, sumL, kLen]
/-- The verdict. -/
theorem sAl_an {p d a b c : Int} (hd : 1 ≤ d ∧ d ≤ 256) (hp : 1 ≤ p ∧ p ≤ 3) (ha : 1 ≤ a ∧ a ≤ 60) (hb : 1 ≤ b ∧ b ≤ 60) (hc : 1 ≤ c ∧ c ≤ 60) :
    anS (sAl p d a b c) = if d < a + b + c then (⟨false, [], []⟩, 19) else (⟨true, [a + b + c], [[0, 0, c]]⟩, 0) := by
  have g := sAl_good hd hp ha hb hc
  have ho : okS (sAl p d a b c) = true := (okS_iff _).2 g
  have hn := fun x => sAl_next hd hp ha hb hc x
  have hw := fun x => sAl_waits hd hp ha hb hc x
  have hdl : dlAt (sAl p d a b c) 0 = d := by simp [dlAt, sAl]
  have hr : ∀ x, roundS (sAl p d a b c) [x] = if d < a + b + c then none else some [a + b + c] := fun x => by
    have hbad : rBad (sAl p d a b c) [x] 0 = decide (d < a + b + c) := by
      unfold rBad
      rw [Int.natCast_zero, hn x, hdl]
    have hL : rL (sAl p d a b c) [x] 1 = [a + b + c] := by
      unfold rL rNext
      simp [List.range_succ, hn x]
    have hf : fstP (rBad (sAl p d a b c) [x]) 0 1 = if d < a + b + c then some 0 else none := by
      simp [fstP, hbad]
    unfold roundS
    show (if (fstP (rBad (sAl p d a b c) [x]) 0 1).isNone = true then some (rL (sAl p d a b c) [x] 1) else none) = _
    rw [hf, hL]
    by_cases h : d < a + b + c
    · simp [h]
    · simp [h]
  have hst : stL (sAl p d a b c) 1 = [a + b + c] := by
    unfold stL stF
    simp [List.range_succ, ptsAt, sAl, allK, sumL, kLen]
  have hle : leastB (sAl p d a b c) = if d < a + b + c then ([], 19) else ([a + b + c], 0) := by
    unfold leastB
    show itS _ 200 (stL _ 1) = _
    rw [hst]
    unfold itS
    rw [hr]
    by_cases h : d < a + b + c
    · simp [h]
    · simp [h]
  unfold anS
  rw [if_pos ho, hle]
  by_cases h : d < a + b + c
  · simp [h, eqz]
  · rw [if_neg h, if_neg h, if_pos (by simp [eqz])]
    have hwl : wl (sAl p d a b c) [a + b + c] 1 = [[0, 0, c]] := by
      unfold wl
      simp [List.range_succ, hw]
    show (⟨true, [a + b + c], wl (sAl p d a b c) [a + b + c] 1⟩, (0 : Int)) = ((⟨true, [a + b + c], [[0, 0, c]]⟩, 0) : Vd × Int)
    rw [hwl]
/-! ### the walk -/
def tabZ : Nat → Option CFun := fun f => match f with
  | 28 => some C28v
  | _ => none
noncomputable def extZ : CallF := fun f args bx => match f with
  | 28 => none
  | _ => callL tab0 ext2 f args bx
theorem tabZ_ok : TabOk Try.prog tabZ := by
  intro f F h
  unfold tabZ at h
  split at h
  · cases h; exact row28v
  · cases h
theorem extZ_sound : SoundF Try.prog extZ := by
  intro f xs bx r bx' h
  unfold extZ at h
  split at h
  · cases h
  · exact callL_sound tab_ok ext2_sound _ _ _ _ _ h
theorem upZ {f args bx r} (hf : f ≠ 28) (h : callL tab0 ext2 f args bx = some r) : callL tabZ extZ f args bx = some r := by
  have e : extZ f args bx = some r := by
    unfold extZ
    split
    · exact absurd rfl hf
    · exact h
  unfold callL callOf
  rw [e]
theorem pureZ {k f args v} (hf : f ≠ 28) (h : pureOf (callL tab0 ext2) k f args = some v) : pureOf (callL tabZ extZ) k f args = some v := by
  unfold pureOf at h ⊢
  cases hc : callL tab0 ext2 f args [] with
  | none => simp [hc] at h
  | some q =>
    rw [hc] at h
    rw [upZ hf hc]
    exact h
noncomputable def ext4 : CallF := fun f args bx => match f with
  | 10 => two (evL tabZ extZ) C10a C10b args bx
  | _ => ext2 f args bx
theorem ext4_sound : SoundF Try.prog ext4 := by
  intro f xs bx r bx' h
  unfold ext4 at h
  split at h
  · exact two_sound tabZ_ok extZ_sound row2_10 h
  · exact ext2_sound _ _ _ _ _ h
def bxZ0 (p : Int) : List A := [vi p, .sl [vi 1] 1 1, .sl [vi 0] 1 1, .bs 1 1 6]
theorem one_z (p : Int) (L : List A) (n : Nat) : callL tabZ extZ 28 [vi p, .sl L n 0] [] = some (.agg (bxZ0 p), [bxZ0 p, [vs ⟨#[97]⟩, vi 100, vi 100, vi 1, vi 0, .sl L n 0]]) := by
  rw [callL_tab _ _ rfl (rfl : tabZ 28 = some C28v) rfl]
  simp [C28v, push_cast, -Int.not_lt, -Int.not_le, ↓evI_call, ↓evI_calli, ↓evI_callz, ↓evI_callv, ↓evI_mxn, asList, bxZ0]
theorem run_za_late {r l k dl pr a b c p : Int} (h1 : pureOf (callL tabZ extZ) false 21 [] = some (vb true))
    (a1 : r.tmod 60 = a) (a4 : IntKind.wrap .i64 a = a) (a5 : IntKind.wrap .i64 (a + 1) = a + 1) (b1 : l.tmod 60 = b) (b4 : IntKind.wrap .i64 b = b) (b5 : IntKind.wrap .i64 (b + 1) = b + 1)
    (c1 : k.tmod 60 = c) (c4 : IntKind.wrap .i64 c = c) (c5 : IntKind.wrap .i64 (c + 1) = c + 1) (p1 : pr.tmod 3 = p) (p4 : IntKind.wrap .i64 p = p) (p5 : IntKind.wrap .i64 (p + 1) = p + 1)
    (d4 : IntKind.wrap .i64 dl = dl) (d5 : IntKind.wrap .i64 (dl + 1) = dl + 1) (s1 : IntKind.wrap .i64 (a + 1 + (b + 1)) = a + 1 + (b + 1)) (s2 : IntKind.wrap .i64 (a + 1 + (b + 1) + (c + 1)) = a + 1 + (b + 1) + (c + 1))
    (hc : ¬ a + 1 + (b + 1) + (c + 1) ≤ dl + 1)
    (h3 : pureOf (callL tabZ extZ) false 23 [.agg [vi (p + 1), .sl [vi 1] 1 0, .sl [vi 0] 1 0, .sl [vs ⟨#[97]⟩, vi 300, vi (dl + 1), vi 1, vi 0, .sl [vi 1, vi (a + 1), vi 0, vi 2, vi (b + 1), vi 0, vi 3, vi (c + 1), vi 0] 3 0] 1 0]] = some (.tup [.agg [vb false, .sl [] 0 0, .sl [] 0 0], vi 19])) :
    Ans (vb true) [] (runF (evL tabZ extZ) C10a [vu8 r, vu8 l, vu8 k, vu8 dl, vu8 pr]) := by
  have h2 := one_z (p + 1) [vi 1, vi (a + 1), vi 0, vi 2, vi (b + 1), vi 0, vi 3, vi (c + 1), vi 0] 3
  simp only [bxZ0] at h2
  change Ans (vb true) [] ((evL tabZ extZ 0 C10a.body (initFrom 0 [vu8 r, vu8 l, vu8 k, vu8 dl, vu8 pr], [])).bind (resK C10a))
  simp [C10a, push_cast, -Int.not_lt, -Int.not_le, ↓evI_call, ↓evI_calli, ↓evI_callz, ↓evI_callv, ↓evI_mxn, h1, a1, a4, a5, b1, b4, b5, c1, c4, c5, p1, p4, p5, d4, d5, s1, s2, hc, h2, h3, aft, strip, eqz_self]
  exact Ans.nil rfl
theorem run_za_fits {r l k dl pr a b c p : Int} (h1 : pureOf (callL tabZ extZ) false 21 [] = some (vb true))
    (a1 : r.tmod 60 = a) (a4 : IntKind.wrap .i64 a = a) (a5 : IntKind.wrap .i64 (a + 1) = a + 1) (b1 : l.tmod 60 = b) (b4 : IntKind.wrap .i64 b = b) (b5 : IntKind.wrap .i64 (b + 1) = b + 1)
    (c1 : k.tmod 60 = c) (c4 : IntKind.wrap .i64 c = c) (c5 : IntKind.wrap .i64 (c + 1) = c + 1) (p1 : pr.tmod 3 = p) (p4 : IntKind.wrap .i64 p = p) (p5 : IntKind.wrap .i64 (p + 1) = p + 1)
    (d4 : IntKind.wrap .i64 dl = dl) (d5 : IntKind.wrap .i64 (dl + 1) = dl + 1) (s1 : IntKind.wrap .i64 (a + 1 + (b + 1)) = a + 1 + (b + 1)) (s2 : IntKind.wrap .i64 (a + 1 + (b + 1) + (c + 1)) = a + 1 + (b + 1) + (c + 1))
    (hc : a + 1 + (b + 1) + (c + 1) ≤ dl + 1)
    (h3 : pureOf (callL tabZ extZ) false 23 [.agg [vi (p + 1), .sl [vi 1] 1 0, .sl [vi 0] 1 0, .sl [vs ⟨#[97]⟩, vi 300, vi (dl + 1), vi 1, vi 0, .sl [vi 1, vi (a + 1), vi 0, vi 2, vi (b + 1), vi 0, vi 3, vi (c + 1), vi 0] 3 0] 1 0]] = some (.tup [.agg [vb true, .sl [vi (a + 1 + (b + 1) + (c + 1))] 1 0, .sl [.sl [vi 0, vi 0, vi (c + 1)] 3 0] 1 0], vi 0])) :
    Ans (vb true) [] (runF (evL tabZ extZ) C10a [vu8 r, vu8 l, vu8 k, vu8 dl, vu8 pr]) := by
  have h2 := one_z (p + 1) [vi 1, vi (a + 1), vi 0, vi 2, vi (b + 1), vi 0, vi 3, vi (c + 1), vi 0] 3
  simp only [bxZ0] at h2
  change Ans (vb true) [] ((evL tabZ extZ 0 C10a.body (initFrom 0 [vu8 r, vu8 l, vu8 k, vu8 dl, vu8 pr], [])).bind (resK C10a))
  simp [C10a, push_cast, -Int.not_lt, -Int.not_le, ↓evI_call, ↓evI_calli, ↓evI_callz, ↓evI_callv, ↓evI_mxn, h1, a1, a4, a5, b1, b4, b5, c1, c4, c5, p1, p4, p5, d4, d5, s1, s2, hc, h2, h3, aft, strip, eqz_self]
  exact Ans.nil rfl
theorem run_zb_late {r l k dl pr a b c p : Int} (h1 : pureOf (callL tabZ extZ) false 21 [] = some (vb true))
    (a1 : r.tmod 60 = a) (a4 : IntKind.wrap .i64 a = a) (a5 : IntKind.wrap .i64 (a + 1) = a + 1) (b1 : l.tmod 60 = b) (b4 : IntKind.wrap .i64 b = b) (b5 : IntKind.wrap .i64 (b + 1) = b + 1)
    (c1 : k.tmod 60 = c) (c4 : IntKind.wrap .i64 c = c) (c5 : IntKind.wrap .i64 (c + 1) = c + 1) (p1 : pr.tmod 3 = p) (p4 : IntKind.wrap .i64 p = p) (p5 : IntKind.wrap .i64 (p + 1) = p + 1)
    (d4 : IntKind.wrap .i64 dl = dl) (d5 : IntKind.wrap .i64 (dl + 1) = dl + 1) (s1 : IntKind.wrap .i64 (a + 1 + (b + 1)) = a + 1 + (b + 1)) (s2 : IntKind.wrap .i64 (a + 1 + (b + 1) + (c + 1)) = a + 1 + (b + 1) + (c + 1))
    (hc : ¬ a + 1 + (b + 1) + (c + 1) ≤ dl + 1)
    (h3 : pureOf (callL tabZ extZ) false 23 [.agg [vi (p + 1), .sl [vi 1] 1 0, .sl [vi 0] 1 0, .sl [vs ⟨#[97]⟩, vi 300, vi (dl + 1), vi 1, vi 0, .sl [vi 1, vi (a + 1), vi 0, vi 2, vi (b + 1), vi 0, vi 3, vi (c + 1), vi 0] 3 0] 1 0]] = some (.tup [.agg [vb false, .sl [] 0 0, .sl [] 0 0], vi 19])) :
    Ans (vb true) [] (runF (evL tabZ extZ) C10b [vu8 r, vu8 l, vu8 k, vu8 dl, vu8 pr]) := by
  have h2 := one_z (p + 1) [vi 1, vi (a + 1), vi 0, vi 2, vi (b + 1), vi 0, vi 3, vi (c + 1), vi 0] 3
  simp only [bxZ0] at h2
  change Ans (vb true) [] ((evL tabZ extZ 0 C10b.body (initFrom 0 [vu8 r, vu8 l, vu8 k, vu8 dl, vu8 pr], [])).bind (resK C10b))
  simp [C10b, push_cast, -Int.not_lt, -Int.not_le, ↓evI_call, ↓evI_calli, ↓evI_callz, ↓evI_callv, ↓evI_mxn, h1, a1, a4, a5, b1, b4, b5, c1, c4, c5, p1, p4, p5, d4, d5, s1, s2, hc, h2, h3, aft, strip, eqz_self]
  exact Ans.nil rfl
theorem run_zb_fits {r l k dl pr a b c p : Int} (h1 : pureOf (callL tabZ extZ) false 21 [] = some (vb true))
    (a1 : r.tmod 60 = a) (a4 : IntKind.wrap .i64 a = a) (a5 : IntKind.wrap .i64 (a + 1) = a + 1) (b1 : l.tmod 60 = b) (b4 : IntKind.wrap .i64 b = b) (b5 : IntKind.wrap .i64 (b + 1) = b + 1)
    (c1 : k.tmod 60 = c) (c4 : IntKind.wrap .i64 c = c) (c5 : IntKind.wrap .i64 (c + 1) = c + 1) (p1 : pr.tmod 3 = p) (p4 : IntKind.wrap .i64 p = p) (p5 : IntKind.wrap .i64 (p + 1) = p + 1)
    (d4 : IntKind.wrap .i64 dl = dl) (d5 : IntKind.wrap .i64 (dl + 1) = dl + 1) (s1 : IntKind.wrap .i64 (a + 1 + (b + 1)) = a + 1 + (b + 1)) (s2 : IntKind.wrap .i64 (a + 1 + (b + 1) + (c + 1)) = a + 1 + (b + 1) + (c + 1))
    (hc : a + 1 + (b + 1) + (c + 1) ≤ dl + 1)
    (h3 : pureOf (callL tabZ extZ) false 23 [.agg [vi (p + 1), .sl [vi 1] 1 0, .sl [vi 0] 1 0, .sl [vs ⟨#[97]⟩, vi 300, vi (dl + 1), vi 1, vi 0, .sl [vi 1, vi (a + 1), vi 0, vi 2, vi (b + 1), vi 0, vi 3, vi (c + 1), vi 0] 3 0] 1 0]] = some (.tup [.agg [vb true, .sl [vi (a + 1 + (b + 1) + (c + 1))] 1 0, .sl [.sl [vi 0, vi 0, vi (c + 1)] 3 0] 1 0], vi 0])) :
    Ans (vb true) [] (runF (evL tabZ extZ) C10b [vu8 r, vu8 l, vu8 k, vu8 dl, vu8 pr]) := by
  have h2 := one_z (p + 1) [vi 1, vi (a + 1), vi 0, vi 2, vi (b + 1), vi 0, vi 3, vi (c + 1), vi 0] 3
  simp only [bxZ0] at h2
  change Ans (vb true) [] ((evL tabZ extZ 0 C10b.body (initFrom 0 [vu8 r, vu8 l, vu8 k, vu8 dl, vu8 pr], [])).bind (resK C10b))
  simp [C10b, push_cast, -Int.not_lt, -Int.not_le, ↓evI_call, ↓evI_calli, ↓evI_callz, ↓evI_callv, ↓evI_mxn, h1, a1, a4, a5, b1, b4, b5, c1, c4, c5, p1, p4, p5, d4, d5, s1, s2, hc, h2, h3, aft, strip, eqz_self]
  exact Ans.nil rfl
theorem zmod {n : Int} (q : Int) (h1 : 0 ≤ n) (hk : 1 ≤ q) (hk2 : q ≤ 70000) : ∃ m, n.tmod q = m ∧ 0 ≤ m ∧ m < q ∧ IntKind.wrap .i64 m = m ∧ IntKind.wrap .i64 (m + 1) = m + 1 := by
  have e := Int.tmod_eq_emod_of_nonneg (b := q) h1
  have m1 := Int.emod_nonneg n (show q ≠ 0 by omega)
  have m2 := Int.emod_lt_of_pos n (show 0 < q by omega)
  exact ⟨_, e, m1, m2, wrap_in _ (by omega) (by omega), wrap_in _ (by omega) (by omega)⟩
theorem sAl_sm' (p d a b c : Int) : Sm (sAl p d a b c) := sAl_sm p d a b c
theorem run_z (r l k dl pr : Int) (k0 : (Lit.int .u8 r).wf = true) (k1 : (Lit.int .u8 l).wf = true) (k2 : (Lit.int .u8 k).wf = true) (k3 : (Lit.int .u8 dl).wf = true) (k4 : (Lit.int .u8 pr).wf = true) :
    Ans (vb true) [] (runF (evL tabZ extZ) C10a [vu8 r, vu8 l, vu8 k, vu8 dl, vu8 pr]) ∧ Ans (vb true) [] (runF (evL tabZ extZ) C10b [vu8 r, vu8 l, vu8 k, vu8 dl, vu8 pr]) := by
  have h1 := pureZ (by decide) (pure_vb (k := false) known_21)
  have hd := u8_of k3
  obtain ⟨a, a1, a2, a3, a4, a5⟩ := zmod 60 (u8_of k0).1 (by decide) (by decide)
  obtain ⟨b, b1, b2, b3, b4, b5⟩ := zmod 60 (u8_of k1).1 (by decide) (by decide)
  obtain ⟨c, c1, c2, c3, c4, c5⟩ := zmod 60 (u8_of k2).1 (by decide) (by decide)
  obtain ⟨p, p1, p2, p3, p4, p5⟩ := zmod 3 (u8_of k4).1 (by decide) (by decide)
  clear k0 k1 k2 k3 k4
  have h3 := pureZ (by decide) (pure2 (analyze_is (sAl (p + 1) (dl + 1) (a + 1) (b + 1) (c + 1)) (sAl_sm' ..)))
  have far : anS (sAl (p + 1) (dl + 1) (a + 1) (b + 1) (c + 1)) = (if dl + 1 < a + 1 + (b + 1) + (c + 1) then (⟨false, [], []⟩, 19) else (⟨true, [a + 1 + (b + 1) + (c + 1)], [[0, 0, c + 1]]⟩, 0)) ∧ IntKind.wrap .i64 dl = dl ∧ IntKind.wrap .i64 (dl + 1) = dl + 1 ∧ IntKind.wrap .i64 (a + 1 + (b + 1)) = a + 1 + (b + 1) ∧ IntKind.wrap .i64 (a + 1 + (b + 1) + (c + 1)) = a + 1 + (b + 1) + (c + 1) := by
    clear a1 b1 c1 p1 h1 h3
    exact ⟨sAl_an ⟨by omega, by omega⟩ ⟨by omega, by omega⟩ ⟨by omega, by omega⟩ ⟨by omega, by omega⟩ ⟨by omega, by omega⟩, wrap_in _ (by omega) (by omega), wrap_in _ (by omega) (by omega), wrap_in _ (by omega) (by omega), wrap_in _ (by omega) (by omega)⟩
  obtain ⟨han, d4, d5, s1, s2⟩ := far
  rw [han] at h3
  have sc : St.c (sAl (p + 1) (dl + 1) (a + 1) (b + 1) (c + 1)) = [vi (p + 1), .sl [vi 1] 1 0, .sl [vi 0] 1 0, .sl [vs ⟨#[97]⟩, vi 300, vi (dl + 1), vi 1, vi 0, .sl [vi 1, vi (a + 1), vi 0, vi 2, vi (b + 1), vi 0, vi 3, vi (c + 1), vi 0] 3 0] 1 0] := rfl
  rw [sc] at h3
  by_cases hc : dl + 1 < a + 1 + (b + 1) + (c + 1)
  · rw [if_pos hc] at h3
    have hc2 : ¬ a + 1 + (b + 1) + (c + 1) ≤ dl + 1 := by clear a1 b1 c1 p1 h1 h3; omega
    exact ⟨run_za_late h1 a1 a4 a5 b1 b4 b5 c1 c4 c5 p1 p4 p5 d4 d5 s1 s2 hc2 h3, run_zb_late h1 a1 a4 a5 b1 b4 b5 c1 c4 c5 p1 p4 p5 d4 d5 s1 s2 hc2 h3⟩
  · rw [if_neg hc] at h3
    have hc2 : a + 1 + (b + 1) + (c + 1) ≤ dl + 1 := by clear a1 b1 c1 p1 h1 h3; omega
    exact ⟨run_za_fits h1 a1 a4 a5 b1 b4 b5 c1 c4 c5 p1 p4 p5 d4 d5 s1 s2 hc2 h3, run_zb_fits h1 a1 a4 a5 b1 b4 b5 c1 c4 c5 p1 p4 p5 d4 d5 s1 s2 hc2 h3⟩
theorem admitAlone_is (r l k dl pr : Int) (k0 : (Lit.int .u8 r).wf = true) (k1 : (Lit.int .u8 l).wf = true) (k2 : (Lit.int .u8 k).wf = true) (k3 : (Lit.int .u8 dl).wf = true) (k4 : (Lit.int .u8 pr).wf = true) :
    Ans (vb true) [] (callL tab0 ext4 10 [vu8 r, vu8 l, vu8 k, vu8 dl, vu8 pr] []) := by
  have h := two_vb (run_z r l k dl pr k0 k1 k2 k3 k4).1 (run_z r l k dl pr k0 k1 k2 k3 k4).2
  refine ⟨[], ?_⟩
  unfold callL callOf
  have e : ext4 10 [vu8 r, vu8 l, vu8 k, vu8 dl, vu8 pr] [] = some (vb true, []) := h
  rw [e]; rfl
end Go.Proofs.YtclebnamhpgdmaaEv
