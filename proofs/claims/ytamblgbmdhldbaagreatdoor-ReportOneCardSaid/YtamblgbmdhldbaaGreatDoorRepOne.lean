/- swingbridgelaw19.ReportOne: its own set is written to, then told of; it is run in two orders. -/
import Derived.Test.YtamblgbmdhldbaaGreatDoorRepR
import Derived.Test.YtamblgbmdhldbaaGreatDoorVar
import Derived.Test.YtamblgbmdhldbaaGreatDoorTwoZ
set_option linter.unusedSimpArgs false
set_option linter.unusedVariables false
namespace Go.Proofs.YtamblgbmdhldbaaGreatDoorEv
open Go
set_option maxHeartbeats 4000000
/-! ### the plain law -/
theorem next_of {s : St} {bs : List Int} {n : Nat} {w : List Int} (hl : bs.length = s.tasks.length) (hw : waitsS s bs n = some w) : nextS s bs n = some (allK (ptsAt s n) 1 + allK (ptsAt s n) 2 + sumL id w + othersS s bs n (bAt bs n)) := by
  unfold nextS ownS wsumS
  rw [if_pos hl, hw]
  simp
def sOn (d a b c : Int) : St := ⟨3, [1], [0], [⟨⟨#[97]⟩, 300, d, 1, 0, [⟨1, a, 0⟩, ⟨3, b, 0⟩, ⟨3, c, 0⟩]⟩]⟩
structure On4 (d a b c : Int) : Prop where
  d : 1 ≤ d ∧ d ≤ 256
  a : 1 ≤ a ∧ a ≤ 60
  b : 1 ≤ b ∧ b ≤ 60
  c : 1 ≤ c ∧ c ≤ 60
theorem sOn_good {d a b c : Int} (h : On4 d a b c) : Good (sOn d a b c) := by
  have hd := h.d
  refine ⟨by simp [sOn], by simp [sOn], by simp [sOn], by simp [sOn], by simp [sOn], by simp [sOn], fun t ht => ?_, fun i j hi hj h => ?_⟩
  · simp only [sOn, List.mem_singleton] at ht
    subst ht
    refine ⟨rfl, by simp, by show 1 ≤ d ∧ d ≤ 300; omega, by simp, by simp [sOn], by simp, fun q hq => ?_⟩
    simp only [List.mem_cons, List.not_mem_nil, or_false] at hq
    rcases hq with rfl | rfl | rfl
    · exact ⟨by simp, h.a, by simp, by simp⟩
    · exact ⟨by simp, h.b, by simp [sOn], by simp⟩
    · exact ⟨by simp, h.c, by simp [sOn], by simp⟩
  · simp only [sOn, List.length_singleton] at hi hj
    omega
theorem sOn_sm (d a b c : Int) : Sm (sOn d a b c) := ⟨by simp [sOn], by simp [sOn], by simp [sOn], by simp [sOn], by simp [sOn]; decide⟩
theorem sOn_part {d a b c : Int} (h : On4 d a b c) (x : Int) : partS (sOn d a b c) [x] 0 1 = some b ∧ partS (sOn d a b c) [x] 0 2 = some c := by
  have g := sOn_good h
  have ht : thereS (sOn d a b c) 0 = true := (thereS_iff _ _).2 ⟨g, by simp, by simp [sOn]⟩
  have ho : okS (sOn d a b c) = true := (okS_iff _).2 g
  have hk1 : lockS (sOn d a b c) 0 1 = some ⟨3, b, 0⟩ := by unfold lockS; rw [if_pos ⟨ht, by omega⟩]; simp [sOn, eqz]
  have hk2 : lockS (sOn d a b c) 0 2 = some ⟨3, c, 0⟩ := by unfold lockS; rw [if_pos ⟨ht, by omega⟩]; simp [sOn, eqz]
  have hi : insS (sOn d a b c) 0 = 0 := by unfold insS; simp [sOn, othR, eqz, sumTop, topS, sortD, sumL]
  have hu : outS (sOn d a b c) 0 = 0 := by
    unfold outS
    rw [if_pos ht]
    split
    · rfl
    · have hr : roundsS (sOn d a b c) (clusterAt (sOn d a b c) (Int.toNat 0)) = 0 := by
        unfold roundsS askersS asks
        rw [ho]
        simp [sOn, clusterAt, coreAt, sumL, eqz, ceilS]
        split <;> (simp <;> omega)
      rw [hr]; omega
  constructor
  · unfold partS
    rw [if_pos (by simp [sOn]), if_neg (by simp [sOn, eqz]), if_neg (by simp [sOn, eqz])]
    unfold tokS tokIn
    rw [hk1]
    simp [hi, hu]
  · unfold partS
    rw [if_pos (by simp [sOn]), if_neg (by simp [sOn, eqz]), if_neg (by simp [sOn, eqz])]
    unfold tokS tokIn
    rw [hk2]
    simp [hi, hu]
theorem sOn_waits {d a b c : Int} (h : On4 d a b c) (x : Int) : waitsS (sOn d a b c) [x] 0 = some [0, b, c] := by
  have g := sOn_good h
  have ht : thereS (sOn d a b c) 0 = true := (thereS_iff _ _).2 ⟨g, by simp, by simp [sOn]⟩
  obtain ⟨h1, h2⟩ := sOn_part h x
  have f0 : waitF (sOn d a b c) [x] 0 0 = some 0 := by unfold waitF kindAt; simp [sOn, eqz]
  have f1 : waitF (sOn d a b c) [x] 0 1 = some b := by
    unfold waitF kindAt
    rw [if_pos (by simp [sOn, eqz])]
    exact h1
  have f2 : waitF (sOn d a b c) [x] 0 2 = some c := by
    unfold waitF kindAt
    rw [if_pos (by simp [sOn, eqz])]
    exact h2
  have hl : (ptsAt (sOn d a b c) 0).length = 3 := by simp [ptsAt, sOn]
  refine waits_some.2 ⟨ht, fun i hi => ?_, ?_⟩
  · have hi : i < 3 := by rw [Int.toNat_zero, hl] at hi; exact hi
    unfold waitBad
    rcases i with _ | _ | _ | i
    · show (!(waitF _ _ 0 0).isSome) = false; rw [f0]; rfl
    · show (!(waitF _ _ 0 1).isSome) = false; rw [f1]; rfl
    · show (!(waitF _ _ 0 2).isSome) = false; rw [f2]; rfl
    · omega
  · rw [Int.toNat_zero, hl]
    unfold waitL waitV
    simp [List.range_succ, f0, f1, f2]
theorem sOn_next {d a b c : Int} (h : On4 d a b c) (x : Int) : nextS (sOn d a b c) [x] 0 = some (a + b + c) := by
  have h := next_of (n := 0) (by simp [sOn]) (sOn_waits h x)
  rw [Int.natCast_zero] at h
  rw [h]
  have ho : ∀ w, othersS (sOn d a b c) [x] 0 w = 0 := fun w => by
    unfold othersS
    split
    · simp [sOn, sumN, othW, eqz]
    · rfl
  rw [ho]
  simp [ptsAt, sOn, allK, sumL, kLen]
  try omega
/-- The verdict. -/
theorem sOn_an {d a b c : Int} (h : On4 d a b c) :
    anS (sOn d a b c) = if d < a + b + c then (⟨false, [], []⟩, 19) else (⟨true, [a + b + c], [[0, b, c]]⟩, 0) := by
  have g := sOn_good h
  have ho : okS (sOn d a b c) = true := (okS_iff _).2 g
  have hn := fun x => sOn_next h x
  have hw := fun x => sOn_waits h x
  have hdl : dlAt (sOn d a b c) 0 = d := by simp [dlAt, sOn]
  have hr : ∀ x, roundS (sOn d a b c) [x] = if d < a + b + c then none else some [a + b + c] := fun x => by
    have hbad : rBad (sOn d a b c) [x] 0 = decide (d < a + b + c) := by
      unfold rBad
      rw [Int.natCast_zero, hn x, hdl]
    have hL : rL (sOn d a b c) [x] 1 = [a + b + c] := by
      unfold rL rNext
      simp [List.range_succ, hn x]
    have hf : fstP (rBad (sOn d a b c) [x]) 0 1 = if d < a + b + c then some 0 else none := by
      simp [fstP, hbad]
    unfold roundS
    show (if (fstP (rBad (sOn d a b c) [x]) 0 1).isNone = true then some (rL (sOn d a b c) [x] 1) else none) = _
    rw [hf, hL]
    by_cases h : d < a + b + c
    · simp [h]
    · simp [h]
  have hst : stL (sOn d a b c) 1 = [a + b + c] := by
    unfold stL stF
    simp [List.range_succ, ptsAt, sOn, allK, sumL, kLen]
    try omega
  have hle : leastB (sOn d a b c) = if d < a + b + c then ([], 19) else ([a + b + c], 0) := by
    unfold leastB
    show itS _ 200 (stL _ 1) = _
    rw [hst]
    unfold itS
    rw [hr]
    by_cases h : d < a + b + c
    · simp [h]
    · simp [h]
  unfold anS
  rw [if_pos ho, hle]
  by_cases h : d < a + b + c
  · simp [h, eqz]
  · rw [if_neg h, if_neg h, if_pos (by simp [eqz])]
    have hwl : wl (sOn d a b c) [a + b + c] 1 = [[0, b, c]] := by
      unfold wl
      simp [List.range_succ, hw]
    show (⟨true, [a + b + c], wl (sOn d a b c) [a + b + c] 1⟩, (0 : Int)) = ((⟨true, [a + b + c], [[0, b, c]]⟩, 0) : Vd × Int)
    rw [hwl]
def spA : ByteArray := ⟨#[97, 32]⟩
/-- What is told of a task alone, as the law lays it. -/
def wantB (d a b c : Int) : ByteArray := ((((((spA ++ txt (a + b + c)) ++ spB) ++ txt d) ++ spB) ++ txt b) ++ spB) ++ txt c
theorem spA_is : (⟨#[97]⟩ : ByteArray) ++ spB = spA := ba_app [97] [32]
theorem sOn_line {d a b c : Int} : lineS ⟨⟨#[97]⟩, 300, d, 1, 0, [⟨1, a, 0⟩, ⟨3, b, 0⟩, ⟨3, c, 0⟩]⟩ (a + b + c) [0, b, c] = wantB d a b c := by
  unfold lineS wantB
  show lnL _ _ _ 3 = _
  simp only [lnL, List.getElem?_cons_succ, List.getElem?_cons_zero]
  simp only [List.getD_cons_succ, List.getD_cons_zero, if_true]
  rw [if_neg (by decide), spA_is]
  simp only [ba_assoc]
theorem sOn_lines {d a b c : Int} (h : On4 d a b c) : linesS (sOn d a b c) = if d < a + b + c then ([lateB], 0) else ([addB, wantB d a b c], 0) := by
  have g := sOn_good h
  have ho : okS (sOn d a b c) = true := (okS_iff _).2 g
  have hor : ordS (sOn d a b c) = [0] := by
    have h1 := ord_perm (sOn d a b c)
    have h2 : List.range (sOn d a b c).tasks.length = [0] := rfl
    rw [h2] at h1
    exact List.perm_singleton.1 h1
  unfold linesS
  rw [if_pos ho, sOn_an h]
  by_cases hc : d < a + b + c
  · rw [if_pos hc, if_pos hc, if_neg (by simp [eqz])]; rfl
  · rw [if_neg hc, if_neg hc, if_pos (by simp [eqz]), hor]
    show ([addB, lineS ⟨⟨#[97]⟩, 300, d, 1, 0, [⟨1, a, 0⟩, ⟨3, b, 0⟩, ⟨3, c, 0⟩]⟩ (a + b + c) [0, b, c]], (0 : Int)) = _
    rw [sOn_line]
/-! ### the walk -/
def tabY : Nat → Option CFun := fun f => match f with
  | 13 => some C13v
  | _ => none
noncomputable def extY : CallF := fun f args bx => match f with
  | 13 => none
  | _ => callL tab0 ext5 f args bx
theorem tabY_ok : TabOk Tryz.prog tabY := by
  intro f F h
  unfold tabY at h
  split at h
  · cases h; exact row13v
  · cases h
theorem extY_sound : SoundF Tryz.prog extY := by
  intro f xs bx r bx' h
  unfold extY at h
  split at h
  · cases h
  · exact callL_sound tab_ok ext5_sound _ _ _ _ _ h
theorem upY {f args bx r} (hf : f ≠ 13) (h : callL tab0 ext5 f args bx = some r) : callL tabY extY f args bx = some r := by
  have e : extY f args bx = some r := by
    unfold extY
    split
    · exact absurd rfl hf
    · exact h
  unfold callL callOf
  rw [e]
theorem pureY {k f args v} (hf : f ≠ 13) (h : pureOf (callL tab0 ext5) k f args = some v) : pureOf (callL tabY extY) k f args = some v := by
  unfold pureOf at h ⊢
  cases hc : callL tab0 ext5 f args [] with
  | none => simp [hc] at h
  | some q =>
    rw [hc] at h
    rw [upY hf hc]
    exact h
noncomputable def ext6 : CallF := fun f args bx => match f with
  | 5 => two (evL tabY extY) C5za C5zb args bx
  | _ => ext5 f args bx
theorem ext6_sound : SoundF Tryz.prog ext6 := by
  intro f xs bx r bx' h
  unfold ext6 at h
  split at h
  · exact two_sound tabY_ok extY_sound row2_5z h
  · exact ext5_sound _ _ _ _ _ h
def bxZ0 (p : Int) : List A := [vi p, .sl [vi 1] 1 1, .sl [vi 0] 1 1, .bs 1 1 6]
theorem one_z (p : Int) (L : List A) (n : Nat) : callL tabY extY 13 [vi p, .sl L n 0] [] = some (.agg (bxZ0 p), [bxZ0 p, [vs ⟨#[97]⟩, vi 100, vi 100, vi 1, vi 0, .sl L n 0]]) := by
  rw [callL_tab _ _ rfl (rfl : tabY 13 = some C13v) rfl]
  simp [C13v, push_cast, -Int.not_lt, -Int.not_le, ↓evI_call, ↓evI_calli, ↓evI_callz, ↓evI_callv, ↓evI_mxn, asList, bxZ0]
def oneC (d a b c : Int) : A := .agg [vi 3, .sl [vi 1] 1 0, .sl [vi 0] 1 0, .sl [vs ⟨#[97]⟩, vi 300, vi d, vi 1, vi 0, .sl [vi 1, vi a, vi 0, vi 3, vi b, vi 0, vi 3, vi c, vi 0] 3 0] 1 0]
theorem run_ya_late {r l k dl a b c : Int} (h1 : pureOf (callL tabY extY) false 7 [] = some (vb true))
    (a1 : r.tmod 60 = a) (a4 : IntKind.wrap .i64 a = a) (a5 : IntKind.wrap .i64 (a + 1) = a + 1) (b1 : l.tmod 60 = b) (b4 : IntKind.wrap .i64 b = b) (b5 : IntKind.wrap .i64 (b + 1) = b + 1)
    (c1 : k.tmod 60 = c) (c4 : IntKind.wrap .i64 c = c) (c5 : IntKind.wrap .i64 (c + 1) = c + 1)
    (d4 : IntKind.wrap .i64 dl = dl) (d5 : IntKind.wrap .i64 (dl + 1) = dl + 1) (s1 : IntKind.wrap .i64 (a + 1 + (b + 1)) = a + 1 + (b + 1)) (s2 : IntKind.wrap .i64 (a + 1 + (b + 1) + (c + 1)) = a + 1 + (b + 1) + (c + 1))
    (hc : ¬ a + 1 + (b + 1) + (c + 1) ≤ dl + 1)
    (h3 : pureOf (callL tabY extY) false 9 [oneC (dl + 1) (a + 1) (b + 1) (c + 1)] = some (.tup [.sl [vs lateB] 1 0, vi 0]))
    (h4 : pureOf (callL tabY extY) false 11 [.sl [vs lateB] 1 0, .sl [vs lateB] 1 0] = some (vb true)) :
    Ans (vb true) [] (runF (evL tabY extY) C5za [vu8 r, vu8 l, vu8 k, vu8 dl]) := by
  have h2 := one_z 3 [vi 1, vi (a + 1), vi 0, vi 3, vi (b + 1), vi 0, vi 3, vi (c + 1), vi 0] 3
  simp only [bxZ0] at h2
  unfold oneC at h3
  unfold lateB at h3 h4
  change Ans (vb true) [] ((evL tabY extY 0 C5za.body (initFrom 0 [vu8 r, vu8 l, vu8 k, vu8 dl], [])).bind (resK C5za))
  simp [C5za, push_cast, -Int.not_lt, -Int.not_le, ↓evI_call, ↓evI_calli, ↓evI_callz, ↓evI_callv, ↓evI_mxn, h1, a1, a4, a5, b1, b4, b5, c1, c4, c5, d4, d5, s1, s2, hc, h2, h3, h4, aft, strip, eqz_self]
  exact Ans.nil rfl
theorem run_ya_fits {r l k dl a b c : Int} (h1 : pureOf (callL tabY extY) false 7 [] = some (vb true))
    (a1 : r.tmod 60 = a) (a4 : IntKind.wrap .i64 a = a) (a5 : IntKind.wrap .i64 (a + 1) = a + 1) (b1 : l.tmod 60 = b) (b4 : IntKind.wrap .i64 b = b) (b5 : IntKind.wrap .i64 (b + 1) = b + 1)
    (c1 : k.tmod 60 = c) (c4 : IntKind.wrap .i64 c = c) (c5 : IntKind.wrap .i64 (c + 1) = c + 1)
    (d4 : IntKind.wrap .i64 dl = dl) (d5 : IntKind.wrap .i64 (dl + 1) = dl + 1) (s1 : IntKind.wrap .i64 (a + 1 + (b + 1)) = a + 1 + (b + 1)) (s2 : IntKind.wrap .i64 (a + 1 + (b + 1) + (c + 1)) = a + 1 + (b + 1) + (c + 1))
    (hc : a + 1 + (b + 1) + (c + 1) ≤ dl + 1) {T1 T2 T3 T4 W : ByteArray}
    (t1 : pureOf (callL tabY extY) false 14 [vi (a + 1 + (b + 1) + (c + 1))] = some (vs T1)) (t2 : pureOf (callL tabY extY) false 14 [vi (dl + 1)] = some (vs T2)) (t3 : pureOf (callL tabY extY) false 14 [vi (b + 1)] = some (vs T3)) (t4 : pureOf (callL tabY extY) false 14 [vi (c + 1)] = some (vs T4))
    (z1 : T1.size ≤ 21) (z2 : T2.size ≤ 21) (z3 : T3.size ≤ 21) (z4 : T4.size ≤ 21) (hW : ((((((spA ++ T1) ++ spB) ++ T2) ++ spB) ++ T3) ++ spB) ++ T4 = W)
    (h3 : pureOf (callL tabY extY) false 9 [oneC (dl + 1) (a + 1) (b + 1) (c + 1)] = some (.tup [.sl [vs addB, vs W] 2 0, vi 0]))
    (h4 : pureOf (callL tabY extY) false 11 [.sl [vs addB, vs W] 2 0, .sl [vs addB, vs W] 2 0] = some (vb true)) :
    Ans (vb true) [] (runF (evL tabY extY) C5za [vu8 r, vu8 l, vu8 k, vu8 dl]) := by
  have h2 := one_z 3 [vi 1, vi (a + 1), vi 0, vi 3, vi (b + 1), vi 0, vi 3, vi (c + 1), vi 0] 3
  simp only [bxZ0] at h2
  unfold oneC at h3
  have sA : spA.size = 2 := rfl
  have sB : spB.size = 1 := rfl
  have y1 : spA.size + T1.size ≤ 70368744177664 := by omega
  have y2 : spA.size + T1.size + spB.size ≤ 70368744177664 := by omega
  have y3 : spA.size + T1.size + spB.size + T2.size ≤ 70368744177664 := by omega
  have y4 : spA.size + T1.size + spB.size + T2.size + spB.size ≤ 70368744177664 := by omega
  have y5 : spA.size + T1.size + spB.size + T2.size + spB.size + T3.size ≤ 70368744177664 := by omega
  have y6 : spA.size + T1.size + spB.size + T2.size + spB.size + T3.size + spB.size ≤ 70368744177664 := by omega
  have y7 : spA.size + T1.size + spB.size + T2.size + spB.size + T3.size + spB.size + T4.size ≤ 70368744177664 := by omega
  have hA : (⟨#[97, 32]⟩ : ByteArray) = spA := rfl
  have hB : (⟨#[32]⟩ : ByteArray) = spB := rfl
  unfold addB at h3 h4
  clear z1 z2 z3 z4 sA sB
  generalize spA = swingbridgelaw19.same at *
  generalize spB = SB at *
  change Ans (vb true) [] ((evL tabY extY 0 C5za.body (initFrom 0 [vu8 r, vu8 l, vu8 k, vu8 dl], [])).bind (resK C5za))
  simp [C5za, push_cast, -Int.not_lt, -Int.not_le, ↓evI_call, ↓evI_calli, ↓evI_callz, ↓evI_callv, ↓evI_mxn, h1, a1, a4, a5, b1, b4, b5, c1, c4, c5, d4, d5, s1, s2, hc, h2, h3, h4, t1, t2, t3, t4, y1, y2, y3, y4, y5, y6, y7, hA, hB, hW, aft, strip, eqz_self]
  exact Ans.nil rfl
theorem run_yb_late {r l k dl a b c : Int} (h1 : pureOf (callL tabY extY) false 7 [] = some (vb true))
    (a1 : r.tmod 60 = a) (a4 : IntKind.wrap .i64 a = a) (a5 : IntKind.wrap .i64 (a + 1) = a + 1) (b1 : l.tmod 60 = b) (b4 : IntKind.wrap .i64 b = b) (b5 : IntKind.wrap .i64 (b + 1) = b + 1)
    (c1 : k.tmod 60 = c) (c4 : IntKind.wrap .i64 c = c) (c5 : IntKind.wrap .i64 (c + 1) = c + 1)
    (d4 : IntKind.wrap .i64 dl = dl) (d5 : IntKind.wrap .i64 (dl + 1) = dl + 1) (s1 : IntKind.wrap .i64 (a + 1 + (b + 1)) = a + 1 + (b + 1)) (s2 : IntKind.wrap .i64 (a + 1 + (b + 1) + (c + 1)) = a + 1 + (b + 1) + (c + 1))
    (hc : ¬ a + 1 + (b + 1) + (c + 1) ≤ dl + 1)
    (h3 : pureOf (callL tabY extY) false 9 [oneC (dl + 1) (a + 1) (b + 1) (c + 1)] = some (.tup [.sl [vs lateB] 1 0, vi 0]))
    (h4 : pureOf (callL tabY extY) false 11 [.sl [vs lateB] 1 0, .sl [vs lateB] 1 0] = some (vb true)) :
    Ans (vb true) [] (runF (evL tabY extY) C5zb [vu8 r, vu8 l, vu8 k, vu8 dl]) := by
  have h2 := one_z 3 [vi 1, vi (a + 1), vi 0, vi 3, vi (b + 1), vi 0, vi 3, vi (c + 1), vi 0] 3
  simp only [bxZ0] at h2
  unfold oneC at h3
  unfold lateB at h3 h4
  change Ans (vb true) [] ((evL tabY extY 0 C5zb.body (initFrom 0 [vu8 r, vu8 l, vu8 k, vu8 dl], [])).bind (resK C5zb))
  simp [C5zb, push_cast, -Int.not_lt, -Int.not_le, ↓evI_call, ↓evI_calli, ↓evI_callz, ↓evI_callv, ↓evI_mxn, h1, a1, a4, a5, b1, b4, b5, c1, c4, c5, d4, d5, s1, s2, hc, h2, h3, h4, aft, strip, eqz_self]
  exact Ans.nil rfl
theorem run_yb_fits {r l k dl a b c : Int} (h1 : pureOf (callL tabY extY) false 7 [] = some (vb true))
    (a1 : r.tmod 60 = a) (a4 : IntKind.wrap .i64 a = a) (a5 : IntKind.wrap .i64 (a + 1) = a + 1) (b1 : l.tmod 60 = b) (b4 : IntKind.wrap .i64 b = b) (b5 : IntKind.wrap .i64 (b + 1) = b + 1)
    (c1 : k.tmod 60 = c) (c4 : IntKind.wrap .i64 c = c) (c5 : IntKind.wrap .i64 (c + 1) = c + 1)
    (d4 : IntKind.wrap .i64 dl = dl) (d5 : IntKind.wrap .i64 (dl + 1) = dl + 1) (s1 : IntKind.wrap .i64 (a + 1 + (b + 1)) = a + 1 + (b + 1)) (s2 : IntKind.wrap .i64 (a + 1 + (b + 1) + (c + 1)) = a + 1 + (b + 1) + (c + 1))
    (hc : a + 1 + (b + 1) + (c + 1) ≤ dl + 1) {T1 T2 T3 T4 W : ByteArray}
    (t1 : pureOf (callL tabY extY) false 14 [vi (a + 1 + (b + 1) + (c + 1))] = some (vs T1)) (t2 : pureOf (callL tabY extY) false 14 [vi (dl + 1)] = some (vs T2)) (t3 : pureOf (callL tabY extY) false 14 [vi (b + 1)] = some (vs T3)) (t4 : pureOf (callL tabY extY) false 14 [vi (c + 1)] = some (vs T4))
    (z1 : T1.size ≤ 21) (z2 : T2.size ≤ 21) (z3 : T3.size ≤ 21) (z4 : T4.size ≤ 21) (hW : ((((((spA ++ T1) ++ spB) ++ T2) ++ spB) ++ T3) ++ spB) ++ T4 = W)
    (h3 : pureOf (callL tabY extY) false 9 [oneC (dl + 1) (a + 1) (b + 1) (c + 1)] = some (.tup [.sl [vs addB, vs W] 2 0, vi 0]))
    (h4 : pureOf (callL tabY extY) false 11 [.sl [vs addB, vs W] 2 0, .sl [vs addB, vs W] 2 0] = some (vb true)) :
    Ans (vb true) [] (runF (evL tabY extY) C5zb [vu8 r, vu8 l, vu8 k, vu8 dl]) := by
  have h2 := one_z 3 [vi 1, vi (a + 1), vi 0, vi 3, vi (b + 1), vi 0, vi 3, vi (c + 1), vi 0] 3
  simp only [bxZ0] at h2
  unfold oneC at h3
  have sA : spA.size = 2 := rfl
  have sB : spB.size = 1 := rfl
  have y1 : spA.size + T1.size ≤ 70368744177664 := by omega
  have y2 : spA.size + T1.size + spB.size ≤ 70368744177664 := by omega
  have y3 : spA.size + T1.size + spB.size + T2.size ≤ 70368744177664 := by omega
  have y4 : spA.size + T1.size + spB.size + T2.size + spB.size ≤ 70368744177664 := by omega
  have y5 : spA.size + T1.size + spB.size + T2.size + spB.size + T3.size ≤ 70368744177664 := by omega
  have y6 : spA.size + T1.size + spB.size + T2.size + spB.size + T3.size + spB.size ≤ 70368744177664 := by omega
  have y7 : spA.size + T1.size + spB.size + T2.size + spB.size + T3.size + spB.size + T4.size ≤ 70368744177664 := by omega
  have hA : (⟨#[97, 32]⟩ : ByteArray) = spA := rfl
  have hB : (⟨#[32]⟩ : ByteArray) = spB := rfl
  unfold addB at h3 h4
  clear z1 z2 z3 z4 sA sB
  generalize spA = swingbridgelaw19.same at *
  generalize spB = SB at *
  change Ans (vb true) [] ((evL tabY extY 0 C5zb.body (initFrom 0 [vu8 r, vu8 l, vu8 k, vu8 dl], [])).bind (resK C5zb))
  simp [C5zb, push_cast, -Int.not_lt, -Int.not_le, ↓evI_call, ↓evI_calli, ↓evI_callz, ↓evI_callv, ↓evI_mxn, h1, a1, a4, a5, b1, b4, b5, c1, c4, c5, d4, d5, s1, s2, hc, h2, h3, h4, t1, t2, t3, t4, y1, y2, y3, y4, y5, y6, y7, hA, hB, hW, aft, strip, eqz_self]
  exact Ans.nil rfl
theorem ymod {n : Int} (q : Int) (h1 : 0 ≤ n) (hk : 1 ≤ q) (hk2 : q ≤ 70000) : ∃ m, n.tmod q = m ∧ 0 ≤ m ∧ m < q ∧ IntKind.wrap .i64 m = m ∧ IntKind.wrap .i64 (m + 1) = m + 1 := by
  have e := Int.tmod_eq_emod_of_nonneg (b := q) h1
  have m1 := Int.emod_nonneg n (show q ≠ 0 by omega)
  have m2 := Int.emod_lt_of_pos n (show 0 < q by omega)
  exact ⟨_, e, m1, m2, wrap_in _ (by omega) (by omega), wrap_in _ (by omega) (by omega)⟩
theorem run_y (r l k dl : Int) (k0 : (Lit.int .u8 r).wf = true) (k1 : (Lit.int .u8 l).wf = true) (k2 : (Lit.int .u8 k).wf = true) (k3 : (Lit.int .u8 dl).wf = true) :
    Ans (vb true) [] (runF (evL tabY extY) C5za [vu8 r, vu8 l, vu8 k, vu8 dl]) ∧ Ans (vb true) [] (runF (evL tabY extY) C5zb [vu8 r, vu8 l, vu8 k, vu8 dl]) := by
  have h1 := pureY (by decide) (pure_vb (k := false) known_7)
  have hd := u8_of k3
  obtain ⟨a, a1, a2, a3, a4, a5⟩ := ymod 60 (u8_of k0).1 (by decide) (by decide)
  obtain ⟨b, b1, b2, b3, b4, b5⟩ := ymod 60 (u8_of k1).1 (by decide) (by decide)
  obtain ⟨c, c1, c2, c3, c4, c5⟩ := ymod 60 (u8_of k2).1 (by decide) (by decide)
  clear k0 k1 k2 k3
  have h3 := pureY (by decide) (lines_is (sOn (dl + 1) (a + 1) (b + 1) (c + 1)) (sOn_sm ..))
  have h4 := fun v hv => pureY (by decide) (pure5 (pure1 (same_is v hv)))
  have far : linesS (sOn (dl + 1) (a + 1) (b + 1) (c + 1)) = (if dl + 1 < a + 1 + (b + 1) + (c + 1) then ([lateB], 0) else ([addB, wantB (dl + 1) (a + 1) (b + 1) (c + 1)], 0)) ∧ IntKind.wrap .i64 dl = dl ∧ IntKind.wrap .i64 (dl + 1) = dl + 1 ∧ IntKind.wrap .i64 (a + 1 + (b + 1)) = a + 1 + (b + 1) ∧ IntKind.wrap .i64 (a + 1 + (b + 1) + (c + 1)) = a + 1 + (b + 1) + (c + 1) := by
    clear a1 b1 c1 h1 h3 h4
    exact ⟨sOn_lines ⟨⟨by omega, by omega⟩, ⟨by omega, by omega⟩, ⟨by omega, by omega⟩, ⟨by omega, by omega⟩⟩, wrap_in _ (by omega) (by omega), wrap_in _ (by omega) (by omega), wrap_in _ (by omega) (by omega), wrap_in _ (by omega) (by omega)⟩
  obtain ⟨han, d4, d5, s1, s2⟩ := far
  rw [han] at h3
  have sc : A.agg (St.c (sOn (dl + 1) (a + 1) (b + 1) (c + 1))) = oneC (dl + 1) (a + 1) (b + 1) (c + 1) := rfl
  rw [sc] at h3
  by_cases hc : dl + 1 < a + 1 + (b + 1) + (c + 1)
  · rw [if_pos hc] at h3
    have hc2 : ¬ a + 1 + (b + 1) + (c + 1) ≤ dl + 1 := by clear a1 b1 c1 h1 h3 h4; omega
    have h4 := h4 [lateB] (by decide)
    exact ⟨run_ya_late h1 a1 a4 a5 b1 b4 b5 c1 c4 c5 d4 d5 s1 s2 hc2 h3 h4, run_yb_late h1 a1 a4 a5 b1 b4 b5 c1 c4 c5 d4 d5 s1 s2 hc2 h3 h4⟩
  · rw [if_neg hc] at h3
    have hc2 : a + 1 + (b + 1) + (c + 1) ≤ dl + 1 := by clear a1 b1 c1 h1 h3 h4; omega
    have h4 := h4 [addB, wantB (dl + 1) (a + 1) (b + 1) (c + 1)] (by show 2 ≤ 100; decide)
    have t := fun n => pureY (by decide) (textR n)
    exact ⟨run_ya_fits h1 a1 a4 a5 b1 b4 b5 c1 c4 c5 d4 d5 s1 s2 hc2 (t _) (t _) (t _) (t _) (txt_size _) (txt_size _) (txt_size _) (txt_size _) rfl h3 h4, run_yb_fits h1 a1 a4 a5 b1 b4 b5 c1 c4 c5 d4 d5 s1 s2 hc2 (t _) (t _) (t _) (t _) (txt_size _) (txt_size _) (txt_size _) (txt_size _) rfl h3 h4⟩
theorem reportOne_is (r l k dl : Int) (k0 : (Lit.int .u8 r).wf = true) (k1 : (Lit.int .u8 l).wf = true) (k2 : (Lit.int .u8 k).wf = true) (k3 : (Lit.int .u8 dl).wf = true) :
    Ans (vb true) [] (callL tab0 ext6 5 [vu8 r, vu8 l, vu8 k, vu8 dl] []) := by
  have h := two_vb (run_y r l k dl k0 k1 k2 k3).1 (run_y r l k dl k0 k1 k2 k3).2
  refine ⟨[], ?_⟩
  unfold callL callOf
  have e : ext6 5 [vu8 r, vu8 l, vu8 k, vu8 dl] [] = some (vb true, []) := h
  rw [e]; rfl
end Go.Proofs.YtamblgbmdhldbaaGreatDoorEv
