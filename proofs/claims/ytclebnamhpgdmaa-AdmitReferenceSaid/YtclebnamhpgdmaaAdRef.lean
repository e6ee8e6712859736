/- swingbridgelaw18.AdmitReference. -/
import Derived.Test.YtclebnamhpgdmaaAdmit
import Derived.Test.YtclebnamhpgdmaaIn1
import Derived.Test.YtclebnamhpgdmaaExt2
set_option linter.unusedSimpArgs false
set_option linter.unusedVariables false
namespace Go.Proofs.YtclebnamhpgdmaaEv
open Go
set_option maxHeartbeats 4000000
def tkR (m : Int) (i : Nat) : Tk := ⟨⟨#[UInt8.ofNat (97 + i)]⟩, 200 + 50 * (i : Int), 200 + 50 * (i : Int), (i : Int) + 1, (i : Int).tmod 2, [⟨1, 2 + (i : Int), 0⟩, ⟨3, 1 + ((i : Int) + m).tmod 3, (i : Int).tmod 2⟩, ⟨2, 3, 0⟩, ⟨3, 1, 1 - (i : Int).tmod 2⟩]⟩
def sRef (p m : Int) : St := ⟨p, [1, 2], [0, 1], (List.range 5).map (tkR m)⟩
def rOk (p m : Int) : Bool := eqz (anS (sRef p m)).2 0 && (anS (sRef p m)).1.ok && decide ((anS (sRef p m)).1.bounds.length = 5) && holdsS (sRef p m) (anS (sRef p m)).1.bounds
theorem rOk_all (p m : Int) (hp : p = 1 ∨ p = 2 ∨ p = 3) (hm : m = 0 ∨ m = 1 ∨ m = 2) : rOk p m = true := by
  rcases hp with rfl | rfl | rfl <;> rcases hm with rfl | rfl | rfl <;> decide +kernel
theorem sRef_sm (p m : Int) : Sm (sRef p m) := by
  refine ⟨by simp [sRef], by simp [sRef], by simp [sRef], fun t ht => ?_, fun t ht => ?_⟩
  · obtain ⟨i, hi, rfl⟩ := List.mem_map.1 ht
    exact show 4 ≤ 10 by omega
  · obtain ⟨i, hi, rfl⟩ := List.mem_map.1 ht
    exact show 1 ≤ 20 by omega
/-! ### the walk -/
theorem an_i64 {s : St} (hs : Sm s) : ∀ z ∈ (anS s).1.bounds, I64' z := by
  unfold anS
  by_cases ho : okS s = true
  · rw [if_pos ho]
    by_cases hz : eqz (leastB s).2 0 = true
    · rw [if_pos hz]
      exact (least_ok hs ((okS_iff _).1 ho) (by simpa [eqz] using hz)).2.1
    · rw [if_neg hz]
      intro z hz; cases hz
  · rw [if_neg ho]
    intro z hz; cases hz
theorem u8r (i : Nat) (h : i < 5) : IntKind.wrap .u8 (97 + (i : Int)) = 97 + (i : Int) := by
  match i, h with
  | 0, _ => rfl | 1, _ => rfl | 2, _ => rfl | 3, _ => rfl | 4, _ => rfl
theorem bytesr (i : Nat) (h : i < 5) : bytesA [.val (.int .u8 (97 + (i : Int)))] = some [UInt8.ofNat (97 + i)] := by
  match i, h with
  | 0, _ => rfl | 1, _ => rfl | 2, _ => rfl | 3, _ => rfl | 4, _ => rfl
def rfQ (m : Int) (i : Nat) : List A := ((List.range i).map (tkR m)).flatMap Tk.c
theorem rfQ_step (m : Int) (i : Nat) : rfQ m (i + 1) = rfQ m i ++ [vs ⟨#[UInt8.ofNat (97 + i)]⟩, vi (200 + 50 * (i : Int)), vi (200 + 50 * (i : Int)), vi ((i : Int) + 1), vi ((i : Int).tmod 2), .sl [vi 1, vi (2 + (i : Int)), vi 0, vi 3, vi (1 + ((i : Int) + m).tmod 3), vi ((i : Int).tmod 2), vi 2, vi 3, vi 0, vi 3, vi 1, vi (1 - (i : Int).tmod 2)] 4 0] := by
  unfold rfQ; rw [List.range_succ, List.map_append, List.flatMap_append]; rfl
theorem rfQ_len (m : Int) : ∀ i, (rfQ m i).length = i * 6
  | 0 => rfl
  | i + 1 => by rw [rfQ_step, List.length_append, rfQ_len m i]; show i * 6 + 6 = _; omega
def rfB (p m : Int) (g : Nat) (i : Nat) : List A := [vi p, .sl [vi 1, vi 2] 2 g, .sl [vi 0, vi 1] 2 g, .sl (rfQ m i) i g]
theorem rf_own (p m : Int) (e : Env) : evL tab0 ext2 0 L12_0 (e, [rfB p m 1 0]) = evL tab0 ext2 0 L12_0 (e, [rfB p m 2 0]) := by
  rw [go12_0, go12_0]
  congr 1
def RfQ (p m : Int) (zz : Out × Env × Bx) : Prop := ∃ e', zz = (.ex 0, e', [rfB p m 2 5]) ∧ e' 5 = .ptr 0 0
def EXR {α : Type} (Q : α → Prop) (r : Option α) : Prop := ∃ zz, r = some zz ∧ Q zz
theorem rf_loop (p m b : Int) (hm : m = 0 ∨ m = 1 ∨ m = 2) (hb : b.tmod 3 = m) : ∀ (d i : Nat) (e : Env), i + d = 5 → e 1 = vu8 b → e 5 = .ptr 0 0 → e 6 = vi i →
    EXR (RfQ p m) (evL tab0 ext2 0 L12_0 (e, [rfB p m 2 i])) := by
  intro d
  induction d with
  | zero =>
    intro i e hi h1 h5 h6
    obtain rfl : i = 5 := by omega
    unfold RfQ rfB
    generalize rfQ m 5 = Q
    rw [go12_0]
    simp [B12_0, push_cast, -Int.not_lt, -Int.not_le, ↓evI_call, ↓evI_calli, ↓evI_callv, ↓evI_mxn, loopIn, loopIn0, keepL, emp, A.dang, A.dangC, h1, h5, h6]
    exact ⟨_, rfl, _, rfl, by simp [put_at]⟩
  | succ d ih =>
    intro i e hi h1 h5 h6
    have hi' : (i : Int) < 5 := by omega
    have hw : IntKind.wrap .i64 ((i : Int) + 1) = (i : Int) + 1 := wrap_in _ (by omega) (by omega)
    have hw2 : IntKind.wrap .i64 (97 + (i : Int)) = 97 + (i : Int) := wrap_in _ (by omega) (by omega)
    have hw3 := u8r i (by omega)
    have hby := bytesr i (by omega)
    have wm : IntKind.wrap .i64 m = m := wrap_in _ (by omega) (by omega)
    have wim : IntKind.wrap .i64 ((i : Int) + m) = (i : Int) + m := wrap_in _ (by omega) (by omega)
    have w50 : IntKind.wrap .i64 (50 * (i : Int)) = 50 * (i : Int) := wrap_in _ (by omega) (by omega)
    have w200 : IntKind.wrap .i64 (200 + 50 * (i : Int)) = 200 + 50 * (i : Int) := wrap_in _ (by omega) (by omega)
    have w2i : IntKind.wrap .i64 (2 + (i : Int)) = 2 + (i : Int) := wrap_in _ (by omega) (by omega)
    have q3 := Int.tmod_eq_emod_of_nonneg (a := (i : Int) + m) (b := 3) (by omega)
    have q2 := Int.tmod_eq_emod_of_nonneg (a := (i : Int)) (b := 2) (by omega)
    have hsz : (i + 1) * 72 ≤ 70368744177664 := by omega
    have hQ := rfQ_len m i
    have hst := rfQ_step m i
    have ih1 := ih (i + 1)
    unfold rfB at ih1 ⊢
    rw [hst] at ih1
    rw [q3, q2] at ih1
    have wx : IntKind.wrap .i64 (((i : Int) + m) % 3) = ((i : Int) + m) % 3 := wrap_in _ (by omega) (by omega)
    have wx1 : IntKind.wrap .i64 (1 + ((i : Int) + m) % 3) = 1 + ((i : Int) + m) % 3 := wrap_in _ (by omega) (by omega)
    have wy : IntKind.wrap .i64 ((i : Int) % 2) = (i : Int) % 2 := wrap_in _ (by omega) (by omega)
    have wy1 : IntKind.wrap .i64 (1 - (i : Int) % 2) = 1 - (i : Int) % 2 := wrap_in _ (by omega) (by omega)
    generalize ((i : Int) + m) % 3 = x at *
    generalize (i : Int) % 2 = y at *
    generalize UInt8.ofNat (97 + i) = nm at *
    generalize rfQ m i = Q at *
    clear hst ih
    rw [go12_0]
    simp [B12_0, push_cast, -Int.not_lt, -Int.not_le, ↓evI_call, ↓evI_calli, ↓evI_callv, ↓evI_mxn, loopIn, loopIn0, keepL, emp, A.dang, A.dangC, h1, h5, h6, hb, hi', hw, hw2, hw3, hby, wm, wim, w50, w200, w2i, q3, q2, wx, wx1, wy, wy1, asList, hsz, hQ]
    apply ih1
    all_goals first | omega | (simp [put_at]; done)
theorem rmod {n : Int} (q : Int) (h1 : 0 ≤ n) (hk : 1 ≤ q) (hk2 : q ≤ 70000) : ∃ m, n.tmod q = m ∧ 0 ≤ m ∧ m < q ∧ IntKind.wrap .i64 m = m ∧ IntKind.wrap .i64 (m + 1) = m + 1 := by
  have e := Int.tmod_eq_emod_of_nonneg (b := q) h1
  have m1 := Int.emod_nonneg n (show q ≠ 0 by omega)
  have m2 := Int.emod_lt_of_pos n (show 0 < q by omega)
  exact ⟨_, e, m1, m2, wrap_in _ (by omega) (by omega), wrap_in _ (by omega) (by omega)⟩
theorem admitReference_is (a b : Int) (k0 : (Lit.int .u8 a).wf = true) (k1 : (Lit.int .u8 b).wf = true) : Ans (vb true) [] (callL tab0 ext2 12 [vu8 a, vu8 b] []) := by
  rw [callL_tab _ _ rfl tab12 rfl]
  have h1 := pure_vb (k := false) known_21
  obtain ⟨x, x1, x2, x3, x4, x5⟩ := rmod 3 (u8_of k0).1 (by omega) (by omega)
  obtain ⟨m, y1, y2, y3, y4, y5⟩ := rmod 3 (u8_of k1).1 (by omega) (by omega)
  have hm : m = 0 ∨ m = 1 ∨ m = 2 := by omega
  have hs := sRef_sm (x + 1) m
  have hall := rOk_all (x + 1) m (by omega) hm
  have h2 := pure2 (analyze_is (sRef (x + 1) m) hs)
  have hlp0 := fun e => rf_loop (x + 1) m b hm y1 5 0 e (by omega)
  simp only [← rf_own] at hlp0
  unfold rOk at hall
  simp only [Bool.and_eq_true, decide_eq_true_eq] at hall
  obtain ⟨⟨⟨a1, a2⟩, a3⟩, a4⟩ := hall
  have hbb : ∀ z ∈ (anS (sRef (x + 1) m)).1.bounds, I64' z := an_i64 hs
  have h3 := pure2 (pure_vb (k := false) (holds_is (sRef (x + 1) m) hs (anS (sRef (x + 1) m)).1.bounds hbb))
  rw [a4] at h3
  have s1 : St.c (sRef (x + 1) m) = [vi (x + 1), .sl [vi 1, vi 2] 2 0, .sl [vi 0, vi 1] 2 0, .sl (rfQ m 5) 5 0] := rfl
  rw [s1] at h2 h3
  unfold RfQ rfB at hlp0
  generalize rfQ m 5 = Q at *
  generalize (anS (sRef (x + 1) m)).1 = v at *
  generalize (anS (sRef (x + 1) m)).2 = z at *
  simp only [Vd.c, slW, slI] at h2 h3
  rw [a2, a3] at h2
  rw [a3] at h3
  simp [C12, push_cast, -Int.not_lt, -Int.not_le, ↓evI_call, ↓evI_calli, ↓evI_callv, ↓evI_mxn, h1, x1, x4, x5]
  refine behindP (P := fun r => Ans _ [] r) (hlp0 _ (by simp [put_at]) (by simp [put_at]) (by simp [put_at])) ?_
  rintro _ ⟨e', rfl, k5⟩
  simp [push_cast, -Int.not_lt, -Int.not_le, ↓evI_call, ↓evI_calli, ↓evI_callv, ↓evI_mxn, k5, h2, h3, a1, eqz_self]
  exact ⟨_, rfl⟩
end Go.Proofs.YtclebnamhpgdmaaEv
