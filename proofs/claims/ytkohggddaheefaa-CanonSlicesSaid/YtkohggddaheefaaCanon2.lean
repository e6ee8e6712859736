/- package canon: picked, Canon, Move; the reference's Move. -/
import Derived.Test.YtkohggddaheefaaCanon
set_option linter.unusedSimpArgs false
set_option linter.unusedVariables false
namespace Go.Proofs.YtkohggddaheefaaEv
open Go
set_option maxHeartbeats 2000000
theorem pi_own (s : St) (e : Env) : evL tab0 ext0 0 L69_0 (e, [[vi s.proto, .sl (s.cores.map vi) s.cores.length 0, .sl (s.homes.map vi) s.homes.length 0, .sl (s.tasks.flatMap Tk.c) s.tasks.length 0], [vi 0, .sl [] 0 1, .sl [] 0 1, .sl [] 0 1], [vi s.proto, .sl (s.cores.map vi) s.cores.length 0, .sl (s.homes.map vi) s.homes.length 0, .sl [] 0 1]]) = evL tab0 ext0 0 L69_0 (e, bxP s [] 0) := by
  rw [go69_0, go69_0]
  congr 1
theorem pi_loop (s : St) (hs : Sm s) (o : List Int) (ho : OrdOk s o) (hl : o.length ≤ 9) : ∀ (d i : Nat) (e : Env), i + d = o.length → e 4 = .ptr 1 0 → e 5 = .ptr 2 0 → e 6 = slT s.tasks → e 14 = slI o → e 15 = vi o.length → e 16 = vi i →
    EXN (WiQ s o) (evL tab0 ext0 0 L69_0 (e, bxP s (pkC s o i) i)) := by
  have h9 := hs.tasks
  intro d
  induction d with
  | zero =>
    intro i e hi h4 h5 h6 h14 h15 h16
    obtain rfl : i = o.length := by omega
    unfold WiQ
    generalize pkC s o o.length = F at *
    unfold bxP
    exact ⟨_, (go69_0 _ _).trans (by simp [B69_0, push_cast, -Int.not_lt, -Int.not_le, ↓evI_call, ↓evI_calli, ↓evI_calln, ↓evI_callz, ↓evI_callv, ↓evI_mxn, loopIn, loopIn0, keepL, emp, A.dang, A.dangC, slI, slT, h4, h5, h6, h14, h15, h16]; rfl), _, rfl, by simp [put_at], by simp [put_at]⟩
  | succ d ih =>
    intro i e hi h4 h5 h6 h14 h15 h16
    have hi1 : i < o.length := by omega
    have hi2 : (i : Int) < o.length := by omega
    have hw : IntKind.wrap .i64 ((i : Int) + 1) = (i : Int) + 1 := wrap_in _ (by omega) (by omega)
    obtain ⟨k, hk, hk2⟩ := ho _ (List.getElem_mem hi1)
    have hk3 : (k : Int) < s.tasks.length := by omega
    have hdo := drop_int o i hi1
    rw [hk] at hdo
    have hdk := drop_tk s.tasks k hk2
    have hst := pkC_step s o i hi1 k hk hk2
    have hln := pkC_len s o i (by omega)
    have hsz : (i + 1) * 72 ≤ 70368744177664 := by omega
    have ih' := ih (i + 1)
    rw [hst] at ih'
    generalize pkC s o i = F at *
    simp only [Tk.c, slP] at hdk ih'
    unfold bxP at ih' ⊢
    rw [go69_0]
    simp [B69_0, push_cast, -Int.not_lt, -Int.not_le, ↓evI_call, ↓evI_calli, ↓evI_calln, ↓evI_callz, ↓evI_callv, ↓evI_mxn, loopIn, loopIn0, keepL, emp, A.dang, A.dangC, slI, slT, h4, h5, h6, h14, h15, h16, hi1, hi2, hw, hk2, hk3, hdo, hdk, hln, hsz, asList]
    apply ih'
    all_goals first | omega | (simp [put_at, slI, slT]; done)
theorem picked_is (s : St) (hs : Sm s) (o : List Int) (ho : OrdOk s o) (hl : o.length ≤ 9) : pureOf (callL tab0 ext0) false 69 [.agg (St.c s), slI o] = some (.agg (St.c (pkS s o))) := by
  rw [pureOf_b, callL_tab _ _ rfl tab69 rfl]
  have hcp := copy_is s hs
  have h0 := fun e => pi_loop s hs o ho hl o.length 0 e (by omega)
  have e0 : pkC s o 0 = [] := rfl
  rw [e0] at h0
  simp only [← pi_own] at h0
  have e1 := pkC_all s o
  have hc : St.c (pkS s o) = [vi s.proto, slI s.cores, slI s.homes, .sl (pkC s o o.length) o.length 0] := by
    rw [e1]
    show [vi s.proto, slI s.cores, slI s.homes, slT (pkS s o).tasks] = _
    unfold slT pkS
    rw [List.length_map]
  rw [hc]
  unfold WiQ at h0
  generalize pkC s o o.length = F at *
  simp only [St.c, slI, slT, bxP] at *
  simp [C69, push_cast, -Int.not_lt, -Int.not_le, ↓evI_call, ↓evI_calli, ↓evI_calln, ↓evI_callz, ↓evI_callv, ↓evI_mxn, hcp]
  refine behind (h0 _ (by simp [put_at]) (by simp [put_at]) (by simp [put_at]) (by simp [put_at]) (by simp [put_at]) (by simp [put_at])) ?_
  rintro _ ⟨e', rfl, h4, h5⟩
  simp [push_cast, -Int.not_lt, -Int.not_le, ↓evI_call, ↓evI_calli, ↓evI_calln, ↓evI_callz, ↓evI_callv, ↓evI_mxn, h4, h5, frzK]
theorem canon_is (s : St) (hs : Sm s) : pureOf (callL tab0 ext0) false 44 [.agg (St.c s)] = some (.agg (St.c (pkS s (ordS s)))) := by
  rw [pureOf_b, callL_tab _ _ rfl tab44 rfl]
  have h1 := order_is s hs
  have h2 := picked_is s hs (ordS s) (ordS_ok s) (by rw [ordS_len]; exact hs.tasks)
  generalize ordS s = o at *
  simp only [St.c, slI, slT] at *
  simp [C44, push_cast, -Int.not_lt, -Int.not_le, ↓evI_call, ↓evI_calli, ↓evI_calln, ↓evI_callz, ↓evI_callv, ↓evI_mxn, h1, h2, frzK]
/-! ### turned round -/
def mv0 (s : St) (b : Int) : Int := (b.tmod s.tasks.length + s.tasks.length).tmod s.tasks.length
def mvF (s : St) (b : Int) (i : Nat) : Int := (mv0 s b + i).tmod s.tasks.length
def mvL (s : St) (b : Int) (i : Nat) : List Int := (List.range i).map (mvF s b)
theorem mvL_len (s b i) : (mvL s b i).length = i := by simp [mvL]
theorem mvL_step (s b i) : mvL s b (i + 1) = mvL s b i ++ [mvF s b i] := by unfold mvL; rw [List.range_succ, List.map_append]; rfl
structure MvOk (s : St) (b : Int) : Prop where
  n : 0 < s.tasks.length
  w0 : IntKind.wrap .i64 (b.tmod s.tasks.length) = b.tmod s.tasks.length
  w1 : IntKind.wrap .i64 (b.tmod s.tasks.length + s.tasks.length) = b.tmod s.tasks.length + s.tasks.length
  w2 : IntKind.wrap .i64 (mv0 s b) = mv0 s b
  lo : 0 ≤ mv0 s b
  hi : mv0 s b < s.tasks.length
theorem mv_ok {s : St} (hs : Sm s) (hn : 0 < s.tasks.length) (b : Int) : MvOk s b := by
  have h9 := hs.tasks
  have hb : -(s.tasks.length : Int) < b.tmod s.tasks.length ∧ b.tmod s.tasks.length < s.tasks.length := by
    rcases Int.lt_or_le b 0 with h | h
    · have e : b.tmod s.tasks.length = -((-b).tmod s.tasks.length) := by rw [Int.neg_tmod, Int.neg_neg]
      have e2 := Int.tmod_eq_emod_of_nonneg (a := -b) (b := (s.tasks.length : Int)) (by omega)
      have m1 := Int.emod_nonneg (-b) (show (s.tasks.length : Int) ≠ 0 by omega)
      have m2 := Int.emod_lt_of_pos (-b) (show (0 : Int) < s.tasks.length by omega)
      rw [e, e2]
      generalize (-b) % (s.tasks.length : Int) = z at *
      omega
    · have e2 := Int.tmod_eq_emod_of_nonneg (a := b) (b := (s.tasks.length : Int)) h
      have m1 := Int.emod_nonneg b (show (s.tasks.length : Int) ≠ 0 by omega)
      have m2 := Int.emod_lt_of_pos b (show (0 : Int) < s.tasks.length by omega)
      rw [e2]
      generalize b % (s.tasks.length : Int) = z at *
      omega
  unfold mv0 at *
  have hm : 0 ≤ (b.tmod s.tasks.length + s.tasks.length).tmod s.tasks.length ∧ (b.tmod s.tasks.length + s.tasks.length).tmod s.tasks.length < s.tasks.length := by
    generalize b.tmod s.tasks.length = z at *
    have e2 := Int.tmod_eq_emod_of_nonneg (a := z + s.tasks.length) (b := (s.tasks.length : Int)) (by omega)
    have m1 := Int.emod_nonneg (z + s.tasks.length) (show (s.tasks.length : Int) ≠ 0 by omega)
    have m2 := Int.emod_lt_of_pos (z + s.tasks.length) (show (0 : Int) < s.tasks.length by omega)
    rw [e2]
    exact ⟨m1, m2⟩
  refine ⟨hn, ?_, ?_, ?_, hm.1, hm.2⟩
  · generalize b.tmod s.tasks.length = z at *
    exact wrap_in _ (by omega) (by omega)
  · generalize b.tmod s.tasks.length = z at *
    exact wrap_in _ (by omega) (by omega)
  · show IntKind.wrap .i64 ((b.tmod s.tasks.length + s.tasks.length).tmod s.tasks.length) = (b.tmod s.tasks.length + s.tasks.length).tmod s.tasks.length
    generalize (b.tmod s.tasks.length + s.tasks.length).tmod s.tasks.length = z at *
    exact wrap_in _ (by omega) (by omega)
theorem mvF_b {s : St} {b : Int} (h : MvOk s b) (i : Nat) : 0 ≤ mvF s b i ∧ mvF s b i < s.tasks.length := by
  have h1 := h.lo
  have hn := h.n
  unfold mvF
  rw [Int.tmod_eq_emod_of_nonneg (by omega)]
  exact ⟨Int.emod_nonneg _ (by omega), Int.emod_lt_of_pos _ (by omega)⟩
theorem mvL_ok {s : St} {b : Int} (h : MvOk s b) (i : Nat) : OrdOk s (mvL s b i) := by
  intro x hx
  obtain ⟨k, hk, rfl⟩ := List.mem_map.1 hx
  have := mvF_b h k
  exact ⟨(mvF s b k).toNat, by omega, by omega⟩
theorem rm_loop (s : St) (hs : Sm s) (b : Int) (hv : s.tasks.length ≠ 0 → MvOk s b) :
    ∀ d i (e : Env), i + d = s.tasks.length → (e 1 = vi b ∧ e 2 = .ptr 0 0 ∧ e 4 = .ptr 1 0 ∧ e 5 = vi s.tasks.length ∧ e 6 = .sl ((mvL s b i).map vi) i 2 ∧ e 7 = vi i) → ∃ zz, evL tab0 ext0 0 L47_0 (e, [St.c s, [vi 0, .sl [] 0 2, .sl [] 0 2, .sl [] 0 2]]) = some zz ∧ FQ (fun _ => false) ([St.c s, [vi 0, .sl [] 0 2, .sl [] 0 2, .sl [] 0 2]]) 0 (fun _ _ => True) (fun e => e 2 = .ptr 0 0 ∧ e 4 = .ptr 1 0 ∧ e 6 = .sl ((mvL s b s.tasks.length).map vi) s.tasks.length 2) i d zz := by
  have hc := hs.tasks
  refine fq_loop (St := fun i e => e 1 = vi b ∧ e 2 = .ptr 0 0 ∧ e 4 = .ptr 1 0 ∧ e 5 = vi s.tasks.length ∧ e 6 = .sl ((mvL s b i).map vi) i 2 ∧ e 7 = vi i) _ _ _ _ _ ?_ ?_
  · rintro e ⟨g0, g1, g2, g3, g4, g5⟩
    exact ⟨_, (go47_0 _ _).trans (by simp [B47_0, push_cast, -Int.not_lt, -Int.not_le, ↓evI_call, ↓evI_calli, ↓evI_calln, ↓evI_callz, ↓evI_callv, ↓evI_mxn, loopIn, loopIn0, keepL, emp, A.dang, A.dangC, g0, g1, g2, g3, g4, g5, slI, slT, slP, St.c, Tk.c]; rfl), by simp [put_at, g1, g2, g4]⟩
  · rintro i e hi ⟨g0, g1, g2, g3, g4, g5⟩
    rw [go47_0]
    have hi' : (i : Int) < (s.tasks.length : Nat) := by omega
    have hw : IntKind.wrap .i64 ((i : Int) + 1) = (i : Int) + 1 := wrap_in _ (by omega) (by omega)
    have hM := hv (by omega)
    obtain ⟨m0, m1, m2, m3, m4, m5⟩ := hM
    have hfb := mvF_b (hv (by omega)) i
    have w4 : IntKind.wrap .i64 (mv0 s b + i) = mv0 s b + i := wrap_in _ (by omega) (by omega)
    have w5 : IntKind.wrap .i64 (mvF s b i) = mvF s b i := wrap_in _ (by omega) (by omega)
    have e1 : (b.tmod s.tasks.length + s.tasks.length).tmod s.tasks.length = mv0 s b := rfl
    have e2 : (mv0 s b + i).tmod s.tasks.length = mvF s b i := rfl
    have hst := mvL_step s b i
    have hln := mvL_len s b i
    have hsz : (i + 1) * 8 ≤ 70368744177664 := by omega
    have hn0 : ¬ s.tasks = [] := fun h => by rw [h] at m0; exact absurd m0 (by simp)
    have hn1 : ¬ (s.tasks.length : Int) = 0 := by omega
    rw [hst]
    generalize mvL s b i = F at *
    generalize mvF s b i = y at *
    generalize mv0 s b = z at *
    simp +contextual (maxSteps := 400000) [B47_0, push_cast, -Int.not_lt, -Int.not_le, ↓evI_call, ↓evI_calli, ↓evI_calln, ↓evI_callz, ↓evI_callv, ↓evI_mxn, loopIn, loopIn0, keepL, emp, A.dang, A.dangC, g0, g1, g2, g3, g4, g5, hi, hi', slI, slT, slP, St.c, Tk.c, hw, m1, m2, m3, w4, w5, e1, e2, hln, hsz, hn0, hn1, asList]
    (repeat' refine Step.split (fun cc => ?_) (fun cc => ?_)) <;> first | (refine Step.ret0 ?_ ?_ <;> first | (simp_all [put_at, eqz]; done) | (simp [put_at, *]; done) | ((try simp [eqz] at *); omega)) | (refine Step.go ?_ ?_ <;> first | (simp_all [put_at, eqz]; done) | (simp [put_at, *]; done) | ((try simp [eqz] at *); omega)) | (refine Step.ret _ ?_ ?_ <;> first | (simp_all [put_at, eqz]; done) | (simp [put_at, *]; done) | ((try simp [eqz] at *); omega)) | (refine Step.goJ _ (by simp) ?_ ?_ <;> first | (simp_all [put_at, eqz]; done) | (simp [put_at, *]; done) | ((try simp [eqz] at *); omega))
theorem rm_own (s : St) (e : Env) : evL tab0 ext0 0 L47_0 (e, [St.c s, [vi 0, .sl [] 0 1, .sl [] 0 1, .sl [] 0 1]]) = evL tab0 ext0 0 L47_0 (e, [St.c s, [vi 0, .sl [] 0 2, .sl [] 0 2, .sl [] 0 2]]) := by
  rw [go47_0, go47_0]
  congr 1
theorem refMove_is (s : St) (hs : Sm s) (b : Int) : pureOf (callL tab0 ext0) false 47 [.agg (St.c s), vi b] = some (.agg (St.c (pkS s (mvL s b s.tasks.length)))) := by
  rw [pureOf_b, callL_tab _ _ rfl tab47 rfl]
  have h9 := hs.tasks
  have hv : s.tasks.length ≠ 0 → MvOk s b := fun h => mv_ok hs (by omega) b
  have h0 := fun e => rm_loop s hs b hv s.tasks.length 0 e (by omega)
  simp only [← rm_own] at h0
  have hok : OrdOk s (mvL s b s.tasks.length) := by
    by_cases h : s.tasks.length = 0
    · rw [h]; intro x hx; cases hx
    · exact mvL_ok (hv h) _
  have h2 := with_is s hs (mvL s b s.tasks.length) hok (by rw [mvL_len]; exact h9)
  have hln := mvL_len s b s.tasks.length
  have e0 : (mvL s b 0).map vi = [] := rfl
  rw [e0] at h0
  unfold slI at h2
  rw [hln] at h2
  generalize mvL s b s.tasks.length = o at *
  simp only [St.c, slI, slT] at *
  simp [C47, push_cast, -Int.not_lt, -Int.not_le, ↓evI_call, ↓evI_calli, ↓evI_calln, ↓evI_callz, ↓evI_callv, ↓evI_mxn]
  refine behind (h0 _ (by simp [put_at])) ?_
  intro a h
  obtain ⟨e', rfl, hx⟩ := h.never; clear h; have h := hx
  obtain ⟨k2, k4, k6⟩ := h
  simp [push_cast, -Int.not_lt, -Int.not_le, ↓evI_call, ↓evI_calli, ↓evI_calln, ↓evI_callz, ↓evI_callv, ↓evI_mxn, k2, k4, k6, h2, frzK]
theorem mvF_zero {s : St} {b : Int} (h : MvOk s b) : mvF s b 0 = mv0 s b := by
  have h1 := h.lo
  have h2 := h.hi
  unfold mvF
  rw [Int.tmod_eq_emod_of_nonneg (by omega), Int.emod_eq_of_lt (by omega) (by omega)]
  omega
theorem mvF_succ {s : St} {b : Int} (h : MvOk s b) (i : Nat) : (mvF s b i + 1).tmod s.tasks.length = mvF s b (i + 1) := by
  have h1 := h.lo
  have hb := mvF_b h i
  rw [Int.tmod_eq_emod_of_nonneg (by omega)]
  unfold mvF
  rw [Int.tmod_eq_emod_of_nonneg (by omega), Int.tmod_eq_emod_of_nonneg (by omega), Int.emod_add_emod]
  congr 1; omega
def MvQ (s : St) (b : Int) (zz : Out × Env × Bx) : Prop := ∃ e', zz = (.ex 0, e', [[vi s.proto, .sl (s.cores.map vi) s.cores.length 0, .sl (s.homes.map vi) s.homes.length 0, .sl (s.tasks.flatMap Tk.c) s.tasks.length 0], [vi 0, .sl [] 0 2, .sl [] 0 2, .sl [] 0 2]]) ∧ e' 2 = .ptr 0 0 ∧ e' 4 = .ptr 1 0 ∧ e' 6 = .sl ((mvL s b s.tasks.length).map vi) s.tasks.length 2
theorem mo_loop (s : St) (hs : Sm s) (b : Int) (hv : s.tasks.length ≠ 0 → MvOk s b) : ∀ (d i : Nat) (e : Env), i + d = s.tasks.length → e 1 = vi b → e 2 = .ptr 0 0 → e 4 = .ptr 1 0 → e 5 = vi s.tasks.length → e 6 = .sl ((mvL s b i).map vi) i 2 → e 11 = vi s.tasks.length → e 12 = vi i →
    EXN (MvQ s b) (evL tab0 ext0 0 L46_0 (e, [[vi s.proto, .sl (s.cores.map vi) s.cores.length 0, .sl (s.homes.map vi) s.homes.length 0, .sl (s.tasks.flatMap Tk.c) s.tasks.length 0], [vi 0, .sl [] 0 2, .sl [] 0 2, .sl [] 0 2]])) := by
  have h9 := hs.tasks
  intro d
  induction d with
  | zero =>
    intro i e hi h1 h2 h4 h5 h6 h11 h12
    obtain rfl : i = s.tasks.length := by omega
    unfold MvQ
    generalize (mvL s b s.tasks.length).map vi = M at *
    exact ⟨_, (go46_0 _ _).trans (by simp [B46_0, push_cast, -Int.not_lt, -Int.not_le, ↓evI_call, ↓evI_calli, ↓evI_calln, ↓evI_callz, ↓evI_callv, ↓evI_mxn, loopIn, loopIn0, keepL, emp, A.dang, A.dangC, h1, h2, h4, h5, h6, h11, h12]; rfl), _, rfl, by simp [put_at], by simp [put_at], by simp [put_at]⟩
  | succ d ih =>
    intro i e hi h1 h2 h4 h5 h6 h11 h12
    have hi2 : (i : Int) < s.tasks.length := by omega
    have hw : IntKind.wrap .i64 ((i : Int) + 1) = (i : Int) + 1 := wrap_in _ (by omega) (by omega)
    have hM := hv (by omega)
    have hM2 := hM
    obtain ⟨m0, m1, m2, m3, m4, m5⟩ := hM2
    have e1 : (b.tmod s.tasks.length + s.tasks.length).tmod s.tasks.length = mv0 s b := rfl
    have hst := mvL_step s b i
    have hln := mvL_len s b i
    have hsz : (i + 1) * 8 ≤ 70368744177664 := by omega
    have hn0 : ¬ s.tasks = [] := fun h => by rw [h] at m0; exact absurd m0 (by simp)
    have hn1 : ¬ (s.tasks.length : Int) = 0 := by omega
    have ih' := ih (i + 1)
    rw [hst, List.map_append] at ih'
    by_cases hz : i = 0
    · subst hz
      have ez := mvF_zero hM
      have w10 : IntKind.wrap .i64 1 = 1 := by decide
      rw [ez] at ih'
      have e0 : (mvL s b 0).map vi = [] := rfl
      rw [e0] at ih' h6
      generalize mv0 s b = z at *
      rw [go46_0]
      simp [B46_0, push_cast, -Int.not_lt, -Int.not_le, ↓evI_call, ↓evI_calli, ↓evI_calln, ↓evI_callz, ↓evI_callv, ↓evI_mxn, loopIn, loopIn0, keepL, emp, A.dang, A.dangC, h1, h2, h4, h5, h6, h11, h12, hi2, m0, w10, m1, m2, m3, e1, hn0, hn1, asList, eqz_self]
      apply ih'
      all_goals first | omega | (simp [put_at]; done)
    · obtain ⟨j, rfl⟩ : ∃ j, i = j + 1 := ⟨i - 1, by omega⟩
      have es := mvF_succ hM j
      have hb := mvF_b hM j
      have hb2 := mvF_b hM (j + 1)
      have w4 : IntKind.wrap .i64 (mvF s b j + 1) = mvF s b j + 1 := wrap_in _ (by omega) (by omega)
      have w5 : IntKind.wrap .i64 (mvF s b (j + 1)) = mvF s b (j + 1) := wrap_in _ (by omega) (by omega)
      have hj : IntKind.wrap .i64 ((j : Int) + 1 - 1) = j := by rw [wrap_in _ (by omega) (by omega)]; omega
      have hj2 : IntKind.wrap .i64 (j : Int) = j := wrap_in _ (by omega) (by omega)
      have hd : ((mvL s b (j + 1)).map vi).drop j = vi (mvF s b j) :: [] := by
        rw [mvL_step, List.map_append]
        have e : j = ((mvL s b j).map vi).length := by rw [List.length_map, mvL_len]
        rw [show (List.drop j ((mvL s b j).map vi ++ [mvF s b j].map vi)) = List.drop ((mvL s b j).map vi).length ((mvL s b j).map vi ++ [mvF s b j].map vi) by rw [← e], List.drop_left]; rfl
      have q1 : (j : Int) < (j : Int) + 1 := by omega
      have q2 : eqz ((j : Int) + 1) 0 = false := by simp [eqz]; omega
      have hi3 : (j : Int) + 1 < s.tasks.length := by omega
      have hlm : ((mvL s b (j + 1)).map vi).length = j + 1 := by rw [List.length_map, mvL_len]
      generalize (mvL s b (j + 1)).map vi = F at *
      generalize mvF s b (j + 1) = y at *
      generalize mvF s b j = x at *
      have h6' : e 6 = .sl F (j + 1) 2 := h6
      have h12' : e 12 = vi ((j : Int) + 1) := by rw [h12]; simp
      have hw' : IntKind.wrap .i64 ((j : Int) + 1 + 1) = (j : Int) + 1 + 1 := wrap_in _ (by omega) (by omega)
      rw [go46_0]
      simp [B46_0, push_cast, -Int.not_lt, -Int.not_le, ↓evI_call, ↓evI_calli, ↓evI_calln, ↓evI_callz, ↓evI_callv, ↓evI_mxn, loopIn, loopIn0, keepL, emp, A.dang, A.dangC, h1, h2, h4, h5, h6', h11, h12', hi3, hw', m1, m2, m3, e1, hn0, hn1, w4, w5, hj, hj2, hd, es, q1, q2, hlm, hsz, asList]
      apply ih'
      all_goals first | omega | (simp [put_at]; done) | (simp [put_at]; omega)
theorem mo_own (s : St) (e : Env) : evL tab0 ext0 0 L46_0 (e, [[vi s.proto, .sl (s.cores.map vi) s.cores.length 0, .sl (s.homes.map vi) s.homes.length 0, .sl (s.tasks.flatMap Tk.c) s.tasks.length 0], [vi 0, .sl [] 0 1, .sl [] 0 1, .sl [] 0 1]]) = evL tab0 ext0 0 L46_0 (e, [[vi s.proto, .sl (s.cores.map vi) s.cores.length 0, .sl (s.homes.map vi) s.homes.length 0, .sl (s.tasks.flatMap Tk.c) s.tasks.length 0], [vi 0, .sl [] 0 2, .sl [] 0 2, .sl [] 0 2]]) := by
  rw [go46_0, go46_0]
  congr 1
theorem move_is (s : St) (hs : Sm s) (b : Int) : pureOf (callL tab0 ext0) false 46 [.agg (St.c s), vi b] = some (.agg (St.c (pkS s (mvL s b s.tasks.length)))) := by
  rw [pureOf_b, callL_tab _ _ rfl tab46 rfl]
  have h9 := hs.tasks
  have hv : s.tasks.length ≠ 0 → MvOk s b := fun h => mv_ok hs (by omega) b
  have h0 := fun e => mo_loop s hs b hv s.tasks.length 0 e (by omega)
  simp only [← mo_own] at h0
  have hok : OrdOk s (mvL s b s.tasks.length) := by
    by_cases h : s.tasks.length = 0
    · rw [h]; intro x hx; cases hx
    · exact mvL_ok (hv h) _
  have h2 := picked_is s hs (mvL s b s.tasks.length) hok (by rw [mvL_len]; exact h9)
  have hln := mvL_len s b s.tasks.length
  have e0 : (mvL s b 0).map vi = [] := rfl
  unfold MvQ at h0
  rw [e0] at h0
  unfold slI at h2
  rw [hln] at h2
  generalize mvL s b s.tasks.length = o at *
  simp only [St.c, slI, slT] at *
  simp [C46, push_cast, -Int.not_lt, -Int.not_le, ↓evI_call, ↓evI_calli, ↓evI_calln, ↓evI_callz, ↓evI_callv, ↓evI_mxn]
  refine behind (h0 _ (by simp [put_at]) (by simp [put_at]) (by simp [put_at]) (by simp [put_at]) (by simp [put_at]) (by simp [put_at]) (by simp [put_at])) ?_
  rintro _ ⟨e', rfl, k2, k4, k6⟩
  simp [push_cast, -Int.not_lt, -Int.not_le, ↓evI_call, ↓evI_calli, ↓evI_calln, ↓evI_callz, ↓evI_callv, ↓evI_mxn, k2, k4, k6, h2, frzK]
end Go.Proofs.YtkohggddaheefaaEv
