/- package canon, and the reference's orders. -/
import Derived.Test.YtkohggddaheefaaSortS
import Derived.Test.YtkohggddaheefaaCopy
import Derived.Test.YtkohggddaheefaaGd
set_option linter.unusedSimpArgs false
set_option linter.unusedVariables false
namespace Go.Proofs.YtkohggddaheefaaEv
open Go
set_option maxHeartbeats 2000000
def prT (s : St) (i : Nat) : Int := (s.tasks[i]?.map Tk.prio).getD 0
theorem prT_is (s : St) (i : Nat) (h : i < s.tasks.length) : prT s i = s.tasks[i].prio := by unfold prT; simp [h]
def itL (s : St) (i : Nat) : List It := (List.range i).map fun k => (prT s k, (k : Int))
theorem itL_len (s i) : (itL s i).length = i := by simp [itL]
theorem itL_step (s : St) (i : Nat) : fl (itL s (i + 1)) = fl (itL s i) ++ [vi (prT s i), vi i] := by
  unfold itL; rw [List.range_succ, List.map_append, fl_app]; rfl
/-- The tasks' order. -/
def srtS (s : St) : List It := srtL (itL s s.tasks.length) (s.tasks.length - 1)
def ordS (s : St) : List Int := (srtS s).map Prod.snd
theorem srtS_len (s : St) : (srtS s).length = s.tasks.length := by unfold srtS; rw [srtL_len, itL_len]
theorem ordS_len (s : St) : (ordS s).length = s.tasks.length := by unfold ordS; rw [List.length_map, srtS_len]
theorem ord_loop0 (s : St) (hs : Sm s) :
    ∀ d i (e : Env), i + d = s.tasks.length → (e 3 = .sl (fl (itL s i)) i 2 ∧ e 10 = slT s.tasks ∧ e 11 = vi s.tasks.length ∧ e 12 = vi i) → ∃ zz, evL tab0 ext0 0 L43_0 (e, [St.c s]) = some zz ∧ FQ (fun _ => false) ([St.c s]) 0 (fun _ _ => True) (fun e => e 3 = .sl (fl (itL s s.tasks.length)) s.tasks.length 2) i d zz := by
  have hc := hs.tasks
  refine fq_loop (St := fun i e => e 3 = .sl (fl (itL s i)) i 2 ∧ e 10 = slT s.tasks ∧ e 11 = vi s.tasks.length ∧ e 12 = vi i) _ _ _ _ _ ?_ ?_
  · rintro e ⟨g0, g1, g2, g3⟩
    exact ⟨_, (go43_0 _ _).trans (by simp [B43_0, push_cast, -Int.not_lt, -Int.not_le, ↓evI_call, ↓evI_calli, ↓evI_calln, ↓evI_callz, ↓evI_callv, ↓evI_mxn, loopIn, loopIn0, keepL, emp, A.dang, A.dangC, g0, g1, g2, g3, slI, slT, slP, St.c, Tk.c]; rfl), by simp [put_at, g0]⟩
  · rintro i e hi ⟨g0, g1, g2, g3⟩
    rw [go43_0]
    have hi' : (i : Int) < (s.tasks.length : Nat) := by omega
    have hw : IntKind.wrap .i64 ((i : Int) + 1) = (i : Int) + 1 := wrap_in _ (by omega) (by omega)
    have hst := itL_step s i
    rw [prT_is s i hi] at hst
    have hd := drop_tk s.tasks i hi
    have hln : (fl (itL s i)).length = i * 2 := by rw [fl_len, itL_len]
    have hsz : (i + 1) * 16 ≤ 70368744177664 := by omega
    rw [hst]
    generalize fl (itL s i) = F at *
    simp only [Tk.c, slP] at hd
    simp +contextual (maxSteps := 400000) [B43_0, push_cast, -Int.not_lt, -Int.not_le, ↓evI_call, ↓evI_calli, ↓evI_calln, ↓evI_callz, ↓evI_callv, ↓evI_mxn, loopIn, loopIn0, keepL, emp, A.dang, A.dangC, g0, g1, g2, g3, hi, hi', slI, slT, slP, St.c, Tk.c, hd, hw, hln, hsz, asList]
    (repeat' refine Step.split (fun cc => ?_) (fun cc => ?_)) <;> first | (refine Step.ret0 ?_ ?_ <;> first | (simp_all [put_at, eqz]; done) | (simp [put_at, *]; done) | ((try simp [eqz] at *); omega)) | (refine Step.go ?_ ?_ <;> first | (simp_all [put_at, eqz]; done) | (simp [put_at, *]; done) | ((try simp [eqz] at *); omega)) | (refine Step.ret _ ?_ ?_ <;> first | (simp_all [put_at, eqz]; done) | (simp [put_at, *]; done) | ((try simp [eqz] at *); omega)) | (refine Step.goJ _ (by simp) ?_ ?_ <;> first | (simp_all [put_at, eqz]; done) | (simp [put_at, *]; done) | ((try simp [eqz] at *); omega))
def idL (L : List It) (i : Nat) : List Int := (L.take i).map Prod.snd
theorem idL_step (L : List It) (i : Nat) (h : i < L.length) : idL L (i + 1) = idL L i ++ [L[i].2] := by
  unfold idL; rw [List.take_add_one, List.getElem?_eq_getElem h, List.map_append]; rfl
theorem drop_it (L : List It) (i : Nat) (h : i < L.length) : (fl L).drop (i * 2) = itc L[i] ++ fl (L.drop (i + 1)) := drop_flat _ 2 (fun _ => rfl) L i h
theorem ord_loop2 (s : St) (L : List It) (hL : L.length ≤ 9) :
    ∀ d i (e : Env), i + d = L.length → (e 6 = .sl ((idL L i).map vi) i 2 ∧ e 26 = .sl (fl L) L.length 0 ∧ e 27 = vi L.length ∧ e 28 = vi i) → ∃ zz, evL tab0 ext0 0 L43_2 (e, [St.c s]) = some zz ∧ FQ (fun _ => false) ([St.c s]) 2 (fun _ _ => True) (fun e => e 6 = .sl ((idL L L.length).map vi) L.length 2) i d zz := by
  refine fq_loop (St := fun i e => e 6 = .sl ((idL L i).map vi) i 2 ∧ e 26 = .sl (fl L) L.length 0 ∧ e 27 = vi L.length ∧ e 28 = vi i) _ _ _ _ _ ?_ ?_
  · rintro e ⟨g0, g1, g2, g3⟩
    exact ⟨_, (go43_2 _ _).trans (by simp [B43_2, push_cast, -Int.not_lt, -Int.not_le, ↓evI_call, ↓evI_calli, ↓evI_calln, ↓evI_callz, ↓evI_callv, ↓evI_mxn, loopIn, loopIn0, keepL, emp, A.dang, A.dangC, g0, g1, g2, g3, slI, slT, slP, St.c, Tk.c]; rfl), by simp [put_at, g0]⟩
  · rintro i e hi ⟨g0, g1, g2, g3⟩
    rw [go43_2]
    have hi' : (i : Int) < (L.length : Nat) := by omega
    have hw : IntKind.wrap .i64 ((i : Int) + 1) = (i : Int) + 1 := wrap_in _ (by omega) (by omega)
    have hst := idL_step L i hi
    have hd := drop_it L i hi
    have hln : (idL L i).length = i := by unfold idL; rw [List.length_map, List.length_take]; omega
    have hsz : (i + 1) * 8 ≤ 70368744177664 := by omega
    rw [hst]
    generalize idL L i = F at *
    simp only [itc] at hd
    generalize fl L = G at *
    simp +contextual (maxSteps := 400000) [B43_2, push_cast, -Int.not_lt, -Int.not_le, ↓evI_call, ↓evI_calli, ↓evI_calln, ↓evI_callz, ↓evI_callv, ↓evI_mxn, loopIn, loopIn0, keepL, emp, A.dang, A.dangC, g0, g1, g2, g3, hi, hi', slI, slT, slP, St.c, Tk.c, hd, hw, hln, hsz, asList]
    (repeat' refine Step.split (fun cc => ?_) (fun cc => ?_)) <;> first | (refine Step.ret0 ?_ ?_ <;> first | (simp_all [put_at, eqz]; done) | (simp [put_at, *]; done) | ((try simp [eqz] at *); omega)) | (refine Step.go ?_ ?_ <;> first | (simp_all [put_at, eqz]; done) | (simp [put_at, *]; done) | ((try simp [eqz] at *); omega)) | (refine Step.ret _ ?_ ?_ <;> first | (simp_all [put_at, eqz]; done) | (simp [put_at, *]; done) | ((try simp [eqz] at *); omega)) | (refine Step.goJ _ (by simp) ?_ ?_ <;> first | (simp_all [put_at, eqz]; done) | (simp [put_at, *]; done) | ((try simp [eqz] at *); omega))
theorem order_is (s : St) (hs : Sm s) : pureOf (callL tab0 ext0) false 43 [.agg (St.c s)] = some (slI (ordS s)) := by
  rw [pureOf_b, callL_tab _ _ rfl tab43 rfl]
  have hc := hs.tasks
  have h0 := ord_loop0 s hs s.tasks.length 0
  have h2 := ord_loop2 s (srtS s) (by rw [srtS_len]; exact hc) (srtS s).length 0
  have h1 := sort_is (itL s s.tasks.length) (by rw [itL_len]; omega)
  have e1 : srtL (itL s s.tasks.length) ((itL s s.tasks.length).length - 1) = srtS s := by rw [itL_len]; rfl
  rw [e1, itL_len] at h1
  have hlen := srtS_len s
  have e2 : idL (srtS s) (srtS s).length = ordS s := by unfold idL ordS; rw [List.take_length]
  have hol := ordS_len s
  have hm := fun bx d => plain_mapM (bx := bx) (d := d) (plain_vi (ordS s))
  rw [e2] at h2
  rw [hlen] at h2
  have e3 : fl (itL s 0) = [] := rfl
  have e4 : (idL (srtS s) 0).map vi = [] := rfl
  rw [e3] at h0
  rw [e4] at h2
  simp only [St.c, slI, slT] at h0 h2
  generalize fl (srtS s) = G at *
  generalize fl (itL s s.tasks.length) = F at *
  generalize ordS s = O at *
  simp [C43, push_cast, -Int.not_lt, -Int.not_le, ↓evI_call, ↓evI_calli, ↓evI_calln, ↓evI_callz, ↓evI_callv, ↓evI_mxn, St.c, slI, slT]
  refine behind (h0 _ (by omega) (by simp [put_at])) ?_
  intro a h
  obtain ⟨e', rfl, hx⟩ := h.never; clear h; have h := hx
  simp [push_cast, -Int.not_lt, -Int.not_le, ↓evI_call, ↓evI_calli, ↓evI_calln, ↓evI_callz, ↓evI_callv, ↓evI_mxn, h, h1]
  refine behind (h2 _ (by omega) (by simp [put_at])) ?_
  intro a h
  obtain ⟨e', rfl, hx⟩ := h.never; clear h; have h := hx
  simp [push_cast, -Int.not_lt, -Int.not_le, ↓evI_call, ↓evI_calli, ↓evI_calln, ↓evI_callz, ↓evI_callv, ↓evI_mxn, h, frzK, hm, hol]
/-! ### the reference's order -/
def refL (s : St) : Nat → List It
  | 0 => []
  | i + 1 => insP (refL s i).reverse (prT s i, (i : Int)) []
theorem refL_len (s : St) : ∀ i, (refL s i).length = i
  | 0 => rfl
  | i + 1 => by rw [refL, insP_len, List.length_reverse, refL_len s i]; rfl
theorem insP_append : ∀ (R : List It) (x : It) (U T : List It), insP R x (U ++ T) = insP R x U ++ T
  | [], x, U, T => rfl
  | a :: R, x, U, T => by
    unfold insP
    split
    · exact insP_append R x (a :: U) T
    · simp
theorem srt_ref (s : St) : ∀ i, i < s.tasks.length → srtL (itL s s.tasks.length) i = refL s (i + 1) ++ (itL s s.tasks.length).drop (i + 1)
  | 0, h => by
    have e : itL s s.tasks.length = (prT s 0, ((0 : Nat) : Int)) :: (itL s s.tasks.length).drop 1 := by
      have h0 : 0 < (itL s s.tasks.length).length := by rw [itL_len]; exact h
      have := List.drop_eq_getElem_cons h0
      rw [List.drop_zero] at this
      have e0 : (itL s s.tasks.length)[0] = (prT s 0, ((0 : Nat) : Int)) := by simp [itL]
      rw [e0] at this
      exact this
    show itL s s.tasks.length = [(prT s 0, ((0 : Nat) : Int))] ++ _
    exact e
  | i + 1, h => by
    have ih := srt_ref s i (by omega)
    have hl := refL_len s (i + 1)
    have hil := itL_len s s.tasks.length
    have hx : (itL s s.tasks.length)[i + 1]? = some (prT s (i + 1), ((i + 1 : Nat) : Int)) := by simp [itL, h]
    have ed : (itL s s.tasks.length).drop (i + 1) = (prT s (i + 1), ((i + 1 : Nat) : Int)) :: (itL s s.tasks.length).drop (i + 2) := by
      have hb : i + 1 < (itL s s.tasks.length).length := by omega
      rw [List.drop_eq_getElem_cons hb]
      congr 1
      rw [List.getElem?_eq_getElem hb] at hx
      exact Option.some.inj hx
    have hget : (srtL (itL s s.tasks.length) i)[i + 1]? = some (prT s (i + 1), ((i + 1 : Nat) : Int)) := by
      rw [ih, List.getElem?_append_right (by omega), hl, Nat.sub_self, List.getElem?_drop]
      exact hx
    rw [srtL, hget]
    simp only
    rw [ih]
    have t1 : (refL s (i + 1) ++ (itL s s.tasks.length).drop (i + 1)).take (i + 1) = refL s (i + 1) := List.take_left' hl
    have t2 : (refL s (i + 1) ++ (itL s s.tasks.length).drop (i + 1)).drop (i + 2) = (itL s s.tasks.length).drop (i + 2) := by
      rw [show i + 2 = (refL s (i + 1)).length + 1 by omega, ← List.drop_drop, List.drop_left, List.drop_drop, hl]
    rw [t1, t2]
    have := insP_append (refL s (i + 1)).reverse (prT s (i + 1), ((i + 1 : Nat) : Int)) [] ((itL s s.tasks.length).drop (i + 2))
    rw [List.nil_append] at this
    rw [this]
    rfl
theorem srt_is (s : St) : srtS s = refL s s.tasks.length := by
  unfold srtS
  by_cases h : s.tasks.length = 0
  · rw [h]; rfl
  · have := srt_ref s (s.tasks.length - 1) (by omega)
    rw [this, show s.tasks.length - 1 + 1 = s.tasks.length by omega, List.drop_of_length_le (by rw [itL_len]; exact Nat.le_refl _), List.append_nil]
def cntP : List It → It → Nat
  | [], _ => 0
  | a :: R, x => if x.1 < a.1 then cntP R x else R.length + 1
theorem cntP_le : ∀ (R : List It) (x : It), cntP R x ≤ R.length
  | [], _ => Nat.le_refl _
  | a :: R, x => by have := cntP_le R x; unfold cntP; split <;> simp <;> omega
theorem insP_cnt : ∀ (R : List It) (x : It) (T : List It), insP R x T = (R.reverse ++ T).take (cntP R x) ++ x :: (R.reverse ++ T).drop (cntP R x)
  | [], x, T => by simp [insP, cntP]
  | a :: R, x, T => by
    unfold insP cntP
    split
    · rw [insP_cnt R x (a :: T)]; simp
    · have h : (a :: R).reverse.length = R.length + 1 := by simp
      rw [← h, List.take_left, List.drop_left]; simp
/-- These are the tasks' numbers with their priorities. -/
def ItOk (s : St) (L : List It) : Prop := ∀ p ∈ L, ∃ k : Nat, k < s.tasks.length ∧ p = (prT s k, (k : Int))
theorem refL_ok (s : St) : ∀ i, i ≤ s.tasks.length → ItOk s (refL s i)
  | 0, _ => fun p hp => by cases hp
  | i + 1, h => by
    have ih := refL_ok s i (by omega)
    intro p hp
    rw [refL, insP_cnt] at hp
    rcases List.mem_append.1 hp with hp | hp
    · have := List.mem_of_mem_take hp; exact ih p (by simpa using this)
    · rcases List.mem_cons.1 hp with rfl | hp
      · exact ⟨i, by omega, rfl⟩
      · have := List.mem_of_mem_drop hp; exact ih p (by simpa using this)
theorem ro_loop2 (s : St) (hs : Sm s) (L : List It) (hL : ItOk s L) (hl9 : L.length ≤ 9) (i : Nat) (hi : i < s.tasks.length) : ∀ (R T : List It) (e : Env), L = R.reverse ++ T → e 1 = .ptr 0 0 → e 3 = .sl ((L.map Prod.snd).map vi) L.length 2 → e 4 = vi i → e 5 = vi R.length →
    ∃ e', evL tab0 ext0 0 L42_2 (e, [St.c s]) = some (.ex 2, e', [St.c s]) ∧ e' 1 = .ptr 0 0 ∧ e' 3 = .sl ((L.map Prod.snd).map vi) L.length 2 ∧ e' 4 = vi i ∧ e' 5 = vi (cntP R (prT s i, (i : Int))) := by
  have h9 := hs.tasks
  intro R
  induction R with
  | nil =>
    intro T e hLT h1 h3 h4 h5
    generalize (L.map Prod.snd).map vi = M at *
    refine ⟨_, (go42_2 _ _).trans (by simp [B42_2, push_cast, -Int.not_lt, -Int.not_le, ↓evI_call, ↓evI_calli, ↓evI_calln, ↓evI_callz, ↓evI_callv, ↓evI_mxn, loopIn, loopIn0, keepL, emp, A.dang, A.dangC, St.c, slI, slT, h1, h3, h4, h5]; rfl), by simp [put_at], by simp [put_at], by simp [put_at], by simp [put_at, cntP]⟩
  | cons a R ih =>
    intro T e hLT h1 h3 h4 h5
    have hm : a ∈ L := by rw [hLT]; simp
    obtain ⟨k, hk, hak⟩ := hL a hm
    have hlen : R.length + 1 ≤ L.length := by rw [hLT]; simp
    have hdr : ((L.map Prod.snd).map vi).drop R.length = vi a.2 :: (((a :: T).map Prod.snd).map vi).drop 1 := by
      rw [hLT]
      simp only [List.reverse_cons, List.append_assoc, List.cons_append, List.nil_append, List.map_append, List.map_cons]
      have e : R.length = ((R.reverse.map Prod.snd).map vi).length := by simp
      rw [e, List.drop_left]; rfl
    have ha2 : a.2 = (k : Int) := by rw [hak]
    have ha1 : a.1 = prT s k := by rw [hak]
    rw [ha2] at hdr
    have hdk := drop_tk s.tasks k hk
    have hdi := drop_tk s.tasks i hi
    have hj : IntKind.wrap .i64 ((R.length : Int) + 1 - 1) = R.length := by rw [wrap_in _ (by omega) (by omega)]; omega
    have hj2 : IntKind.wrap .i64 (R.length : Int) = R.length := wrap_in _ (by omega) (by omega)
    have h5' : e 5 = vi ((R.length : Int) + 1) := by rw [h5]; simp
    have q1 : (0 : Int) < (R.length : Int) + 1 := by omega
    have q2 : R.length < L.length := by omega
    have q3 : (R.length : Int) < L.length := by omega
    have hi2 : (i : Int) < s.tasks.length := by omega
    have hk2 : (k : Int) < s.tasks.length := by omega
    have q4 : (0 : Int) ≤ R.length := by omega
    have ih' := ih (a :: T)
    have hc1 := prT_is s i hi
    have hc2 := prT_is s k hk
    generalize hM : (L.map Prod.snd).map vi = M at *
    generalize (((a :: T).map Prod.snd).map vi).drop 1 = M2 at *
    simp only [Tk.c, slP] at hdk hdi
    by_cases hlt : s.tasks[i].prio < s.tasks[k].prio
    · have hcn : cntP (a :: R) (prT s i, (i : Int)) = cntP R (prT s i, (i : Int)) := by rw [cntP, if_pos (by rw [ha1, hc1, hc2]; exact hlt)]
      rw [hcn]
      obtain ⟨e2', k3, k4⟩ := ih' (put 5 (vi R.length) (put 1 (.ptr 0 0) (put 3 (.sl M L.length 2) (put 4 (vi i) emp)))) (by rw [hLT]; simp) (by simp [put_at]) (by simp [put_at]) (by simp [put_at]) (by simp [put_at])
      refine ⟨e2', ?_, k4⟩
      rw [← k3]
      refine (go42_2 _ _).trans ?_
      simp [B42_2, push_cast, -Int.not_lt, -Int.not_le, ↓evI_call, ↓evI_calli, ↓evI_calln, ↓evI_callz, ↓evI_callv, ↓evI_mxn, loopIn, loopIn0, keepL, emp, A.dang, A.dangC, St.c, slI, slT, h1, h3, h4, h5', hj, hj2, q1, q2, q3, q4, hi, hi2, hk, hk2, hdr, hdk, hdi, hlt]
      exact loop_env (by simp [put_at])
    · have hcn : cntP (a :: R) (prT s i, (i : Int)) = R.length + 1 := by rw [cntP, if_neg (by rw [ha1, hc1, hc2]; exact hlt)]
      rw [hcn]
      refine ⟨_, (go42_2 _ _).trans (by simp [B42_2, push_cast, -Int.not_lt, -Int.not_le, ↓evI_call, ↓evI_calli, ↓evI_calln, ↓evI_callz, ↓evI_callv, ↓evI_mxn, loopIn, loopIn0, keepL, emp, A.dang, A.dangC, St.c, slI, slT, h1, h3, h4, h5', hj, hj2, q1, q2, q3, q4, hi, hi2, hk, hk2, hdr, hdk, hdi, hlt]; rfl), by simp [put_at], by simp [put_at], by simp [put_at], by simp [put_at]⟩
def idsR (s : St) (i : Nat) : List A := ((refL s i).map Prod.snd).map vi
theorem idsR_len (s : St) (i : Nat) : (idsR s i).length = i := by unfold idsR; rw [List.length_map, List.length_map, refL_len]
theorem idsR_step (s : St) (i : Nat) : idsR s (i + 1) = (idsR s i).take (cntP (refL s i).reverse (prT s i, (i : Int))) ++ vi i :: (idsR s i).drop (cntP (refL s i).reverse (prT s i, (i : Int))) := by
  unfold idsR
  rw [refL, insP_cnt, List.reverse_reverse, List.append_nil]
  simp
def EXN {α : Type} (Q : α → Prop) (r : Option α) : Prop := ∃ zz, r = some zz ∧ Q zz
def RoQ (s : St) (zz : Out × Env × Bx) : Prop := ∃ e', zz = (.ex 0, e', [[vi s.proto, .sl (s.cores.map vi) s.cores.length 0, .sl (s.homes.map vi) s.homes.length 0, .sl (s.tasks.flatMap Tk.c) s.tasks.length 0]]) ∧ e' 3 = .sl (idsR s s.tasks.length) s.tasks.length 2
theorem ro_loop0 (s : St) (hs : Sm s) : ∀ (d i : Nat) (e : Env), i + d = s.tasks.length → e 1 = .ptr 0 0 → e 3 = .sl (idsR s i) i 2 → e 4 = vi i →
    EXN (RoQ s) (evL tab0 ext0 0 L42_0 (e, [[vi s.proto, .sl (s.cores.map vi) s.cores.length 0, .sl (s.homes.map vi) s.homes.length 0, .sl (s.tasks.flatMap Tk.c) s.tasks.length 0]])) := by
  have h9 := hs.tasks
  intro d
  induction d with
  | zero =>
    intro i e hi h1 h3 h4
    obtain rfl : i = s.tasks.length := by omega
    unfold RoQ
    generalize idsR s s.tasks.length = M at *
    exact ⟨_, (go42_0 _ _).trans (by simp [B42_0, push_cast, -Int.not_lt, -Int.not_le, ↓evI_call, ↓evI_calli, ↓evI_calln, ↓evI_callz, ↓evI_callv, ↓evI_mxn, loopIn, loopIn0, keepL, emp, A.dang, A.dangC, St.c, slI, slT, h1, h3, h4]; rfl), _, rfl, by simp [put_at]⟩
  | succ d ih =>
    intro i e hi h1 h3 h4
    have hi1 : i < s.tasks.length := by omega
    have hi2 : (i : Int) < s.tasks.length := by omega
    have hlr := refL_len s i
    have hin := fun e => ro_loop2 s hs (refL s i) (refL_ok s i (by omega)) (by omega) i hi1 (refL s i).reverse [] e (by simp)
    rw [List.length_reverse, hlr] at hin
    have hst := idsR_step s i
    have hc := cntP_le (refL s i).reverse (prT s i, (i : Int))
    rw [List.length_reverse, hlr] at hc
    have hml := idsR_len s i
    have ih' := ih (i + 1)
    have hids : ((refL s i).map Prod.snd).map vi = idsR s i := rfl
    rw [hst] at ih'
    rw [hids] at hin
    generalize idsR s i = M at *
    generalize cntP (refL s i).reverse (prT s i, (i : Int)) = c at *
    have hw : IntKind.wrap .i64 ((i : Int) + 1) = (i : Int) + 1 := wrap_in _ (by omega) (by omega)
    have q1 : (c : Int) ≤ i := by omega
    have t1 : (M.drop c).take (i - c) = M.drop c := List.take_of_length_le (by rw [List.length_drop]; omega)
    have l1 : (M.take c).length = c := by rw [List.length_take]; omega
    have l2 : (M.drop c).length = i - c := by rw [List.length_drop]; omega
    have b1 : c * 8 ≤ 70368744177664 := by omega
    have b2 : (c + 1) * 8 ≤ 70368744177664 := by omega
    have b3 : (c + 1 + (i - c)) * 8 ≤ 70368744177664 := by omega
    have b4 : c + 1 + (i - c) = i + 1 := by omega
    have b5 : (i + 1) * 8 ≤ 70368744177664 := by omega
    have b6 : min c M.length = c := by omega
    have b7 : min c i = c := by omega
    simp only [St.c, slI, slT] at hin
    have hin2 : ∀ e : Env, e 1 = .ptr 0 0 → e 3 = .sl M i 2 → e 4 = vi i → e 5 = vi i → ∃ zz, evL tab0 ext0 0 L42_2 (e, [[vi s.proto, .sl (s.cores.map vi) s.cores.length 0, .sl (s.homes.map vi) s.homes.length 0, .sl (s.tasks.flatMap Tk.c) s.tasks.length 0]]) = some zz ∧ ∃ e' : Env, zz = (.ex 2, e', [[vi s.proto, .sl (s.cores.map vi) s.cores.length 0, .sl (s.homes.map vi) s.homes.length 0, .sl (s.tasks.flatMap Tk.c) s.tasks.length 0]]) ∧ e' 1 = .ptr 0 0 ∧ e' 3 = .sl M i 2 ∧ e' 4 = vi i ∧ e' 5 = vi c := fun e a b c d => by
      obtain ⟨e', k1, k2⟩ := hin e a b c d
      exact ⟨_, k1, e', rfl, k2⟩
    rw [go42_0]
    simp [B42_0, push_cast, -Int.not_lt, -Int.not_le, ↓evI_call, ↓evI_calli, ↓evI_calln, ↓evI_callz, ↓evI_callv, ↓evI_mxn, loopIn, loopIn0, keepL, emp, A.dang, A.dangC, h1, h3, h4, hi1, hi2]
    refine behindP (P := EXN _) (hin2 _ (by simp [put_at]) (by simp [put_at]) (by simp [put_at]) (by simp [put_at])) ?_
    rintro _ ⟨e', rfl, k1, k3, k4, k5⟩
    simp [push_cast, -Int.not_lt, -Int.not_le, ↓evI_call, ↓evI_calli, ↓evI_calln, ↓evI_callz, ↓evI_callv, ↓evI_mxn, k1, k3, k4, k5, hw, q1, hc, hml, t1, l1, l2, b1, b2, b3, b4, b5, b6, b7, asList]
    apply ih'
    all_goals first | omega | (simp [put_at, k1, k3, k4, k5]; done)
theorem refOrder_is (s : St) (hs : Sm s) : pureOf (callL tab0 ext0) false 42 [.agg (St.c s)] = some (slI (ordS s)) := by
  rw [pureOf_b, callL_tab _ _ rfl tab42 rfl]
  have h0 := ro_loop0 s hs s.tasks.length 0
  have e0 : idsR s 0 = [] := rfl
  rw [e0] at h0
  have e1 : idsR s s.tasks.length = (ordS s).map vi := by unfold idsR ordS; rw [srt_is]
  have hol := ordS_len s
  have hm := fun bx d => plain_mapM (bx := bx) (d := d) (plain_vi (ordS s))
  unfold RoQ at h0
  rw [e1] at h0
  generalize ordS s = O at *
  simp [C42, push_cast, -Int.not_lt, -Int.not_le, ↓evI_call, ↓evI_calli, ↓evI_calln, ↓evI_callz, ↓evI_callv, ↓evI_mxn, St.c, slI, slT]
  refine behind (h0 _ (by omega) (by simp [put_at]) (by simp [put_at]) (by simp [put_at])) ?_
  rintro _ ⟨e', rfl, h⟩
  simp [push_cast, -Int.not_lt, -Int.not_le, ↓evI_call, ↓evI_calli, ↓evI_calln, ↓evI_callz, ↓evI_callv, ↓evI_mxn, h, frzK, hm, hol]
/-! ### tasks in an order -/
def tkAt (s : St) (n : Int) : Tk := (s.tasks[n.toNat]?).getD ⟨⟨#[]⟩, 0, 0, 0, 0, []⟩
def pkS (s : St) (o : List Int) : St := ⟨s.proto, s.cores, s.homes, o.map (tkAt s)⟩
def OrdOk (s : St) (o : List Int) : Prop := ∀ x ∈ o, ∃ k : Nat, x = k ∧ k < s.tasks.length
theorem ordS_ok (s : St) : OrdOk s (ordS s) := by
  intro x hx
  unfold ordS at hx
  rw [srt_is] at hx
  obtain ⟨p, hp, rfl⟩ := List.mem_map.1 hx
  obtain ⟨k, hk, rfl⟩ := refL_ok s _ (Nat.le_refl _) p hp
  exact ⟨k, rfl, hk⟩
def pkC (s : St) (o : List Int) (i : Nat) : List A := ((o.take i).map (tkAt s)).flatMap Tk.c
theorem pkC_len (s : St) (o : List Int) (i : Nat) (h : i ≤ o.length) : (pkC s o i).length = i * 6 := by
  unfold pkC; rw [len_tk, List.length_map, List.length_take]; congr 1; omega
theorem pkC_step (s : St) (o : List Int) (i : Nat) (h : i < o.length) (k : Nat) (hk : o[i] = k) (hk2 : k < s.tasks.length) : pkC s o (i + 1) = pkC s o i ++ Tk.c s.tasks[k] := by
  have e : tkAt s o[i] = s.tasks[k] := by unfold tkAt; rw [hk]; simp [hk2]
  unfold pkC
  rw [List.take_add_one, List.getElem?_eq_getElem h, List.map_append, List.flatMap_append]
  simp [e]
theorem pkC_all (s : St) (o : List Int) : pkC s o o.length = (pkS s o).tasks.flatMap Tk.c := by unfold pkC pkS; rw [List.take_length]
theorem pkC_plain (s : St) (o : List Int) (i : Nat) : (pkC s o i).all A.plain = true := plain_tk _
def bxP (s : St) (F : List A) (i : Nat) : Bx := [[vi s.proto, .sl (s.cores.map vi) s.cores.length 0, .sl (s.homes.map vi) s.homes.length 0, .sl (s.tasks.flatMap Tk.c) s.tasks.length 0], [vi 0, .sl [] 0 2, .sl [] 0 2, .sl [] 0 2], [vi s.proto, .sl (s.cores.map vi) s.cores.length 0, .sl (s.homes.map vi) s.homes.length 0, .sl F i 2]]
theorem wi_own (s : St) (e : Env) : evL tab0 ext0 0 L45_0 (e, [[vi s.proto, .sl (s.cores.map vi) s.cores.length 0, .sl (s.homes.map vi) s.homes.length 0, .sl (s.tasks.flatMap Tk.c) s.tasks.length 0], [vi 0, .sl [] 0 1, .sl [] 0 1, .sl [] 0 1], [vi s.proto, .sl (s.cores.map vi) s.cores.length 0, .sl (s.homes.map vi) s.homes.length 0, .sl [] 0 1]]) = evL tab0 ext0 0 L45_0 (e, bxP s [] 0) := by
  rw [go45_0, go45_0]
  congr 1
def WiQ (s : St) (o : List Int) (zz : Out × Env × Bx) : Prop := ∃ e', zz = (.ex 0, e', bxP s (pkC s o o.length) o.length) ∧ e' 4 = .ptr 1 0 ∧ e' 5 = .ptr 2 0
theorem wi_loop (s : St) (hs : Sm s) (o : List Int) (ho : OrdOk s o) (hl : o.length ≤ 9) : ∀ (d i : Nat) (e : Env), i + d = o.length → e 1 = slI o → e 2 = .ptr 0 0 → e 4 = .ptr 1 0 → e 5 = .ptr 2 0 → e 6 = vi i →
    EXN (WiQ s o) (evL tab0 ext0 0 L45_0 (e, bxP s (pkC s o i) i)) := by
  have h9 := hs.tasks
  intro d
  induction d with
  | zero =>
    intro i e hi h1 h2 h4 h5 h6
    obtain rfl : i = o.length := by omega
    unfold WiQ
    generalize pkC s o o.length = F at *
    unfold bxP
    exact ⟨_, (go45_0 _ _).trans (by simp [B45_0, push_cast, -Int.not_lt, -Int.not_le, ↓evI_call, ↓evI_calli, ↓evI_calln, ↓evI_callz, ↓evI_callv, ↓evI_mxn, loopIn, loopIn0, keepL, emp, A.dang, A.dangC, slI, h1, h2, h4, h5, h6]; rfl), _, rfl, by simp [put_at], by simp [put_at]⟩
  | succ d ih =>
    intro i e hi h1 h2 h4 h5 h6
    have hi1 : i < o.length := by omega
    have hi2 : (i : Int) < o.length := by omega
    have hw : IntKind.wrap .i64 ((i : Int) + 1) = (i : Int) + 1 := wrap_in _ (by omega) (by omega)
    obtain ⟨k, hk, hk2⟩ := ho _ (List.getElem_mem hi1)
    have hk3 : (k : Int) < s.tasks.length := by omega
    have hdo := drop_int o i hi1
    rw [hk] at hdo
    have hdk := drop_tk s.tasks k hk2
    have hst := pkC_step s o i hi1 k hk hk2
    have hln := pkC_len s o i (by omega)
    have hsz : (i + 1) * 72 ≤ 70368744177664 := by omega
    have ih' := ih (i + 1)
    rw [hst] at ih'
    generalize pkC s o i = F at *
    simp only [Tk.c, slP] at hdk ih'
    unfold bxP at ih' ⊢
    rw [go45_0]
    simp [B45_0, push_cast, -Int.not_lt, -Int.not_le, ↓evI_call, ↓evI_calli, ↓evI_calln, ↓evI_callz, ↓evI_callv, ↓evI_mxn, loopIn, loopIn0, keepL, emp, A.dang, A.dangC, slI, h1, h2, h4, h5, h6, hi1, hi2, hw, hk2, hk3, hdo, hdk, hln, hsz, asList]
    apply ih'
    all_goals first | omega | (simp [put_at, slI]; done)
theorem with_is (s : St) (hs : Sm s) (o : List Int) (ho : OrdOk s o) (hl : o.length ≤ 9) : pureOf (callL tab0 ext0) false 45 [.agg (St.c s), slI o] = some (.agg (St.c (pkS s o))) := by
  rw [pureOf_b, callL_tab _ _ rfl tab45 rfl]
  have h0 := fun e => wi_loop s hs o ho hl o.length 0 e (by omega)
  have e0 : pkC s o 0 = [] := rfl
  rw [e0] at h0
  simp only [← wi_own] at h0
  have e1 := pkC_all s o
  have hc : St.c (pkS s o) = [vi s.proto, slI s.cores, slI s.homes, .sl (pkC s o o.length) o.length 0] := by
    rw [e1]
    show [vi s.proto, slI s.cores, slI s.homes, slT (pkS s o).tasks] = _
    unfold slT pkS
    rw [List.length_map]
  rw [hc]
  unfold WiQ at h0
  generalize pkC s o o.length = F at *
  simp only [St.c, slI, slT, bxP] at *
  simp [C45, push_cast, -Int.not_lt, -Int.not_le, ↓evI_call, ↓evI_calli, ↓evI_calln, ↓evI_callz, ↓evI_callv, ↓evI_mxn]
  refine behind (h0 _ (by simp [put_at]) (by simp [put_at]) (by simp [put_at]) (by simp [put_at]) (by simp [put_at])) ?_
  rintro _ ⟨e', rfl, h4, h5⟩
  simp [push_cast, -Int.not_lt, -Int.not_le, ↓evI_call, ↓evI_calli, ↓evI_calln, ↓evI_callz, ↓evI_callv, ↓evI_mxn, h4, h5, frzK]
end Go.Proofs.YtkohggddaheefaaEv
