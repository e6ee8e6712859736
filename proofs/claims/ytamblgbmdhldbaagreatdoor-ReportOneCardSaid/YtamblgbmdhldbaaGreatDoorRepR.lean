/- The lines that are told: the reference's; texts that are one. -/
import Derived.Test.YtamblgbmdhldbaaGreatDoorRepRef
set_option linter.unusedSimpArgs false
set_option linter.unusedVariables false
namespace Go.Proofs.YtamblgbmdhldbaaGreatDoorEv
open Go
set_option maxHeartbeats 2000000
theorem rp_loop2 (s : St) (v : Vd) (t : Tk) (b : Int) (ws : List Int) (O : List A) (m f : Nat) (os : List Nat) (n : Nat) (hos : os.length = n) (a j : Nat) (hn : t.name.size ≤ 20) (hp : t.parts.length ≤ 10) (hw : ws.length = t.parts.length) (ha : os[a]? = some j) (hj : j < v.waits.length) (hws : v.waits[j] = ws) :
    ∀ (d k : Nat) (e : Env), k + d = t.parts.length → e 1 = .ptr 0 0 → e 6 = .ptr 1 0 → e 8 = .sl O m f → e 9 = .sl (nl os) n 0 → e 10 = vi a → e 11 = .ptr 2 0 → e 12 = vs (lnL t b ws k) → e 13 = vi k →
    ∃ e', evL tab0 ext5 0 L10_2 (e, [St.c s, Vd.c v, Tk.c t]) = some (.ex 2, e', [St.c s, Vd.c v, Tk.c t]) ∧ e' 1 = .ptr 0 0 ∧ e' 6 = .ptr 1 0 ∧ e' 8 = .sl O m f ∧ e' 9 = .sl (nl os) n 0 ∧ e' 10 = vi a ∧ e' 12 = vs (lineS t b ws) := by
  obtain ⟨D0, g0⟩ := nl_get ha
  have hll : (nl os).length = n := by rw [nl_len]; exact hos
  have han : a < n := by rw [← hos]; exact (List.getElem?_eq_some_iff.1 ha).1
  have d3 := drop_slW' v.waits j hj
  rw [hws] at d3
  have k3 : (j : Int) < v.waits.length := by omega
  have k4 : (a : Int) < n := by omega
  intro d
  induction d with
  | zero =>
    intro k e hk h1 h6 h8 h9 h10 h11 h12 h13
    obtain rfl : k = t.parts.length := by omega
    unfold lineS
    generalize lnL t b ws t.parts.length = X at *
    generalize nl os = B at *
    exact ⟨_, (go10_2 _ _).trans (by simp [B10_2, push_cast, -Int.not_lt, -Int.not_le, ↓evI_call, ↓evI_calli, ↓evI_callz, ↓evI_callv, ↓evI_mxn, loopIn, loopIn0, keepL, emp, A.dang, A.dangC, St.c, Vd.c, Tk.c, slI, slT, slW, slP, h1, h6, h8, h9, h10, h11, h12, h13]; rfl), by simp [put_at]⟩
  | succ d ih =>
    intro k e hk h1 h6 h8 h9 h10 h11 h12 h13
    have hkl : k < t.parts.length := by omega
    have hkw : k < ws.length := by omega
    have dp := drop_pt t.parts k hkl
    have dw := drop_int ws k hkw
    have e1 : t.parts[k]? = some t.parts[k] := List.getElem?_eq_getElem hkl
    have e2 : ws.getD k 0 = ws[k] := by simp [List.getD, hkw]
    have hsz := lnL_size t b ws hn k
    have q1 : IntKind.wrap .i64 ((k : Int) + 1) = ((k + 1 : Nat) : Int) := by rw [wrap_in _ (by omega) (by omega)]; omega
    have q2 : (k : Int) < t.parts.length := by omega
    have q3 : (k : Int) < ws.length := by omega
    obtain ⟨e', r1, r2⟩ := ih (k + 1) (put 13 (vi ((k + 1 : Nat) : Int)) (put 12 (vs (lnL t b ws (k + 1))) (put 1 (.ptr 0 0) (put 6 (.ptr 1 0) (put 8 (.sl O m f) (put 9 (.sl (nl os) n 0) (put 10 (vi a) (put 11 (.ptr 2 0) emp)))))))) (by omega) (by simp [put_at]) (by simp [put_at]) (by simp [put_at]) (by simp [put_at]) (by simp [put_at]) (by simp [put_at]) (by simp [put_at]) (by simp [put_at])
    refine ⟨e', ?_, r2⟩
    rw [← r1]
    refine (go10_2 _ _).trans ?_
    have ht := textR ws[k]
    have hts := txt_size ws[k]
    have hsp : (⟨#[32]⟩ : ByteArray).size = 1 := rfl
    have el : lnL t b ws (k + 1) = if t.parts[k].kind = 3 then (lnL t b ws k ++ spB) ++ txt ws[k] else lnL t b ws k := by
      rw [lnL, e1, e2, ba_assoc]
    rw [el]
    have z1 : (lnL t b ws k).size + (⟨#[32]⟩ : ByteArray).size ≤ 70368744177664 := by omega
    have z2 : (lnL t b ws k).size + (⟨#[32]⟩ : ByteArray).size + (txt ws[k]).size ≤ 70368744177664 := by omega
    unfold spB
    clear el e1 e2 r1 r2 ih hts hsp hsz
    generalize lnL t b ws k = X at *
    generalize txt ws[k] = Y at *
    generalize ws[k] = w at *
    simp only [Pt.c] at dp
    generalize (t.parts.drop (k + 1)).flatMap Pt.c = D1 at *
    generalize (ws.drop (k + 1)).map vi = D2 at *
    generalize ((k + 1 : Nat) : Int) = z at *
    generalize nl os = B at *
    simp only [slI] at d3
    by_cases hkk : t.parts[k].kind = 3
    · simp only [hkk, if_true]
      simp [B10_2, push_cast, -Int.not_lt, -Int.not_le, ↓evI_call, ↓evI_calli, ↓evI_callz, ↓evI_callv, ↓evI_mxn, loopIn, loopIn0, keepL, emp, A.dang, A.dangC, St.c, Vd.c, Tk.c, slI, slT, slW, slP, h1, h6, h8, h9, h10, h11, h12, h13, g0, hll, han, d3, dp, dw, q1, q2, q3, k3, k4, hj, hkl, hkw, hkk, ht, eqz, z1, z2]
      exact loop_env (by simp [put_at])
    · simp only [hkk, if_false]
      simp [B10_2, push_cast, -Int.not_lt, -Int.not_le, ↓evI_call, ↓evI_calli, ↓evI_callz, ↓evI_callv, ↓evI_mxn, loopIn, loopIn0, keepL, emp, A.dang, A.dangC, St.c, Vd.c, Tk.c, slI, slT, slW, slP, h1, h6, h8, h9, h10, h11, h12, h13, g0, hll, han, d3, dp, dw, q1, q2, q3, k3, k4, hj, hkl, hkw, hkk, eqz]
      exact loop_env (by simp [put_at])
theorem rp_loop0 (s : St) (hs : Sm s) (v : Vd) (hv : VdOk s v) (n : Nat) (hN : s.tasks.length = n) (os : List Nat) (hos : os.length = n) (hm : ∀ i ∈ os, i < n) : ∀ (d i g : Nat) (e : Env), i + d = n → (g = 1 ∨ g = 2) → e 1 = .ptr 0 0 → e 6 = .ptr 1 0 → e 8 = .sl (tolS s v (os.take i)) (i + 1) g → e 9 = .sl (nl os) n 0 → e 10 = vi i →
    ∃ e', evL tab0 ext5 0 L10_0 (e, [St.c s, Vd.c v]) = some (.ex 0, e', [St.c s, Vd.c v]) ∧ ∃ g', e' 8 = .sl (tolS s v os) (n + 1) g' := by
  have hn := hs.tasks
  rw [hN] at hn
  have hll : (nl os).length = n := by rw [nl_len]; exact hos
  intro d
  induction d with
  | zero =>
    intro i g e hi hg h1 h6 h8 h9 h10
    obtain rfl : i = n := by omega
    rw [List.take_of_length_le (by omega)] at h8
    generalize nl os = B at *
    generalize tolS s v os = O at *
    rcases hg with rfl | rfl <;> exact ⟨_, (go10_0 _ _).trans (by simp [B10_0, push_cast, -Int.not_lt, -Int.not_le, ↓evI_call, ↓evI_calli, ↓evI_callz, ↓evI_callv, ↓evI_mxn, loopIn, loopIn0, keepL, emp, A.dang, A.dangC, St.c, Vd.c, slI, slT, slW, h1, h6, h8, h9, h10]; rfl), by simp [put_at]⟩
  | succ d ih =>
    intro i g e hi hg h1 h6 h8 h9 h10
    have hil : i < n := by omega
    have hj0 : os[i]? = some os[i] := List.getElem?_eq_getElem (by omega)
    have e1 : os.take (i + 1) = os.take i ++ [os[i]] := by rw [List.take_add_one, hj0]; rfl
    have ho := tolS_snoc s v (os.take i) os[i]
    rw [← e1] at ho
    obtain ⟨D0, g0⟩ := nl_get hj0
    have hjm := hm os[i] (List.getElem_mem _)
    have hol := tolS_len s v (os.take i)
    rw [List.length_take, show min i os.length = i by omega] at hol
    generalize os[i] = j at *
    have hjt : j < s.tasks.length := by omega
    have hjb : j < v.bounds.length := by have := hv.bounds; omega
    have hjw : j < v.waits.length := by have := hv.waits; omega
    have hlo : lineOf s v j = lineS s.tasks[j] v.bounds[j] v.waits[j] := by
      unfold lineOf
      rw [List.getElem?_eq_getElem hjt]
      show lineS s.tasks[j] (bAt v.bounds j) (v.waits.getD j []) = _
      rw [bAt_is _ _ hjb]
      congr 1
      simp [List.getD, hjw]
    have hwl : v.waits[j].length = s.tasks[j].parts.length := by
      have := hv.wait j hjt
      rwa [show v.waits.getD j [] = v.waits[j] by simp [List.getD, hjw]] at this
    have hnm := hs.names _ (List.getElem_mem hjt)
    have hpt := hs.parts _ (List.getElem_mem hjt)
    have hlp := fun (O : List A) (m f : Nat) (e : Env) (h : e 1 = .ptr 0 0 ∧ e 6 = .ptr 1 0 ∧ e 8 = .sl O m f ∧ e 9 = .sl (nl os) n 0 ∧ e 10 = vi i ∧ e 11 = .ptr 2 0 ∧ e 12 = vs (lnL s.tasks[j] v.bounds[j] v.waits[j] 0) ∧ e 13 = vi ((0 : Nat) : Int)) =>
      exA (rp_loop2 s v s.tasks[j] v.bounds[j] v.waits[j] O m f os n hos i j hnm hpt hwl hj0 hjw rfl s.tasks[j].parts.length 0 e (by omega) h.1 h.2.1 h.2.2.1 h.2.2.2.1 h.2.2.2.2.1 h.2.2.2.2.2.1 h.2.2.2.2.2.2.1 h.2.2.2.2.2.2.2)
    rw [hlo] at ho
    have d1 := drop_tk s.tasks j hjt
    have d2 := drop_int v.bounds j hjb
    have hl6 := len_tk s.tasks
    have q1 : IntKind.wrap .i64 ((i : Int) + 1) = ((i + 1 : Nat) : Int) := by rw [wrap_in _ (by omega) (by omega)]; omega
    have q2 : (i : Int) < n := by omega
    have k1 : (j : Int) < s.tasks.length := by omega
    have k2 : (j : Int) < v.bounds.length := by omega
    have k4 : j * 6 + 6 ≤ s.tasks.length * 6 := by omega
    have k5 : (i + 1 + 1) * 16 ≤ 70368744177664 := by omega
    have t1 := textR v.bounds[j]
    have t2 := textR s.tasks[j].deadline
    have s1 := txt_size v.bounds[j]
    have s2 := txt_size s.tasks[j].deadline
    have hsp : (⟨#[32]⟩ : ByteArray).size = 1 := rfl
    have e0 : lnL s.tasks[j] v.bounds[j] v.waits[j] 0 = (((s.tasks[j].name ++ ⟨#[32]⟩) ++ txt v.bounds[j]) ++ ⟨#[32]⟩) ++ txt s.tasks[j].deadline := rfl
    have z1 : s.tasks[j].name.size + (⟨#[32]⟩ : ByteArray).size ≤ 70368744177664 := by omega
    have z2 : s.tasks[j].name.size + (⟨#[32]⟩ : ByteArray).size + (txt v.bounds[j]).size ≤ 70368744177664 := by omega
    have z3 : s.tasks[j].name.size + (⟨#[32]⟩ : ByteArray).size + (txt v.bounds[j]).size + (⟨#[32]⟩ : ByteArray).size ≤ 70368744177664 := by omega
    have z4 : s.tasks[j].name.size + (⟨#[32]⟩ : ByteArray).size + (txt v.bounds[j]).size + (⟨#[32]⟩ : ByteArray).size + (txt s.tasks[j].deadline).size ≤ 70368744177664 := by omega
    rw [e0] at hlp
    obtain ⟨e', r1, r2⟩ := ih (i + 1) 2 (put 10 (vi ((i + 1 : Nat) : Int)) (put 8 (.sl (tolS s v (os.take (i + 1))) (i + 1 + 1) 2) (put 1 (.ptr 0 0) (put 6 (.ptr 1 0) (put 9 (.sl (nl os) n 0) emp))))) (by omega) (.inr rfl) (by simp [put_at]) (by simp [put_at]) (by simp [put_at]) (by simp [put_at]) (by simp [put_at])
    refine ⟨e', ?_, r2⟩
    rw [← r1, ho]
    refine (go10_0 _ _).trans ?_
    clear s1 s2 hsp e0 hnm hlo ih r1 ho
    generalize tolS s v (os.take i) = O at *
    generalize lineS s.tasks[j] v.bounds[j] v.waits[j] = X at *
    generalize txt v.bounds[j] = Y1 at *
    generalize txt s.tasks[j].deadline = Y2 at *
    generalize hS : (⟨#[32]⟩ : ByteArray) = S at *
    generalize hNm : (((s.tasks[j].name ++ S) ++ Y1) ++ S) ++ Y2 = N4 at *
    generalize nl os = B at *
    generalize ((i + 1 : Nat) : Int) = z at *
    simp only [St.c, Vd.c, Tk.c, slI, slT, slW, slP] at d1 hlp
    rcases hg with rfl | rfl
    · simp [B10_0, push_cast, -Int.not_lt, -Int.not_le, ↓evI_call, ↓evI_calli, ↓evI_callz, ↓evI_callv, ↓evI_mxn, loopIn, loopIn0, keepL, emp, A.dang, A.dangC, St.c, Vd.c, slI, slT, slW, h1, h6, h8, h9, h10, g0, hll, hil, hol, d1, d2, hl6, q1, q2, k1, k2, k4, hS, t1, t2, z1, z2, z3, z4, hNm]
      refine behind (hlp O (i + 1) 1 _ (by simp [put_at])) ?_
      rintro _ ⟨e2, rfl, k1, k6, k8, k9, k10, k12⟩
      simp [push_cast, -Int.not_lt, -Int.not_le, ↓evI_call, ↓evI_calli, ↓evI_callz, ↓evI_callv, ↓evI_mxn, asList, k1, k6, k8, k9, k10, k12, hol, k5, q1]
      refine (loop_junk (bx := [_, _]) (nb := 0) (kb := 2) _ (by simp) _).trans ?_
      exact loop_env (by simp [put_at, k1, k6, k9])
    · simp [B10_0, push_cast, -Int.not_lt, -Int.not_le, ↓evI_call, ↓evI_calli, ↓evI_callz, ↓evI_callv, ↓evI_mxn, loopIn, loopIn0, keepL, emp, A.dang, A.dangC, St.c, Vd.c, slI, slT, slW, h1, h6, h8, h9, h10, g0, hll, hil, hol, d1, d2, hl6, q1, q2, k1, k2, k4, hS, t1, t2, z1, z2, z3, z4, hNm]
      refine behind (hlp O (i + 1) 2 _ (by simp [put_at])) ?_
      rintro _ ⟨e2, rfl, k1, k6, k8, k9, k10, k12⟩
      simp [push_cast, -Int.not_lt, -Int.not_le, ↓evI_call, ↓evI_calli, ↓evI_callz, ↓evI_callv, ↓evI_mxn, asList, k1, k6, k8, k9, k10, k12, hol, k5, q1]
      refine (loop_junk (bx := [_, _]) (nb := 0) (kb := 2) _ (by simp) _).trans ?_
      exact loop_env (by simp [put_at, k1, k6, k9])
theorem it_code (s : St) : ∀ (k : Nat) (bs : List Int), (itS s k bs).2 = 0 ∨ (itS s k bs).2 = 19 ∨ (itS s k bs).2 = 20
  | 0, _ => .inr (.inr rfl)
  | k + 1, bs => by
    rw [itS]
    split
    · exact .inr (.inl rfl)
    · split
      · exact .inl rfl
      · exact it_code s k _
theorem an_code {s : St} (ho : okS s = true) : (anS s).2 = 0 ∨ (anS s).2 = 19 ∨ (anS s).2 = 20 := by
  unfold anS
  rw [if_pos ho]
  split
  · exact .inl rfl
  · exact it_code s _ _
theorem reportR_is (s : St) (hs : Sm s) : pureOf (callL tab0 ext5) false 10 [.agg (St.c s)] = some (.tup [slS (linesS s).1, vi (linesS s).2]) := by
  rw [pureOf_b, callL_tab _ _ rfl tab10 rfl]
  have h1 := pure5 (pure1 (pure_tup2 (k := false) (checkR_is s hs.fits)))
  have h2 := pure5 (analyzeR_is s hs)
  unfold linesS
  rcases (Bool.eq_false_or_eq_true (okS s)).symm with ho | ho
  · rw [if_neg (by simp [ho])]
    have c1 : eqz (chk s).2 0 = false := ho
    generalize (chk s).2 = z at *
    generalize (chk s).1 = y at *
    simp only [St.c, slI, slT] at h1
    simp [C10, push_cast, -Int.not_lt, -Int.not_le, ↓evI_call, ↓evI_calli, ↓evI_callz, ↓evI_callv, ↓evI_mxn, St.c, slI, slT, slS, h1, c1, frzK]
  rw [if_pos ho]
  have c1 : eqz (chk s).2 0 = true := ho
  have hcode := an_code ho
  rcases (Bool.eq_false_or_eq_true (eqz (anS s).2 0)).symm with hz | hz
  · rw [if_neg (by simp [hz])]
    have hz0 : ¬ (anS s).2 = 0 := by simpa [eqz] using hz
    generalize (chk s).2 = z at *
    generalize (chk s).1 = y at *
    generalize (anS s).2 = u at *
    generalize (anS s).1 = v at *
    simp only [St.c, slI, slT, Vd.c, slW] at h1 h2
    rcases hcode with rfl | rfl | rfl
    · exact absurd rfl hz0
    · have e1 : eqz 19 19 = true := rfl
      simp [C10, push_cast, -Int.not_lt, -Int.not_le, ↓evI_call, ↓evI_calli, ↓evI_callz, ↓evI_callv, ↓evI_mxn, St.c, slI, slT, slS, Vd.c, slW, h1, h2, c1, e1, frzK, word, lateB]
    · have e1 : eqz 20 19 = false := rfl
      have e2 : eqz 20 0 = false := rfl
      simp [C10, push_cast, -Int.not_lt, -Int.not_le, ↓evI_call, ↓evI_calli, ↓evI_callz, ↓evI_callv, ↓evI_mxn, St.c, slI, slT, slS, Vd.c, slW, h1, h2, c1, e1, e2, frzK, word, unkB]
  rw [if_pos hz]
  have g := (okS_iff s).1 ho
  have hv := vdOk hs ho hz
  have hn := hs.tasks
  have h3 := pure5 (pure1 (order_is s hs g))
  have hlp := fun (g : Nat) (e : Env) (hg : g = 1 ∨ g = 2) (h : e 1 = .ptr 0 0 ∧ e 6 = .ptr 1 0 ∧ e 8 = .sl (tolS s (anS s).1 []) 1 g ∧ e 9 = .sl (nl (ordS s)) s.tasks.length 0 ∧ e 10 = vi ((0 : Nat) : Int)) => exA (rp_loop0 s hs (anS s).1 hv s.tasks.length rfl (ordS s) (ord_len s) (fun i h => ord_lt h) s.tasks.length 0 g e (by omega) hg h.1 h.2.1 h.2.2.1 h.2.2.2.1 h.2.2.2.2)
  have hO : slS (addB :: (ordS s).map (lineOf s (anS s).1)) = .sl (tolS s (anS s).1 (ordS s)) (s.tasks.length + 1) 0 := by
    unfold slS tolS
    rw [List.map_cons, List.map_map, List.length_cons, List.length_map, ord_len]; rfl
  have hO2 : (tolS s (anS s).1 (ordS s)).all A.plain = true := by
    unfold tolS
    simp only [List.all_eq_true, List.mem_cons, List.mem_map]
    rintro _ (rfl | ⟨_, _, rfl⟩) <;> rfl
  have hO0 : tolS s (anS s).1 [] = [vs addB] := rfl
  rw [hO0] at hlp
  unfold addB at hlp
  rw [hO]
  have hpm := fun (bx : Bx) (d : Nat) => plain_mapM (bx := bx) (d := d) hO2
  have hz9 : eqz (anS s).2 19 = false := by
    have : (anS s).2 = 0 := by simpa [eqz] using hz
    rw [this]; rfl
  generalize nl (ordS s) = B at *
  generalize tolS s (anS s).1 (ordS s) = O at *
  generalize (chk s).2 = z at *
  generalize (chk s).1 = y at *
  generalize (anS s).2 = u at *
  generalize (anS s).1 = v at *
  clear hO hv hcode
  simp only [St.c, slI, slT, Vd.c, slW] at h1 h2 h3 hlp
  simp [C10, push_cast, -Int.not_lt, -Int.not_le, ↓evI_call, ↓evI_calli, ↓evI_callz, ↓evI_callv, ↓evI_mxn, St.c, slI, slT, slS, Vd.c, slW, h1, h2, h3, c1, hz, hz9]
  refine behind (hlp 2 _ (.inr rfl) (by simp [put_at])) ?_
  rintro _ ⟨e2, rfl, g', k10⟩
  simp [push_cast, -Int.not_lt, -Int.not_le, ↓evI_call, ↓evI_calli, ↓evI_callz, ↓evI_callv, ↓evI_mxn, k10, frzK, hpm]
/-! ### texts that are one -/
theorem drop_str (l : List ByteArray) (i : Nat) (h : i < l.length) : (l.map vs).drop i = vs l[i] :: (l.drop (i + 1)).map vs := by
  rw [← List.map_drop, List.drop_eq_getElem_cons h]; rfl
theorem sa_loop (l : List ByteArray) (hn : l.length ≤ 100) : ∀ (d i : Nat) (e : Env), i + d = l.length → e 0 = slS l → e 1 = slS l → e 5 = vi i →
    ∃ e', evL tab0 ext0 0 L11_0 (e, []) = some (.ex 0, e', []) := by
  intro d
  induction d with
  | zero =>
    intro i e hi h0 h1 h5
    obtain rfl : i = l.length := by omega
    exact ⟨_, (go11_0 _ _).trans (by simp [B11_0, push_cast, -Int.not_lt, -Int.not_le, ↓evI_call, ↓evI_calli, ↓evI_callz, ↓evI_callv, ↓evI_mxn, loopIn, loopIn0, keepL, emp, A.dang, A.dangC, slS, h0, h1, h5]; rfl)⟩
  | succ d ih =>
    intro i e hi h0 h1 h5
    have hil : i < l.length := by omega
    have hil2 : (i : Int) < l.length := by omega
    have q1 : IntKind.wrap .i64 ((i : Int) + 1) = ((i + 1 : Nat) : Int) := by rw [wrap_in _ (by omega) (by omega)]; omega
    have hd := drop_str l i hil
    obtain ⟨e', r1⟩ := ih (i + 1) (put 5 (vi ((i + 1 : Nat) : Int)) (put 0 (slS l) (put 1 (slS l) emp))) (by omega) (by simp [put_at]) (by simp [put_at]) (by simp [put_at])
    refine ⟨e', ?_⟩
    rw [← r1]
    refine (go11_0 _ _).trans ?_
    generalize ((i + 1 : Nat) : Int) = z at *
    simp [B11_0, push_cast, -Int.not_lt, -Int.not_le, ↓evI_call, ↓evI_calli, ↓evI_callz, ↓evI_callv, ↓evI_mxn, loopIn, loopIn0, keepL, emp, A.dang, A.dangC, slS, h0, h1, h5, hd, hil, hil2, q1]
    exact loop_env (by simp [put_at])
theorem same_is (l : List ByteArray) (hn : l.length ≤ 100) : pureOf (callL tab0 ext0) false 11 [slS l, slS l] = some (vb true) := by
  rw [pureOf_b, callL_tab _ _ rfl tab11 rfl]
  have hlp : ∀ (e : Env), (e 0 = slS l ∧ e 1 = slS l ∧ e 5 = vi ((0 : Nat) : Int)) → ∃ a, evL tab0 ext0 0 L11_0 (e, []) = some a ∧ ∃ e', a = (.ex 0, e', []) := fun e h => by
    obtain ⟨e', h⟩ := sa_loop l hn l.length 0 e (by omega) h.1 h.2.1 h.2.2
    exact ⟨_, h, e', rfl⟩
  simp only [slS] at hlp
  simp [C11, push_cast, -Int.not_lt, -Int.not_le, ↓evI_call, ↓evI_calli, ↓evI_callz, ↓evI_callv, ↓evI_mxn, slS, eqz_self]
  refine behind (hlp _ (by simp [put_at])) ?_
  rintro _ ⟨e', rfl⟩
  simp [push_cast, -Int.not_lt, -Int.not_le, ↓evI_call, ↓evI_calli, ↓evI_callz, ↓evI_callv, ↓evI_mxn, frzK]
theorem lines_few (s : St) (hs : Sm s) : (linesS s).1.length ≤ 100 := by
  have hn := hs.tasks
  unfold linesS
  split
  · split
    · rw [List.length_cons, List.length_map, ord_len]; omega
    · simp
  · simp
end Go.Proofs.YtamblgbmdhldbaaGreatDoorEv
