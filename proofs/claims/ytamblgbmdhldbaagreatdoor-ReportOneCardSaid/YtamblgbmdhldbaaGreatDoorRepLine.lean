/- A task's line: the program's, the reference's. -/
import Derived.Test.YtamblgbmdhldbaaGreatDoorRepTxt
import Derived.Test.YtamblgbmdhldbaaGreatDoorBoMono
import Derived.Test.YtamblgbmdhldbaaGreatDoorMrg
import Derived.Test.YtamblgbmdhldbaaGreatDoorSortG
set_option linter.unusedSimpArgs false
set_option linter.unusedVariables false
namespace Go.Proofs.YtamblgbmdhldbaaGreatDoorEv
open Go
set_option maxHeartbeats 2000000
def spB : ByteArray := ⟨#[32]⟩
/-- A task's line, so many parts. -/
def lnL (t : Tk) (b : Int) (ws : List Int) : Nat → ByteArray
  | 0 => (((t.name ++ spB) ++ txt b) ++ spB) ++ txt t.deadline
  | i + 1 => match t.parts[i]? with
    | some p => if p.kind = 3 then lnL t b ws i ++ (spB ++ txt (ws.getD i 0)) else lnL t b ws i
    | none => lnL t b ws i
theorem ba_size (a b : ByteArray) : (a ++ b).size = a.size + b.size := ByteArray.size_append
theorem ba_assoc (a b c : ByteArray) : (a ++ b) ++ c = a ++ (b ++ c) := by
  rw [ByteArray.ext_iff, ByteArray.data_append, ByteArray.data_append, ByteArray.data_append, ByteArray.data_append, Array.append_assoc]
theorem lnL_size (t : Tk) (b : Int) (ws : List Int) (hn : t.name.size ≤ 20) : ∀ i, (lnL t b ws i).size ≤ 64 + i * 22
  | 0 => by
    have h1 := txt_size b
    have h2 := txt_size t.deadline
    have h3 : spB.size = 1 := rfl
    unfold lnL
    simp only [ba_size]
    omega
  | i + 1 => by
    have ih := lnL_size t b ws hn i
    have h2 := txt_size (ws.getD i 0)
    have h3 : spB.size = 1 := rfl
    unfold lnL
    split
    · split
      · simp only [ba_size]; omega
      · omega
    · omega
def lineS (t : Tk) (b : Int) (ws : List Int) : ByteArray := lnL t b ws t.parts.length
theorem line_loop (t : Tk) (hn : t.name.size ≤ 20) (hp : t.parts.length ≤ 10) (b : Int) (ws : List Int) (hw : ws.length = t.parts.length) : ∀ (d i : Nat) (e : Env), i + d = t.parts.length → e 2 = slI ws → e 7 = vs (lnL t b ws i) → e 22 = slP t.parts → e 23 = vi t.parts.length → e 24 = vi i →
    ∃ e' junk, evL tab0 ext5 0 L21_0 (e, [Tk.c t]) = some (.ex 0, e', Tk.c t :: junk) ∧ e' 7 = vs (lineS t b ws) := by
  intro d
  induction d with
  | zero =>
    intro i e hi h2 h7 h22 h23 h24
    obtain rfl : i = t.parts.length := by omega
    unfold lineS
    generalize lnL t b ws t.parts.length = O at *
    exact ⟨_, [], (go21_0 _ _).trans (by simp [B21_0, push_cast, -Int.not_lt, -Int.not_le, ↓evI_call, ↓evI_calli, ↓evI_callz, ↓evI_callv, ↓evI_mxn, loopIn, loopIn0, keepL, emp, A.dang, A.dangC, h2, h7, h22, h23, h24, slI, slP, Tk.c]; rfl), by simp [put_at, h7]⟩
  | succ d ih =>
    intro i e hi h2 h7 h22 h23 h24
    have hil : i < t.parts.length := by omega
    have hiw : i < ws.length := by omega
    have dp := drop_pt t.parts i hil
    have dw := drop_int ws i hiw
    have e1 : t.parts[i]? = some t.parts[i] := List.getElem?_eq_getElem hil
    have e2 : ws.getD i 0 = ws[i] := by simp [List.getD, hiw]
    have hs := lnL_size t b ws hn i
    have q1 : IntKind.wrap .i64 ((i : Int) + 1) = ((i + 1 : Nat) : Int) := by rw [wrap_in _ (by omega) (by omega)]; omega
    have q2 : (i : Int) < t.parts.length := by omega
    have q3 : (i : Int) < ws.length := by omega
    obtain ⟨e', junk, r1, r2⟩ := ih (i + 1) (put 24 (vi ((i + 1 : Nat) : Int)) (put 7 (vs (lnL t b ws (i + 1))) (put 2 (slI ws) (put 22 (slP t.parts) (put 23 (vi t.parts.length) emp))))) (by omega) (by simp [put_at]) (by simp [put_at]) (by simp [put_at]) (by simp [put_at]) (by simp [put_at])
    refine ⟨e', junk, ?_, r2⟩
    rw [← r1]
    refine (go21_0 _ _).trans ?_
    have ht := text_is ws[i]
    have hts := txt_size ws[i]
    have hsp : (⟨#[32]⟩ : ByteArray).size = 1 := rfl
    have el : lnL t b ws (i + 1) = if t.parts[i].kind = 3 then lnL t b ws i ++ (spB ++ txt ws[i]) else lnL t b ws i := by
      rw [lnL, e1, e2]
    rw [el]
    have z1 : (⟨#[32]⟩ : ByteArray).size + (txt ws[i]).size ≤ 70368744177664 := by omega
    have z2 : (lnL t b ws i).size + ((⟨#[32]⟩ : ByteArray).size + (txt ws[i]).size) ≤ 70368744177664 := by omega
    unfold spB
    clear el e1 e2 r1 r2 ih hs hts hsp
    generalize lnL t b ws i = O at *
    generalize txt ws[i] = X at *
    generalize ws[i] = w at *
    simp only [Pt.c] at dp
    generalize (t.parts.drop (i + 1)).flatMap Pt.c = D1 at *
    generalize (ws.drop (i + 1)).map vi = D2 at *
    generalize ((i + 1 : Nat) : Int) = z at *
    by_cases hk : t.parts[i].kind = 3
    · simp only [hk, if_true]
      simp [B21_0, push_cast, -Int.not_lt, -Int.not_le, ↓evI_call, ↓evI_calli, ↓evI_callz, ↓evI_callv, ↓evI_mxn, loopIn, loopIn0, keepL, emp, A.dang, A.dangC, h2, h7, h22, h23, h24, slI, slP, Tk.c, dp, dw, q1, q2, q3, hil, hiw, ht, hk, eqz, z1, z2]
      refine (loop_junk (bx := [_]) (nb := 0) (kb := 1) _ (by simp) _).trans ?_
      exact loop_env (by simp [put_at])
    · simp only [hk, if_false]
      simp [B21_0, push_cast, -Int.not_lt, -Int.not_le, ↓evI_call, ↓evI_calli, ↓evI_callz, ↓evI_callv, ↓evI_mxn, loopIn, loopIn0, keepL, emp, A.dang, A.dangC, h2, h7, h22, h23, h24, slI, slP, Tk.c, dp, dw, q1, q2, q3, hil, hiw, hk, eqz]
      refine (loop_junk (bx := [_]) (nb := 0) (kb := 1) _ (by simp) _).trans ?_
      exact loop_env (by simp [put_at])
theorem exJ {x : Option (Out × Env × Bx)} {o : Out} {b : List A} {Q : Env → Prop} (h : ∃ e' junk, x = some (o, e', b :: junk) ∧ Q e') : ∃ a, x = some a ∧ ∃ e' junk, a = (o, e', b :: junk) ∧ Q e' := by
  obtain ⟨e', j, h1, h2⟩ := h
  exact ⟨_, h1, e', j, rfl, h2⟩
theorem line_is (t : Tk) (hn : t.name.size ≤ 20) (hp : t.parts.length ≤ 10) (b : Int) (ws : List Int) (hw : ws.length = t.parts.length) : pureOf (callL tab0 ext5) false 21 [.agg (Tk.c t), vi b, slI ws] = some (vs (lineS t b ws)) := by
  rw [pureOf_b, callL_tab _ _ rfl tab21 rfl]
  have hlp := fun (e : Env) (h : e 2 = slI ws ∧ e 7 = vs (lnL t b ws 0) ∧ e 22 = slP t.parts ∧ e 23 = vi t.parts.length ∧ e 24 = vi ((0 : Nat) : Int)) => exJ (line_loop t hn hp b ws hw t.parts.length 0 e (by omega) h.1 h.2.1 h.2.2.1 h.2.2.2.1 h.2.2.2.2)
  have h1 := text_is b
  have h2 := text_is t.deadline
  have s1 := txt_size b
  have s2 := txt_size t.deadline
  have hsp : (⟨#[32]⟩ : ByteArray).size = 1 := rfl
  have e0 : lnL t b ws 0 = (((t.name ++ ⟨#[32]⟩) ++ txt b) ++ ⟨#[32]⟩) ++ txt t.deadline := rfl
  have z1 : t.name.size + (⟨#[32]⟩ : ByteArray).size ≤ 70368744177664 := by omega
  have z2 : (t.name ++ (⟨#[32]⟩ : ByteArray)).size + (txt b).size ≤ 70368744177664 := by simp only [ba_size]; omega
  have z3 : ((t.name ++ (⟨#[32]⟩ : ByteArray)) ++ txt b).size + (⟨#[32]⟩ : ByteArray).size ≤ 70368744177664 := by simp only [ba_size]; omega
  have z4 : (((t.name ++ (⟨#[32]⟩ : ByteArray)) ++ txt b) ++ (⟨#[32]⟩ : ByteArray)).size + (txt t.deadline).size ≤ 70368744177664 := by simp only [ba_size]; omega
  rw [e0] at hlp
  simp only [ba_size] at z2 z3 z4
  clear s1 s2 hsp e0 hn
  generalize lineS t b ws = O at *
  generalize txt b = X at *
  generalize hY : txt t.deadline = Y at *
  obtain ⟨tn, tp, td, tr, tc, tps⟩ := t
  simp only [Tk.c, slP, slI] at *
  generalize tps.flatMap Pt.c = D at *
  generalize hS : (⟨#[32]⟩ : ByteArray) = S at *
  generalize hN : (((tn ++ S) ++ X) ++ S) ++ Y = N4 at *
  simp [C21, push_cast, -Int.not_lt, -Int.not_le, ↓evI_call, ↓evI_calli, ↓evI_callz, ↓evI_callv, ↓evI_mxn, Tk.c, hS, h1, h2, z1, z2, z3, z4, hN]
  refine behind (hlp _ (by simp [put_at])) ?_
  rintro _ ⟨e', junk, rfl, k7⟩
  simp [push_cast, -Int.not_lt, -Int.not_le, ↓evI_call, ↓evI_calli, ↓evI_callz, ↓evI_callv, ↓evI_mxn, k7, frzK]
end Go.Proofs.YtamblgbmdhldbaaGreatDoorEv
