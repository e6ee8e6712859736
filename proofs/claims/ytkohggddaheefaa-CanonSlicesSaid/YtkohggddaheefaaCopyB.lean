/- A set copied, with boxes of its own, where there are none yet (from TaSpW, its numbers turned). -/
import Derived.Test.YtkohggddaheefaaCopy
import Derived.Test.YtkohggddaheefaaGd
import Derived.Test.YtkohggddaheefaaTsk
import Derived.Test.YtkohggddaheefaaIn1
import Derived.Test.YtkohggddaheefaaVarC
set_option linter.unusedSimpArgs false
set_option linter.unusedVariables false
namespace Go.Proofs.YtkohggddaheefaaEv
open Go
set_option maxHeartbeats 4000000
/-! ### the tables -/
def tabC : Nat → Option CFun := fun f => match f with
  | 21 => some C21v
  | 4 => some C4v
  | _ => none
noncomputable def extC : CallF := fun f args bx => match f with
  | 21 => none
  | 4 => none
  | _ => callL tab0 ext0 f args bx
theorem tabC_ok : TabOk Try.prog tabC := by
  intro f F h
  unfold tabC at h
  split at h
  · cases h; exact row21v
  · cases h; exact row4v
  · cases h
theorem extC_sound : SoundF Try.prog extC := by
  intro f xs bx r bx' h
  unfold extC at h
  split at h
  · cases h
  · cases h
  · exact callL_sound tab_ok ext0_sound _ _ _ _ _ h
theorem upC {f args bx r} (hf : f ≠ 21 ∧ f ≠ 4) (h : callL tab0 ext0 f args bx = some r) : callL tabC extC f args bx = some r := by
  have e : extC f args bx = some r := by
    unfold extC
    split
    · exact absurd rfl hf.1
    · exact absurd rfl hf.2
    · exact h
  unfold callL callOf
  rw [e]
theorem pureC {k f args v} (hf : f ≠ 21 ∧ f ≠ 4) (h : pureOf (callL tab0 ext0) k f args = some v) : pureOf (callL tabC extC) k f args = some v := by
  unfold pureOf at h ⊢
  cases hc : callL tab0 ext0 f args [] with
  | none => simp [hc] at h
  | some q =>
    rw [hc] at h
    rw [upC hf hc]
    exact h
/-! ### cells -/
def tkB (b : Nat) (t : Tk) : List A := [vs t.name, vi t.period, vi t.deadline, vi t.prio, vi t.cluster, .bs b t.parts.length 3]
/-- The tasks' cells, of which so many have parts in boxes, from this one on. -/
def tB : Nat → List Tk → Nat → List A
  | _, [], _ => []
  | b, t :: l, 0 => Tk.c t ++ tB b l 0
  | b, t :: l, i + 1 => tkB b t ++ tB (b + 2) l i
theorem tB_zero (b : Nat) : ∀ l : List Tk, tB b l 0 = l.flatMap Tk.c
  | [] => rfl
  | t :: l => by rw [tB, tB_zero b l]; rfl
theorem tB_len : ∀ (b : Nat) (l : List Tk) (i : Nat), (tB b l i).length = l.length * 6
  | _, [], _ => by simp [tB]
  | b, t :: l, 0 => by rw [tB_zero, len_tk]
  | b, t :: l, i + 1 => by rw [tB, List.length_append, tB_len]; show 6 + _ = _; simp; omega
theorem tB_drop : ∀ (b : Nat) (l : List Tk) (i : Nat) (h : i < l.length), (tB b l i).drop (i * 6) = Tk.c l[i] ++ (l.drop (i + 1)).flatMap Tk.c
  | b, t :: l, 0, _ => by rw [tB_zero]; rfl
  | b, t :: l, i + 1, h => by
    have e : (i + 1) * 6 = 6 + i * 6 := by omega
    have ih := tB_drop (b + 2) l i (by simpa using h)
    rw [tB, e, ← List.drop_drop]
    exact ih
theorem tB_step : ∀ (b : Nat) (l : List Tk) (i : Nat) (h : i < l.length), (tB b l i).take (i * 6 + 5) ++ .bs (b + 2 * i) l[i].parts.length 3 :: (tB b l i).drop (i * 6 + 5 + 1) = tB b l (i + 1)
  | b, t :: l, 0, _ => by rw [tB_zero, tB, tB_zero]; rfl
  | b, t :: l, i + 1, h => by
    have ih := tB_step (b + 2) l i (by simpa using h)
    have e1 : (i + 1) * 6 + 5 = 6 + (i * 6 + 5) := by omega
    have e2 : (i + 1) * 6 + 5 + 1 = 6 + (i * 6 + 5 + 1) := by omega
    have e3 : b + 2 * (i + 1) = b + 2 + 2 * i := by omega
    rw [tB, tB, e2, e1, e3, ← ih]
    have hl : (tkB b t).length = 6 := rfl
    rw [List.take_append, List.take_of_length_le (by omega), List.drop_append, List.drop_of_length_le (by omega), hl, Nat.add_sub_cancel_left, Nat.add_sub_cancel_left, List.nil_append, List.append_assoc]
    rfl
theorem tk_all (p : A → Bool) (hp : ∀ a, a.plain = true → p a = true) (t : Tk) : (Tk.c t).all p = true := by
  have h := plain_tk [t]
  simp only [List.flatMap_cons, List.flatMap_nil, List.append_nil, List.all_eq_true] at h ⊢
  exact fun a ha => hp a (h a ha)
theorem tB_own : ∀ (b : Nat) (l : List Tk) (i : Nat), (tB b l i).map A.own = tB b l i
  | _, [], _ => rfl
  | b, t :: l, 0 => by rw [tB_zero]; exact plain_own (plain_tk _)
  | b, t :: l, i + 1 => by rw [tB, List.map_append, tB_own]; rfl
theorem tB_cp : ∀ (b : Nat) (l : List Tk) (i : Nat), (tB b l i).map A.cp1 = tB b l i
  | _, [], _ => rfl
  | b, t :: l, 0 => by rw [tB_zero]; exact plain_cp (plain_tk _)
  | b, t :: l, i + 1 => by rw [tB, List.map_append, tB_cp]; rfl
theorem tB_dang : ∀ (b : Nat) (l : List Tk) (i m : Nat), b + 2 * i ≤ m + 1 → (tB b l i).all (A.dangC m) = true
  | _, [], _, _, _ => rfl
  | b, t :: l, 0, m, _ => by rw [tB_zero]; exact plain_dang (plain_tk _)
  | b, t :: l, i + 1, m, h => by
    rw [tB, List.all_append, tB_dang (b + 2) l i m (by omega), Bool.and_true]
    show (A.dangC m (.bs b _ 3) && true) = true
    simp [A.dangC]; omega
def jB (l : List Tk) (i : Nat) : Bx := (l.take i).flatMap fun t => [Tk.c t, t.parts.flatMap Pt.c]
theorem jB_len (l : List Tk) (i : Nat) (h : i ≤ l.length) : (jB l i).length = 2 * i := by
  unfold jB
  have : ∀ m : List Tk, (m.flatMap fun t => [Tk.c t, t.parts.flatMap Pt.c]).length = 2 * m.length := fun m => by
    induction m with
    | nil => rfl
    | cons t m ih => rw [List.flatMap_cons, List.length_append, ih]; simp; omega
  rw [this, List.length_take]; omega
theorem jB_step (l : List Tk) (i : Nat) (h : i < l.length) : jB l (i + 1) = jB l i ++ [Tk.c l[i], l[i].parts.flatMap Pt.c] := by
  unfold jB
  rw [List.take_add_one, List.getElem?_eq_getElem h, List.flatMap_append]; rfl
theorem jB_map (f : A → A) (hf : ∀ l : List A, l.all A.plain = true → l.map f = l) (l : List Tk) (i : Nat) : (jB l i).map (List.map f) = jB l i := by
  unfold jB
  induction l.take i with
  | nil => rfl
  | cons t m ih =>
    rw [List.flatMap_cons, List.map_append, ih]
    have h1 : (Tk.c t).map f = Tk.c t := hf _ (by have := plain_tk [t]; simpa using this)
    have h2 : (t.parts.flatMap Pt.c).map f = t.parts.flatMap Pt.c := hf _ (plain_pt _)
    rw [List.map_cons, List.map_cons, h1, h2]; rfl
theorem jB_dang (l : List Tk) (i m : Nat) : ((jB l i).all fun cs => cs.all (A.dangC m)) = true := by
  unfold jB
  induction l.take i with
  | nil => rfl
  | cons t k ih =>
    rw [List.flatMap_cons, List.all_append, ih, Bool.and_true]
    have h1 : (Tk.c t).all (A.dangC m) = true := plain_dang (by have := plain_tk [t]; simpa using this)
    have h2 : (t.parts.flatMap Pt.c).all (A.dangC m) = true := plain_dang (plain_pt _)
    simp only [List.all_cons, List.all_nil, h1, h2, Bool.and_true]
theorem loopIn_all {nb kb : Nat} {live : List Nat} {e : Env} {bx : Bx} (h2 : nb ≤ bx.length) (h1 : bx.length ≤ nb + kb) (hl : (live.all fun i => (e i).dang bx.length) = true) (hb : (bx.all fun cs => cs.all (A.dangC bx.length)) = true) : loopIn nb live kb (e, bx) = some (keepL live e, bx.take nb ++ (bx.drop nb).map (List.map A.own)) := by
  unfold loopIn loopIn0
  have e1 : min kb (bx.length - nb) = bx.length - nb := by omega
  simp only [e1]
  have e2 : nb + (bx.length - nb) = bx.length := by omega
  have e3 : (bx.drop nb).take (bx.length - nb) = bx.drop nb := List.take_of_length_le (by rw [List.length_drop]; exact Nat.le_refl _)
  rw [e2, List.take_length, if_pos ⟨Nat.le_refl _, hl, hb⟩, e3]
def EXG {α : Type} (Q : α → Prop) (r : Option α) : Prop := ∃ a, r = some a ∧ Q a
def zf (f : Nat) : List A := [vi 0, .sl [] 0 f, .sl [] 0 f, .sl [] 0 f]
theorem zf_own (f : Nat) : (zf f).map A.own = zf (if f = 1 then 2 else f) := rfl
theorem zf_cp (f : Nat) : (zf f).map A.cp1 = zf (if f = 2 then 0 else f) := rfl
/-! ### with homes -/

def cX1 (s : St) : List A := [vi s.proto, .bs 2 s.cores.length 1, .bs 3 s.homes.length 1, .bs 4 s.tasks.length 6]
def bC1 (s : St) (f i : Nat) : Bx := [cX1 s, zf f, s.cores.map vi, s.homes.map vi, tB 6 s.tasks i] ++ jB s.tasks i
theorem bC1_len (s : St) (f i : Nat) (h : i ≤ s.tasks.length) : (bC1 s f i).length = 2 * i + 5 := by unfold bC1; rw [List.length_append, jB_len _ _ h]; simp; omega
theorem bC1_dang (s : St) (f i m : Nat) (hm : 2 * i + 5 ≤ m) : ((bC1 s f i).all fun cs => cs.all (A.dangC m)) = true := by
  unfold bC1
  have h1 := tB_dang 6 s.tasks i m (by omega)
  have h2 : (s.cores.map vi).all (A.dangC m) = true := plain_dang (plain_vi _)
  have h3 : (s.homes.map vi).all (A.dangC m) = true := plain_dang (plain_vi _)
  rw [List.all_append, jB_dang, Bool.and_true]
  simp only [List.all_cons, List.all_nil, h1, h2, h3, Bool.and_true]
  simp [St.c, slI, slT, cX1, zf, A.dangC]; omega
theorem bC1_own (s : St) (f i : Nat) : (bC1 s f i).take 0 ++ ((bC1 s f i).drop 0).map (List.map A.own) = bC1 s (if f = 1 then 2 else f) i := by
  have h1 := tB_own 6 s.tasks i
  have h2 : (s.cores.map vi).map A.own = s.cores.map vi := plain_own (plain_vi _)
  have h3 : (s.homes.map vi).map A.own = s.homes.map vi := plain_own (plain_vi _)
  have h4 := jB_map A.own (fun _ h => plain_own h) s.tasks i
  have h5 : (cX1 s).map A.own = cX1 s := rfl
  unfold bC1
  simp only [List.cons_append, List.nil_append, List.take_succ_cons, List.take_zero, List.drop_succ_cons, List.drop_zero, List.map_cons, h1, h2, h3, h4, h5, zf_own]
def CpQ1 (s : St) (a : Out × Env × Bx) : Prop := ∃ e' f', a = (.ex 0, e', bC1 s f' s.tasks.length) ∧ e' 1 = .ptr 0 0 ∧ e' 2 = .ptr 1 0
theorem cp_loop1 (s : St) (hs : Sm s) (g : Good s) : ∀ (d i f : Nat) (e : Env), i + d = s.tasks.length → e 1 = .ptr 0 0 → e 2 = .ptr 1 0 → e 18 = .bs 4 s.tasks.length 6 → e 19 = vi s.tasks.length → e 20 = vi i →
    EXG (CpQ1 s) (evL tabC extC 0 L21v_0 (e, bC1 s f i)) := by
  have hn := g.tasks.2
  intro d
  induction d with
  | zero =>
    intro i f e hi h1 h2 h18 h19 h20
    obtain rfl : i = s.tasks.length := by omega
    have hl := bC1_len s f s.tasks.length (Nat.le_refl _)
    have hL := loopIn_all (nb := 0) (kb := 20) (live := [1, 2, 18, 19, 20]) (e := e) (bx := bC1 s f s.tasks.length) (by omega) (by omega) (by rw [hl]; simp [h1, h2, h18, h19, h20, A.dang] <;> omega) (by rw [hl]; exact bC1_dang s f _ _ (Nat.le_refl _))
    rw [bC1_own] at hL
    generalize bC1 s f s.tasks.length = X at *
    refine ⟨(.ex 0, put 21 (vb false) (keepL [1, 2, 18, 19, 20] e), bC1 s (if f = 1 then 2 else f) s.tasks.length), (go21v_0 _ _).trans (by rw [hL]; simp [B21v_0, push_cast, -Int.not_lt, -Int.not_le, ↓evI_call, ↓evI_calli, ↓evI_calln, ↓evI_callz, ↓evI_callv, ↓evI_mxn, keepL, emp, h1, h2, h18, h19, h20]), _, _, rfl, by simp [put_at, keepL, h1], by simp [put_at, keepL, h2]⟩
  | succ d ih =>
    intro i f e hi h1 h2 h18 h19 h20
    have hil : i < s.tasks.length := by omega
    have hl := bC1_len s f i (by omega)
    have hL := loopIn_all (nb := 0) (kb := 20) (live := [1, 2, 18, 19, 20]) (e := e) (bx := bC1 s f i) (by omega) (by omega) (by rw [hl]; simp [h1, h2, h18, h19, h20, A.dang] <;> omega) (by rw [hl]; exact bC1_dang s f _ _ (Nat.le_refl _))
    rw [bC1_own] at hL
    generalize (if f = 1 then 2 else f) = f1 at *
    have hp := (g.task _ (List.getElem_mem hil)).parts
    have hl3 := len_pt s.tasks[i].parts
    have hcl : ∀ bx, callnK (callL tabC extC) 60 [.sl (s.tasks[i].parts.flatMap Pt.c) s.tasks[i].parts.length 0] bx = some (.bs bx.length s.tasks[i].parts.length 3, [], strip (bx ++ [s.tasks[i].parts.flatMap Pt.c])) := fun bx =>
      callnK_bs (upC (by decide) ((clone_60 _ _ bx (plain_pt _) hl3 (by omega)).trans (by unfold cloned; rw [if_neg (by omega)])))
    have hd := tB_drop 6 s.tasks i hil
    have hst := tB_step 6 s.tasks i hil
    have htl := tB_len 6 s.tasks i
    have hJl := jB_len s.tasks i (by omega)
    have hJs := jB_step s.tasks i hil
    have hTcp := tB_cp 6 s.tasks (i + 1)
    have hTcp0 := tB_cp 6 s.tasks i
    have hJcp := jB_map A.cp1 (fun _ h => plain_cp h) s.tasks i
    have hPcp : (s.tasks[i].parts.flatMap Pt.c).map A.cp1 = s.tasks[i].parts.flatMap Pt.c := plain_cp (plain_pt _)
    have hCcp : (s.cores.map vi).map A.cp1 = s.cores.map vi := plain_cp (plain_vi _)
    have hHcp : (s.homes.map vi).map A.cp1 = s.homes.map vi := plain_cp (plain_vi _)
    have q1 : IntKind.wrap .i64 ((i : Int) + 1) = ((i + 1 : Nat) : Int) := by rw [wrap_in _ (by omega) (by omega)]; omega
    have q2 : (i : Int) < s.tasks.length := by omega
    have k1 : i * 6 + 6 ≤ s.tasks.length * 6 := by omega
    have k2 : i * 6 + 5 + 1 ≤ s.tasks.length * 6 := by omega
    have ih1 := ih (i + 1) (if f1 = 2 then 0 else f1)
    unfold bC1 at ih1
    rw [hJs] at ih1
    rw [go21v_0, hL]
    unfold bC1
    have hbi : 6 + 2 * i = (jB s.tasks i).length + 6 := by omega
    rw [hbi] at hst
    generalize tB 6 s.tasks i = T at *
    generalize tB 6 s.tasks (i + 1) = T2 at *
    generalize jB s.tasks i = J at *
    have hJg : ∀ x : List A, (J ++ [x])[J.length]? = some x := fun x => by simp
    have hJt : ∀ x y : List A, (J ++ [x]).set J.length y = J ++ [y] := fun x y => by simp
    simp only [Tk.c, slP] at hd ih1
    generalize s.tasks[i].parts.flatMap Pt.c = PC at *
    generalize s.homes.map vi = HC at *
    generalize s.cores.map vi = CC at *
    generalize ((i + 1 : Nat) : Int) = z at *
    simp [B21v_0, push_cast, -Int.not_lt, -Int.not_le, ↓evI_call, ↓evI_calli, ↓evI_calln, ↓evI_callz, ↓evI_callv, ↓evI_mxn, keepL, emp, h1, h2, h18, h19, h20, St.c, slI, slT, cX1, zf, hil, q1, q2, k1, k2, hd, htl, hcl, hst, strip, A.cp1, hTcp, hTcp0, hJcp, hPcp, hCcp, hHcp, hJg, hJt, -List.all_eq_true]
    simp only [St.c, slI, slT, cX1, zf, List.cons_append, List.nil_append] at ih1
    apply ih1
    all_goals first | omega | (simp [put_at]; done)
theorem copyB1 (s : St) (hs : Sm s) (g : Good s) (hh : ¬ s.homes.length = 0) : callL tabC extC 21 [.agg (St.c s)]  [] = some (.agg (cX1 s), [cX1 s, cX1 s, s.cores.map vi, s.homes.map vi, tB 6 s.tasks s.tasks.length] ++ jB s.tasks s.tasks.length) := by
  have hn := g.tasks
  have hc := g.cores
  have ho := g.homes
  rw [callL_tab _ _ rfl (rfl : tabC 21 = some C21v) rfl]
  have f1 : ∀ bx, callnK (callL tabC extC) 58 [.sl (s.cores.map vi) s.cores.length 0] bx = some (.bs bx.length s.cores.length 1, [], strip (bx ++ [s.cores.map vi])) := fun bx =>
    callnK_bs (upC (by decide) ((clone_58 _ _ bx (plain_vi _) (by simp) (by omega)).trans (by unfold cloned; rw [if_neg (by omega)])))
  have f3 : ∀ bx, callnK (callL tabC extC) 59 [.sl (s.tasks.flatMap Tk.c) s.tasks.length 0] bx = some (.bs bx.length s.tasks.length 6, [], strip (bx ++ [s.tasks.flatMap Tk.c])) := fun bx =>
    callnK_bs (upC (by decide) ((clone_59 _ _ bx (plain_tk _) (len_tk _) (by omega)).trans (by unfold cloned; rw [if_neg (by omega)])))
  have c1 : (s.cores.map vi).map A.cp1 = s.cores.map vi := plain_cp (plain_vi _)
  have c2 : (s.homes.map vi).map A.cp1 = s.homes.map vi := plain_cp (plain_vi _)
  have c3 : (s.tasks.flatMap Tk.c).map A.cp1 = s.tasks.flatMap Tk.c := plain_cp (plain_tk _)
  have f2 : ∀ bx, callnK (callL tabC extC) 58 [.sl (s.homes.map vi) s.homes.length 0] bx = some (.bs bx.length s.homes.length 1, [], strip (bx ++ [s.homes.map vi])) := fun bx =>
    callnK_bs (upC (by decide) ((clone_58 _ _ bx (plain_vi _) (by simp) (by omega)).trans (by unfold cloned; rw [if_neg hh])))
  have hlp := fun (e : Env) (h : e 1 = .ptr 0 0 ∧ e 2 = .ptr 1 0 ∧ e 18 = .bs 4 s.tasks.length 6 ∧ e 19 = vi s.tasks.length ∧ e 20 = vi ((0 : Nat) : Int)) => cp_loop1 s hs g s.tasks.length 0 1 e (by omega) h.1 h.2.1 h.2.2.1 h.2.2.2.1 h.2.2.2.2
  have hz : bC1 s 1 0 = [cX1 s, zf 1, s.cores.map vi, s.homes.map vi, s.tasks.flatMap Tk.c] := by
    unfold bC1; rw [tB_zero]; rfl
  rw [hz] at hlp
  unfold EXG CpQ1 at hlp
  have hd := bC1_len s
  simp only [St.c, slI, slT, cX1, zf] at hlp ⊢
  generalize hT : s.tasks.flatMap Tk.c = T at *
  simp [C21v, push_cast, -Int.not_lt, -Int.not_le, ↓evI_call, ↓evI_calli, ↓evI_calln, ↓evI_callz, ↓evI_callv, ↓evI_mxn, f1, f2, f3, strip, A.cp1, c1, c2, c3, -List.all_eq_true]
  refine behind (hlp _ (by simp [put_at])) ?_
  rintro _ ⟨e', f', rfl, k1, k2⟩
  simp [push_cast, -Int.not_lt, -Int.not_le, ↓evI_call, ↓evI_calli, ↓evI_calln, ↓evI_callz, ↓evI_callv, ↓evI_mxn, k1, k2, bC1, cX1, zf, St.c, slI, slT, A.cp1, hT]
/-! ### without homes -/

def cX0 (s : St) : List A := [vi s.proto, .bs 2 s.cores.length 1, .sl [] 0 0, .bs 3 s.tasks.length 6]
def bC0 (s : St) (f i : Nat) : Bx := [cX0 s, zf f, s.cores.map vi, tB 5 s.tasks i] ++ jB s.tasks i
theorem bC0_len (s : St) (f i : Nat) (h : i ≤ s.tasks.length) : (bC0 s f i).length = 2 * i + 4 := by unfold bC0; rw [List.length_append, jB_len _ _ h]; simp; omega
theorem bC0_dang (s : St) (f i m : Nat) (hm : 2 * i + 4 ≤ m) : ((bC0 s f i).all fun cs => cs.all (A.dangC m)) = true := by
  unfold bC0
  have h1 := tB_dang 5 s.tasks i m (by omega)
  have h2 : (s.cores.map vi).all (A.dangC m) = true := plain_dang (plain_vi _)
  have h3 : (s.homes.map vi).all (A.dangC m) = true := plain_dang (plain_vi _)
  rw [List.all_append, jB_dang, Bool.and_true]
  simp only [List.all_cons, List.all_nil, h1, h2, h3, Bool.and_true]
  simp [St.c, slI, slT, cX0, zf, A.dangC]; omega
theorem bC0_own (s : St) (f i : Nat) : (bC0 s f i).take 0 ++ ((bC0 s f i).drop 0).map (List.map A.own) = bC0 s (if f = 1 then 2 else f) i := by
  have h1 := tB_own 5 s.tasks i
  have h2 : (s.cores.map vi).map A.own = s.cores.map vi := plain_own (plain_vi _)
  have h3 : (s.homes.map vi).map A.own = s.homes.map vi := plain_own (plain_vi _)
  have h4 := jB_map A.own (fun _ h => plain_own h) s.tasks i
  have h5 : (cX0 s).map A.own = cX0 s := rfl
  unfold bC0
  simp only [List.cons_append, List.nil_append, List.take_succ_cons, List.take_zero, List.drop_succ_cons, List.drop_zero, List.map_cons, h1, h2, h3, h4, h5, zf_own]
def CpQ0 (s : St) (a : Out × Env × Bx) : Prop := ∃ e' f', a = (.ex 0, e', bC0 s f' s.tasks.length) ∧ e' 1 = .ptr 0 0 ∧ e' 2 = .ptr 1 0
theorem cp_loop0 (s : St) (hs : Sm s) (g : Good s) : ∀ (d i f : Nat) (e : Env), i + d = s.tasks.length → e 1 = .ptr 0 0 → e 2 = .ptr 1 0 → e 18 = .bs 3 s.tasks.length 6 → e 19 = vi s.tasks.length → e 20 = vi i →
    EXG (CpQ0 s) (evL tabC extC 0 L21v_0 (e, bC0 s f i)) := by
  have hn := g.tasks.2
  intro d
  induction d with
  | zero =>
    intro i f e hi h1 h2 h18 h19 h20
    obtain rfl : i = s.tasks.length := by omega
    have hl := bC0_len s f s.tasks.length (Nat.le_refl _)
    have hL := loopIn_all (nb := 0) (kb := 20) (live := [1, 2, 18, 19, 20]) (e := e) (bx := bC0 s f s.tasks.length) (by omega) (by omega) (by rw [hl]; simp [h1, h2, h18, h19, h20, A.dang] <;> omega) (by rw [hl]; exact bC0_dang s f _ _ (Nat.le_refl _))
    rw [bC0_own] at hL
    generalize bC0 s f s.tasks.length = X at *
    refine ⟨(.ex 0, put 21 (vb false) (keepL [1, 2, 18, 19, 20] e), bC0 s (if f = 1 then 2 else f) s.tasks.length), (go21v_0 _ _).trans (by rw [hL]; simp [B21v_0, push_cast, -Int.not_lt, -Int.not_le, ↓evI_call, ↓evI_calli, ↓evI_calln, ↓evI_callz, ↓evI_callv, ↓evI_mxn, keepL, emp, h1, h2, h18, h19, h20]), _, _, rfl, by simp [put_at, keepL, h1], by simp [put_at, keepL, h2]⟩
  | succ d ih =>
    intro i f e hi h1 h2 h18 h19 h20
    have hil : i < s.tasks.length := by omega
    have hl := bC0_len s f i (by omega)
    have hL := loopIn_all (nb := 0) (kb := 20) (live := [1, 2, 18, 19, 20]) (e := e) (bx := bC0 s f i) (by omega) (by omega) (by rw [hl]; simp [h1, h2, h18, h19, h20, A.dang] <;> omega) (by rw [hl]; exact bC0_dang s f _ _ (Nat.le_refl _))
    rw [bC0_own] at hL
    generalize (if f = 1 then 2 else f) = f1 at *
    have hp := (g.task _ (List.getElem_mem hil)).parts
    have hl3 := len_pt s.tasks[i].parts
    have hcl : ∀ bx, callnK (callL tabC extC) 60 [.sl (s.tasks[i].parts.flatMap Pt.c) s.tasks[i].parts.length 0] bx = some (.bs bx.length s.tasks[i].parts.length 3, [], strip (bx ++ [s.tasks[i].parts.flatMap Pt.c])) := fun bx =>
      callnK_bs (upC (by decide) ((clone_60 _ _ bx (plain_pt _) hl3 (by omega)).trans (by unfold cloned; rw [if_neg (by omega)])))
    have hd := tB_drop 5 s.tasks i hil
    have hst := tB_step 5 s.tasks i hil
    have htl := tB_len 5 s.tasks i
    have hJl := jB_len s.tasks i (by omega)
    have hJs := jB_step s.tasks i hil
    have hTcp := tB_cp 5 s.tasks (i + 1)
    have hTcp0 := tB_cp 5 s.tasks i
    have hJcp := jB_map A.cp1 (fun _ h => plain_cp h) s.tasks i
    have hPcp : (s.tasks[i].parts.flatMap Pt.c).map A.cp1 = s.tasks[i].parts.flatMap Pt.c := plain_cp (plain_pt _)
    have hCcp : (s.cores.map vi).map A.cp1 = s.cores.map vi := plain_cp (plain_vi _)
    have hHcp : (s.homes.map vi).map A.cp1 = s.homes.map vi := plain_cp (plain_vi _)
    have q1 : IntKind.wrap .i64 ((i : Int) + 1) = ((i + 1 : Nat) : Int) := by rw [wrap_in _ (by omega) (by omega)]; omega
    have q2 : (i : Int) < s.tasks.length := by omega
    have k1 : i * 6 + 6 ≤ s.tasks.length * 6 := by omega
    have k2 : i * 6 + 5 + 1 ≤ s.tasks.length * 6 := by omega
    have ih1 := ih (i + 1) (if f1 = 2 then 0 else f1)
    unfold bC0 at ih1
    rw [hJs] at ih1
    rw [go21v_0, hL]
    unfold bC0
    have hbi : 5 + 2 * i = (jB s.tasks i).length + 5 := by omega
    rw [hbi] at hst
    generalize tB 5 s.tasks i = T at *
    generalize tB 5 s.tasks (i + 1) = T2 at *
    generalize jB s.tasks i = J at *
    have hJg : ∀ x : List A, (J ++ [x])[J.length]? = some x := fun x => by simp
    have hJt : ∀ x y : List A, (J ++ [x]).set J.length y = J ++ [y] := fun x y => by simp
    simp only [Tk.c, slP] at hd ih1
    generalize s.tasks[i].parts.flatMap Pt.c = PC at *
    generalize s.homes.map vi = HC at *
    generalize s.cores.map vi = CC at *
    generalize ((i + 1 : Nat) : Int) = z at *
    simp [B21v_0, push_cast, -Int.not_lt, -Int.not_le, ↓evI_call, ↓evI_calli, ↓evI_calln, ↓evI_callz, ↓evI_callv, ↓evI_mxn, keepL, emp, h1, h2, h18, h19, h20, St.c, slI, slT, cX0, zf, hil, q1, q2, k1, k2, hd, htl, hcl, hst, strip, A.cp1, hTcp, hTcp0, hJcp, hPcp, hCcp, hHcp, hJg, hJt, -List.all_eq_true]
    simp only [St.c, slI, slT, cX0, zf, List.cons_append, List.nil_append] at ih1
    apply ih1
    all_goals first | omega | (simp [put_at]; done)
theorem copyB0 (s : St) (hs : Sm s) (g : Good s) (hh : s.homes.length = 0) : callL tabC extC 21 [.agg (St.c s)]  [] = some (.agg (cX0 s), [cX0 s, cX0 s, s.cores.map vi, tB 5 s.tasks s.tasks.length] ++ jB s.tasks s.tasks.length) := by
  have hn := g.tasks
  have hc := g.cores
  have ho := g.homes
  rw [callL_tab _ _ rfl (rfl : tabC 21 = some C21v) rfl]
  have f1 : ∀ bx, callnK (callL tabC extC) 58 [.sl (s.cores.map vi) s.cores.length 0] bx = some (.bs bx.length s.cores.length 1, [], strip (bx ++ [s.cores.map vi])) := fun bx =>
    callnK_bs (upC (by decide) ((clone_58 _ _ bx (plain_vi _) (by simp) (by omega)).trans (by unfold cloned; rw [if_neg (by omega)])))
  have f3 : ∀ bx, callnK (callL tabC extC) 59 [.sl (s.tasks.flatMap Tk.c) s.tasks.length 0] bx = some (.bs bx.length s.tasks.length 6, [], strip (bx ++ [s.tasks.flatMap Tk.c])) := fun bx =>
    callnK_bs (upC (by decide) ((clone_59 _ _ bx (plain_tk _) (len_tk _) (by omega)).trans (by unfold cloned; rw [if_neg (by omega)])))
  have c1 : (s.cores.map vi).map A.cp1 = s.cores.map vi := plain_cp (plain_vi _)
  have c2 : (s.homes.map vi).map A.cp1 = s.homes.map vi := plain_cp (plain_vi _)
  have c3 : (s.tasks.flatMap Tk.c).map A.cp1 = s.tasks.flatMap Tk.c := plain_cp (plain_tk _)
  have hh0 : s.homes = [] := List.eq_nil_of_length_eq_zero hh
  have f2 : ∀ bx, callnK (callL tabC extC) 58 [.sl [] 0 0] bx = some (.sl [] 0 0, [], strip (bx ++ [])) := fun bx =>
    callnK_sl (n := []) (upC (by decide) ((clone_58 [] 0 bx rfl rfl (by omega)).trans (by unfold cloned; rw [if_pos rfl, List.append_nil])))
  have hlp := fun (e : Env) (h : e 1 = .ptr 0 0 ∧ e 2 = .ptr 1 0 ∧ e 18 = .bs 3 s.tasks.length 6 ∧ e 19 = vi s.tasks.length ∧ e 20 = vi ((0 : Nat) : Int)) => cp_loop0 s hs g s.tasks.length 0 1 e (by omega) h.1 h.2.1 h.2.2.1 h.2.2.2.1 h.2.2.2.2
  have hz : bC0 s 1 0 = [cX0 s, zf 1, s.cores.map vi, s.tasks.flatMap Tk.c] := by
    unfold bC0; rw [tB_zero]; rfl
  rw [hz] at hlp
  unfold EXG CpQ0 at hlp
  have hd := bC0_len s
  simp only [St.c, slI, slT, cX0, zf] at hlp ⊢
  generalize hT : s.tasks.flatMap Tk.c = T at *
  simp only [hh0, List.map_nil, List.length_nil] at hlp ⊢
  simp [C21v, push_cast, -Int.not_lt, -Int.not_le, ↓evI_call, ↓evI_calli, ↓evI_calln, ↓evI_callz, ↓evI_callv, ↓evI_mxn, f1, f2, f3, strip, A.cp1, c1, c2, c3, hh0, -List.all_eq_true]
  refine behind (hlp _ (by simp [put_at])) ?_
  rintro _ ⟨e', f', rfl, k1, k2⟩
  simp [push_cast, -Int.not_lt, -Int.not_le, ↓evI_call, ↓evI_calli, ↓evI_calln, ↓evI_callz, ↓evI_callv, ↓evI_mxn, k1, k2, bC0, cX0, zf, St.c, slI, slT, A.cp1, hh0, hT]
end Go.Proofs.YtkohggddaheefaaEv
