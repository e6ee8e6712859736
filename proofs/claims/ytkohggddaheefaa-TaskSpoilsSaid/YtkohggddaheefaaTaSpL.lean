/- A set's cells in boxes, frozen; the copy that the law makes first. -/
import Derived.Test.YtkohggddaheefaaTaSpW
import Derived.Test.YtkohggddaheefaaTaTwice
set_option linter.unusedSimpArgs false
set_option linter.unusedVariables false
namespace Go.Proofs.YtkohggddaheefaaEv
open Go
set_option maxHeartbeats 4000000
theorem mapM_set {g : A → Option A} {T L : List A} (h : T.mapM g = some L) {q : Nat} {v v' : A} (hv : g v = some v') (hq : q < T.length) : (T.take q ++ v :: T.drop (q + 1)).mapM g = some (L.take q ++ v' :: L.drop (q + 1)) := by
  have key : ∀ (T L : List A) (q : Nat), T.mapM g = some L → q < T.length → (T.take q ++ v :: T.drop (q + 1)).mapM g = some (L.take q ++ v' :: L.drop (q + 1)) := by
    intro T
    induction T with
    | nil => intro L q h hq; exact absurd hq (Nat.not_lt_zero _)
    | cons a T ih =>
      intro L q h hq
      rw [List.mapM_cons] at h
      cases h1 : g a with
      | none => rw [h1] at h; cases h
      | some a' =>
        rw [h1] at h
        cases h2 : T.mapM g with
        | none => rw [h2] at h; cases h
        | some L' =>
          rw [h2] at h
          cases h
          cases q with
          | zero =>
            show (v :: T).mapM g = some (v' :: L')
            rw [List.mapM_cons, hv, h2]; rfl
          | succ q =>
            have := ih L' q h2 (by simpa using hq)
            show (a :: (T.take q ++ v :: T.drop (q + 1))).mapM g = some (a' :: (L'.take q ++ v' :: L'.drop (q + 1)))
            rw [List.mapM_cons, h1, this]; rfl
  exact key T L q h hq
theorem mapM_app {g : A → Option A} {a b x y : List A} (h1 : a.mapM g = some x) (h2 : b.mapM g = some y) : (a ++ b).mapM g = some (x ++ y) := by
  induction a generalizing x with
  | nil => cases h1; exact h2
  | cons c a ih =>
    rw [List.mapM_cons] at h1
    cases hc : g c with
    | none => rw [hc] at h1; cases h1
    | some c' =>
      rw [hc] at h1
      cases ha : a.mapM g with
      | none => rw [ha] at h1; cases h1
      | some a' =>
        rw [ha] at h1
        cases h1
        rw [List.cons_append, List.mapM_cons, hc, ih ha]; rfl
/-- The parts alone are others. -/
def Alike2 (t u : Tk) : Prop := t.name = u.name ∧ t.period = u.period ∧ t.deadline = u.deadline ∧ t.prio = u.prio ∧ t.cluster = u.cluster ∧ t.parts.length = u.parts.length
theorem tB_frz (bx : Bx) (d : Nat) : ∀ (b : Nat) (l l' : List Tk), l.length = l'.length → (∀ (j : Nat) (t u : Tk), l[j]? = some t → l'[j]? = some u → Alike2 t u ∧ bx[b + 2 * j]? = some (u.parts.flatMap Pt.c)) → (tB b l l.length).mapM (frzC bx (d + 1)) = some (l'.flatMap Tk.c)
  | b, [], [], _, _ => rfl
  | b, t :: l, u :: l', hl, h => by
    obtain ⟨⟨e1, e2, e3, e4, e5, e6⟩, h1⟩ := h 0 t u rfl rfl
    rw [Nat.mul_zero, Nat.add_zero] at h1
    have ih := tB_frz bx d (b + 2) l l' (by simpa using hl) (fun j t' u' ht hu => by
      have := h (j + 1) t' u' ht hu
      rwa [show b + 2 * (j + 1) = b + 2 + 2 * j by omega] at this)
    have hp := plain_mapM (bx := bx) (d := d) (plain_pt u.parts)
    have hlen := len_pt u.parts
    have hk : (tkB b t).mapM (frzC bx (d + 1)) = some (Tk.c u) := by
      have hb : frzC bx (d + 1) (.bs b t.parts.length 3) = some (slP u.parts) := by
        unfold frzC
        rw [h1, e6]
        simp only
        rw [if_pos (by omega), List.take_of_length_le (by omega), hp]; rfl
      unfold tkB
      simp only [List.mapM_cons, List.mapM_nil, hb]
      rw [e1, e2, e3, e4, e5]; rfl
    show (tkB b t ++ tB (b + 2) l l.length).mapM _ = some (Tk.c u ++ l'.flatMap Tk.c)
    exact mapM_app hk ih
theorem jB_get : ∀ (l : List Tk) (j : Nat) (u : Tk), l[j]? = some u → (jB l l.length)[2 * j + 1]? = some (u.parts.flatMap Pt.c)
  | t :: l, 0, u, h => by cases h; rfl
  | t :: l, j + 1, u, h => by
    have ih := jB_get l j u h
    have e : jB (t :: l) (t :: l).length = [Tk.c t, t.parts.flatMap Pt.c] ++ jB l l.length := by unfold jB; simp
    rw [e, show 2 * (j + 1) + 1 = 2 * j + 1 + 2 by omega, List.getElem?_append_right (by simp)]
    simpa using ih
theorem cpT_frz (s : St) (bx : Bx) (d : Nat) : (cpT s s.tasks.length).mapM (frzC bx d) = some (s.tasks.flatMap Tk.c) := by
  unfold cpT
  rw [List.drop_length, List.flatMap_nil, List.append_nil, List.take_length]
  induction s.tasks with
  | nil => rfl
  | cons t l ih =>
    rw [List.flatMap_cons, List.flatMap_cons]
    refine mapM_app ?_ ih
    unfold tkc2
    simp only [List.mapM_cons, List.mapM_nil]
    cases d <;> rfl
def xS0 (s : St) : List A := [vi s.proto, .sl (s.cores.map vi) s.cores.length 2, .sl (s.homes.map vi) s.homes.length 2, .bs 3 s.tasks.length 6]
def CoQ0 (s : St) (zz : Out × Env × Bx) : Prop := ∃ e', zz = (.ex 0, e', [St.c s, z4, xS0 s, cpT s s.tasks.length]) ∧ e' 2 = .ptr 1 0 ∧ e' 3 = .ptr 2 0
theorem co0_own (s : St) (T : List A) (e : Env) : evL tab0 ext0 0 L23_0 (e, [St.c s, [vi 0, .sl [] 0 1, .sl [] 0 1, .sl [] 0 1], xS0 s, T]) = evL tab0 ext0 0 L23_0 (e, [St.c s, z4, xS0 s, T]) := by
  rw [go23_0, go23_0]
  congr 1
theorem co0_loop (s : St) (hs : Sm s) : ∀ (d i : Nat) (e : Env), i + d = s.tasks.length → e 1 = .ptr 0 0 → e 2 = .ptr 1 0 → e 3 = .ptr 2 0 → e 4 = vi i →
    EXC (CoQ0 s) (evL tab0 ext0 0 L23_0 (e, [St.c s, z4, xS0 s, cpT s i])) := by
  have h9 := hs.tasks
  intro d
  induction d with
  | zero =>
    intro i e hi h1 h2 h3 h4
    obtain rfl : i = s.tasks.length := by omega
    have p1 := cpT_own s s.tasks.length
    have p2 := cpT_dang s s.tasks.length 4
    unfold CoQ0
    generalize cpT s s.tasks.length = T at *
    rw [go23_0]
    simp [B23_0, push_cast, -Int.not_lt, -Int.not_le, ↓evI_call, ↓evI_calli, ↓evI_calln, ↓evI_callz, ↓evI_callv, ↓evI_mxn, loopIn, loopIn0, keepL, emp, A.dang, A.dangC, h1, h2, h3, h4, St.c, slI, slT, xS0, z4, p1, p2, -List.all_eq_true]
    exact ⟨_, rfl, _, rfl, by simp [put_at], by simp [put_at]⟩
  | succ d ih =>
    intro i e hi h1 h2 h3 h4
    have hi1 : i < s.tasks.length := by omega
    have hi2 : (i : Int) < s.tasks.length := by omega
    have hw : IntKind.wrap .i64 ((i : Int) + 1) = (i : Int) + 1 := wrap_in _ (by omega) (by omega)
    have p1 := cpT_own s i
    have p2 := cpT_dang s i 4
    have p3 := cpT_len s i (by omega)
    have p4 := cpT_step s i hi1
    have hd := drop_tk s.tasks i hi1
    have hp := hs.parts _ (List.getElem_mem hi1)
    have hl3 := len_pt s.tasks[i].parts
    have hsz : s.tasks[i].parts.length * 24 ≤ 70368744177664 := by omega
    have p5 : i * 6 + 6 ≤ (cpT s i).length := by omega
    have p6 : i * 6 + 5 + 1 ≤ (cpT s i).length := by omega
    have ih1 := ih (i + 1)
    generalize cpT s i = T at *
    simp only [Tk.c, slP] at hd
    rw [go23_0]
    simp (maxSteps := 400000) [B23_0, push_cast, -Int.not_lt, -Int.not_le, ↓evI_call, ↓evI_calli, ↓evI_calln, ↓evI_callz, ↓evI_callv, ↓evI_mxn, loopIn, loopIn0, keepL, emp, A.dang, A.dangC, h1, h2, h3, h4, St.c, slI, slT, xS0, z4, hi1, hi2, hw, p1, p2, p4, p5, p6, hd, hl3, hsz, asList, -List.all_eq_true]
    apply ih1
    all_goals first | omega | (simp [put_at]; done)
theorem copied_p (s : St) (hs : Sm s) (hN : 0 < s.tasks.length) : pureOf (callL tab0 ext0) false 23 [.agg (St.c s)] = some (.agg (St.c s)) := by
  rw [pureOf_b, callL_tab _ _ rfl tab23 rfl]
  have h9 := hs.tasks
  have hc8 := hs.cores
  have hh10 := hs.homes
  have s1 : s.cores.length * 8 ≤ 70368744177664 := by omega
  have s2 : s.homes.length * 8 ≤ 70368744177664 := by omega
  have s3 : s.tasks.length * 72 ≤ 70368744177664 := by omega
  have hl := len_tk s.tasks
  have pn := plain_norm (plain_tk s.tasks)
  have hlp := fun e => co0_loop s hs s.tasks.length 0 e (by omega)
  simp only [← co0_own] at hlp
  rw [cpT_zero] at hlp
  unfold CoQ0 at hlp
  have hfz := cpT_frz s
  have hfl := cpT_len s s.tasks.length (Nat.le_refl _)
  simp only [St.c, slI, slT, xS0] at hlp ⊢
  generalize cpT s s.tasks.length = T2 at *
  generalize s.tasks.flatMap Tk.c = T at *
  have hft : T2.take (s.tasks.length * 6) = T2 := List.take_of_length_le (by omega)
  simp (maxSteps := 400000) [C23, push_cast, -Int.not_lt, -Int.not_le, ↓evI_call, ↓evI_calli, ↓evI_calln, ↓evI_callz, ↓evI_callv, ↓evI_mxn, s1, s2, s3, hl, hN, pn, asList, -List.all_eq_true]
  refine behind (hlp _ (by simp [put_at]) (by simp [put_at]) (by simp [put_at]) (by simp [put_at])) ?_
  rintro _ ⟨e', rfl, k2, k3⟩
  simp [push_cast, -Int.not_lt, -Int.not_le, ↓evI_call, ↓evI_calli, ↓evI_calln, ↓evI_callz, ↓evI_callv, ↓evI_mxn, k2, k3, z4, frzK, hft, hfl, hfz]
/-! ### the set that is written -/
theorem sp_sm {s : St} (hs : Sm s) {k : Nat} (hk : k < s.tasks.length) (w : Nat) : Sm (twS s k (spT s w s.tasks[k])) := by
  have hm : ∀ t ∈ (twS s k (spT s w s.tasks[k])).tasks, t.parts.length ≤ 10 ∧ t.name.size ≤ 20 := by
    intro t ht
    rcases List.mem_or_eq_of_mem_set ht with h | rfl
    · exact ⟨hs.parts _ h, hs.names _ h⟩
    · have a1 := hs.parts _ (List.getElem_mem hk)
      have a2 := hs.names _ (List.getElem_mem hk)
      unfold spT
      split
      · exact ⟨a1, by show 3 ≤ 20; decide⟩
      · exact ⟨a1, a2⟩
      · exact ⟨a1, a2⟩
      · exact ⟨a1, a2⟩
      · exact ⟨Nat.zero_le _, a2⟩
      · exact ⟨by rw [List.length_set]; exact a1, a2⟩
      · exact ⟨by rw [List.length_set]; exact a1, a2⟩
  exact ⟨hs.cores, hs.homes, by show (s.tasks.set k _).length ≤ 9; rw [List.length_set]; exact hs.tasks, fun t ht => (hm t ht).1, fun t ht => (hm t ht).2⟩
end Go.Proofs.YtkohggddaheefaaEv
