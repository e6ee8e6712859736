/- swingbridgelaw16.WaitLeast. -/
import Derived.Test.YtgndbkeiickihaaWaLeP
import Derived.Test.YtgndbkeiickihaaIn1
import Derived.Test.YtgndbkeiickihaaFrz
set_option linter.unusedSimpArgs false
set_option linter.unusedVariables false
namespace Go.Proofs.YtgndbkeiickihaaEv
open Go
set_option maxHeartbeats 4000000
def EXW {α : Type} (Q : α → Prop) (r : Option α) : Prop := ∃ zz, r = some zz ∧ Q zz
/-- What the loops leave. -/
def WQ2 (x : Nat) (s t : St) (bs : List Int) (b0 b1 : Nat) (j : Int) (zz : Out × Env × Bx) : Prop := ∃ e', zz = (.ex x, e', []) ∧ e' 1 = slI bs ∧ e' 5 = .ipx b0 0 (St.c s) ∧ e' 12 = .ipx b1 0 (St.c t) ∧ e' 15 = vi j
theorem wl_loop2 (s t : St) (bs : List Int) (b0 b1 j : Nat) (hj : j < s.tasks.length) (ps : List Pt) (hps : s.tasks[j].parts = ps) (l l' : List Int) (is : Bool) (hn : l.length ≤ 10) (hl : l.length = ps.length)
    (h1 : ∀ i (hi : i < ps.length) (h : i < l.length), (0 < l[i] ↔ ps[i].kind = 3) ∧ (ps[i].kind = 3 → ps[i].len ≤ l[i])) (h2 : is = true → ∀ i (h1 : i < l.length) (h2 : i < l'.length), l[i] ≤ l'[i]) :
    ∀ (d i : Nat) (e : Env) (J : Bx), i + d = l.length → e 1 = slI bs → e 5 = .ipx b0 0 (St.c s) → e 12 = .ipx b1 0 (St.c t) → e 15 = vi j → e 16 = slI l → e 17 = vb true → e 18 = slI l' → e 19 = vb is → e 20 = vi i →
    EXW (WQ2 2 s t bs b0 b1 j) (evL tab0 ext0 0 L8_2 (e, J)) := by
  intro d
  induction d with
  | zero =>
    intro i e J hi g1 g5 g12 g15 g16 g17 g18 g19 g20
    obtain rfl : i = l.length := by omega
    rw [go8_2]
    simp [B8_2, push_cast, -Int.not_lt, -Int.not_le, ↓evI_call, ↓evI_calli, ↓evI_calln, ↓evI_callz, ↓evI_callv, ↓evI_mxn, loopIn, loopIn0, keepL, emp, A.dang, A.dangC, St.c, slI, slT, g1, g5, g12, g15, g16, g17, g18, g19, g20]
    exact ⟨_, rfl, _, rfl, by simp [put_at, slI], by simp [put_at, St.c, slI, slT], by simp [put_at, St.c, slI, slT], by simp [put_at]⟩
  | succ d ih =>
    intro i e J hi g1 g5 g12 g15 g16 g17 g18 g19 g20
    have hil : i < l.length := by omega
    have hil2 : (i : Int) < l.length := by omega
    have hip : i < ps.length := by omega
    have hip2 : (i : Int) < ps.length := by omega
    have hj2 : (j : Int) < s.tasks.length := by omega
    have hw : IntKind.wrap .i64 ((i : Int) + 1) = (i : Int) + 1 := wrap_in _ (by omega) (by omega)
    have hd := drop_int l i hil
    have hdt := drop_tk s.tasks j hj
    have hdp := drop_pt ps i hip
    obtain ⟨k1, k2⟩ := h1 i hip hil
    have k3 := fun h => h2 h i hil
    have ih1 := ih (i + 1)
    rw [go8_2]
    simp only [Tk.c, hps, slP] at hdt
    simp only [Pt.c] at hdp
    generalize l[i] = x at *
    generalize ps[i] = p at *
    by_cases hk : p.kind = 3
    · have x0 : 0 < x := k1.2 hk
      have x1 : ¬ x < p.len := by have := k2 hk; omega
      have hkz : eqz p.kind 3 = true := by simp [eqz, hk]
      cases is with
      | false =>
        simp [B8_2, push_cast, -Int.not_lt, -Int.not_le, ↓evI_call, ↓evI_calli, ↓evI_calln, ↓evI_callz, ↓evI_callv, ↓evI_mxn, loopIn, loopIn0, keepL, emp, A.dang, A.dangC, St.c, slI, slT, g1, g5, g12, g15, g16, g17, g18, g19, g20, hil, hil2, hip, hip2, hj, hj2, hw, hd, hdt, hdp, x0, x1, hk, hkz]
        apply ih1
        all_goals first | omega | (simp [put_at, St.c, slI, slT]; done)
      | true =>
        have k3 := k3 rfl
        by_cases hil' : i < l'.length
        · have hil3 : (i : Int) < l'.length := by omega
          have hd' := drop_int l' i hil'
          have k3 := k3 hil'
          have k4 : ¬ l'[i] < x := by omega
          generalize l'[i] = y at *
          simp [B8_2, push_cast, -Int.not_lt, -Int.not_le, ↓evI_call, ↓evI_calli, ↓evI_calln, ↓evI_callz, ↓evI_callv, ↓evI_mxn, loopIn, loopIn0, keepL, emp, A.dang, A.dangC, St.c, slI, slT, g1, g5, g12, g15, g16, g17, g18, g19, g20, hil, hil2, hil', hil3, hip, hip2, hj, hj2, hw, hd, hd', hdt, hdp, x0, x1, hk, hkz, k4]
          apply ih1
          all_goals first | omega | (simp [put_at, St.c, slI, slT]; done)
        · have hil3 : ¬ (i : Int) < l'.length := by omega
          simp [B8_2, push_cast, -Int.not_lt, -Int.not_le, ↓evI_call, ↓evI_calli, ↓evI_calln, ↓evI_callz, ↓evI_callv, ↓evI_mxn, loopIn, loopIn0, keepL, emp, A.dang, A.dangC, St.c, slI, slT, g1, g5, g12, g15, g16, g17, g18, g19, g20, hil, hil2, hil', hil3, hip, hip2, hj, hj2, hw, hd, hdt, hdp, x0, x1, hk, hkz]
          apply ih1
          all_goals first | omega | (simp [put_at, St.c, slI, slT]; done)
    · have x0 : ¬ 0 < x := fun h => hk (k1.1 h)
      have hkz : eqz p.kind 3 = false := by simp [eqz, hk]
      cases is with
      | false =>
        simp [B8_2, push_cast, -Int.not_lt, -Int.not_le, ↓evI_call, ↓evI_calli, ↓evI_calln, ↓evI_callz, ↓evI_callv, ↓evI_mxn, loopIn, loopIn0, keepL, emp, A.dang, A.dangC, St.c, slI, slT, g1, g5, g12, g15, g16, g17, g18, g19, g20, hil, hil2, hip, hip2, hj, hj2, hw, hd, hdt, hdp, x0, hk, hkz]
        apply ih1
        all_goals first | omega | (simp [put_at, St.c, slI, slT]; done)
      | true =>
        have k3 := k3 rfl
        by_cases hil' : i < l'.length
        · have hil3 : (i : Int) < l'.length := by omega
          have hd' := drop_int l' i hil'
          have k3 := k3 hil'
          have k4 : ¬ l'[i] < x := by omega
          generalize l'[i] = y at *
          simp [B8_2, push_cast, -Int.not_lt, -Int.not_le, ↓evI_call, ↓evI_calli, ↓evI_calln, ↓evI_callz, ↓evI_callv, ↓evI_mxn, loopIn, loopIn0, keepL, emp, A.dang, A.dangC, St.c, slI, slT, g1, g5, g12, g15, g16, g17, g18, g19, g20, hil, hil2, hil', hil3, hip, hip2, hj, hj2, hw, hd, hd', hdt, hdp, x0, hk, hkz, k4]
          apply ih1
          all_goals first | omega | (simp [put_at, St.c, slI, slT]; done)
        · have hil3 : ¬ (i : Int) < l'.length := by omega
          simp [B8_2, push_cast, -Int.not_lt, -Int.not_le, ↓evI_call, ↓evI_calli, ↓evI_calln, ↓evI_callz, ↓evI_callv, ↓evI_mxn, loopIn, loopIn0, keepL, emp, A.dang, A.dangC, St.c, slI, slT, g1, g5, g12, g15, g16, g17, g18, g19, g20, hil, hil2, hil', hil3, hip, hip2, hj, hj2, hw, hd, hdt, hdp, x0, hk, hkz]
          apply ih1
          all_goals first | omega | (simp [put_at, St.c, slI, slT]; done)
theorem wl_loop0 {s t : St} (h : LeS s t) (hs : Sm s) (ht : Sm t) (bs : List Int) (hb : ∀ b ∈ bs, I64' b) (b0 b1 : Nat) :
    ∀ (d j : Nat) (e : Env) (J : Bx), j + d = s.tasks.length → e 1 = slI bs → e 5 = .ipx b0 0 (St.c s) → e 12 = .ipx b1 0 (St.c t) → e 15 = vi j → EXW (fun zz => ∃ e', zz = (.ex 0, e', [])) (evL tab0 ext0 0 L8_0 (e, J)) := by
  have h9 := hs.tasks
  intro d
  induction d with
  | zero =>
    intro j e J hj g1 g5 g12 g15
    obtain rfl : j = s.tasks.length := by omega
    rw [go8_0]
    simp [B8_0, push_cast, -Int.not_lt, -Int.not_le, ↓evI_call, ↓evI_calli, ↓evI_calln, ↓evI_callz, ↓evI_callv, ↓evI_mxn, loopIn, loopIn0, keepL, emp, A.dang, A.dangC, St.c, slI, slT, g1, g5, g12, g15]
    exact ⟨_, rfl, _, rfl⟩
  | succ d ih =>
    intro j e J hj g1 g5 g12 g15
    have hj1 : j < s.tasks.length := by omega
    have hj2 : (j : Int) < s.tasks.length := by omega
    have hw : IntKind.wrap .i64 ((j : Int) + 1) = (j : Int) + 1 := wrap_in _ (by omega) (by omega)
    have q1 := waits_is s hs bs hb j
    have q2 := waits_is t ht bs hb j
    have hdt := drop_tk s.tasks j hj1
    simp only [Tk.c, slP] at hdt
    have ih1 := ih (j + 1)
    rw [go8_0]
    cases hx : waitsS s bs j with
    | none =>
      have hy : waitsS t bs j = none := by
        cases hy : waitsS t bs j with
        | none => rfl
        | some l' => obtain ⟨l, hl, _⟩ := wait_more h hj1 hy; rw [hx] at hl; cases hl
      rw [hx] at q1
      rw [hy] at q2
      simp only [St.c, slI, slT, Option.getD_none, Option.isSome_none] at q1 q2
      simp [B8_0, push_cast, -Int.not_lt, -Int.not_le, ↓evI_call, ↓evI_calli, ↓evI_calln, ↓evI_callz, ↓evI_callv, ↓evI_mxn, loopIn, loopIn0, keepL, emp, A.dang, A.dangC, St.c, slI, slT, g1, g5, g12, g15, hj1, hj2, q1, q2, hw, go8_2, B8_2]
      apply ih1
      all_goals first | omega | (simp [put_at, St.c, slI, slT]; done)
    | some l =>
      obtain ⟨hl, h1⟩ := wait_least h.gs hj1 hx
      have hpn : s.tasks[j].parts.length ≤ 10 := hs.parts _ (List.getElem_mem hj1)
      have hln : eqz (l.length : Int) s.tasks[j].parts.length = true := by rw [hl]; simp [eqz]
      rw [hx] at q1
      simp only [St.c, slI, slT, Option.getD_some, Option.isSome_some] at q1
      have fin : ∀ (l' : List Int) (is : Bool), (is = true → ∀ i (h1 : i < l.length) (h2 : i < l'.length), l[i] ≤ l'[i]) → ∀ e J, e 1 = slI bs → e 5 = .ipx b0 0 (St.c s) → e 12 = .ipx b1 0 (St.c t) → e 15 = vi j → e 16 = slI l → e 17 = vb true → e 18 = slI l' → e 19 = vb is → e 20 = vi 0 →
          EXW (WQ2 2 s t bs b0 b1 j) (evL tab0 ext0 0 L8_2 (e, J)) := fun l' is h2 e J a1 a2 a3 a4 a5 a6 a7 a8 a9 =>
        wl_loop2 s t bs b0 b1 j hj1 _ rfl l l' is (by omega) hl h1 h2 l.length 0 e J (by omega) a1 a2 a3 a4 a5 a6 a7 a8 a9
      generalize s.tasks[j].parts = ps at *
      cases hy : waitsS t bs j with
      | none =>
        rw [hy] at q2
        have fin := fin [] false fun h => by cases h
        simp only [St.c, slI, slT, Option.getD_none, Option.isSome_none] at q2 fin
        simp [B8_0, push_cast, -Int.not_lt, -Int.not_le, ↓evI_call, ↓evI_calli, ↓evI_calln, ↓evI_callz, ↓evI_callv, ↓evI_mxn, loopIn, loopIn0, keepL, emp, A.dang, A.dangC, St.c, slI, slT, g1, g5, g12, g15, hj1, hj2, q1, q2, hw, hdt, hln]
        refine behindP (P := EXW _) (fin _ _ (by simp [put_at]) (by simp [put_at]) (by simp [put_at]) (by simp [put_at]) (by simp [put_at]) (by simp [put_at]) (by simp [put_at]) (by simp [put_at]) (by simp [put_at])) ?_
        rintro a ⟨e', rfl, k1, k5, k12, k15⟩
        simp [push_cast, -Int.not_lt, -Int.not_le, ↓evI_call, ↓evI_calli, ↓evI_calln, ↓evI_callz, ↓evI_callv, ↓evI_mxn, k1, k5, k12, k15, hw]
        apply ih1
        all_goals first | omega | (simp [put_at, k1, k5, k12, k15, St.c, slI, slT]; done)
      | some l' =>
        obtain ⟨l0, hl0, hle⟩ := wait_more h hj1 hy
        rw [hx] at hl0
        cases hl0
        rw [hy] at q2
        have fin := fin l' true fun _ => hle
        simp only [St.c, slI, slT, Option.getD_some, Option.isSome_some] at q2 fin
        simp [B8_0, push_cast, -Int.not_lt, -Int.not_le, ↓evI_call, ↓evI_calli, ↓evI_calln, ↓evI_callz, ↓evI_callv, ↓evI_mxn, loopIn, loopIn0, keepL, emp, A.dang, A.dangC, St.c, slI, slT, g1, g5, g12, g15, hj1, hj2, q1, q2, hw, hdt, hln]
        refine behindP (P := EXW _) (fin _ _ (by simp [put_at]) (by simp [put_at]) (by simp [put_at]) (by simp [put_at]) (by simp [put_at]) (by simp [put_at]) (by simp [put_at]) (by simp [put_at]) (by simp [put_at])) ?_
        rintro a ⟨e', rfl, k1, k5, k12, k15⟩
        simp [push_cast, -Int.not_lt, -Int.not_le, ↓evI_call, ↓evI_calli, ↓evI_calln, ↓evI_callz, ↓evI_callv, ↓evI_mxn, k1, k5, k12, k15, hw]
        apply ih1
        all_goals first | omega | (simp [put_at, k1, k5, k12, k15, St.c, slI, slT]; done)
/-- The pieces behind the longer set. -/
theorem wl_rest {s t : St} (h : LeS s t) (hs : Sm s) (ht : Sm t) (bs : List Int) (hb : ∀ b ∈ bs, I64' b) (b0 b1 : Nat) (e : Env) (g1 : e 1 = slI bs) (g5 : e 5 = .ipx b0 0 (St.c s)) (g12 : e 12 = .ipx b1 0 (St.c t)) :
    ∃ e' bx', evL tab0 ext0 0 (C.post 2 (C.post 6 C8.body)) (e, []) = some (.ret, e', bx') ∧ e' 10 = vb true := by
  have hlp := fun e J a1 a2 a3 a4 => wl_loop0 h hs ht bs hb b0 b1 s.tasks.length 0 e J (by omega) a1 a2 a3 a4
  suffices hh : EXW (fun zz => ∃ e' bx', zz = (.ret, e', bx') ∧ e' 10 = vb true) (evL tab0 ext0 0 (C.post 2 (C.post 6 C8.body)) (e, [])) by
    obtain ⟨zz, h1, e', bx', rfl, h2⟩ := hh
    exact ⟨e', bx', h1, h2⟩
  simp [C8, C.post, push_cast, -Int.not_lt, -Int.not_le, ↓evI_call, ↓evI_calli, ↓evI_calln, ↓evI_callz, ↓evI_callv, ↓evI_mxn]
  refine behindP (P := EXW _) (hlp _ _ (by simp [put_at, g1]) (by simp [put_at, g5]) (by simp [put_at, g12]) (by simp [put_at])) ?_
  rintro a ⟨e', rfl⟩
  simp [push_cast, -Int.not_lt, -Int.not_le, ↓evI_call, ↓evI_calli, ↓evI_calln, ↓evI_callz, ↓evI_callv, ↓evI_mxn]
  exact ⟨_, rfl, _, ⟨_, rfl⟩, by simp [put_at]⟩
/-! ### the pieces ahead of it -/
def wlB (s : St) (T P : List A) : Bx := [St.c s, [vi s.proto, slI s.cores, slI s.homes, .bs 2 s.tasks.length 6], T, P]
theorem wl_0 (s : St) (bs : List Int) (a b c : Int) (h : few8 s = false ∨ (few8 s = true ∧ (thereS s 0 = false ∨ ¬ bs.length = s.tasks.length))) :
    ∃ e bx, evL tab0 ext0 0 (C.pre 6 C8.body) (initFrom 0 [.agg (St.c s), slI bs, vu8 a, vu8 b, vu8 c], []) = some (.ret, e, bx) ∧ e 10 = vb true := by
  have h1 := pure_vb (k := false) known_24
  have h2 := pure_vb (k := false) (few_is_25 s)
  rcases h with hf | ⟨hf, hz⟩
  · rw [hf] at h2
    simp only [St.c, slI, slT] at h2 ⊢
    exact ⟨_, _, (Eq.refl (evL tab0 ext0 0 (C.pre 6 C8.body) _)).trans (by simp [C8, C.pre, initFrom, push_cast, -Int.not_lt, -Int.not_le, ↓evI_call, ↓evI_calli, ↓evI_calln, ↓evI_callz, ↓evI_callv, ↓evI_mxn, h1, h2]; exact ⟨rfl, rfl⟩), by simp [put_at]⟩
  · rw [hf] at h2
    have hs := few8_sm s hf
    have h3 := pure_vb (k := false) (thereR_is s 0 hs.fits)
    rcases hz with hz | hz
    · rw [hz] at h3
      simp only [St.c, slI, slT] at h2 h3 ⊢
      exact ⟨_, _, (Eq.refl (evL tab0 ext0 0 (C.pre 6 C8.body) _)).trans (by simp [C8, C.pre, initFrom, push_cast, -Int.not_lt, -Int.not_le, ↓evI_call, ↓evI_calli, ↓evI_calln, ↓evI_callz, ↓evI_callv, ↓evI_mxn, h1, h2, h3]; exact ⟨rfl, rfl⟩), by simp [put_at]⟩
    · have hz2 : eqz (bs.length : Int) s.tasks.length = false := by simp [eqz]; omega
      generalize thereS s 0 = th at h3
      simp only [St.c, slI, slT] at h2 h3 ⊢
      cases th <;> exact ⟨_, _, (Eq.refl (evL tab0 ext0 0 (C.pre 6 C8.body) _)).trans (by simp [C8, C.pre, initFrom, push_cast, -Int.not_lt, -Int.not_le, ↓evI_call, ↓evI_calli, ↓evI_calln, ↓evI_callz, ↓evI_callv, ↓evI_mxn, h1, h2, h3, hz2]; exact ⟨rfl, rfl⟩), by simp [put_at]⟩
theorem wl_1 (s : St) (bs : List Int) (a b c : Int) (ha : 0 ≤ a ∧ a ≤ 255) (hf : few8 s = true) (ht : thereS s 0 = true) (hl : bs.length = s.tasks.length) (q : Nat) (hq : (q : Int) = a % s.tasks.length) (hqn : q < s.tasks.length) (hp : 0 < s.tasks[q].parts.length) :
    ∃ e, evL tab0 ext0 0 (C.pre 6 C8.body) (initFrom 0 [.agg (St.c s), slI bs, vu8 a, vu8 b, vu8 c], []) =
      some (.nor, e, wlB s ((s.tasks.flatMap Tk.c).take (q * 6 + 5) ++ .bs 3 s.tasks[q].parts.length 3 :: (s.tasks.flatMap Tk.c).drop (q * 6 + 5 + 1)) (s.tasks[q].parts.flatMap Pt.c)) ∧
      e 1 = slI bs ∧ e 3 = vu8 b ∧ e 4 = vu8 c ∧ e 5 = .ptr 0 0 ∧ e 11 = vi q ∧ e 12 = .ptr 1 0 := by
  have h1 := pure_vb (k := false) known_24
  have h2 := pure_vb (k := false) (few_is_25 s)
  rw [hf] at h2
  have hs := few8_sm s hf
  have h3 := pure_vb (k := false) (thereR_is s 0 hs.fits)
  rw [ht] at h3
  have h9 := hs.tasks
  have h10 := hs.parts _ (List.getElem_mem hqn)
  have hz2 : eqz (bs.length : Int) s.tasks.length = true := by simp [eqz, hl]
  have hn0 : 0 < s.tasks.length := by omega
  have hN3 : ¬ (s.tasks.length : Int) = 0 := by omega
  have hN4 : ¬ s.tasks = [] := fun h => by rw [h] at hqn; simp at hqn
  have q1 := Int.tmod_eq_emod_of_nonneg (b := (s.tasks.length : Int)) ha.1
  rw [← hq] at q1
  have wa : IntKind.wrap .i64 a = a := wrap_in _ (by omega) (by omega)
  have hl6 := len_tk s.tasks
  have t3 := plain_norm (plain_tk s.tasks)
  have hdt := drop_tk s.tasks q hqn
  simp only [Tk.c, slP] at hdt
  have hq2 : (q : Int) < s.tasks.length := by omega
  have hsz : s.tasks.length * 72 ≤ 70368744177664 := by omega
  have hsz2 : s.tasks[q].parts.length * 24 ≤ 70368744177664 := by omega
  have hb6 : q * 6 + 5 + 1 ≤ s.tasks.length * 6 := by omega
  have hp3 := len_pt s.tasks[q].parts
  have t5 := plain_norm (plain_pt s.tasks[q].parts)
  simp only [wlB, St.c, slI, slT, slP] at h2 h3 ⊢
  generalize s.tasks[q].parts = ps at *
  generalize ps.flatMap Pt.c = P at *
  generalize s.tasks.flatMap Tk.c = T at *
  exact ⟨_, (Eq.refl (evL tab0 ext0 0 (C.pre 6 C8.body) _)).trans (by
    simp [C8, C.pre, initFrom, push_cast, -Int.not_lt, -Int.not_le, ↓evI_call, ↓evI_calli, ↓evI_calln, ↓evI_callz, ↓evI_callv, ↓evI_mxn, clr, neOk, h1, h2, h3, hz2, hn0, hN3, hN4, q1, wa, hl6, t3, t5, hdt, hq2, hqn, hsz, hsz2, hb6, hp, hp3, asList, eqz_self, -List.all_eq_true, -List.map_map]; rfl), by simp [put_at], by simp [put_at], by simp [put_at], by simp [put_at], by simp [put_at], by simp [put_at]⟩
def wlL (n c : Int) : Int := if n + c % 20 < 60 then n + c % 20 else 60
theorem wl_2 (s : St) (bs : List Int) (ps : List Pt) (q k : Nat) (T' : List A) (b c : Int) (hb : 0 ≤ b ∧ b ≤ 255) (hc : 0 ≤ c ∧ c ≤ 255) (hqn : q < s.tasks.length) (hT : T'.length = s.tasks.length * 6) (hT5 : T'[q * 6 + 5]? = some (.bs 3 ps.length 3))
    (hk : (k : Int) = b % ps.length) (hkn : k < ps.length) (hp10 : ps.length ≤ 10) (hpl : 1 ≤ ps[k].len ∧ ps[k].len ≤ 60) (e : Env) (g1 : e 1 = slI bs) (g3 : e 3 = vu8 b) (g4 : e 4 = vu8 c) (g5 : e 5 = .ptr 0 0) (g11 : e 11 = vi q) (g12 : e 12 = .ptr 1 0) :
    ∃ e', evL tab0 ext0 0 (C.pre 2 (C.post 6 C8.body)) (e, wlB s T' (ps.flatMap Pt.c)) = some (.nor, e', wlB s T' ((lnP k (wlL ps[k].len c) ps).flatMap Pt.c) ++ [Pt.c ps[k]]) ∧ e' 1 = slI bs ∧ e' 5 = .ptr 0 0 ∧ e' 12 = .ptr 1 0 := by
  have hq2 : (q : Int) < s.tasks.length := by omega
  have hk2 : (k : Int) < ps.length := by omega
  have hN3 : ¬ (ps.length : Int) = 0 := by omega
  have hN4 : ¬ ps = [] := fun h => by rw [h] at hkn; simp at hkn
  have q1 := Int.tmod_eq_emod_of_nonneg (b := (ps.length : Int)) hb.1
  rw [← hk] at q1
  have c1 : c.tmod 20 = c % 20 := Int.tmod_eq_emod_of_nonneg hc.1
  have wb : IntKind.wrap .i64 b = b := wrap_in _ (by omega) (by omega)
  have wc : IntKind.wrap .i64 (c % 20) = c % 20 := wrap_in _ (by omega) (by omega)
  have wL : IntKind.wrap .i64 (ps[k].len + c % 20) = ps[k].len + c % 20 := wrap_in _ (by omega) (by omega)
  have hmf : foldM false 60 [vi (ps[k].len + c % 20)] = some (wlL ps[k].len c) := by unfold wlL; simp [foldM]
  have hcl := lnP_cells ps k (wlL ps[k].len c) hkn
  obtain ⟨R, hdp⟩ : ∃ R, (ps.flatMap Pt.c).drop (k * 3) = vi ps[k].kind :: vi ps[k].len :: vi ps[k].res :: R := ⟨_, drop_pt ps k hkn⟩
  have hp3 := len_pt ps
  have hb3 : k * 3 + 3 ≤ ps.length * 3 := by omega
  have hb1 : k * 3 + 1 + 1 ≤ ps.length * 3 := by omega
  rw [← hcl]
  generalize wlL ps[k].len c = L at *
  generalize ps[k] = p at *
  generalize ps.flatMap Pt.c = P at *
  simp only [wlB, St.c, slI, slT, slP, Pt.c] at g1 ⊢
  exact ⟨_, (Eq.refl (evL tab0 ext0 0 (C.pre 2 (C.post 6 C8.body)) _)).trans (by
    simp [C8, C.pre, C.post, push_cast, -Int.not_lt, -Int.not_le, ↓evI_call, ↓evI_calli, ↓evI_calln, ↓evI_callz, ↓evI_callv, ↓evI_mxn, g1, g3, g4, g5, g11, g12, hq2, hk2, hkn, hqn, hN3, hN4, q1, c1, wb, wc, wL, hmf, hdp, hp3, hb3, hb1, hT, hT5, asList, eqz_self, -List.all_eq_true, -List.map_map]; rfl), by simp [put_at, g1], by simp [put_at, g5], by simp [put_at, g12]⟩
/-! ### the pieces put together -/
theorem wl_frz {μ : Nat → Nat} {s : St} {q k : Nat} {L : Int} {T' : List A} {X : List A} (hqn : q < s.tasks.length) (hT : T' = (s.tasks.flatMap Tk.c).take (q * 6 + 5) ++ .bs 3 s.tasks[q].parts.length 3 :: (s.tasks.flatMap Tk.c).drop (q * 6 + 5 + 1)) :
    frzP μ (wlB s T' ((lnP k L s.tasks[q].parts).flatMap Pt.c) ++ [X]) (.ptr 0 0) = .ipx (μ 0) 0 (St.c s) ∧ frzP μ (wlB s T' ((lnP k L s.tasks[q].parts).flatMap Pt.c) ++ [X]) (.ptr 1 0) = .ipx (μ 1) 0 (St.c (lns s q k L)) := by
  have hc := lns_cells s q k L hqn
  have hl6 := len_tk s.tasks
  have hTl : T'.length = s.tasks.length * 6 := by rw [hT]; simp only [List.length_append, List.length_cons, List.length_take, List.length_drop, hl6]; omega
  have hpl := len_pt (lnP k L s.tasks[q].parts)
  rw [lnP_len] at hpl
  have hpp := plain_pt (lnP k L s.tasks[q].parts)
  have htp := plain_tk s.tasks
  have hsl : slP (lnP k L s.tasks[q].parts) = .sl ((lnP k L s.tasks[q].parts).flatMap Pt.c) s.tasks[q].parts.length 0 := by unfold slP; rw [lnP_len]
  rw [hsl] at hc
  have e2 : St.c (lns s q k L) = [vi s.proto, slI s.cores, slI s.homes, .sl ((lns s q k L).tasks.flatMap Tk.c) s.tasks.length 0] := by
    show [vi s.proto, slI s.cores, slI s.homes, slT (lns s q k L).tasks] = _
    unfold slT; rw [lns_len]
  rw [e2, ← hc]
  generalize (lnP k L s.tasks[q].parts).flatMap Pt.c = P2 at *
  generalize s.tasks[q].parts.length = m at *
  have hm : ∀ (bx : Bx), bx[3]? = some P2 → T'.mapM (frzC bx 2) = some ((s.tasks.flatMap Tk.c).take (q * 6 + 5) ++ A.sl P2 m 0 :: (s.tasks.flatMap Tk.c).drop (q * 6 + 5 + 1)) := by
    intro bx h3
    have a1 : ((s.tasks.flatMap Tk.c).take (q * 6 + 5)).all A.plain = true := by rw [List.all_eq_true] at htp ⊢; exact fun x hx => htp x (List.mem_of_mem_take hx)
    have a2 : ((s.tasks.flatMap Tk.c).drop (q * 6 + 5 + 1)).all A.plain = true := by rw [List.all_eq_true] at htp ⊢; exact fun x hx => htp x (List.mem_of_mem_drop hx)
    have a3 : frzC bx 2 (.bs 3 m 3) = some (.sl P2 m 0) := by
      show (match bx[3]? with | some cs => if m * 3 ≤ cs.length then ((cs.take (m * 3)).mapM (frzC bx 1)).map fun l => A.sl l m 0 else none | none => none) = _
      rw [h3]
      simp only
      rw [if_pos (by omega), List.take_of_length_le (by omega), plain_mapM hpp]
      rfl
    rw [hT, List.mapM_append, List.mapM_cons, plain_mapM a1, a3, plain_mapM a2]
    rfl
  have hm1 := hm (wlB s T' P2 ++ [X]) rfl
  have hk : T'.take (s.tasks.length * 6) = T' := List.take_of_length_le (by omega)
  have h0 : (wlB s T' P2 ++ [X])[0]? = some (St.c s) := rfl
  have h1 : (wlB s T' P2 ++ [X])[1]? = some [vi s.proto, slI s.cores, slI s.homes, .bs 2 s.tasks.length 6] := rfl
  have h2 : (wlB s T' P2 ++ [X])[2]? = some T' := rfl
  generalize wlB s T' P2 ++ [X] = bx at *
  refine ⟨?_, ?_⟩
  · simp only [frzP, h0]
    simp [St.c, slI, slT, frzC, vi]
  · simp only [frzP, h1]
    simp [slI, frzC, vi, h2, hTl, hk, hm1]
theorem frz_vi8 {μ : Nat → Nat} {bx : Bx} (l : List Int) : frzP μ bx (slI l) = slI l := by simp [frzP, frzR, frzC, slI]
theorem wait_wp {F : Fr} {hn : Hn} {lv : Nat → List Nat × Nat} {kk : Nat} {c0 : Code} {a : Act} {w : World} {Q : Exit → Act → World → Prop} (s : St) (bs : List Int) (hbs : ∀ b ∈ bs, I64' b) (x y z : Int) (hx : 0 ≤ x ∧ x ≤ 255) (hy : 0 ≤ y ∧ y ≤ 255) (hz : 0 ≤ z ∧ z ≤ 255) (h0 : F.nb = 0)
    (hc : comp Try.prog F.nt hn lv kk c0 = some C8.body) (hI : Inv F (initFrom 0 [.agg (St.c s), slI bs, vu8 x, vu8 y, vu8 z], []) a w) (hQ : ∀ a' w', Inv F (put 10 (vb true) emp, []) a' w' → Q .ret a' w') : c0.wp Try.prog Q a w := by
  have fin : ∀ {e : Env} {bx : Bx} {a' w'}, Inv F (e, bx) a' w' → e 10 = vb true → Inv F (put 10 (vb true) emp, []) a' w' := fun h he => forget h h0 _ fun i => by
    rw [put_at]
    split
    · rename_i hi; subst hi; exact .inr ⟨_, rfl, he⟩
    · exact .inl rfl
  by_cases hr : few8 s = false ∨ (few8 s = true ∧ (thereS s 0 = false ∨ ¬ bs.length = s.tasks.length))
  · obtain ⟨e, bx, he, h6⟩ := wl_0 s bs x y z hr
    have he' : evL tab0 ext0 F.nb (C.pre 6 C8.body) (initFrom 0 [.agg (St.c s), slI bs, vu8 x, vu8 y, vu8 z], []) = some (.ret, e, bx) := by rw [h0]; exact he
    exact cut_sound tab_ok ext0_sound 6 hc rfl he' hI (fun h => by cases h) fun _ a' w' hI' => hQ a' w' (fin hI' h6)
  have hf : few8 s = true := by cases h : few8 s with
    | true => rfl
    | false => exact absurd (.inl h) hr
  have ht : thereS s 0 = true := by cases h : thereS s 0 with
    | true => rfl
    | false => exact absurd (.inr ⟨hf, .inl h⟩) hr
  have hl : bs.length = s.tasks.length := Classical.byContradiction fun h => hr (.inr ⟨hf, .inr h⟩)
  have hs := few8_sm s hf
  have g := ((thereS_iff s 0).1 ht).1
  have hN := g.tasks
  have q2 := Int.emod_nonneg x (show (s.tasks.length : Int) ≠ 0 by omega)
  have q3 := Int.emod_lt_of_pos x (show (0 : Int) < s.tasks.length by omega)
  obtain ⟨q, hq⟩ : ∃ q : Nat, (q : Int) = x % s.tasks.length := ⟨(x % s.tasks.length).toNat, by omega⟩
  have hqn : q < s.tasks.length := by omega
  have gp := (g.task _ (List.getElem_mem hqn)).parts
  have k2 := Int.emod_nonneg y (show (s.tasks[q].parts.length : Int) ≠ 0 by omega)
  have k3 := Int.emod_lt_of_pos y (show (0 : Int) < s.tasks[q].parts.length by omega)
  obtain ⟨k, hk⟩ : ∃ k : Nat, (k : Int) = y % s.tasks[q].parts.length := ⟨(y % s.tasks[q].parts.length).toNat, by omega⟩
  have hkn : k < s.tasks[q].parts.length := by omega
  have gl := ((g.task _ (List.getElem_mem hqn)).part _ (List.getElem_mem hkn)).len
  have hL : s.tasks[q].parts[k].len ≤ wlL s.tasks[q].parts[k].len z ∧ wlL s.tasks[q].parts[k].len z ≤ 60 := by unfold wlL; split <;> omega
  have hle := lns_le (q := q) (k := k) g hqn hkn hL.1 hL.2
  obtain ⟨e1, he1, a1, a3, a4, a5, a11, a12⟩ := wl_1 s bs x y z hx hf ht hl q hq hqn (by omega)
  obtain ⟨T', hT⟩ : ∃ T', T' = (s.tasks.flatMap Tk.c).take (q * 6 + 5) ++ .bs 3 s.tasks[q].parts.length 3 :: (s.tasks.flatMap Tk.c).drop (q * 6 + 5 + 1) := ⟨_, rfl⟩
  have hl6 := len_tk s.tasks
  have hTl : T'.length = s.tasks.length * 6 := by rw [hT]; simp only [List.length_append, List.length_cons, List.length_take, List.length_drop, hl6]; omega
  have hT5 : T'[q * 6 + 5]? = some (.bs 3 s.tasks[q].parts.length 3) := by
    rw [hT, List.getElem?_append_right (by rw [List.length_take]; omega), List.length_take, hl6]
    have : q * 6 + 5 - min (q * 6 + 5) (s.tasks.length * 6) = 0 := by omega
    rw [this]; rfl
  rw [← hT] at he1
  have he1' : evL tab0 ext0 F.nb (C.pre 6 C8.body) (initFrom 0 [.agg (St.c s), slI bs, vu8 x, vu8 y, vu8 z], []) = some (.nor, e1, wlB s T' (s.tasks[q].parts.flatMap Pt.c)) := by rw [h0]; exact he1
  refine cut_sound tab_ok ext0_sound 6 hc rfl he1' hI (fun _ a1' w1 hI1 => ?_) fun h => absurd rfl h
  have c1 := comp_post 6 hc rfl
  obtain ⟨e2, he2, b1, b5, b12⟩ := wl_2 s bs s.tasks[q].parts q k T' y z hy hz hqn hTl hT5 hk hkn (by omega) gl e1 a1 a3 a4 a5 a11 a12
  have he2' : evL tab0 ext0 F.nb (C.pre 2 (C.post 6 C8.body)) (e1, wlB s T' (s.tasks[q].parts.flatMap Pt.c)) = some (.nor, e2, wlB s T' ((lnP k (wlL s.tasks[q].parts[k].len z) s.tasks[q].parts).flatMap Pt.c) ++ [Pt.c s.tasks[q].parts[k]]) := by rw [h0]; exact he2
  refine cut_sound tab_ok ext0_sound 2 c1 rfl he2' hI1 (fun _ a2 w2 hI2 => ?_) fun h => absurd rfl h
  obtain ⟨lim, μ, own, hG⟩ := hI2
  obtain ⟨F2, n0, n1, n2, hF⟩ := freeze hG
  have c2 := comp_post 2 c1 rfl
  rw [← n1] at c2
  obtain ⟨z1, z2⟩ := wl_frz (μ := μ) (k := k) (L := wlL s.tasks[q].parts[k].len z) (X := Pt.c s.tasks[q].parts[k]) hqn hT
  obtain ⟨e3, bx3, he3, e310⟩ := wl_rest hle hs (lns_sm hs) bs hbs (μ 0) (μ 1) (fun i => frzP μ (wlB s T' ((lnP k (wlL s.tasks[q].parts[k].len z) s.tasks[q].parts).flatMap Pt.c) ++ [Pt.c s.tasks[q].parts[k]]) (e2 i)) (by simp only [b1]; exact frz_vi8 _) (by simp only [b5]; exact z1) (by simp only [b12]; exact z2)
  rw [← n0] at he3
  refine (codeL_sound tab_ok ext0_sound F2 hn lv kk _ _ _ _ _ c2 he3 a2 w2 Q hF fun a' w' hI5 => hQ a' w' ?_).wp
  have hT5 := thaw hG hI5 n2 n0 n1 (put 10 (vb true) emp) (fun i => by
    simp only [put_at]
    split
    · rename_i hi; subst hi; exact .inr (.inl ⟨_, rfl, e310⟩)
    · exact .inl rfl)
  exact fin ⟨lim, μ, own, hT5⟩ (by simp [put_at])
/-- What the law's code does, as a whole. -/
noncomputable def evWl : Ev := fun nb c s => @ite _ (nb = 0 ∧ c = C8.body ∧ ∃ (t : St) (bs : List Int) (x y z : Int), (∀ b ∈ bs, I64' b) ∧ (0 ≤ x ∧ x ≤ 255) ∧ (0 ≤ y ∧ y ≤ 255) ∧ (0 ≤ z ∧ z ≤ 255) ∧ s = (initFrom 0 [.agg (St.c t), slI bs, vu8 x, vu8 y, vu8 z], [])) (Classical.propDecidable _) (some (.ret, put 10 (vb true) emp, [])) none
theorem evWl_sound : CodeSound Try.prog evWl := by
  intro F hn lv k c0 c s out s' hc he a w Q hI hQ
  unfold evWl at he
  split at he
  · rename_i hcond
    obtain ⟨h0, rfl, t, bs, x, y, z, hb, hx, hy, hz, rfl⟩ := hcond
    cases he
    have key : c0.wp Try.prog Q a w := wait_wp t bs hb x y z hx hy hz h0 hc hI hQ
    obtain ⟨u, v, rfl, _⟩ := comp_seq hc
    exact key
  · cases he
noncomputable def ext8 : CallF := fun f args bx => if f = 8 then callOf tab0 extN evWl f args bx else ext0 f args bx
theorem ext8_sound : SoundF Try.prog ext8 := by
  intro f xs bx r bx' h
  unfold ext8 at h
  split at h
  · exact call_sound evWl_sound tab_ok (extN_sound _) _ _ _ _ _ h
  · exact ext0_sound _ _ _ _ _ h
theorem waitLeast_is (s : St) (bs : List Int) (x y z : Int) (_ : s.ok) (hb : ∀ b ∈ bs, I64 b) (k1 : (Lit.int .u8 x).wf = true) (k2 : (Lit.int .u8 y).wf = true) (k3 : (Lit.int .u8 z).wf = true) : Ans (vb true) [] (callL tab0 ext8 8 [.agg (St.c s), slI bs, vu8 x, vu8 y, vu8 z] []) := by
  refine ⟨[], ?_⟩
  have h : ext8 8 [.agg (St.c s), slI bs, vu8 x, vu8 y, vu8 z] [] = some (vb true, []) := by
    unfold ext8
    rw [if_pos rfl]
    unfold callOf
    simp only [extN, tab8]
    refine (if_pos (show ([.agg (St.c s), slI bs, vu8 x, vu8 y, vu8 z] : List A).length = C8.np from rfl)).trans ?_
    have he : evWl ([] : Bx).length C8.body (initFrom 0 [.agg (St.c s), slI bs, vu8 x, vu8 y, vu8 z], []) = some (.ret, put 10 (vb true) emp, []) := by
      unfold evWl
      exact if_pos ⟨rfl, rfl, s, bs, x, y, z, hb, u8_of k1, u8_of k2, u8_of k3, rfl⟩
    rw [he]
    rfl
  unfold callL callOf
  rw [h]
  rfl
end Go.Proofs.YtgndbkeiickihaaEv
