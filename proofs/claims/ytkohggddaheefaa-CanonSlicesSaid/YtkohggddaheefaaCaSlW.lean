/- swingbridgelaw10.CanonSlices, walked. -/
import Derived.Test.YtkohggddaheefaaMoveW
import Derived.Test.YtkohggddaheefaaCaTells
import Derived.Test.YtkohggddaheefaaPre14
set_option linter.unusedSimpArgs false
set_option linter.unusedVariables false
namespace Go.Proofs.YtkohggddaheefaaEv
open Go Go.RowKit
set_option maxHeartbeats 1000000
set_option maxRecDepth 100000
def ownC (s : St) (i : Nat) : List A := (s.tasks.take i).flatMap Tk.c
theorem ownC_step (s : St) (i : Nat) (h : i < s.tasks.length) : ownC s (i + 1) = ownC s i ++ Tk.c s.tasks[i] := by
  unfold ownC; rw [List.take_add_one, List.getElem?_eq_getElem h, List.flatMap_append]; simp
theorem ownC_len (s : St) (i : Nat) (h : i ≤ s.tasks.length) : (ownC s i).length = i * 6 := by
  unfold ownC; rw [len_tk, List.length_take]; congr 1; omega
theorem ownC_all (s : St) : ownC s s.tasks.length = s.tasks.flatMap Tk.c := by unfold ownC; rw [List.take_length]
def bxS (s : St) (T : List A) (i g : Nat) : Bx := [[vi s.proto, .sl (s.cores.map vi) s.cores.length 0, .sl (s.homes.map vi) s.homes.length 0, .sl (s.tasks.flatMap Tk.c) s.tasks.length 0], [vi s.proto, .sl (s.cores.map vi) s.cores.length 0, .sl (s.homes.map vi) s.homes.length 0, .sl T i g]]
theorem ow_junk (s : St) (e : Env) (T : List A) (i : Nat) (J : List A) : evL tab0 ext1 0 L14p_0 (e, [[vi s.proto, .sl (s.cores.map vi) s.cores.length 0, .sl (s.homes.map vi) s.homes.length 0, .sl (s.tasks.flatMap Tk.c) s.tasks.length 0], [vi s.proto, .sl (s.cores.map vi) s.cores.length 0, .sl (s.homes.map vi) s.homes.length 0, .sl T i 2], J]) = evL tab0 ext1 0 L14p_0 (e, bxS s T i 2) := by
  rw [go14p_0, go14p_0]
  congr 1
  simp [loopIn, loopIn0, bxS]
def OwQ (s : St) (b : Int) (zz : Out × Env × Bx) : Prop := ∃ e', zz = (.ex 0, e', bxS s (ownC s s.tasks.length) s.tasks.length 2) ∧ e' 1 = vu8 b ∧ e' 2 = .ptr 0 0 ∧ e' 5 = .ptr 1 0
theorem ow_loop (s : St) (hs : Sm s) (b : Int) : ∀ (d i : Nat) (e : Env), i + d = s.tasks.length → e 1 = vu8 b → e 2 = .ptr 0 0 → e 4 = vb false → e 5 = .ptr 1 0 → e 6 = vi i →
    EXN (OwQ s b) (evL tab0 ext1 0 L14p_0 (e, bxS s (ownC s i) i 2)) := by
  have h9 := hs.tasks
  intro d
  induction d with
  | zero =>
    intro i e hi h1 h2 h4 h5 h6
    obtain rfl : i = s.tasks.length := by omega
    unfold OwQ
    generalize ownC s s.tasks.length = F at *
    unfold bxS
    exact ⟨_, (go14p_0 _ _).trans (by simp [B14p_0, push_cast, -Int.not_lt, -Int.not_le, ↓evI_call, ↓evI_calli, ↓evI_calln, ↓evI_callz, ↓evI_callv, ↓evI_mxn, loopIn, loopIn0, keepL, emp, A.dang, A.dangC, slI, h1, h2, h4, h5, h6]; rfl), _, rfl, by simp [put_at], by simp [put_at], by simp [put_at]⟩
  | succ d ih =>
    intro i e hi h1 h2 h4 h5 h6
    have hi1 : i < s.tasks.length := by omega
    have hi2 : (i : Int) < s.tasks.length := by omega
    have hw : IntKind.wrap .i64 ((i : Int) + 1) = (i : Int) + 1 := wrap_in _ (by omega) (by omega)
    have hdk := drop_tk s.tasks i hi1
    have hst := ownC_step s i hi1
    have hln := ownC_len s i (by omega)
    have hsz : (i + 1) * 72 ≤ 70368744177664 := by omega
    have hpl := hs.parts _ (List.getElem_mem hi1)
    have hsz2 : s.tasks[i].parts.length * 24 ≤ 70368744177664 := by omega
    have ih' := ih (i + 1)
    rw [hst] at ih'
    generalize ownC s i = F at *
    simp only [Tk.c, slP] at hdk ih'
    have hlp := len_pt s.tasks[i].parts
    generalize s.tasks[i].parts.flatMap Pt.c = PP at *
    rw [go14p_0]
    simp [bxS, B14p_0, push_cast, -Int.not_lt, -Int.not_le, ↓evI_call, ↓evI_calli, ↓evI_calln, ↓evI_callz, ↓evI_callv, ↓evI_mxn, loopIn, loopIn0, keepL, emp, A.dang, A.dangC, slI, h1, h2, h4, h5, h6, hi1, hi2, hw, hdk, hln, hsz, hsz2, hlp, asList]
    rw [ow_junk]
    apply ih'
    all_goals first | omega | (simp [put_at, slI]; done)
theorem ow_own (s : St) (e : Env) : evL tab0 ext1 0 L14p_0 (e, bxS s [] 0 1) = evL tab0 ext1 0 L14p_0 (e, bxS s [] 0 2) := by
  rw [go14p_0, go14p_0]
  congr 1
def PrR (s : St) (b : Int) (zz : Out × Env × Bx) : Prop := ∃ e', zz = (.nor, e', bxS s (s.tasks.flatMap Tk.c) s.tasks.length 2) ∧ e' 1 = vu8 b ∧ e' 2 = .ptr 0 0 ∧ e' 5 = .ptr 1 0
theorem pr_1 (s : St) (hf : few8 s = true) (ho : okS s = true) (b : Int) : EXN (PrR s b) (evL tab0 ext1 0 (C.pre 5 C14p.body) (initFrom 0 [.agg (St.c s), vu8 b], [])) := by
  have h1 := pure_vb (k := false) known_10
  have h2 := pure1 (pure_vb (k := false) (few_is_41 s))
  rw [hf] at h2
  have hs := few8_sm s hf
  have h3 := pure1 (pure_vb (k := false) (okR_is s hs.fits))
  have hok : eqz (chk s).2 0 = okS s := rfl
  rw [hok, ho] at h3
  have h0 := fun e => ow_loop s hs b s.tasks.length 0 e (by omega)
  have e0 : ownC s 0 = [] := rfl
  rw [e0] at h0
  simp only [← ow_own] at h0
  unfold OwQ at h0
  rw [ownC_all] at h0
  unfold PrR
  unfold bxS at *
  simp only [St.c, slI, slT] at h2 h3 ⊢
  simp [C14p, C.pre, initFrom, push_cast, -Int.not_lt, -Int.not_le, ↓evI_call, ↓evI_calli, ↓evI_calln, ↓evI_callz, ↓evI_callv, ↓evI_mxn, h1, h2, h3]
  refine behindP (P := EXN _) (h0 _ (by simp [put_at]) (by simp [put_at]) (by simp [put_at]) (by simp [put_at]) (by simp [put_at])) ?_
  rintro _ ⟨e', rfl, k1, k2, k5⟩
  exact ⟨_, rfl, _, rfl, k1, k2, k5⟩
theorem pr_0 (s : St) (h : few8 s = false ∨ (few8 s = true ∧ okS s = false)) (b : Int) : ∃ e bx, evL tab0 ext1 0 (C.pre 5 C14p.body) (initFrom 0 [.agg (St.c s), vu8 b], []) = some (.ret, e, bx) ∧ e 4 = vb true := by
  have h1 := pure_vb (k := false) known_10
  have h2 := pure1 (pure_vb (k := false) (few_is_41 s))
  rcases h with hf | ⟨hf, ho⟩
  · rw [hf] at h2
    simp only [St.c, slI, slT] at h2 ⊢
    exact ⟨_, _, (Eq.refl (evL tab0 ext1 0 (C.pre 5 C14p.body) _)).trans (by simp [C14p, C.pre, initFrom, push_cast, -Int.not_lt, -Int.not_le, ↓evI_call, ↓evI_calli, ↓evI_calln, ↓evI_callz, ↓evI_callv, ↓evI_mxn, h1, h2]; exact ⟨rfl, rfl⟩), by simp [put_at]⟩
  · rw [hf] at h2
    have hs := few8_sm s hf
    have h3 := pure1 (pure_vb (k := false) (okR_is s hs.fits))
    have hok : eqz (chk s).2 0 = okS s := rfl
    rw [hok, ho] at h3
    simp only [St.c, slI, slT] at h2 h3 ⊢
    exact ⟨_, _, (Eq.refl (evL tab0 ext1 0 (C.pre 5 C14p.body) _)).trans (by simp [C14p, C.pre, initFrom, push_cast, -Int.not_lt, -Int.not_le, ↓evI_call, ↓evI_calli, ↓evI_calln, ↓evI_callz, ↓evI_callv, ↓evI_mxn, h1, h2, h3]; exact ⟨rfl, rfl⟩), by simp [put_at]⟩
end Go.Proofs.YtkohggddaheefaaEv
