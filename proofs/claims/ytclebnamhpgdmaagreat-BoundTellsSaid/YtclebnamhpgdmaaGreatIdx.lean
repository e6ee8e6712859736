/- slices.IndexFunc, slices.ContainsFunc of numbers, tasks. -/
import Derived.Test.YtclebnamhpgdmaaGreatExt
import Derived.Test.YtclebnamhpgdmaaGreatT
set_option linter.unusedSimpArgs false
set_option linter.unusedVariables false
namespace Go.Proofs.YtclebnamhpgdmaaGreatEv
open Go
set_option maxHeartbeats 1000000
def idxOf {α : Type} (p : α → Bool) (l : List α) : Int := match l.findIdx? p with
  | some k => k
  | none => -1
theorem idxOf_any {α : Type} (p : α → Bool) (l : List α) : decide (idxOf p l ≥ 0) = l.any p := by
  unfold idxOf
  cases h : l.findIdx? p with
  | none =>
    have : l.any p = false := by simpa [List.findIdx?_eq_none_iff] using h
    rw [this]; rfl
  | some k =>
    obtain ⟨hk, h1, _⟩ := List.findIdx?_eq_some_iff_getElem.1 h
    have : l.any p = true := List.any_eq_true.2 ⟨_, List.getElem_mem hk, h1⟩
    rw [this]; simp
theorem idxOf_any' {α : Type} (p : α → Bool) (l : List α) : decide (0 ≤ idxOf p l) = l.any p := idxOf_any p l
def IdxQ {α : Type} (p : α → Bool) (l : List α) (bx : Bx) (i : Nat) (a : Out × Env × Bx) : Prop :=
  ∃ e', ((l.drop i).findIdx? p = none ∧ a = (.ex 0, e', bx)) ∨ ∃ k, (l.drop i).findIdx? p = some k ∧ a = (.ret, e', bx) ∧ e' 4 = vi ((i + k : Nat) : Int)
theorem IdxQ.step {α : Type} {p : α → Bool} {l : List α} {bx : Bx} {i : Nat} {a} (h : i < l.length) (hp : p l[i] = false) (hq : IdxQ p l bx (i + 1) a) : IdxQ p l bx i a := by
  obtain ⟨e', hq⟩ := hq
  refine ⟨e', ?_⟩
  rw [List.drop_eq_getElem_cons h, List.findIdx?_cons, hp]
  rcases hq with ⟨h1, h2⟩ | ⟨k, h1, h2, h3⟩
  · exact .inl ⟨by simp [h1], h2⟩
  · exact .inr ⟨k + 1, by simp [h1], h2, by rw [h3]; congr 2; omega⟩

theorem idxI_loop (f : Nat) (caps : List (Nat × Nat)) (p : Int → Bool) (l : List Int) (bx : Bx) (hc : Clean bx) (hcap : (A.fn f caps).dang bx.length = true) (hl : l.length ≤ 4611686018427387904)
    (hp : ∀ x ∈ l, ∃ junk, callL tab0 ext0 f (vi x :: caps.map fun p => A.ptr p.1 p.2) bx = some (vb (p x), bx ++ junk)) :
    ∀ (d i : Nat) (e : Env), i + d = l.length → e 0 = slI l → e 1 = .fn f caps → e 7 = vi l.length → e 8 = vi i →
      ∃ a, evL tab0 ext0 bx.length L48_0 (e, bx) = some a ∧ IdxQ p l bx i a := by
  intro d
  have hcd := hc.2
  simp only [A.dang] at hcap
  induction d with
  | zero =>
    intro i e hi h0 h1 h7 h8
    refine ⟨_, (go48_0 _ _).trans (by simp [B48_0, push_cast, -Int.not_lt, -Int.not_le, ↓evI_call, ↓evI_calli, ↓evI_callv, ↓evI_mxn, loopIn, loopIn0, keepL, emp, A.dang, A.dangC, h0, h1, h7, h8, slI, hcap, hcd, show l.length = i by omega]; rfl), _, .inl ⟨?_, rfl⟩⟩
    rw [List.drop_of_length_le (by omega)]; rfl
  | succ d ih =>
    intro i e hi h0 h1 h7 h8
    have hil : i < l.length := by omega
    obtain ⟨junk, hpi⟩ := hp l[i] (List.getElem_mem hil)
    --NORM
    cases hb : p l[i] with
    | true =>
      rw [hb] at hpi
      refine ⟨_, (go48_0 _ _).trans (by simp [B48_0, push_cast, -Int.not_lt, -Int.not_le, ↓evI_call, ↓evI_calli, ↓evI_callv, ↓evI_mxn, loopIn, loopIn0, keepL, emp, A.dang, A.dangC, h0, h1, h7, h8, slI, hcap, hcd, hil, drop_int l i hil, hpi, aft_vb' hc]; rfl), _, .inr ⟨0, ?_, rfl, ?_⟩⟩
      · rw [List.drop_eq_getElem_cons hil, List.findIdx?_cons, hb]; rfl
      · simp [put_at]
    | false =>
      rw [hb] at hpi
      obtain ⟨e2, he, g0, g1, g7, g8⟩ : ∃ e2, evL tab0 ext0 bx.length L48_0 (e, bx) = evL tab0 ext0 bx.length L48_0 (e2, bx) ∧ e2 0 = slI l ∧ e2 1 = .fn f caps ∧ e2 7 = vi l.length ∧ e2 8 = vi (i + 1 : Nat) := by
        refine ⟨_, (go48_0 _ _).trans (by simp [B48_0, push_cast, -Int.not_lt, -Int.not_le, ↓evI_call, ↓evI_calli, ↓evI_callv, ↓evI_mxn, loopIn, loopIn0, keepL, emp, A.dang, A.dangC, h0, h1, h7, h8, slI, hcap, hcd, hil, drop_int l i hil, hpi, aft_vb' hc]; rfl), ?_⟩
        simp [put_at, slI]
        rw [wrap_in _ (by omega) (by omega)]
      obtain ⟨a, ha, hq⟩ := ih (i + 1) e2 (by omega) g0 g1 g7 g8
      exact ⟨a, he.trans ha, hq.step hil hb⟩
theorem idxI (f : Nat) (caps : List (Nat × Nat)) (p : Int → Bool) (l : List Int) (bx : Bx) (hc : Clean bx) (hcap : (A.fn f caps).dang bx.length = true) (hl : l.length ≤ 4611686018427387904)
    (hp : ∀ x ∈ l, ∃ junk, callL tab0 ext0 f (vi x :: caps.map fun p => A.ptr p.1 p.2) bx = some (vb (p x), bx ++ junk)) :
    callL tab0 ext0 48 [slI l, .fn f caps] bx = some (vi (idxOf p l), bx) := by
  rw [callL_tab _ _ rfl tab48 rfl]
  simp [C48, push_cast, -Int.not_lt, -Int.not_le, ↓evI_call, ↓evI_calli, ↓evI_callv, ↓evI_mxn, slI]
  refine behind (idxI_loop f caps p l bx hc hcap hl hp l.length 0 _ (by omega) ?_ ?_ ?_ ?_) ?_
  iterate 4 (simp [put_at, slI, A.norm, A.norm1, A.cp, A.cp1])
  rintro a ⟨e', h⟩
  rcases h with ⟨h, rfl⟩ | ⟨k, h, rfl, h4⟩
  · simp only [List.drop_zero] at h
    simp [push_cast, -Int.not_lt, -Int.not_le, ↓evI_call, ↓evI_calli, ↓evI_callv, ↓evI_mxn, idxOf, h]
  · simp only [List.drop_zero] at h
    simp [push_cast, -Int.not_lt, -Int.not_le, ↓evI_call, ↓evI_calli, ↓evI_callv, ↓evI_mxn, idxOf, h, h4]
theorem hasI (f : Nat) (caps : List (Nat × Nat)) (p : Int → Bool) (l : List Int) (bx : Bx) (hc : Clean bx) (hcap : (A.fn f caps).dang bx.length = true) (hl : l.length ≤ 4611686018427387904)
    (hp : ∀ x ∈ l, ∃ junk, callL tab0 ext0 f (vi x :: caps.map fun p => A.ptr p.1 p.2) bx = some (vb (p x), bx ++ junk)) :
    callL tab0 ext0 28 [slI l, .fn f caps] bx = some (vb (l.any p), bx) := by
  have h := idxI f caps p l bx hc hcap hl hp
  simp only [slI] at h
  rw [callL_tab _ _ rfl tab28 rfl]
  simp [C28, push_cast, -Int.not_lt, -Int.not_le, ↓evI_call, ↓evI_calli, ↓evI_callv, ↓evI_mxn, slI, h, aft_vi hc, idxOf_any']

theorem idxT_loop (f : Nat) (caps : List (Nat × Nat)) (p : Tk → Bool) (l : List Tk) (bx : Bx) (hc : Clean bx) (hcap : (A.fn f caps).dang bx.length = true) (hl : l.length ≤ 4611686018427387904)
    (hp : ∀ x ∈ l, ∃ junk, callL tab0 ext0 f (A.agg (Tk.c x) :: caps.map fun p => A.ptr p.1 p.2) bx = some (vb (p x), bx ++ junk)) :
    ∀ (d i : Nat) (e : Env), i + d = l.length → e 0 = slT l → e 1 = .fn f caps → e 7 = vi l.length → e 8 = vi i →
      ∃ a, evL tab0 ext0 bx.length L84_0 (e, bx) = some a ∧ IdxQ p l bx i a := by
  intro d
  have hcd := hc.2
  simp only [A.dang] at hcap
  induction d with
  | zero =>
    intro i e hi h0 h1 h7 h8
    refine ⟨_, (go84_0 _ _).trans (by simp [B84_0, push_cast, -Int.not_lt, -Int.not_le, ↓evI_call, ↓evI_calli, ↓evI_callv, ↓evI_mxn, loopIn, loopIn0, keepL, emp, A.dang, A.dangC, h0, h1, h7, h8, slT, hcap, hcd, show l.length = i by omega]; rfl), _, .inl ⟨?_, rfl⟩⟩
    rw [List.drop_of_length_le (by omega)]; rfl
  | succ d ih =>
    intro i e hi h0 h1 h7 h8
    have hil : i < l.length := by omega
    obtain ⟨junk, hpi⟩ := hp l[i] (List.getElem_mem hil)
    simp only [Tk.c, slP] at hpi
    cases hb : p l[i] with
    | true =>
      rw [hb] at hpi
      refine ⟨_, (go84_0 _ _).trans (by simp [B84_0, push_cast, -Int.not_lt, -Int.not_le, ↓evI_call, ↓evI_calli, ↓evI_callv, ↓evI_mxn, loopIn, loopIn0, keepL, emp, A.dang, A.dangC, h0, h1, h7, h8, slT, hcap, hcd, hil, drop_tk l i hil, hpi, Tk.c, slP, aft_vb' hc]; rfl), _, .inr ⟨0, ?_, rfl, ?_⟩⟩
      · rw [List.drop_eq_getElem_cons hil, List.findIdx?_cons, hb]; rfl
      · simp [put_at]
    | false =>
      rw [hb] at hpi
      obtain ⟨e2, he, g0, g1, g7, g8⟩ : ∃ e2, evL tab0 ext0 bx.length L84_0 (e, bx) = evL tab0 ext0 bx.length L84_0 (e2, bx) ∧ e2 0 = slT l ∧ e2 1 = .fn f caps ∧ e2 7 = vi l.length ∧ e2 8 = vi (i + 1 : Nat) := by
        refine ⟨_, (go84_0 _ _).trans (by simp [B84_0, push_cast, -Int.not_lt, -Int.not_le, ↓evI_call, ↓evI_calli, ↓evI_callv, ↓evI_mxn, loopIn, loopIn0, keepL, emp, A.dang, A.dangC, h0, h1, h7, h8, slT, hcap, hcd, hil, drop_tk l i hil, hpi, Tk.c, slP, aft_vb' hc]; rfl), ?_⟩
        simp [put_at, slT]
        rw [wrap_in _ (by omega) (by omega)]
      obtain ⟨a, ha, hq⟩ := ih (i + 1) e2 (by omega) g0 g1 g7 g8
      exact ⟨a, he.trans ha, hq.step hil hb⟩
theorem idxT (f : Nat) (caps : List (Nat × Nat)) (p : Tk → Bool) (l : List Tk) (bx : Bx) (hc : Clean bx) (hcap : (A.fn f caps).dang bx.length = true) (hl : l.length ≤ 4611686018427387904)
    (hp : ∀ x ∈ l, ∃ junk, callL tab0 ext0 f (A.agg (Tk.c x) :: caps.map fun p => A.ptr p.1 p.2) bx = some (vb (p x), bx ++ junk)) :
    callL tab0 ext0 84 [slT l, .fn f caps] bx = some (vi (idxOf p l), bx) := by
  rw [callL_tab _ _ rfl tab84 rfl]
  simp [C84, push_cast, -Int.not_lt, -Int.not_le, ↓evI_call, ↓evI_calli, ↓evI_callv, ↓evI_mxn, slT]
  refine behind (idxT_loop f caps p l bx hc hcap hl hp l.length 0 _ (by omega) ?_ ?_ ?_ ?_) ?_
  iterate 4 (simp [put_at, slT, A.norm, A.norm1, A.cp, A.cp1])
  rintro a ⟨e', h⟩
  rcases h with ⟨h, rfl⟩ | ⟨k, h, rfl, h4⟩
  · simp only [List.drop_zero] at h
    simp [push_cast, -Int.not_lt, -Int.not_le, ↓evI_call, ↓evI_calli, ↓evI_callv, ↓evI_mxn, idxOf, h]
  · simp only [List.drop_zero] at h
    simp [push_cast, -Int.not_lt, -Int.not_le, ↓evI_call, ↓evI_calli, ↓evI_callv, ↓evI_mxn, idxOf, h, h4]
theorem hasT (f : Nat) (caps : List (Nat × Nat)) (p : Tk → Bool) (l : List Tk) (bx : Bx) (hc : Clean bx) (hcap : (A.fn f caps).dang bx.length = true) (hl : l.length ≤ 4611686018427387904)
    (hp : ∀ x ∈ l, ∃ junk, callL tab0 ext0 f (A.agg (Tk.c x) :: caps.map fun p => A.ptr p.1 p.2) bx = some (vb (p x), bx ++ junk)) :
    callL tab0 ext0 67 [slT l, .fn f caps] bx = some (vb (l.any p), bx) := by
  have h := idxT f caps p l bx hc hcap hl hp
  simp only [slT] at h
  rw [callL_tab _ _ rfl tab67 rfl]
  simp [C67, push_cast, -Int.not_lt, -Int.not_le, ↓evI_call, ↓evI_calli, ↓evI_callv, ↓evI_mxn, slT, h, aft_vi hc, idxOf_any']
end Go.Proofs.YtclebnamhpgdmaaGreatEv
