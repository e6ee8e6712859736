/- slices.Clone of nothing, nil or not, answers nothing. -/
import Derived.Test.YtkohggddaheefaaTab
import Derived.Test.YtkohggddaheefaaEv4
import Derived.Test.YtkohggddaheefaaT1
set_option linter.unusedSimpArgs false
set_option linter.unusedVariables false
namespace Go.Proofs.YtkohggddaheefaaEv
open Go
/-- slices.Clone of nothing. -/
def cl0 : CallF := fun _ args bx => match args with
  | [.sl [] 0 0] => some (.sl [] 0 0, bx)
  | _ => none
theorem clone3_58 (bx : Bx) : callL tab0 extN 58 [.sl [] 0 3] bx = some (.sl [] 0 0, bx) := by
  rw [callL_tab _ _ rfl tab58 rfl]
  simp [C58, push_cast, -Int.not_lt, -Int.not_le, ↓evI_call, ↓evI_calli, ↓evI_calln, ↓evI_callz, ↓evI_callv, ↓evI_mxn]
theorem clone4_58 (bx : Bx) : callL tab0 extN 58 [.sl [] 0 4] bx = some (.sl [] 0 0, bx) := by
  rw [callL_tab _ _ rfl tab58 rfl]
  simp [C58, push_cast, -Int.not_lt, -Int.not_le, ↓evI_call, ↓evI_calli, ↓evI_calln, ↓evI_callz, ↓evI_callv, ↓evI_mxn, asList]
theorem clone3_59 (bx : Bx) : callL tab0 extN 59 [.sl [] 0 3] bx = some (.sl [] 0 0, bx) := by
  rw [callL_tab _ _ rfl tab59 rfl]
  simp [C59, push_cast, -Int.not_lt, -Int.not_le, ↓evI_call, ↓evI_calli, ↓evI_calln, ↓evI_callz, ↓evI_callv, ↓evI_mxn]
theorem clone4_59 (bx : Bx) : callL tab0 extN 59 [.sl [] 0 4] bx = some (.sl [] 0 0, bx) := by
  rw [callL_tab _ _ rfl tab59 rfl]
  simp [C59, push_cast, -Int.not_lt, -Int.not_le, ↓evI_call, ↓evI_calli, ↓evI_calln, ↓evI_callz, ↓evI_callv, ↓evI_mxn, asList]
theorem clone3_60 (bx : Bx) : callL tab0 extN 60 [.sl [] 0 3] bx = some (.sl [] 0 0, bx) := by
  rw [callL_tab _ _ rfl tab60 rfl]
  simp [C60, push_cast, -Int.not_lt, -Int.not_le, ↓evI_call, ↓evI_calli, ↓evI_calln, ↓evI_callz, ↓evI_callv, ↓evI_mxn]
theorem clone4_60 (bx : Bx) : callL tab0 extN 60 [.sl [] 0 4] bx = some (.sl [] 0 0, bx) := by
  rw [callL_tab _ _ rfl tab60 rfl]
  simp [C60, push_cast, -Int.not_lt, -Int.not_le, ↓evI_call, ↓evI_calli, ↓evI_calln, ↓evI_callz, ↓evI_callv, ↓evI_mxn, asList]
theorem clone3_66 (bx : Bx) : callL tab0 extN 66 [.sl [] 0 3] bx = some (.sl [] 0 0, bx) := by
  rw [callL_tab _ _ rfl tab66 rfl]
  simp [C66, push_cast, -Int.not_lt, -Int.not_le, ↓evI_call, ↓evI_calli, ↓evI_calln, ↓evI_callz, ↓evI_callv, ↓evI_mxn]
theorem clone4_66 (bx : Bx) : callL tab0 extN 66 [.sl [] 0 4] bx = some (.sl [] 0 0, bx) := by
  rw [callL_tab _ _ rfl tab66 rfl]
  simp [C66, push_cast, -Int.not_lt, -Int.not_le, ↓evI_call, ↓evI_calli, ↓evI_calln, ↓evI_callz, ↓evI_callv, ↓evI_mxn, asList]
theorem clone3_84 (bx : Bx) : callL tab0 extN 84 [.sl [] 0 3] bx = some (.sl [] 0 0, bx) := by
  rw [callL_tab _ _ rfl tab84 rfl]
  simp [C84, push_cast, -Int.not_lt, -Int.not_le, ↓evI_call, ↓evI_calli, ↓evI_calln, ↓evI_callz, ↓evI_callv, ↓evI_mxn]
theorem clone4_84 (bx : Bx) : callL tab0 extN 84 [.sl [] 0 4] bx = some (.sl [] 0 0, bx) := by
  rw [callL_tab _ _ rfl tab84 rfl]
  simp [C84, push_cast, -Int.not_lt, -Int.not_le, ↓evI_call, ↓evI_calli, ↓evI_calln, ↓evI_callz, ↓evI_callv, ↓evI_mxn, asList]
/-- A call that is as one of these two is told the same. -/
theorem cl0_sound {P : Program} {Φ : CallF} (hs : SoundF P Φ) {f : Nat} (h3 : ∀ bx, Φ f [.sl [] 0 3] bx = some (.sl [] 0 0, bx)) (h4 : ∀ bx, Φ f [.sl [] 0 4] bx = some (.sl [] 0 0, bx)) {xs bx r bx'} (h : cl0 f xs bx = some (r, bx')) : 
    ∀ (w : World) (lim μ : Nat → Nat) (vs : Array Value), vs.size = xs.length →
  (∀ i (h : i < xs.length), Rep w lim μ bx.length (vs.getD i undef) xs[i] ∧ n2 xs[i]) → BoxRep w lim μ bx → GlobOk w μ bx.length →
  (∀ w, (callFunc f vs).run P w = .ok (.enter f vs) w) ∧ n2 r ∧
  Calls P f vs w fun e w' => ∃ v lim' μ', e = .returned v ∧ bx.length ≤ bx'.length ∧ But w.heap.size μ bx.length w w' ∧ (∀ r, r < bx.length → μ' r = μ r) ∧ (∀ b, b < w.heap.size → lim' b = lim b) ∧
    (∀ r, bx.length ≤ r → r < bx'.length → w.heap.size ≤ μ' r) ∧ BoxRep w' lim' μ' bx' ∧ Rep w' lim' μ' bx'.length v r := by
  intro w lim μ vs hsz hrep hbox hgl
  unfold cl0 at h
  split at h
  · simp only [Option.some.injEq, Prod.mk.injEq] at h
    obtain ⟨rfl, rfl⟩ := h
    obtain ⟨h0, -⟩ := hrep 0 (by simp)
    simp only [List.getElem_cons_zero] at h0
    have hz : ∀ g, g ≠ 2 → Rep w lim μ bx.length (vs.getD 0 undef) (.sl [] 0 g) → ∀ i (h : i < [A.sl [] 0 g].length), Rep w lim μ bx.length (vs.getD i undef) [A.sl [] 0 g][i] ∧ n2 [A.sl [] 0 g][i] := by
      intro g hg h i hi
      obtain rfl : i = 0 := by simp at hi; omega
      exact ⟨h, fun l n e => by simp only [List.getElem_cons_zero, A.sl.injEq] at e; exact hg e.2.2⟩
    have h0' := h0.toSl
    generalize vs.getD 0 undef = u at h0' hz
    have hcase : u = .slice none 0 0 ∨ RepV w lim u (.sl [] 0 4) := by
      cases h0' with
      | nil g h4 => exact .inl rfl
      | emp b o s g h3 => exact .inr (.emp b o s 4 (by omega))
      | sl b o n c l g vs hn hg h3 hc hl hr => exact .inr (.sl b o 0 c [] 4 vs hn (by omega) (by omega) hc hl hr)
    rcases hcase with rfl | h'
    · obtain ⟨a1, a2, a3⟩ := hs f [.sl [] 0 3] bx _ _ (h3 bx) w lim μ vs hsz (hz 3 (by omega) (.rv (.nil 3 (by omega)))) hbox hgl
      refine ⟨a1, (by intro l n e; cases e), a3.mono fun e w' ⟨v, lim', μ', b1, b2, b3, b4, b5, b6, b7, b8⟩ => ⟨v, lim', μ', b1, b2, b3, b4, b5, b6, b7, b8⟩⟩
    · obtain ⟨a1, a2, a3⟩ := hs f [.sl [] 0 4] bx _ _ (h4 bx) w lim μ vs hsz (hz 4 (by omega) (.rv h')) hbox hgl
      exact ⟨a1, (by intro l n e; cases e), a3.mono fun e w' ⟨v, lim', μ', b1, b2, b3, b4, b5, b6, b7, b8⟩ => ⟨v, lim', μ', b1, b2, b3, b4, b5, b6, b7, b8⟩⟩
  · cases h
def ext0 : CallF := fun f args bx => match f with
  | 58 => cl0 58 args bx
  | 59 => cl0 59 args bx
  | 60 => cl0 60 args bx
  | 66 => cl0 66 args bx
  | 84 => cl0 84 args bx
  | _ => none
theorem ext0_sound : SoundF Try.prog ext0 := by
  intro f xs bx r bx' h
  have hs : SoundF Try.prog (callL tab0 extN) := callL_sound tab_ok (extN_sound _)
  unfold ext0 at h
  split at h
  · exact cl0_sound hs clone3_58 clone4_58 h
  · exact cl0_sound hs clone3_59 clone4_59 h
  · exact cl0_sound hs clone3_60 clone4_60 h
  · exact cl0_sound hs clone3_66 clone4_66 h
  · exact cl0_sound hs clone3_84 clone4_84 h
  · cases h
end Go.Proofs.YtkohggddaheefaaEv
/- slices.Clone. -/
namespace Go.Proofs.YtkohggddaheefaaEv
open Go
set_option maxHeartbeats 1000000
/-- Numbers, texts, slices that only read. -/
def A.plain : A → Bool
  | .val v => v.oneCell'
  | .sl _ _ g => g == 0
  | _ => false
theorem plain_norm1 {a : A} (h : a.plain = true) : a.norm1 = a := by
  cases a <;> simp_all [A.plain, A.norm1]
theorem plain_cp1 {a : A} (h : a.plain = true) : a.cp1 = a := by
  cases a <;> simp_all [A.plain, A.cp1]
theorem plain_frz {bx : Bx} {d : Nat} {a : A} (h : a.plain = true) : frzC bx d a = some a := by
  cases a <;> simp_all [A.plain, frzC]
theorem plain_isV {a : A} (h : a.plain = true) : a.isV = true := by
  cases a <;> simp_all [A.plain, A.isV]
theorem plain_dangC {m : Nat} {a : A} (h : a.plain = true) : a.dangC m = true := by
  cases a <;> simp_all [A.plain, A.dangC]
theorem plain_norm {l : List A} (h : l.all A.plain = true) : l.map A.norm1 = l := by
  simp only [List.all_eq_true] at h
  exact (List.map_congr_left fun a ha => plain_norm1 (h a ha)).trans (List.map_id' l)
theorem plain_cp {l : List A} (h : l.all A.plain = true) : l.map A.cp1 = l := by
  simp only [List.all_eq_true] at h
  exact (List.map_congr_left fun a ha => plain_cp1 (h a ha)).trans (List.map_id' l)
theorem plain_mapM {bx : Bx} {d : Nat} : ∀ {l : List A} (_ : l.all A.plain = true), l.mapM (frzC bx d) = some l
  | [], _ => rfl
  | a :: l, h => by
    simp only [List.all_cons, Bool.and_eq_true] at h
    rw [List.mapM_cons, plain_frz h.1, plain_mapM h.2]; rfl
theorem plain_allV {l : List A} (h : l.all A.plain = true) : l.all A.isV = true := by
  simp only [List.all_eq_true] at h ⊢
  exact fun a ha => plain_isV (h a ha)
theorem plain_dang {m : Nat} {l : List A} (h : l.all A.plain = true) : l.all (A.dangC m) = true := by
  simp only [List.all_eq_true] at h ⊢
  exact fun a ha => plain_dangC (h a ha)
theorem plain_vi (l : List Int) : (l.map vi).all A.plain = true := by
  simp only [List.all_eq_true, List.mem_map]
  rintro _ ⟨n, _, rfl⟩; rfl
theorem plain_flat {α : Type} (f : α → List A) (hf : ∀ a, (f a).all A.plain = true) (l : List α) : (l.flatMap f).all A.plain = true := by
  simp only [List.all_eq_true, List.mem_flatMap] at hf ⊢
  rintro x ⟨a, _, h⟩; exact hf a x h
theorem plain_pt (l : List Pt) : (l.flatMap Pt.c).all A.plain = true := plain_flat _ (fun _ => rfl) l
theorem plain_tk (l : List Tk) : (l.flatMap Tk.c).all A.plain = true := plain_flat _ (fun _ => rfl) l
/-- A slice with a box of its own; none, if it is of nothing. -/
def cloned (l : List A) (n z : Nat) (bx : Bx) : A × Bx := if n = 0 then (.sl [] 0 0, bx) else (.bs bx.length n z, bx ++ [l])
theorem frz_cloned {l : List A} {n z : Nat} {bx : Bx} (hp : l.all A.plain = true) (hl : l.length = n * z) {k : Bool} : frz k (cloned l n z bx).2 (cloned l n z bx).1 = some (.sl l n 0) := by
  unfold cloned
  split
  · rename_i h
    subst h
    obtain rfl : l = [] := List.length_eq_zero_iff.1 (by simpa using hl)
    rfl
  · show frzC (bx ++ [l]) 3 (.bs bx.length n z) = _
    unfold frzC
    rw [show (bx ++ [l])[bx.length]? = some l by simp]
    simp only [hl, Nat.le_refl, if_true]
    rw [← hl, List.take_length, plain_mapM hp]; rfl
theorem clone_58 (l : List A) (n : Nat) (bx : Bx) (hp : l.all A.plain = true) (hl : l.length = n * 1) (hn : n * 8 ≤ 70368744177664) : callL tab0 ext0 58 [.sl l n 0] bx = some (cloned l n 1 bx) := by
  cases n with
  | zero =>
    obtain rfl : l = [] := List.length_eq_zero_iff.1 (by simpa using hl)
    unfold callL callOf
    rfl
  | succ n =>
    cases l with
    | nil => simp at hl
    | cons a l =>
      rw [callL_tab _ _ rfl tab58 rfl]
      have h1 := plain_norm hp
      have hn' : (n + 1) * 8 ≤ 70368744177664 := hn
      simp only [List.map_cons] at h1
      simp [C58, push_cast, -Int.not_lt, -Int.not_le, ↓evI_call, ↓evI_calli, ↓evI_calln, ↓evI_callz, ↓evI_callv, ↓evI_mxn, asList, hl, hn', cloned, h1]
      exact List.cons.inj h1
theorem pclone_58 (l : List A) (n : Nat) (hp : l.all A.plain = true) (hl : l.length = n * 1) (hn : n * 8 ≤ 70368744177664) (k : Bool) : pureOf (callL tab0 ext0) k 58 [.sl l n 0] = some (.sl l n 0) :=
  pureOf_eq (clone_58 l n [] hp hl hn) (frz_cloned hp hl)
theorem clone_59 (l : List A) (n : Nat) (bx : Bx) (hp : l.all A.plain = true) (hl : l.length = n * 6) (hn : n * 72 ≤ 70368744177664) : callL tab0 ext0 59 [.sl l n 0] bx = some (cloned l n 6 bx) := by
  cases n with
  | zero =>
    obtain rfl : l = [] := List.length_eq_zero_iff.1 (by simpa using hl)
    unfold callL callOf
    rfl
  | succ n =>
    cases l with
    | nil => simp at hl
    | cons a l =>
      rw [callL_tab _ _ rfl tab59 rfl]
      have h1 := plain_norm hp
      have hn' : (n + 1) * 72 ≤ 70368744177664 := hn
      simp only [List.map_cons] at h1
      simp [C59, push_cast, -Int.not_lt, -Int.not_le, ↓evI_call, ↓evI_calli, ↓evI_calln, ↓evI_callz, ↓evI_callv, ↓evI_mxn, asList, hl, hn', cloned, h1]
      exact List.cons.inj h1
theorem pclone_59 (l : List A) (n : Nat) (hp : l.all A.plain = true) (hl : l.length = n * 6) (hn : n * 72 ≤ 70368744177664) (k : Bool) : pureOf (callL tab0 ext0) k 59 [.sl l n 0] = some (.sl l n 0) :=
  pureOf_eq (clone_59 l n [] hp hl hn) (frz_cloned hp hl)
theorem clone_60 (l : List A) (n : Nat) (bx : Bx) (hp : l.all A.plain = true) (hl : l.length = n * 3) (hn : n * 24 ≤ 70368744177664) : callL tab0 ext0 60 [.sl l n 0] bx = some (cloned l n 3 bx) := by
  cases n with
  | zero =>
    obtain rfl : l = [] := List.length_eq_zero_iff.1 (by simpa using hl)
    unfold callL callOf
    rfl
  | succ n =>
    cases l with
    | nil => simp at hl
    | cons a l =>
      rw [callL_tab _ _ rfl tab60 rfl]
      have h1 := plain_norm hp
      have hn' : (n + 1) * 24 ≤ 70368744177664 := hn
      simp only [List.map_cons] at h1
      simp [C60, push_cast, -Int.not_lt, -Int.not_le, ↓evI_call, ↓evI_calli, ↓evI_calln, ↓evI_callz, ↓evI_callv, ↓evI_mxn, asList, hl, hn', cloned, h1]
      exact List.cons.inj h1
theorem pclone_60 (l : List A) (n : Nat) (hp : l.all A.plain = true) (hl : l.length = n * 3) (hn : n * 24 ≤ 70368744177664) (k : Bool) : pureOf (callL tab0 ext0) k 60 [.sl l n 0] = some (.sl l n 0) :=
  pureOf_eq (clone_60 l n [] hp hl hn) (frz_cloned hp hl)
theorem clone_66 (l : List A) (n : Nat) (bx : Bx) (hp : l.all A.plain = true) (hl : l.length = n * 3) (hn : n * 24 ≤ 70368744177664) : callL tab0 ext0 66 [.sl l n 0] bx = some (cloned l n 3 bx) := by
  cases n with
  | zero =>
    obtain rfl : l = [] := List.length_eq_zero_iff.1 (by simpa using hl)
    unfold callL callOf
    rfl
  | succ n =>
    cases l with
    | nil => simp at hl
    | cons a l =>
      rw [callL_tab _ _ rfl tab66 rfl]
      have h1 := plain_norm hp
      have hn' : (n + 1) * 24 ≤ 70368744177664 := hn
      simp only [List.map_cons] at h1
      simp [C66, push_cast, -Int.not_lt, -Int.not_le, ↓evI_call, ↓evI_calli, ↓evI_calln, ↓evI_callz, ↓evI_callv, ↓evI_mxn, asList, hl, hn', cloned, h1]
      exact List.cons.inj h1
theorem pclone_66 (l : List A) (n : Nat) (hp : l.all A.plain = true) (hl : l.length = n * 3) (hn : n * 24 ≤ 70368744177664) (k : Bool) : pureOf (callL tab0 ext0) k 66 [.sl l n 0] = some (.sl l n 0) :=
  pureOf_eq (clone_66 l n [] hp hl hn) (frz_cloned hp hl)
theorem clone_84 (l : List A) (n : Nat) (bx : Bx) (hp : l.all A.plain = true) (hl : l.length = n * 2) (hn : n * 16 ≤ 70368744177664) : callL tab0 ext0 84 [.sl l n 0] bx = some (cloned l n 2 bx) := by
  cases n with
  | zero =>
    obtain rfl : l = [] := List.length_eq_zero_iff.1 (by simpa using hl)
    unfold callL callOf
    rfl
  | succ n =>
    cases l with
    | nil => simp at hl
    | cons a l =>
      rw [callL_tab _ _ rfl tab84 rfl]
      have h1 := plain_norm hp
      have hn' : (n + 1) * 16 ≤ 70368744177664 := hn
      simp only [List.map_cons] at h1
      simp [C84, push_cast, -Int.not_lt, -Int.not_le, ↓evI_call, ↓evI_calli, ↓evI_calln, ↓evI_callz, ↓evI_callv, ↓evI_mxn, asList, hl, hn', cloned, h1]
      exact List.cons.inj h1
theorem pclone_84 (l : List A) (n : Nat) (hp : l.all A.plain = true) (hl : l.length = n * 2) (hn : n * 16 ≤ 70368744177664) (k : Bool) : pureOf (callL tab0 ext0) k 84 [.sl l n 0] = some (.sl l n 0) :=
  pureOf_eq (clone_84 l n [] hp hl hn) (frz_cloned hp hl)
end Go.Proofs.YtkohggddaheefaaEv
/- slices.IndexFunc, slices.ContainsFunc of numbers, tasks. -/
namespace Go.Proofs.YtkohggddaheefaaEv
open Go
set_option maxHeartbeats 1000000
def idxOf {α : Type} (p : α → Bool) (l : List α) : Int := match l.findIdx? p with
  | some k => k
  | none => -1
theorem idxOf_any {α : Type} (p : α → Bool) (l : List α) : decide (idxOf p l ≥ 0) = l.any p := by
  unfold idxOf
  cases h : l.findIdx? p with
  | none =>
    have : l.any p = false := by simpa [List.findIdx?_eq_none_iff] using h
    rw [this]; rfl
  | some k =>
    obtain ⟨hk, h1, _⟩ := List.findIdx?_eq_some_iff_getElem.1 h
    have : l.any p = true := List.any_eq_true.2 ⟨_, List.getElem_mem hk, h1⟩
    rw [this]; simp
theorem idxOf_any' {α : Type} (p : α → Bool) (l : List α) : decide (0 ≤ idxOf p l) = l.any p := idxOf_any p l
def IdxQ {α : Type} (p : α → Bool) (l : List α) (bx : Bx) (i : Nat) (a : Out × Env × Bx) : Prop :=
  ∃ e', ((l.drop i).findIdx? p = none ∧ a = (.ex 0, e', bx)) ∨ ∃ k, (l.drop i).findIdx? p = some k ∧ a = (.ret, e', bx) ∧ e' 4 = vi ((i + k : Nat) : Int)
theorem IdxQ.step {α : Type} {p : α → Bool} {l : List α} {bx : Bx} {i : Nat} {a} (h : i < l.length) (hp : p l[i] = false) (hq : IdxQ p l bx (i + 1) a) : IdxQ p l bx i a := by
  obtain ⟨e', hq⟩ := hq
  refine ⟨e', ?_⟩
  rw [List.drop_eq_getElem_cons h, List.findIdx?_cons, hp]
  rcases hq with ⟨h1, h2⟩ | ⟨k, h1, h2, h3⟩
  · exact .inl ⟨by simp [h1], h2⟩
  · exact .inr ⟨k + 1, by simp [h1], h2, by rw [h3]; congr 2; omega⟩

theorem idxI_loop (f : Nat) (caps : List (Nat × Nat)) (p : Int → Bool) (l : List Int) (bx : Bx) (hc : Clean bx) (hcap : (A.fn f caps).dang bx.length = true) (hl : l.length ≤ 4611686018427387904)
    (hp : ∀ x ∈ l, ∃ junk, callL tab0 ext0 f (vi x :: caps.map fun p => A.ptr p.1 p.2) bx = some (vb (p x), bx ++ junk)) :
    ∀ (d i : Nat) (e : Env), i + d = l.length → e 0 = slI l → e 1 = .fn f caps → e 7 = vi l.length → e 8 = vi i →
      ∃ a, evL tab0 ext0 bx.length L87_0 (e, bx) = some a ∧ IdxQ p l bx i a := by
  intro d
  have hcd := hc.2
  simp only [A.dang] at hcap
  induction d with
  | zero =>
    intro i e hi h0 h1 h7 h8
    refine ⟨_, (go87_0 _ _).trans (by simp [B87_0, push_cast, -Int.not_lt, -Int.not_le, ↓evI_call, ↓evI_calli, ↓evI_calln, ↓evI_callz, ↓evI_callv, ↓evI_mxn, loopIn, loopIn0, keepL, emp, A.dang, A.dangC, h0, h1, h7, h8, slI, hcap, hcd, show l.length = i by omega]; rfl), _, .inl ⟨?_, rfl⟩⟩
    rw [List.drop_of_length_le (by omega)]; rfl
  | succ d ih =>
    intro i e hi h0 h1 h7 h8
    have hil : i < l.length := by omega
    obtain ⟨junk, hpi⟩ := hp l[i] (List.getElem_mem hil)
    --NORM
    cases hb : p l[i] with
    | true =>
      rw [hb] at hpi
      refine ⟨_, (go87_0 _ _).trans (by simp [B87_0, push_cast, -Int.not_lt, -Int.not_le, ↓evI_call, ↓evI_calli, ↓evI_calln, ↓evI_callz, ↓evI_callv, ↓evI_mxn, loopIn, loopIn0, keepL, emp, A.dang, A.dangC, h0, h1, h7, h8, slI, hcap, hcd, hil, drop_int l i hil, hpi, aft_vb' hc]; rfl), _, .inr ⟨0, ?_, rfl, ?_⟩⟩
      · rw [List.drop_eq_getElem_cons hil, List.findIdx?_cons, hb]; rfl
      · simp [put_at]
    | false =>
      rw [hb] at hpi
      obtain ⟨e2, he, g0, g1, g7, g8⟩ : ∃ e2, evL tab0 ext0 bx.length L87_0 (e, bx) = evL tab0 ext0 bx.length L87_0 (e2, bx) ∧ e2 0 = slI l ∧ e2 1 = .fn f caps ∧ e2 7 = vi l.length ∧ e2 8 = vi (i + 1 : Nat) := by
        refine ⟨_, (go87_0 _ _).trans (by simp [B87_0, push_cast, -Int.not_lt, -Int.not_le, ↓evI_call, ↓evI_calli, ↓evI_calln, ↓evI_callz, ↓evI_callv, ↓evI_mxn, loopIn, loopIn0, keepL, emp, A.dang, A.dangC, h0, h1, h7, h8, slI, hcap, hcd, hil, drop_int l i hil, hpi, aft_vb' hc]; rfl), ?_⟩
        simp [put_at, slI]
        rw [wrap_in _ (by omega) (by omega)]
      obtain ⟨a, ha, hq⟩ := ih (i + 1) e2 (by omega) g0 g1 g7 g8
      exact ⟨a, he.trans ha, hq.step hil hb⟩
theorem idxI (f : Nat) (caps : List (Nat × Nat)) (p : Int → Bool) (l : List Int) (bx : Bx) (hc : Clean bx) (hcap : (A.fn f caps).dang bx.length = true) (hl : l.length ≤ 4611686018427387904)
    (hp : ∀ x ∈ l, ∃ junk, callL tab0 ext0 f (vi x :: caps.map fun p => A.ptr p.1 p.2) bx = some (vb (p x), bx ++ junk)) :
    callL tab0 ext0 87 [slI l, .fn f caps] bx = some (vi (idxOf p l), bx) := by
  rw [callL_tab _ _ rfl tab87 rfl]
  simp [C87, push_cast, -Int.not_lt, -Int.not_le, ↓evI_call, ↓evI_calli, ↓evI_calln, ↓evI_callz, ↓evI_callv, ↓evI_mxn, slI]
  refine behind (idxI_loop f caps p l bx hc hcap hl hp l.length 0 _ (by omega) ?_ ?_ ?_ ?_) ?_
  iterate 4 (simp [put_at, slI, A.norm, A.norm1, A.cp, A.cp1])
  rintro a ⟨e', h⟩
  rcases h with ⟨h, rfl⟩ | ⟨k, h, rfl, h4⟩
  · simp only [List.drop_zero] at h
    simp [push_cast, -Int.not_lt, -Int.not_le, ↓evI_call, ↓evI_calli, ↓evI_calln, ↓evI_callz, ↓evI_callv, ↓evI_mxn, idxOf, h]
  · simp only [List.drop_zero] at h
    simp [push_cast, -Int.not_lt, -Int.not_le, ↓evI_call, ↓evI_calli, ↓evI_calln, ↓evI_callz, ↓evI_callv, ↓evI_mxn, idxOf, h, h4]
theorem hasI (f : Nat) (caps : List (Nat × Nat)) (p : Int → Bool) (l : List Int) (bx : Bx) (hc : Clean bx) (hcap : (A.fn f caps).dang bx.length = true) (hl : l.length ≤ 4611686018427387904)
    (hp : ∀ x ∈ l, ∃ junk, callL tab0 ext0 f (vi x :: caps.map fun p => A.ptr p.1 p.2) bx = some (vb (p x), bx ++ junk)) :
    callL tab0 ext0 73 [slI l, .fn f caps] bx = some (vb (l.any p), bx) := by
  have h := idxI f caps p l bx hc hcap hl hp
  simp only [slI] at h
  rw [callL_tab _ _ rfl tab73 rfl]
  simp [C73, push_cast, -Int.not_lt, -Int.not_le, ↓evI_call, ↓evI_calli, ↓evI_calln, ↓evI_callz, ↓evI_callv, ↓evI_mxn, slI, h, aft_vi hc, idxOf_any']

theorem idxT_loop (f : Nat) (caps : List (Nat × Nat)) (p : Tk → Bool) (l : List Tk) (bx : Bx) (hc : Clean bx) (hcap : (A.fn f caps).dang bx.length = true) (hl : l.length ≤ 4611686018427387904)
    (hp : ∀ x ∈ l, ∃ junk, callL tab0 ext0 f (A.agg (Tk.c x) :: caps.map fun p => A.ptr p.1 p.2) bx = some (vb (p x), bx ++ junk)) :
    ∀ (d i : Nat) (e : Env), i + d = l.length → e 0 = slT l → e 1 = .fn f caps → e 7 = vi l.length → e 8 = vi i →
      ∃ a, evL tab0 ext0 bx.length L88_0 (e, bx) = some a ∧ IdxQ p l bx i a := by
  intro d
  have hcd := hc.2
  simp only [A.dang] at hcap
  induction d with
  | zero =>
    intro i e hi h0 h1 h7 h8
    refine ⟨_, (go88_0 _ _).trans (by simp [B88_0, push_cast, -Int.not_lt, -Int.not_le, ↓evI_call, ↓evI_calli, ↓evI_calln, ↓evI_callz, ↓evI_callv, ↓evI_mxn, loopIn, loopIn0, keepL, emp, A.dang, A.dangC, h0, h1, h7, h8, slT, hcap, hcd, show l.length = i by omega]; rfl), _, .inl ⟨?_, rfl⟩⟩
    rw [List.drop_of_length_le (by omega)]; rfl
  | succ d ih =>
    intro i e hi h0 h1 h7 h8
    have hil : i < l.length := by omega
    obtain ⟨junk, hpi⟩ := hp l[i] (List.getElem_mem hil)
    simp only [Tk.c, slP] at hpi
    cases hb : p l[i] with
    | true =>
      rw [hb] at hpi
      refine ⟨_, (go88_0 _ _).trans (by simp [B88_0, push_cast, -Int.not_lt, -Int.not_le, ↓evI_call, ↓evI_calli, ↓evI_calln, ↓evI_callz, ↓evI_callv, ↓evI_mxn, loopIn, loopIn0, keepL, emp, A.dang, A.dangC, h0, h1, h7, h8, slT, hcap, hcd, hil, drop_tk l i hil, hpi, Tk.c, slP, aft_vb' hc]; rfl), _, .inr ⟨0, ?_, rfl, ?_⟩⟩
      · rw [List.drop_eq_getElem_cons hil, List.findIdx?_cons, hb]; rfl
      · simp [put_at]
    | false =>
      rw [hb] at hpi
      obtain ⟨e2, he, g0, g1, g7, g8⟩ : ∃ e2, evL tab0 ext0 bx.length L88_0 (e, bx) = evL tab0 ext0 bx.length L88_0 (e2, bx) ∧ e2 0 = slT l ∧ e2 1 = .fn f caps ∧ e2 7 = vi l.length ∧ e2 8 = vi (i + 1 : Nat) := by
        refine ⟨_, (go88_0 _ _).trans (by simp [B88_0, push_cast, -Int.not_lt, -Int.not_le, ↓evI_call, ↓evI_calli, ↓evI_calln, ↓evI_callz, ↓evI_callv, ↓evI_mxn, loopIn, loopIn0, keepL, emp, A.dang, A.dangC, h0, h1, h7, h8, slT, hcap, hcd, hil, drop_tk l i hil, hpi, Tk.c, slP, aft_vb' hc]; rfl), ?_⟩
        simp [put_at, slT]
        rw [wrap_in _ (by omega) (by omega)]
      obtain ⟨a, ha, hq⟩ := ih (i + 1) e2 (by omega) g0 g1 g7 g8
      exact ⟨a, he.trans ha, hq.step hil hb⟩
theorem idxT (f : Nat) (caps : List (Nat × Nat)) (p : Tk → Bool) (l : List Tk) (bx : Bx) (hc : Clean bx) (hcap : (A.fn f caps).dang bx.length = true) (hl : l.length ≤ 4611686018427387904)
    (hp : ∀ x ∈ l, ∃ junk, callL tab0 ext0 f (A.agg (Tk.c x) :: caps.map fun p => A.ptr p.1 p.2) bx = some (vb (p x), bx ++ junk)) :
    callL tab0 ext0 88 [slT l, .fn f caps] bx = some (vi (idxOf p l), bx) := by
  rw [callL_tab _ _ rfl tab88 rfl]
  simp [C88, push_cast, -Int.not_lt, -Int.not_le, ↓evI_call, ↓evI_calli, ↓evI_calln, ↓evI_callz, ↓evI_callv, ↓evI_mxn, slT]
  refine behind (idxT_loop f caps p l bx hc hcap hl hp l.length 0 _ (by omega) ?_ ?_ ?_ ?_) ?_
  iterate 4 (simp [put_at, slT, A.norm, A.norm1, A.cp, A.cp1])
  rintro a ⟨e', h⟩
  rcases h with ⟨h, rfl⟩ | ⟨k, h, rfl, h4⟩
  · simp only [List.drop_zero] at h
    simp [push_cast, -Int.not_lt, -Int.not_le, ↓evI_call, ↓evI_calli, ↓evI_calln, ↓evI_callz, ↓evI_callv, ↓evI_mxn, idxOf, h]
  · simp only [List.drop_zero] at h
    simp [push_cast, -Int.not_lt, -Int.not_le, ↓evI_call, ↓evI_calli, ↓evI_calln, ↓evI_callz, ↓evI_callv, ↓evI_mxn, idxOf, h, h4]
theorem hasT (f : Nat) (caps : List (Nat × Nat)) (p : Tk → Bool) (l : List Tk) (bx : Bx) (hc : Clean bx) (hcap : (A.fn f caps).dang bx.length = true) (hl : l.length ≤ 4611686018427387904)
    (hp : ∀ x ∈ l, ∃ junk, callL tab0 ext0 f (A.agg (Tk.c x) :: caps.map fun p => A.ptr p.1 p.2) bx = some (vb (p x), bx ++ junk)) :
    callL tab0 ext0 76 [slT l, .fn f caps] bx = some (vb (l.any p), bx) := by
  have h := idxT f caps p l bx hc hcap hl hp
  simp only [slT] at h
  rw [callL_tab _ _ rfl tab76 rfl]
  simp [C76, push_cast, -Int.not_lt, -Int.not_le, ↓evI_call, ↓evI_calli, ↓evI_calln, ↓evI_callz, ↓evI_callv, ↓evI_mxn, slT, h, aft_vi hc, idxOf_any']
end Go.Proofs.YtkohggddaheefaaEv
/- Two lists of numbers that are alike: slices.Equal, the reference's. -/
namespace Go.Proofs.YtkohggddaheefaaEv
open Go
set_option maxHeartbeats 1000000
theorem eqI_loop (l m : List Int) (bx : Bx) (hc : Clean bx) (hlm : l.length = m.length) (hl : l.length ≤ 4611686018427387904) :
    ∀ d i (e : Env), i + d = l.length → (e 0 = slI l ∧ e 1 = slI m ∧ e 12 = vi l.length ∧ e 13 = vi i) → ∃ a, evL tab0 ext0 bx.length L54_0 (e, bx) = some a ∧ EqQ (fun a b : Int => decide (a = b)) l m bx 4 i a := by
  have hcd := hc.2
  have hlm' : (l.length : Int) = m.length := by omega
  refine loop_ind (St := fun i (e : Env) => e 0 = slI l ∧ e 1 = slI m ∧ e 12 = vi l.length ∧ e 13 = vi i) ?_ ?_
  · rintro e ⟨h0, h1, h12, h13⟩
    refine ⟨_, (go54_0 _ _).trans (by simp [B54_0, push_cast, -Int.not_lt, -Int.not_le, ↓evI_call, ↓evI_calli, ↓evI_calln, ↓evI_callz, ↓evI_callv, ↓evI_mxn, loopIn, loopIn0, keepL, emp, A.dang, A.dangC, h0, h1, h12, h13, slI, hcd, hlm]; rfl), _, [], .inl ⟨?_, rfl⟩⟩
    rw [List.drop_of_length_le (by omega), List.drop_of_length_le (by omega)]; rfl
  · rintro i e hil ⟨h0, h1, h12, h13⟩
    have him : i < m.length := by omega
    by_cases hb : l[i] = m[i]
    · right
      have hz := eqz_self
      refine ⟨_, (go54_0 _ _).trans (by simp [B54_0, push_cast, -Int.not_lt, -Int.not_le, ↓evI_call, ↓evI_calli, ↓evI_calln, ↓evI_callz, ↓evI_callv, ↓evI_mxn, loopIn, loopIn0, keepL, emp, A.dang, A.dangC, h0, h1, h12, h13, slI, hcd, hil, him, drop_int l i hil, drop_int m i him, hb, hz]; rfl), ?_, EqQ.step hil him (by simpa using hb)⟩
      simp [put_at, slI]
      rw [wrap_in _ (by omega) (by omega)]
    · left
      have hz : ∀ x y : Int, eqz x y = decide (x = y) := fun _ _ => rfl
      refine ⟨_, (go54_0 _ _).trans (by simp [B54_0, push_cast, -Int.not_lt, -Int.not_le, ↓evI_call, ↓evI_calli, ↓evI_calln, ↓evI_callz, ↓evI_callv, ↓evI_mxn, loopIn, loopIn0, keepL, emp, A.dang, A.dangC, h0, h1, h12, h13, slI, hcd, hil, him, drop_int l i hil, drop_int m i him, hb, hz]; rfl), _, [], .inr ⟨?_, by simp; rfl, ?_⟩⟩
      · rw [eqF_drop _ _ _ _ hil him]; simp [hb]
      · simp [put_at]
theorem eqI (l m : List Int) (bx : Bx) (hc : Clean bx) (hl : l.length ≤ 4611686018427387904) :
    ∃ junk, callL tab0 ext0 54 [slI l, slI m] bx = some (vb (decide (l = m)), bx ++ junk) := by
  rw [callL_tab _ _ rfl tab54 rfl, ← eqF_eq]
  by_cases hlm : l.length = m.length
  · have hlm' : (l.length : Int) = m.length := by omega
    simp [C54, push_cast, -Int.not_lt, -Int.not_le, ↓evI_call, ↓evI_calli, ↓evI_calln, ↓evI_callz, ↓evI_callv, ↓evI_mxn, slI, hlm', eqz]
    refine behindP (P := fun r => ∃ junk, r = some (vb (eqF (fun a b => decide (a = b)) l m), bx ++ junk)) (eqI_loop l m bx hc hlm hl l.length 0 _ (by omega) (by simp [put_at, slI, hlm'])) ?_
    rintro a ⟨e', junk, ⟨h, rfl⟩ | ⟨h, rfl, h4⟩⟩
    · simp only [List.drop_zero] at h
      exact ⟨[], by simp [push_cast, -Int.not_lt, -Int.not_le, ↓evI_call, ↓evI_calli, ↓evI_calln, ↓evI_callz, ↓evI_callv, ↓evI_mxn, h]⟩
    · simp only [List.drop_zero] at h
      exact ⟨junk, by simp [push_cast, -Int.not_lt, -Int.not_le, ↓evI_call, ↓evI_calli, ↓evI_calln, ↓evI_callz, ↓evI_callv, ↓evI_mxn, h, h4]⟩
  · refine ⟨[], ?_⟩
    have hlm' : ¬ (l.length : Int) = m.length := by omega
    simp [C54, push_cast, -Int.not_lt, -Int.not_le, ↓evI_call, ↓evI_calli, ↓evI_calln, ↓evI_callz, ↓evI_callv, ↓evI_mxn, slI, hlm', eqz, eqF_len _ _ _ hlm]
theorem eqI_is (l m : List Int) (hl : l.length ≤ 4611686018427387904) : Ans (vb (decide (l = m))) [] (callL tab0 ext0 54 [slI l, slI m] []) := by
  obtain ⟨j, h⟩ := eqI l m [] clean_nil hl
  exact ⟨j, h⟩
theorem eqR2_loop (l m : List Int) (bx : Bx) (hc : Clean bx) (hlm : l.length = m.length) (hl : l.length ≤ 4611686018427387904) :
    ∀ d i (e : Env), i + d = l.length → (e 0 = slI l ∧ e 1 = slI m ∧ e 5 = vi i) → ∃ a, evL tab0 ext0 bx.length L37_0 (e, bx) = some a ∧ EqQ (fun a b : Int => decide (a = b)) l m bx 4 i a := by
  have hcd := hc.2
  have hlm' : (l.length : Int) = m.length := by omega
  refine loop_ind (St := fun i (e : Env) => e 0 = slI l ∧ e 1 = slI m ∧ e 5 = vi i) ?_ ?_
  · rintro e ⟨h0, h1, h5⟩
    refine ⟨_, (go37_0 _ _).trans (by simp [B37_0, push_cast, -Int.not_lt, -Int.not_le, ↓evI_call, ↓evI_calli, ↓evI_calln, ↓evI_callz, ↓evI_callv, ↓evI_mxn, loopIn, loopIn0, keepL, emp, A.dang, A.dangC, h0, h1, h5, slI, hcd, hlm]; rfl), _, [], .inl ⟨?_, rfl⟩⟩
    rw [List.drop_of_length_le (by omega), List.drop_of_length_le (by omega)]; rfl
  · rintro i e hil ⟨h0, h1, h5⟩
    have him : i < m.length := by omega
    by_cases hb : l[i] = m[i]
    · right
      have hz := eqz_self
      refine ⟨_, (go37_0 _ _).trans (by simp [B37_0, push_cast, -Int.not_lt, -Int.not_le, ↓evI_call, ↓evI_calli, ↓evI_calln, ↓evI_callz, ↓evI_callv, ↓evI_mxn, loopIn, loopIn0, keepL, emp, A.dang, A.dangC, h0, h1, h5, slI, hcd, hil, him, drop_int l i hil, drop_int m i him, hb, hz]; rfl), ?_, EqQ.step hil him (by simpa using hb)⟩
      simp [put_at, slI]
      rw [wrap_in _ (by omega) (by omega)]
    · left
      have hz : ∀ x y : Int, eqz x y = decide (x = y) := fun _ _ => rfl
      refine ⟨_, (go37_0 _ _).trans (by simp [B37_0, push_cast, -Int.not_lt, -Int.not_le, ↓evI_call, ↓evI_calli, ↓evI_calln, ↓evI_callz, ↓evI_callv, ↓evI_mxn, loopIn, loopIn0, keepL, emp, A.dang, A.dangC, h0, h1, h5, slI, hcd, hil, him, drop_int l i hil, drop_int m i him, hb, hz]; rfl), _, [], .inr ⟨?_, by simp; rfl, ?_⟩⟩
      · rw [eqF_drop _ _ _ _ hil him]; simp [hb]
      · simp [put_at]
theorem eqR2 (l m : List Int) (bx : Bx) (hc : Clean bx) (hl : l.length ≤ 4611686018427387904) :
    ∃ junk, callL tab0 ext0 37 [slI l, slI m] bx = some (vb (decide (l = m)), bx ++ junk) := by
  rw [callL_tab _ _ rfl tab37 rfl, ← eqF_eq]
  by_cases hlm : l.length = m.length
  · have hlm' : (l.length : Int) = m.length := by omega
    simp [C37, push_cast, -Int.not_lt, -Int.not_le, ↓evI_call, ↓evI_calli, ↓evI_calln, ↓evI_callz, ↓evI_callv, ↓evI_mxn, slI, hlm', eqz]
    refine behindP (P := fun r => ∃ junk, r = some (vb (eqF (fun a b => decide (a = b)) l m), bx ++ junk)) (eqR2_loop l m bx hc hlm hl l.length 0 _ (by omega) (by simp [put_at, slI, hlm'])) ?_
    rintro a ⟨e', junk, ⟨h, rfl⟩ | ⟨h, rfl, h4⟩⟩
    · simp only [List.drop_zero] at h
      exact ⟨[], by simp [push_cast, -Int.not_lt, -Int.not_le, ↓evI_call, ↓evI_calli, ↓evI_calln, ↓evI_callz, ↓evI_callv, ↓evI_mxn, h]⟩
    · simp only [List.drop_zero] at h
      exact ⟨junk, by simp [push_cast, -Int.not_lt, -Int.not_le, ↓evI_call, ↓evI_calli, ↓evI_calln, ↓evI_callz, ↓evI_callv, ↓evI_mxn, h, h4]⟩
  · refine ⟨[], ?_⟩
    have hlm' : ¬ (l.length : Int) = m.length := by omega
    simp [C37, push_cast, -Int.not_lt, -Int.not_le, ↓evI_call, ↓evI_calli, ↓evI_calln, ↓evI_callz, ↓evI_callv, ↓evI_mxn, slI, hlm', eqz, eqF_len _ _ _ hlm]
theorem eqR2_is (l m : List Int) (hl : l.length ≤ 4611686018427387904) : Ans (vb (decide (l = m))) [] (callL tab0 ext0 37 [slI l, slI m] []) := by
  obtain ⟨j, h⟩ := eqR2 l m [] clean_nil hl
  exact ⟨j, h⟩
end Go.Proofs.YtkohggddaheefaaEv
