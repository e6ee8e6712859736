/- slices.Clone. -/
import Derived.Test.YtclebnamhpgdmaaGreatExt
import Derived.Test.YtclebnamhpgdmaaGreatT
set_option linter.unusedSimpArgs false
set_option linter.unusedVariables false
namespace Go.Proofs.YtclebnamhpgdmaaGreatEv
open Go
set_option maxHeartbeats 1000000
/-- Numbers, texts, slices that only read. -/
def A.plain : A → Bool
  | .val v => v.oneCell'
  | .sl _ _ g => g == 0
  | _ => false
theorem plain_norm1 {a : A} (h : a.plain = true) : a.norm1 = a := by
  cases a <;> simp_all [A.plain, A.norm1]
theorem plain_cp1 {a : A} (h : a.plain = true) : a.cp1 = a := by
  cases a <;> simp_all [A.plain, A.cp1]
theorem plain_frz {bx : Bx} {d : Nat} {a : A} (h : a.plain = true) : frzC bx d a = some a := by
  cases a <;> simp_all [A.plain, frzC]
theorem plain_isV {a : A} (h : a.plain = true) : a.isV = true := by
  cases a <;> simp_all [A.plain, A.isV]
theorem plain_dangC {m : Nat} {a : A} (h : a.plain = true) : a.dangC m = true := by
  cases a <;> simp_all [A.plain, A.dangC]
theorem plain_norm {l : List A} (h : l.all A.plain = true) : l.map A.norm1 = l := by
  simp only [List.all_eq_true] at h
  exact (List.map_congr_left fun a ha => plain_norm1 (h a ha)).trans (List.map_id' l)
theorem plain_cp {l : List A} (h : l.all A.plain = true) : l.map A.cp1 = l := by
  simp only [List.all_eq_true] at h
  exact (List.map_congr_left fun a ha => plain_cp1 (h a ha)).trans (List.map_id' l)
theorem plain_mapM {bx : Bx} {d : Nat} : ∀ {l : List A} (_ : l.all A.plain = true), l.mapM (frzC bx d) = some l
  | [], _ => rfl
  | a :: l, h => by
    simp only [List.all_cons, Bool.and_eq_true] at h
    rw [List.mapM_cons, plain_frz h.1, plain_mapM h.2]; rfl
theorem plain_allV {l : List A} (h : l.all A.plain = true) : l.all A.isV = true := by
  simp only [List.all_eq_true] at h ⊢
  exact fun a ha => plain_isV (h a ha)
theorem plain_dang {m : Nat} {l : List A} (h : l.all A.plain = true) : l.all (A.dangC m) = true := by
  simp only [List.all_eq_true] at h ⊢
  exact fun a ha => plain_dangC (h a ha)
theorem plain_vi (l : List Int) : (l.map vi).all A.plain = true := by
  simp only [List.all_eq_true, List.mem_map]
  rintro _ ⟨n, _, rfl⟩; rfl
theorem plain_flat {α : Type} (f : α → List A) (hf : ∀ a, (f a).all A.plain = true) (l : List α) : (l.flatMap f).all A.plain = true := by
  simp only [List.all_eq_true, List.mem_flatMap] at hf ⊢
  rintro x ⟨a, _, h⟩; exact hf a x h
theorem plain_pt (l : List Pt) : (l.flatMap Pt.c).all A.plain = true := plain_flat _ (fun _ => rfl) l
theorem plain_tk (l : List Tk) : (l.flatMap Tk.c).all A.plain = true := plain_flat _ (fun _ => rfl) l
/-- A slice with a box of its own; none, if it is of nothing. -/
def cloned (l : List A) (n z : Nat) (bx : Bx) : A × Bx := if n = 0 then (.sl [] 0 0, bx) else (.bs bx.length n z, bx ++ [l])
theorem frz_cloned {l : List A} {n z : Nat} {bx : Bx} (hp : l.all A.plain = true) (hl : l.length = n * z) {k : Bool} : frz k (cloned l n z bx).2 (cloned l n z bx).1 = some (.sl l n 0) := by
  unfold cloned
  split
  · rename_i h
    subst h
    obtain rfl : l = [] := List.length_eq_zero_iff.1 (by simpa using hl)
    rfl
  · show frzC (bx ++ [l]) 3 (.bs bx.length n z) = _
    unfold frzC
    rw [show (bx ++ [l])[bx.length]? = some l by simp]
    simp only [hl, Nat.le_refl, if_true]
    rw [← hl, List.take_length, plain_mapM hp]; rfl
theorem clone_111 (l : List A) (n : Nat) (bx : Bx) (hp : l.all A.plain = true) (hl : l.length = n * 1) (hn : n * 8 ≤ 70368744177664) : callL tab0 ext0 111 [.sl l n 0] bx = some (cloned l n 1 bx) := by
  cases n with
  | zero =>
    obtain rfl : l = [] := List.length_eq_zero_iff.1 (by simpa using hl)
    unfold callL callOf
    rfl
  | succ n =>
    cases l with
    | nil => simp at hl
    | cons a l =>
      rw [callL_tab _ _ rfl tab111 rfl]
      have h1 := plain_norm hp
      have hn' : (n + 1) * 8 ≤ 70368744177664 := hn
      simp only [List.map_cons] at h1
      simp [C111, push_cast, -Int.not_lt, -Int.not_le, ↓evI_call, ↓evI_calli, ↓evI_callv, ↓evI_mxn, asList, hl, hn', cloned, h1]
      exact List.cons.inj h1
theorem pclone_111 (l : List A) (n : Nat) (hp : l.all A.plain = true) (hl : l.length = n * 1) (hn : n * 8 ≤ 70368744177664) (k : Bool) : pureOf (callL tab0 ext0) k 111 [.sl l n 0] = some (.sl l n 0) :=
  pureOf_eq (clone_111 l n [] hp hl hn) (frz_cloned hp hl)
end Go.Proofs.YtclebnamhpgdmaaGreatEv
