/- strconv.Itoa's answer, beside the functions that the table knows. -/
import Derived.Test.YtamblgbmdhldbaaGreatDoorExt1
import Derived.Test.YtamblgbmdhldbaaGreatDoorItoaL
set_option linter.unusedSimpArgs false
set_option linter.unusedVariables false
namespace Go.Proofs.YtamblgbmdhldbaaGreatDoorEv
open Go Go.RowKit
/-- A number's digits, so many at most. -/
def dF : Nat → Nat → List UInt8
  | 0, _ => []
  | k + 1, u => if u < 10 then [UInt8.ofNat (48 + u)] else dF k (u / 10) ++ [UInt8.ofNat (48 + u % 10)]
theorem dF_is : ∀ (k u : Nat), u < 10 ^ k → 0 < k → dF k u = Lib.decDigits u
  | 0, _, _, h => absurd h (Nat.lt_irrefl 0)
  | k + 1, u, h, _ => by
    unfold dF
    by_cases h1 : u < 10
    · rw [if_pos h1, Lib.decDigits, dif_pos h1]
    · rw [if_neg h1, Lib.decDigits, dif_neg h1]
      have h2 : u / 10 < 10 ^ k := by rw [Nat.pow_succ] at h; omega
      have h3 : 0 < k := by
        rcases Nat.eq_zero_or_pos k with rfl | h3
        · simp at h; omega
        · exact h3
      rw [dF_is k (u / 10) h2 h3]
def itoaF (n : Int) : List UInt8 := if n < 0 then 45 :: dF 20 n.natAbs else dF 20 n.toNat
theorem itoaF_is {n : Int} (h : -9223372036854775808 ≤ n ∧ n ≤ 9223372036854775807) : itoaF n = Lib.itoa n := by
  unfold itoaF Lib.itoa
  rw [dF_is 20 n.natAbs (by omega) (by omega), dF_is 20 n.toNat (by omega) (by omega)]
def itoaX : CallF := fun f args bx => match f, args with
  | 38, [.val (.int .i64 n)] => if -9223372036854775808 ≤ n ∧ n ≤ 9223372036854775807 then some (.val (.string ⟨(itoaF n).toArray⟩), bx) else none
  | _, _ => none
theorem globs_tab {w : World} {μ : Nat → Nat} {n : Nat} (h : GlobOk w μ n) : Lib.TabIs Tryz.prog w "internal/strconv.uint64pow10" .u64 Lib.pow10Tab := by
  obtain ⟨⟨t, z, h1⟩, _⟩ := h _ (List.mem_singleton.2 rfl)
  unfold Lib.TabIs World.var?
  have hg : Tryz.prog.globalNamed "internal/strconv.uint64pow10" = some 0 := by kernel_rfl
  rw [hg]
  simp only [Option.bind, h1]
  rfl
theorem grow_below (w : World) (k : Nat) (os : Array Obj) : Below w.heap.size w (Sort.grow (w.drewN k) os) :=
  ⟨rfl, rfl, rfl, by show w.heap.size ≤ (w.heap ++ os).size; rw [Array.size_append]; omega, fun i hi => by show (w.heap ++ os)[i]? = w.heap[i]?; rw [Array.getElem?_append_left hi]⟩
theorem itoaX_sound : SoundF Tryz.prog itoaX := by
  intro f xs bx r bx' h w lim μ vs hsz hrep hbox hgl
  unfold itoaX at h
  split at h
  · rename_i n
    split at h
    · rename_i hn
      simp only [Option.some.injEq, Prod.mk.injEq] at h
      obtain ⟨rfl, rfl⟩ := h
      obtain ⟨h0, -⟩ := hrep 0 (by simp)
      simp only [List.getElem_cons_zero] at h0
      have hv := h0.ofVal
      have hvs : vs = #[.int .i64 n] := by
        refine Array.ext (by simpa using hsz) fun i h1 h2 => ?_
        have hi : i = 0 := by simp at h2; omega
        subst hi
        rw [Array.getD_eq_getD_getElem?, Array.getElem?_eq_getElem h1] at hv
        simpa using hv
      subst hvs
      refine ⟨fun w => ?_, (by intro l n e; cases e), ?_⟩
      · obtain ⟨c, hb⟩ := Option.isSome_iff_exists.1 (by kernel_rfl : Tryz.f38.body.isSome = true)
        have hname : ¬ (Tryz.f38.name = "runtime.NumGoroutine") := by decide +kernel
        simp [callFunc, Tryz.func38, hname, hb]
      · refine (Tryz.strconv_Itoa n hn.1 hn.2 w (globs_tab hgl)).mono fun e w' he => ?_
        rw [← itoaF_is hn] at he
        obtain ⟨rfl, k, os, rfl⟩ := he
        have hb := grow_below w k os
        exact ⟨_, lim, μ, rfl, Nat.le_refl _, But.of_below hb, fun _ _ => rfl, fun _ _ => rfl, fun r h1 h2 => absurd h2 (Nat.not_lt.2 h1), hbox.mono hb fun _ _ => rfl, .rv (.val _ rfl)⟩
    · cases h
  · cases h
noncomputable def ext5 : CallF := fun f args bx => match itoaX f args bx with
  | some r => some r
  | none => ext1 f args bx
def extK5 (k : Nat) : CallF := fun f args bx => match itoaX f args bx with
  | some r => some r
  | none => extK k f args bx
theorem ext5_sound : SoundF Tryz.prog ext5 := by
  intro f xs bx r bx' h
  unfold ext5 at h
  cases hx : itoaX f xs bx with
  | some q => rw [hx] at h; cases h; exact itoaX_sound _ _ _ _ _ hx
  | none => rw [hx] at h; exact ext1_sound _ _ _ _ _ h
theorem itoaX_tab {f : Nat} {args : List A} {bx : Bx} : itoaX f args bx = none ∨ tab0 f = none := by
  by_cases h : f = 38
  · subst h; exact .inr rfl
  · left
    unfold itoaX
    split
    · exact absurd rfl h
    · rfl
theorem itoaX_ext1 {f : Nat} {args : List A} {bx : Bx} {r} (h : ext1 f args bx = some r) : itoaX f args bx = none := by
  by_cases hf : f = 38
  · subst hf; cases h
  · unfold itoaX
    split
    · exact absurd rfl hf
    · rfl
theorem itoaX_extK {k f : Nat} {args : List A} {bx : Bx} {r} (h : extK k f args bx = some r) : itoaX f args bx = none := by
  by_cases hf : f = 38
  · subst hf; cases h
  · unfold itoaX
    split
    · exact absurd rfl hf
    · rfl
theorem leX5 : LeX tab0 ext1 ext5 := by
  refine ⟨fun f a b r h => ?_, fun f a b h => ?_⟩
  · unfold ext5; rw [itoaX_ext1 h]; exact h
  · rcases itoaX_tab (f := f) (args := a) (bx := b) with h2 | h2
    · left; unfold ext5; rw [h2]; exact h
    · exact .inr h2
theorem up5 : LeF (callL tab0 ext1) (callL tab0 ext5) := callL_monoX leX5
theorem pure5 {k f args v} (h : pureOf (callL tab0 ext1) k f args = some v) : pureOf (callL tab0 ext5) k f args = some v := pureOf_mono up5 _ _ _ _ h
theorem leXK5 (k : Nat) : LeX tab0 (extK5 k) ext5 := by
  obtain ⟨l1, l2⟩ := leXK k
  refine ⟨fun f a b r h => ?_, fun f a b h => ?_⟩
  · unfold extK5 at h
    unfold ext5
    cases hx : itoaX f a b with
    | some q => rw [hx] at h; exact h
    | none => rw [hx] at h; exact l1 _ _ _ _ h
  · unfold extK5 at h
    unfold ext5
    cases hx : itoaX f a b with
    | some q => rw [hx] at h; cases h
    | none => rw [hx] at h; exact l2 _ _ _ h
theorem run_true5 {f} (k : Nat) (h : isTrue (callOf tab0 (extK5 k) (evK tab0 (extK5 k) k) f [] []) = true) : Ans (vb true) [] (callL tab0 ext5 f [] []) := by
  obtain ⟨j, h⟩ := isTrue_of h
  exact ⟨j, callL_monoX (leXK5 k) _ _ _ _ ((callL_iff ..).2 ⟨k, h⟩)⟩
theorem itoa_is {n : Int} (h : -9223372036854775808 ≤ n ∧ n ≤ 9223372036854775807) (bx : Bx) : callL tab0 ext5 38 [vi n] bx = some (vs ⟨(itoaF n).toArray⟩, bx) := by
  unfold callL callOf ext5 itoaX
  simp only [h, and_self, if_true]
end Go.Proofs.YtamblgbmdhldbaaGreatDoorEv
