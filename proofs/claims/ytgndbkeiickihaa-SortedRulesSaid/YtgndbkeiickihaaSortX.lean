/- slices.SortFunc of numbers, the greatest first: as a call that writes its box. -/
import Derived.Test.YtgndbkeiickihaaSortL
import Derived.Test.YtgndbkeiickihaaSo
import Derived.Test.YtgndbkeiickihaaFrz
import Derived.Lib.RowBridge
import Derived.Lib.SortBridge
import Derived.Lib.AppendIntMem
import Derived.WalkKit
set_option linter.unusedSimpArgs false
set_option linter.unusedVariables false
set_option linter.unusedVariables false
namespace Go.Proofs.YtgndbkeiickihaaSortX
open Go Go.Shelf Go.RowKit Go.Lib Go.Sort Go.Proofs
/-- The comparison: of the second one with the first one. -/
def cfD (x y : Int) : Int := Lib.compareInt y x
theorem ltD (x y : Int) : ltOf cfD x y = decide (y < x) := by
  unfold ltOf cfD Lib.compareInt
  by_cases h1 : y < x
  · simp [h1]
  · by_cases h2 : x < y <;> simp [h1, h2]
theorem swoD : SWO (ltOf cfD) where
  irrefl x := by rw [ltD]; simp
  trans x y z h1 h2 := by rw [ltD] at *; simp at *; omega
  ntrans x y z h1 h2 := by rw [ltD] at *; simp at *; omega
theorem totD (x y : Int) (h1 : ltOf cfD x y = false) (h2 : ltOf cfD y x = false) : x = y := by rw [ltD] at *; simp at *; omega
theorem geD : (fun x y : Int => !ltOf cfD y x) = fun x y => decide (y ≤ x) := by
  funext x y
  rw [ltD]
  by_cases h : y ≤ x
  · have h' : ¬ x < y := by omega
    simp [h, h']
  · have h' : x < y := by omega
    simp [h, h']
set_option maxHeartbeats 1000000 in
theorem closure37 (x y : Int) (W : World) : Calls Try.prog 37 #[.int .i64 x, .int .i64 y] W fun e w' => e = .returned (.int .i64 (cfD x y)) ∧ ∃ q, w' = W.drewN q := by
  have hcon := Try.cmp_Compare_int y x W
  unfold cfD
  generalize Lib.compareInt y x = r at hcon ⊢
  go_enter Try.func37, Try.ntmps37
  go_wp2_with (go_at_call 38; refine hcon.mono ?_; rintro e w' ⟨rfl, rfl⟩)
  go_ret
  exact ⟨rfl, 0, rfl⟩
theorem cmpReads (blk off size : Nat) (w : World) : CmpReads Try.prog 37 #[] (Value.int .i64) cfD blk off size w := fun _ _ _ _ x y => closure37 x y _
theorem sort_w (b n c : Nat) (zs : List Int) (w : World) (hz : zs.length = n) (h12 : n < 4611686018427387904) (hb : b < w.heap.size) (hc : ∀ j, j < zs.length → w.cell? ⟨b, 0 + j, none⟩ = some (.int .i64 (zs.getD j 0))) (hf : ∀ j, j < n → w.frozen? ⟨b, 0 + j, none⟩ = false) :
    Calls Try.prog 36 #[.slice (some ⟨b, 0, none⟩) n c, .func (.func 37) #[] #[]] w fun e w' => e = .returned (.tuple #[]) ∧ ∃ q os, w' = grow ((w.drewN q).setCells b 0 ((zs.mergeSort fun x y => decide (y ≤ x)).map (Value.int .i64))) os := by
  have hH := Lib.holds_of_ints (n := n) (Nat.le_of_eq hz.symm) hc hf
  rw [List.take_of_length_le (Nat.le_of_eq hz)] at hH
  have hsz : zs.toArray.size = n := by simpa using hz
  have eg : ∀ args w, (callFunc 37 args).run Try.prog w = .ok (.enter 37 args) w := enters_of Try.func37 (by kernel_rfl) rfl
  have hS := Try.slices_SortFunc_total (Value.int .i64) (fun _ => rfl) cfD swoD 37 #[] b 0 c zs.toArray w eg (cmpReads b 0 zs.toArray.size w).lays hH hb (by rw [hsz]; exact h12) totD
  rw [geD, hsz] at hS
  refine hS.mono fun e w' ⟨he, q, os, hw⟩ => ⟨he, q, os, ?_⟩
  rw [hw]
  exact Lib.sorted_world _ w b 0 q _ _ os hH (by simp)
end Go.Proofs.YtgndbkeiickihaaSortX
namespace Go.Proofs.YtgndbkeiickihaaEv
open Go Go.RowKit Go.Sort Go.Proofs.YtgndbkeiickihaaSortX
theorem sortD_merge (l : List Int) : l.mergeSort (fun x y => decide (y ≤ x)) = sortD l := by
  refine List.Perm.eq_of_pairwise (le := fun a b : Int => b ≤ a) (fun a b _ _ h1 h2 => Int.le_antisymm h2 h1) ?_ ?_ ((List.mergeSort_perm l _).trans (sortD_perm l).symm)
  · have := List.pairwise_mergeSort (le := fun x y : Int => decide (y ≤ x)) (fun a b c h1 h2 => by simp at *; omega) (fun a b => by simp; omega) l
    exact this.imp fun h => by simpa using h
  · have : ∀ l : List Int, (sortD l).Pairwise (fun a b => b ≤ a) := fun l => by
      induction l with
      | nil => exact List.Pairwise.nil
      | cons a l ih => exact insD_sorted a _ ih
    exact this l
/-- What the call does with its box. -/
noncomputable def extSF : CallF := fun f args bx => match args with
  | [.bs r n 1, .fn g []] => @ite _ (f = 36 ∧ g = 37 ∧ n < 4611686018427387904 ∧ ∃ l : List Int, l.length = n ∧ bx[r]? = some (l.map vi)) (Classical.propDecidable _) (some (.tup [], bx.set r ((sortD (l0 bx r)).map vi))) none
  | _ => none
where
  l0 (bx : Bx) (r : Nat) : List Int := ((bx[r]?).getD []).map fun a => match a with | .val (.int _ k) => k | _ => 0
theorem l0_is {bx : Bx} {r : Nat} {l : List Int} (h : bx[r]? = some (l.map vi)) : extSF.l0 bx r = l := by
  unfold extSF.l0
  rw [h]
  simp only [Option.getD_some, List.map_map]
  exact (List.map_congr_left fun a _ => rfl).trans (List.map_id' l)
theorem below_set (w : World) (q : Nat) (os : Array Obj) : Below w.heap.size w (grow (w.drewN q) os) := Go.Lib.below_grow _ w (Nat.le_refl _) q os
theorem extSF_sound : SoundF Try.prog extSF := by
  intro f xs bx r bx' h w lim μ vs hsz hrep hbox hgl
  unfold extSF at h
  split at h
  · rename_i rr n g
    split at h
    · rename_i hcond
      obtain ⟨rfl, rfl, hn, l, hl, hbx⟩ := hcond
      cases h
      have hr0 := (hrep 0 (by simp)).1
      have hr1 := (hrep 1 (by simp)).1
      simp only [List.getElem_cons_zero, List.getElem_cons_succ] at hr0 hr1
      obtain ⟨c, hv0, hnc, hlt, hzz⟩ := hr0.toBsz
      obtain ⟨hv1, _⟩ := hr1.toFn
      have hvs : vs = #[.slice (some ⟨μ rr, 0, none⟩) n c, .func (.func 37) #[] #[]] := by
        simp only [List.map_nil] at hv1
        apply Array.ext_getElem?
        intro i
        rcases i with _ | _ | i
        · rw [Array.getD_eq_getD_getElem?] at hv0
          rw [Array.getElem?_eq_getElem (by rw [hsz]; simp)] at hv0 ⊢
          simp at hv0; simp [hv0]
        · rw [Array.getD_eq_getD_getElem?] at hv1
          rw [Array.getElem?_eq_getElem (by rw [hsz]; simp)] at hv1 ⊢
          simp at hv1; simp [hv1]
        · rw [Array.getElem?_eq_none (by rw [hsz]; simp)]; simp
      subst hvs
      have hbl : bx[rr]'hlt = l.map vi := by rw [List.getElem?_eq_getElem hlt] at hbx; exact Option.some.inj hbx
      obtain ⟨cs, t, hh, hs, hc⟩ := hbox.row rr hlt
      have hcl : (bx[rr]'hlt).length = l.length := by rw [hbl, List.length_map]
      have hcell : ∀ j, j < l.length → w.cell? ⟨μ rr, 0 + j, none⟩ = some (.int .i64 (l.getD j 0)) := by
        intro j hj
        rw [Nat.zero_add, cell_of_row hh (by omega)]
        have h1 := hc j (by omega)
        have e : (bx[rr]'hlt)[j]'(by omega) = vi l[j] := by simp [hbl]
        rw [e] at h1
        have := (Rep.r (.c h1)).val.1
        rw [this, List.getD_eq_getElem?_getD, List.getElem?_eq_getElem hj]; rfl
      refine ⟨enters_of Try.func36 (by kernel_rfl) rfl _, fun _ _ e => (by cases e), ?_⟩
      refine (sort_w (μ rr) n c l w hl hn (lt_of_heap hh) hcell fun j _ => by simp [World.frozen?, hh]).mono ?_
      rintro e w' ⟨rfl, q, os, rfl⟩
      rw [sortD_merge, l0_is hbx]
      have hsl : (sortD l).length = l.length := (sortD_perm l).length_eq
      -- as a frame of nothing
      have hI : InvG ⟨w, lim, μ, bx.length, 0, hgl⟩ lim μ (fun _ => .t 0) (emp, bx) { tmps := #[], defers := [] } w := by
        refine ⟨rfl, rfl, Nat.le_refl _, fun _ _ => rfl, fun r hr hr' => absurd hr' (Nat.not_lt.2 hr), fun i => .any _, hbox, fun i => .of_n2 (fun _ _ e => (by cases e)), fun r _ _ _ hr hr' => absurd hr' (Nat.not_lt.2 hr), But.refl _ _ _ _, fun _ _ => rfl⟩
      have hI1 := hI.step (lim' := lim) (w' := w.drewN q) ((Below.refl _ _).trans ⟨rfl, rfl, rfl, Nat.le_refl _, fun _ _ => rfl⟩) fun _ _ => rfl
      have hI2 := hI1.store (r := rr) (q := 0) (vs := (sortD l).map (Value.int .i64)) (xs := (sortD l).map vi) hlt (by rw [List.length_map, hsl, hcl]; omega) (by simp) (fun i hi => by
        simp only [List.length_map] at hi
        rw [List.getD_eq_getElem?_getD, List.getElem?_eq_getElem (by simpa using hi)]
        simp only [List.getElem_map, Option.getD_some]
        exact .v (.val _ rfl)) (own' := fun _ => .t 0) (fun i => .of_n2 (fun _ _ e => (by cases e))) (fun r _ _ _ hr hr' => absurd hr' (Nat.not_lt.2 hr)) (fun hr => absurd hlt (Nat.not_lt.2 hr))
      have hI3 := hI2.step (lim' := lim) (w' := grow ((w.drewN q).setCells (μ rr) 0 ((sortD l).map (Value.int .i64))) os) (below_set _ 0 os) fun _ _ => rfl
      have hset : bx[rr].take 0 ++ (sortD l).map vi ++ bx[rr].drop (0 + ((sortD l).map vi).length) = (sortD l).map vi := by
        rw [List.take_zero, List.nil_append, List.drop_of_length_le (by rw [List.length_map, hsl, hcl]; omega), List.append_nil]
      simp only [hset] at hI3
      exact ⟨_, lim, μ, rfl, by simp, hI3.below, fun _ _ => rfl, fun _ _ => rfl, fun r h1 h2 => absurd h2 (by simpa using h1), hI3.box, .tup _ _ rfl fun i hi => absurd hi (Nat.not_lt_zero _)⟩
    · cases h
  · cases h
end Go.Proofs.YtgndbkeiickihaaEv
