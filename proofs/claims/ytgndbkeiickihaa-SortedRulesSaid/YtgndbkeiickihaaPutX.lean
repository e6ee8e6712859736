/- sorted.Put: its code in pieces; slices.Insert by its contract. -/
import Derived.Test.YtgndbkeiickihaaItem2
import Derived.Test.YtgndbkeiickihaaIns2
import Derived.Test.YtgndbkeiickihaaPutV
import Derived.Test.YtgndbkeiickihaaFrz
import Derived.WalkKit
set_option linter.unusedSimpArgs false
set_option linter.unusedVariables false
namespace Go.Proofs.YtgndbkeiickihaaEv
open Go Go.RowKit Go.Proofs.YtgndbkeiickihaaIns
set_option maxHeartbeats 4000000
set_option maxRecDepth 100000
/-! ### a row of nothing -/
def NoRoom (q : Option Addr) : Prop := q = none ∨ ∃ b, q = some ⟨b, 0, none⟩
theorem clone_none (W : World) : Calls Try.prog 30 #[.slice none 0 0] W fun e w' => ∃ q, e = .returned (.slice q 0 0) ∧ Below W.heap.size W w' ∧ NoRoom q := by
  have q22 : ∀ (w : World) (a : Option Addr) (n c n' c' : Nat), (binOp .eql 22 (.slice a n c) (.slice none n' c')).run Try.prog w = .ok (.bool a.isNone) w := fun w a n c n' c' => Lib.run_eql_slice_nil w _ _ a n c n' c' Try.underlying22
  go_enter Try.func30, Try.ntmps30
  go_wp2
  go_ret
  exact ⟨none, rfl, Below.refl _ _, .inl rfl⟩
theorem clone_some (p : Addr) (c : Nat) (W : World) : Calls Try.prog 30 #[.slice (some p) 0 c] W fun e w' => ∃ q, e = .returned (.slice q 0 0) ∧ Below W.heap.size W w' ∧ NoRoom q := by
  have q22 : ∀ (w : World) (a : Option Addr) (n c n' c' : Nat), (binOp .eql 22 (.slice a n c) (.slice none n' c')).run Try.prog w = .ok (.bool a.isNone) w := fun w a n c n' c' => Lib.run_eql_slice_nil w _ _ a n c n' c' Try.underlying22
  obtain ⟨i0, hi0, hzz⟩ := Option.map_eq_some_iff.1 info24
  simp only [Prod.mk.injEq] at hzz
  obtain ⟨hz0, hzs, hzb⟩ := hzz
  have z24 : ∀ w, (Go.sizeOf 24).run Try.prog w = .ok 2 w := fun w => by simp [sizeOf, typeInfo, hi0, hzs]
  have u22 := run_underlying Try.underlying22
  have hrun : ∀ ty, (Builtin.append_ #[22, 22] ty #[.slice (some ⟨W.heap.size, 0, none⟩) 0 0, .slice (some p) 0 c]).run Try.prog (W.alloc (.cells #[] 24)) = .ok (.slice (some ⟨W.heap.size, 0, none⟩) 0 0) (W.alloc (.cells #[] 24)) := fun ty => by
    have hs : Src Try.prog i0.size 22 (.slice (some p) 0 c) 0 [] (W.alloc (.cells #[] 24)) := Src.ofSlice _ Try.underlying22 p 0 c [] (by simp) (fun j u h => by cases h) (fun u h => by cases h)
    exact run_append_room_src _ 22 22 ty 24 i0 Try.underlying22 hi0 W.heap.size 0 0 0 _ 0 [] hs (by omega) (fun j h => by cases h) (fun j h => by cases h)
  go_enter Try.func30, Try.ntmps30
  go_wp2_with (at_builtin; refine Lib.wpList_append_run _ rfl _ _ _ _ rfl _ _ rfl rfl _ _ (hrun _) ?_)
  go_ret
  exact ⟨some ⟨W.heap.size, 0, none⟩, rfl, alloc_below W _, .inr ⟨_, rfl⟩⟩
theorem repV_none {w : World} {lim : Nat → Nat} {q : Option Addr} (h : NoRoom q) (g : Nat) (hg : g ≠ 3 ∧ g ≠ 4) : RepV w lim (.slice q 0 0) (.sl [] 0 g) := by
  rcases h with rfl | ⟨b, rfl⟩
  · exact .nil g hg.2
  · exact .sl b 0 0 0 [] g (fun _ => undef) (Nat.le_refl _) (fun _ => rfl) hg.1 (fun i hi => absurd hi (Nat.not_lt_zero _)) (fun i hi => absurd hi (Nat.not_lt_zero _)) (fun i hi => absurd hi (Nat.not_lt_zero _))
theorem stab_w (q : Option Addr) (hq : NoRoom q) (W : World) (lim : Nat → Nat) (hgl : GlobOk W id 0) : Calls Try.prog 31 #[.slice q 0 0, .func (.func 32) #[] #[]] W fun e w' => e = .returned (.tuple #[]) ∧ Below W.heap.size W w' := by
  obtain ⟨_, _, h⟩ := callL_sound tab_ok ext0_sound 31 [.sl [] 0 0, .fn 32 []] [] _ _ stab_nil W lim id #[.slice q 0 0, .func (.func 32) #[] #[]] rfl (fun i hi => by
    have hi : i < 2 := hi
    rcases i with _ | _ | i
    · exact ⟨.rv (repV_none hq 0 (by omega)), fun _ _ e => by cases e⟩
    · exact ⟨.fn 32 [] (fun p hp => by cases hp), fun _ _ e => by cases e⟩
    · omega) (boxRep_nil _ _ _) hgl
  refine h.mono ?_
  rintro e w' ⟨v, lim', μ', rfl, _, hb, _, _, _, _, hr⟩
  obtain ⟨vs, rfl, hs, _⟩ := hr.toTup
  have : vs = #[] := by
    apply Array.eq_empty_of_size_eq_zero
    simpa using hs
  subst this
  exact ⟨rfl, hb.below⟩
theorem sort_none (v : Value) (W : World) (hv : v = .slice none 0 0 ∨ ∃ p c, v = .slice (some p) 0 c) (hgl : ∀ w', Below W.heap.size W w' → GlobOk w' id 0) : Calls Try.prog 13 #[v] W fun e w' => ∃ q, e = .returned (.slice q 0 0) ∧ Below W.heap.size W w' ∧ NoRoom q := by
  have hcl : Calls Try.prog 30 #[v] W fun e w' => ∃ q, e = .returned (.slice q 0 0) ∧ Below W.heap.size W w' ∧ NoRoom q := by
    rcases hv with rfl | ⟨p, c, rfl⟩
    · exact clone_none W
    · exact clone_some p c W
  go_enter Try.func13, Try.ntmps13
  go_wp2_with (first | (go_at_call 30; refine hcl.mono ?_; rintro e w1 ⟨q, rfl, hb1, hq⟩) | (go_at_call 31; refine (stab_w q hq w1 (fun _ => 0) (hgl _ hb1)).mono ?_; rintro e w2 ⟨rfl, hb2⟩))
  go_ret
  exact ⟨q, rfl, hb1.trans (hb2.mono hb1.size), hq⟩
/-! ### where it is put -/
def cutI (S : List It) (x : It) : Nat → Nat
  | 0 => 0
  | i + 1 => if ilt x (S.getD i default) = true then cutI S x i else i + 1
theorem cutI_le (S : List It) (x : It) : ∀ i, cutI S x i ≤ i
  | 0 => Nat.le_refl _
  | i + 1 => by
    unfold cutI
    split
    · have := cutI_le S x i; omega
    · exact Nat.le_refl _
theorem cutI_hi (S : List It) (x : It) : ∀ i j, cutI S x i ≤ j → j < i → ilt x (S.getD j default) = true
  | 0, j, _, h => absurd h (Nat.not_lt_zero _)
  | i + 1, j, h1, h2 => by
    unfold cutI at h1
    split at h1
    · rename_i hc
      by_cases e : j = i
      · subst e; exact hc
      · exact cutI_hi S x i j h1 (by omega)
    · omega
theorem cutI_lo (S : List It) (x : It) : ∀ i, 0 < cutI S x i → ilt x (S.getD (cutI S x i - 1) default) = false
  | 0, h => absurd h (Nat.not_lt_zero _)
  | i + 1, h => by
    unfold cutI at h ⊢
    split
    · rename_i hc
      rw [if_pos hc] at h
      exact cutI_lo S x i h
    · rename_i hc
      have : i + 1 - 1 = i := by omega
      rw [this]
      simpa using hc
theorem cut_put (S : List It) (x : It) (hs : Srt ilt S) : mge ilt S [x] = S.take (cutI S x S.length) ++ x :: S.drop (cutI S x S.length) := by
  have hle := cutI_le S x S.length
  have hhi := cutI_hi S x S.length
  have hlo := cutI_lo S x S.length
  generalize cutI S x S.length = k at *
  have key := mge_put ilt (S.take k) (S.drop k) x (fun u hu => ?_) (fun v hv => ?_)
  · rwa [List.take_append_drop] at key
  · obtain ⟨i, hi, rfl⟩ := List.getElem_of_mem hu
    rw [List.length_take] at hi
    rw [List.getElem_take]
    have h1 := hlo (by omega)
    have hk1 : k - 1 < S.length := by omega
    rw [List.getD_eq_getElem?_getD, List.getElem?_eq_getElem hk1] at h1
    by_cases e : i = k - 1
    · subst e; exact h1
    · exact ilt_swo.neg _ _ _ h1 (List.pairwise_iff_getElem.1 hs i (k - 1) (by omega) hk1 (by omega))
  · obtain ⟨i, hi, rfl⟩ := List.getElem_of_mem hv
    rw [List.length_drop] at hi
    rw [List.getElem_drop]
    have := hhi (k + i) (by omega) (by omega)
    rwa [List.getD_eq_getElem?_getD, List.getElem?_eq_getElem (by omega)] at this
/-- What the loop leaves. -/
def PUQ (bx : Bx) (o : A) (k : Nat) (zz : Out × Env × Bx) : Prop := ∃ e', zz = (.ex 0, e', bx) ∧ e' 3 = .ptr 0 0 ∧ e' 5 = o ∧ e' 6 = vi k
theorem put_loop (S : List It) (x : It) (hS : S.length ≤ 1000) : ∀ (i : Nat) (e : Env), i ≤ S.length → e 3 = .ptr 0 0 → e 5 = .bs 1 S.length 2 → e 6 = vi i →
    EXR (PUQ [itc x, fg itc S] (.bs 1 S.length 2) (cutI S x i)) (evL tab0 ext0 0 L16v_0 (e, [itc x, fg itc S])) := by
  have hpl := it_plain S
  have hdg := plain_dang (m := 2) hpl
  have hown : (fg itc S).map A.own = fg itc S := by
    have h := hpl
    simp only [List.all_eq_true] at h
    refine (List.map_congr_left fun a ha => ?_).trans (List.map_id' _)
    have := h a ha
    cases a <;> simp_all [A.plain, A.own]
  have hlen := it_len S
  intro i
  induction i with
  | zero =>
    intro e _ g3 g5 g6
    rw [go16v_0]
    generalize fg itc S = B at *
    simp [B16v_0, push_cast, -Int.not_lt, -Int.not_le, ↓evI_call, ↓evI_calli, ↓evI_calln, ↓evI_callz, ↓evI_callv, ↓evI_mxn, loopIn, loopIn0, keepL, emp, A.dang, A.dangC, itc, g3, g5, g6, hdg, hown, -List.all_eq_true, -List.map_map]
    exact ⟨_, rfl, _, rfl, by simp [put_at], by simp [put_at], by simp [put_at, cutI]⟩
  | succ i ih =>
    intro e hi g3 g5 g6
    have h1 : i < S.length := by omega
    have h3 : (i : Int) < S.length := by omega
    have p2 : (0 : Int) < (i : Int) + 1 := by omega
    have hat : (fg itc S)[i * 2]? = some (vi S[i].key) := by
      obtain ⟨R1, d1⟩ := it_drop S i h1
      have := List.getElem?_drop (xs := fg itc S) (i := i * 2) (j := 0)
      rw [Nat.add_zero] at this
      rw [← this, d1]; rfl
    have w1 : IntKind.wrap .i64 ((i : Int) + 1 - 1) = (i : Int) := by rw [wrap_in _ (by omega) (by omega)]; omega
    have w1' : IntKind.wrap .i64 (i : Int) = (i : Int) := wrap_in _ (by omega) (by omega)
    have hcu : cutI S x (i + 1) = if ilt x S[i] = true then cutI S x i else i + 1 := by
      show (if ilt x (S.getD i default) = true then _ else _) = _
      rw [List.getD_eq_getElem?_getD, List.getElem?_eq_getElem h1]; rfl
    have ih' := fun e => ih e (by omega)
    clear ih
    rw [go16v_0]
    generalize S[i] = y at *
    cases hl : ilt x y with
    | true =>
      have hl2 : x.key < y.key := by simpa [ilt] using hl
      have hl3 : ¬ y.key ≤ x.key := by omega
      rw [if_pos hl] at hcu
      rw [hcu]
      generalize fg itc S = B at *
      simp only [itc] at ih' ⊢
      simp [B16v_0, push_cast, -Int.not_lt, -Int.not_le, ↓evI_call, ↓evI_calli, ↓evI_calln, ↓evI_callz, ↓evI_callv, ↓evI_mxn, loopIn, loopIn0, keepL, emp, A.dang, A.dangC, g3, g5, g6, hdg, hown, h3, p2, hat, w1, w1', hl2, hl3, -List.all_eq_true, -List.map_map]
      exact ih' _ (by simp [put_at]) (by simp [put_at]) (by simp [put_at])
    | false =>
      have hl2 : ¬ x.key < y.key := by simpa [ilt] using hl
      have hl3 : y.key ≤ x.key := by omega
      rw [if_neg (by rw [hl]; exact Bool.false_ne_true)] at hcu
      rw [hcu]
      generalize fg itc S = B at *
      simp only [itc]
      simp [B16v_0, push_cast, -Int.not_lt, -Int.not_le, ↓evI_call, ↓evI_calli, ↓evI_calln, ↓evI_callz, ↓evI_callv, ↓evI_mxn, loopIn, loopIn0, keepL, emp, A.dang, A.dangC, g3, g5, g6, hdg, hown, h3, p2, hat, w1, w1', hl2, hl3, -List.all_eq_true, -List.map_map]
      exact ⟨_, rfl, _, rfl, by simp [put_at], by simp [put_at], by simp [put_at]⟩
end Go.Proofs.YtgndbkeiickihaaEv
