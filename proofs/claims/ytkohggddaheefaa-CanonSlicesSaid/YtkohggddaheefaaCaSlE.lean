/- swingbridgelaw10.CanonSlices: behind the copies. -/
import Derived.Test.YtkohggddaheefaaCaSlR
import Derived.OrdersHeld
set_option linter.unusedSimpArgs false
set_option linter.unusedVariables false
namespace Go.Proofs.YtkohggddaheefaaEv
open Go Go.RowKit
set_option maxHeartbeats 1000000
set_option maxRecDepth 100000
/-- What holds at the loop's head. -/
structure Lp (W : World) (n q8 q9 tb8 tb9 c8 c9 : Nat) (wr : World) : Prop where
  below : Below W.heap.size W wr
  cell8 : wr.cell? ⟨q8, 3, none⟩ = some (.slice (some ⟨tb8, 0, none⟩) n c8)
  cell9 : wr.cell? ⟨q9, 3, none⟩ = some (.slice (some ⟨tb9, 0, none⟩) n c9)
  own8 : OwnS W.heap.size wr.heap.size wr tb8 n
  own9 : OwnS W.heap.size wr.heap.size wr tb9 n
theorem Lp.set {W : World} {n q8 q9 tb8 tb9 c8 c9 : Nat} {wr : World} (h : Lp W n q8 q9 tb8 tb9 c8 c9 wr) (c q : Nat) (v : Value) (hc : W.heap.size ≤ c) (hq : q ≠ 3) (ho : ∀ k, q ≠ k * 6 + 5) (hv : v.oneCell' = true) : Lp W n q8 q9 tb8 tb9 c8 c9 (wr.setCell ⟨c, q, none⟩ v) := by
  have e : wr.setCell ⟨c, q, none⟩ v = wr.setCells c q [v] := rfl
  rw [e]
  have hs := setCells_below [v] wr c q W.heap.size hc
  have hone : ∀ u ∈ [v], u.oneCell' = true := by intro u hu; simp only [List.mem_singleton] at hu; subst hu; exact hv
  have hk : ∀ k, k * 6 + 5 < q ∨ q + [v].length ≤ k * 6 + 5 := fun k => by have := ho k; show _ ∨ q + 1 ≤ _; omega
  have h3 : 3 < q ∨ q + [v].length ≤ 3 := by show _ ∨ q + 1 ≤ _; omega
  exact ⟨h.below.trans hs, (World.cell?_setCells_out c [v] q wr ⟨q8, 3, none⟩ fun _ _ => h3).trans h.cell8, (World.cell?_setCells_out c [v] q wr ⟨q9, 3, none⟩ fun _ _ => h3).trans h.cell9,
    (h.own8.set c q [v] (fun _ k _ => hk k) fun _ => hone).up hs.size, (h.own9.set c q [v] (fun _ k _ => hk k) fun _ => hone).up hs.size⟩
theorem Lp.drew {W : World} {n q8 q9 tb8 tb9 c8 c9 : Nat} {wr : World} (h : Lp W n q8 q9 tb8 tb9 c8 c9 wr) : Lp W n q8 q9 tb8 tb9 c8 c9 wr.drew :=
  ⟨h.below.drew, h.cell8, h.cell9, h.own8, h.own9⟩
theorem cs_rest (W w : World) (n : Nat) (hn : n ≤ 1000) (x : Nat → Value) (b2 b5 q8 q9 tb8 tb9 c8 c9 : Nat) (p : Int) (ca ha ta ca' ha' ta' : Option Addr) (cn cc hn' hc tc cn2 cc2 hn2 hc2 tc2 : Nat)
    (h2 : x 2 = .pointer (some ⟨b2, 0, none⟩)) (h5 : x 5 = .pointer (some ⟨b5, 0, none⟩)) (h8 : x 8 = .pointer (some ⟨q8, 0, none⟩)) (h9 : x 9 = .pointer (some ⟨q9, 0, none⟩))
    (k0 : W.cell? ⟨b2, 0, none⟩ = some (.int .i64 p)) (k1 : W.cell? ⟨b2, 1, none⟩ = some (.slice ca cn cc)) (k2 : W.cell? ⟨b2, 2, none⟩ = some (.slice ha hn' hc)) (k3 : W.cell? ⟨b2, 3, none⟩ = some (.slice ta n tc))
    (m0 : W.cell? ⟨b5, 0, none⟩ = some (.int .i64 p)) (m1 : W.cell? ⟨b5, 1, none⟩ = some (.slice ca' cn2 cc2)) (m2 : W.cell? ⟨b5, 2, none⟩ = some (.slice ha' hn2 hc2)) (m3 : W.cell? ⟨b5, 3, none⟩ = some (.slice ta' n tc2))
    (hL : Lp W n q8 q9 tb8 tb9 c8 c9 w)
    (hS : ∀ W', Below W.heap.size W W' → Calls Try.prog 20 #[.agg #[.int .i64 p, .slice ca' cn2 cc2, .slice ha' hn2 hc2, .slice ta' n tc2], .agg #[.int .i64 p, .slice ca cn cc, .slice ha hn' hc, .slice ta n tc]] W' fun e w' => e = .returned (.bool true) ∧ Below W'.heap.size W' w') :
    (cdPost 6 (Try.f14.body.getD .skip)).wp Try.prog (bodyPost Try.prog Try.f14 fun e w' => e = .returned (.bool true) ∧ Below W.heap.size W w') ⟨#[x 0, x 1, x 2, x 3, x 4, x 5, x 6, x 7, x 8, x 9, x 10, x 11, x 12, x 13, x 14, x 15, x 16, x 17, x 18, x 19, x 20, x 21, x 22, x 23, x 24, x 25, x 26, x 27, x 28, x 29, x 30, x 31, x 32, x 33, x 34, x 35, x 36, x 37, x 38, x 39, x 40, x 41, x 42, x 43, x 44, x 45, x 46, x 47, x 48, x 49, x 50, x 51, x 52, x 53, x 54, x 55, x 56, x 57, x 58, x 59, x 60, x 61, x 62, x 63, x 64, x 65, x 66, x 67, x 68, x 69, x 70, x 71, x 72, x 73, x 74, x 75, x 76, x 77, x 78, x 79, x 80, x 81, x 82, x 83, x 84, x 85, x 86, x 87, x 88, x 89, x 90, x 91, x 92, x 93, x 94, x 95, x 96, x 97, x 98, x 99, x 100, x 101, x 102, x 103, x 104, x 105, x 106, x 107, x 108, x 109, x 110, x 111, x 112, x 113, x 114, x 115, x 116, x 117, x 118, x 119, x 120], []⟩ w := by
  have hS2 : Aside _ := hS
  have hK : Aside (∀ w', Below W.heap.size W w' → (w'.cell? ⟨b2, 0, none⟩ = some (.int .i64 p) ∧ w'.cell? ⟨b2, 1, none⟩ = some (.slice ca cn cc) ∧ w'.cell? ⟨b2, 2, none⟩ = some (.slice ha hn' hc) ∧ w'.cell? ⟨b2, 3, none⟩ = some (.slice ta n tc)) ∧ w'.cell? ⟨b5, 0, none⟩ = some (.int .i64 p) ∧ w'.cell? ⟨b5, 1, none⟩ = some (.slice ca' cn2 cc2) ∧ w'.cell? ⟨b5, 2, none⟩ = some (.slice ha' hn2 hc2) ∧ w'.cell? ⟨b5, 3, none⟩ = some (.slice ta' n tc2)) := by
    intro w' hb
    have l2 := lt_of_cell k0
    have l5 := lt_of_cell m0
    exact ⟨⟨(hb.cell l2).trans k0, (hb.cell l2).trans k1, (hb.cell l2).trans k2, (hb.cell l2).trans k3⟩, (hb.cell l5).trans m0, (hb.cell l5).trans m1, (hb.cell l5).trans m2, (hb.cell l5).trans m3⟩
  clear hS k0 k1 k2 k3 m0 m1 m2 m3
  obtain ⟨fn, hfn⟩ : ∃ fn, fn = Try.f14 := ⟨_, rfl⟩
  rw [show bodyPost Try.prog Try.f14 (fun e w' => e = .returned (.bool true) ∧ Below W.heap.size W w') = bodyPost Try.prog fn (fun e w' => e = .returned (.bool true) ∧ Below W.heap.size W w') by rw [hfn]]
  have hQ2 : Aside _ := hfn
  clear hfn
  have hL2 : Aside _ := hL
  obtain ⟨⟨k0, k1, k2, k3⟩, m0, m1, m2, m3⟩ := hK.out w hL.below
  have hc8 := hL.cell8
  have hc9 := hL.cell9
  clear hL
  dsimp only [Try.f14, cdPost, Option.getD]
  rw [h2, h5, h8, h9]
  clear h2 h5 h8 h9
  go_wp2_with (go_at_call 9999)
  clear k0 k1 k2 k3 m0 m1 m2 m3 hc8 hc9
  go_loopw [10] (fun v10 wr => ∃ i : Nat, v10 = .int .i64 i ∧ i ≤ n ∧ Lp W n q8 q9 tb8 tb9 c8 c9 wr) (fun v10 _ => n - numO v10)
  case atStart => exact ⟨0, rfl, Nat.zero_le _, hL2.out⟩
  case round =>
    obtain ⟨i, rfl, hi, hR⟩ := hrel
    have hR2 : Aside _ := hR
    obtain ⟨⟨k0, k1, k2, k3⟩, m0, m1, m2, m3⟩ := hK.out wr hR.below
    have hc8 := hR.cell8
    have hc9 := hR.cell9
    by_cases him : i = n
    · have hil : ¬ i < n := by omega
      clear hR
      subst him
      go_wp2_with (go_at_call 9999)
      go_at_call 20
      refine Calls.mono (hS2.out _ hR2.out.below) ?_
      rintro e w2 ⟨rfl, hb⟩
      have hb2 : Aside _ := hb
      clear hb
      go_wp2_with (go_at_call 9999)
      rw [hQ2.out]
      exact bodyPost_ret (by simp [results, Try.results14, go_sem]; try rfl) rfl ⟨rfl, hR2.out.below.trans (hb2.out.mono hR2.out.below.size)⟩
    · have him2 : i < n := by omega
      obtain ⟨pb8, ln8, pc8, g8, l8, _, _, _, rp8, _⟩ := hR.own8.2.2.2 i him2
      obtain ⟨pb9, ln9, pc9, g9, l9, _, _, _, rp9, _⟩ := hR.own9.2.2.2 i him2
      have r8 := hR.own8.2.2.1
      have r9 := hR.own9.2.2.1
      have nz8 : ((ln8 : Int) == 0) = false := by simp; omega
      have nz9 : ((ln9 : Int) == 0) = false := by simp; omega
      obtain ⟨s8, hs8⟩ := r8.cell (j := i * 6) (by omega)
      obtain ⟨s9, hs9⟩ := r9.cell (j := i * 6) (by omega)
      have f8 := r8.live (i * 6)
      have f9 := r9.live (i * 6)
      obtain ⟨s9', hs9'⟩ : ∃ s, (wr.setCell ⟨tb8, i * 6, none⟩ (.string ⟨#[111, 116, 104, 101, 114]⟩)).cell? ⟨tb9, i * 6, none⟩ = some s := (r9.set tb8 (i * 6) [.string ⟨#[111, 116, 104, 101, 114]⟩]).cell (j := i * 6) (by omega)
      have f9' : (wr.setCell ⟨tb8, i * 6, none⟩ (.string ⟨#[111, 116, 104, 101, 114]⟩)).frozen? ⟨tb9, i * 6, none⟩ = false := (r9.set tb8 (i * 6) [.string ⟨#[111, 116, 104, 101, 114]⟩]).live (i * 6)
      clear hR r8 r9 rp8 rp9
      have hw1 : IntKind.wrap .i64 ((i : Int) + 1) = (i : Int) + 1 := wrap_in _ (by omega) (by omega)
      clear him
      go_wp2_with (go_at_call 9999)
      go_region
      have hT : Lp W n q8 q9 tb8 tb9 c8 c9 (((wr.setCell ⟨tb8, i * 6, none⟩ (.string ⟨#[111, 116, 104, 101, 114]⟩)).setCell ⟨tb9, i * 6, none⟩ (.string ⟨#[111, 116, 104, 101, 114]⟩)).drew) := by
        have hR := hR2.out
        exact ((hR.set tb8 (i * 6) _ hR.own8.1 (by omega) (fun k => by omega) rfl).set tb9 (i * 6) _ hR.own9.1 (by omega) (fun k => by omega) rfl).drew
      clear hR2 k0 k1 k2 k3 m0 m1 m2 m3 hc8 hc9 g8 g9 l8 l9 nz8 nz9 hs8 hs9 hs9' f8 f9 f9'
      generalize ((wr.setCell ⟨tb8, i * 6, none⟩ (.string ⟨#[111, 116, 104, 101, 114]⟩)).setCell ⟨tb9, i * 6, none⟩ (.string ⟨#[111, 116, 104, 101, 114]⟩)).drew = W1 at *
      have hT2 : Aside _ := hT
      have hc8 := hT.cell8
      have hc9 := hT.cell9
      obtain ⟨pb8, ln8, pc8, g8, l8, b8, _, _, r8, _⟩ := hT.own8.2.2.2 i him2
      obtain ⟨pb9, ln9, pc9, g9, l9, b9, _, _, r9, _⟩ := hT.own9.2.2.2 i him2
      obtain ⟨s8, hs8⟩ := r8.cell (j := 1) (by omega)
      have f8 := r8.live 1
      obtain ⟨s9', hs9'⟩ : ∃ s, (W1.setCell ⟨pb8, 1, none⟩ (.int .i64 77)).cell? ⟨pb9, 1, none⟩ = some s := (r9.set pb8 1 [.int .i64 77]).cell (j := 1) (by omega)
      have f9' : (W1.setCell ⟨pb8, 1, none⟩ (.int .i64 77)).frozen? ⟨pb9, 1, none⟩ = false := (r9.set pb8 1 [.int .i64 77]).live 1
      have hT3 : Aside (Lp W n q8 q9 tb8 tb9 c8 c9 (((W1.setCell ⟨pb8, 1, none⟩ (.int .i64 77)).setCell ⟨pb9, 1, none⟩ (.int .i64 78)).drew)) := by
        exact ((hT.set pb8 1 _ b8 (by omega) (fun k => by omega) rfl).set pb9 1 _ b9 (by omega) (fun k => by omega) rfl).drew
      clear hT r8 r9 b8 b9
      go_wp2_with (go_at_call 9999)
      go_region
      all_goals go_wp2_with (go_at_call 9999)
      all_goals exact ⟨⟨i + 1, rfl, by omega, hT3.out⟩, by simp only [numO]; omega⟩
end Go.Proofs.YtkohggddaheefaaEv
