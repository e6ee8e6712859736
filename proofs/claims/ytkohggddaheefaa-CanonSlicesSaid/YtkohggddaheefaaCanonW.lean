/- canon.Canon, walked. -/
import Derived.Test.YtkohggddaheefaaPickW
import Derived.Test.YtkohggddaheefaaPureW
import Derived.Test.YtkohggddaheefaaCanon
import Derived.Deep.RegionWith
set_option linter.unusedSimpArgs false
set_option linter.unusedVariables false
namespace Go.Proofs.YtkohggddaheefaaEv
open Go Go.RowKit
set_option maxHeartbeats 1000000
set_option maxRecDepth 100000
theorem glob_belowP {w w' : World} {μ : Nat → Nat} {n : Nat} (h : GlobOk w μ n) (hb : Below w.heap.size w w') : GlobOk w' id 0 := fun p hp =>
  ⟨let ⟨⟨t, z, h1⟩, _⟩ := h p hp; ⟨t, z, (hb.block _ (lt_of_heap h1)).trans h1⟩, fun r hr => absurd hr (Nat.not_lt_zero _)⟩
theorem ints_of {w : World} {lim : Nat → Nat} {v : Value} {l : List Int} (h : RepV w lim v (slI l)) (h0 : 0 < l.length) : ∃ b o c, v = .slice (some ⟨b, o, none⟩) l.length c ∧ b < w.heap.size ∧ ∀ i (h : i < l.length), w.cell? ⟨b, o + i, none⟩ = some (.int .i64 l[i]) := by
  generalize hx : slI l = a at h
  cases h with
  | val _ _ => cases hx
  | nil => simp only [slI, A.sl.injEq] at hx; omega
  | emp b o s g => simp only [slI, A.sl.injEq] at hx; omega
  | sl b o n c l2 g vs hn hg h3 hc hl hr =>
    simp only [slI, A.sl.injEq] at hx
    obtain ⟨rfl, rfl, _⟩ := hx
    have hcell : ∀ i (h : i < l.length), w.cell? ⟨b, o + i, none⟩ = some (.int .i64 l[i]) := by
      intro i hi
      have hi2 : i < (l.map vi).length := by simpa using hi
      have h1 := hr i hi2
      have e : (l.map vi)[i] = vi l[i] := by simp
      rw [e] at h1
      rw [hc i hi2, (Rep.rv (lim := lim) (μ := id) (m := 0) h1).val.1]
    exact ⟨b, o, c, rfl, lt_of_cell (hcell 0 h0), hcell⟩
theorem set_form {w : World} {lim : Nat → Nat} {v : Value} (s : St) (hv : Rep w lim id 0 v (.agg (St.c s))) : ∃ ca cn cc ha hn hc ta tn tc, v = .agg #[.int .i64 s.proto, .slice ca cn cc, .slice ha hn hc, .slice ta tn tc] := by
  obtain ⟨vs, rfl, hsz, hcs, _⟩ := hv.toAgg
  have hsz : vs.size = 4 := hsz
  have e0 := (Rep.r (.c (hcs 0 (by show 0 < 4; omega)))).val.1
  obtain ⟨x1, n1, c1, e1⟩ := isSlice (hcs 1 (by show 1 < 4; omega)) (.inr ⟨_, _, _, rfl⟩)
  obtain ⟨x2, n2, c2, e2⟩ := isSlice (hcs 2 (by show 2 < 4; omega)) (.inr ⟨_, _, _, rfl⟩)
  obtain ⟨x3, n3, c3, e3⟩ := isSlice (hcs 3 (by show 3 < 4; omega)) (.inr ⟨_, _, _, rfl⟩)
  have hvs : vs = #[vs.getD 0 undef, vs.getD 1 undef, vs.getD 2 undef, vs.getD 3 undef] := by
    apply Array.ext_getElem?
    intro i
    rcases i with _ | _ | _ | _ | i
    · rw [Array.getD_eq_getD_getElem?, Array.getElem?_eq_getElem (by omega)]; simp
    · rw [Array.getD_eq_getD_getElem? (i := 1), Array.getElem?_eq_getElem (by omega)]; simp
    · rw [Array.getD_eq_getD_getElem? (i := 2), Array.getElem?_eq_getElem (by omega)]; simp
    · rw [Array.getD_eq_getD_getElem? (i := 3), Array.getElem?_eq_getElem (by omega)]; simp
    · rw [Array.getElem?_eq_none (by omega)]; simp
  rw [e0, e1, e2, e3] at hvs
  exact ⟨_, _, _, _, _, _, _, _, _, congrArg _ hvs⟩
theorem OwnS.low {B B' U : Nat} {w : World} {tb n : Nat} (h : OwnS B U w tb n) (hB : B' ≤ B) : OwnS B' U w tb n := by
  obtain ⟨h1, h2, h3, h4⟩ := h
  refine ⟨by omega, h2, h3, fun k hk => ?_⟩
  obtain ⟨pb, len, cap, q1, q2, q3, q4⟩ := h4 k hk
  exact ⟨pb, len, cap, q1, q2, by omega, q4⟩
theorem OwnS.up {B U U' : Nat} {w : World} {tb n : Nat} (h : OwnS B U w tb n) (hU : U ≤ U') : OwnS B U' w tb n := by
  obtain ⟨h1, h2, h3, h4⟩ := h
  exact ⟨h1, by omega, h3, fun k hk => (h4 k hk).grow hU⟩
theorem copy_set {W w1 w2 : World} {n : Nat} {e : Ending} (h : CopyPost w1 n e w2) (hB : Below W.heap.size W w1) (q : Nat) (hq : W.heap.size ≤ q) (hq2 : q < w1.heap.size) (vs : List Value) : CopyPost W n e (w2.setCells q 0 vs) := by
  obtain ⟨p, ca, cn, cc, ha, hn, hc, tb, cap, rfl, h1, h2, h3⟩ := h
  have hs := setCells_below vs w2 q 0 W.heap.size hq
  have h4 := (h3.low hB.size).set q 0 vs (fun e => by have := h3.1; omega) fun e => by have := h3.1; omega
  exact ⟨p, ca, cn, cc, ha, hn, hc, tb, cap, rfl, h1, (hB.trans (h2.mono hB.size)).trans hs, h4.up hs.size⟩
theorem canon_w (s : St) (hs : Sm s) (g : Good s) (W : World) (lim : Nat → Nat) (v : Value) (hv : Rep W lim id 0 v (.agg (St.c s))) (hgl : GlobOk W id 0) : Calls Try.prog 44 #[v] W (CopyPost W s.tasks.length) := by
  have hO : ∀ W', Below W.heap.size W W' → Calls Try.prog 43 #[v] W' fun e w' => ∃ ob oo oc, e = .returned (.slice (some ⟨ob, oo, none⟩) s.tasks.length oc) ∧ Below W'.heap.size W' w' ∧ ob < w'.heap.size ∧ ∀ i (h : i < (ordS s).length), w'.cell? ⟨ob, oo + i, none⟩ = some (.int .i64 (ordS s)[i]) := by
    intro W' hW
    refine (pure_w (callL_sound tab_ok ext0_sound) (order_is s hs) W' lim #[v] rfl (fun i hi => by
      have hi : i < 1 := hi
      obtain rfl : i = 0 := by omega
      exact ⟨hv.mono (Ext.of_below hW fun _ _ => rfl) (fun _ _ => rfl) (Nat.le_refl _), fun _ _ e => by cases e⟩) (glob_belowP hgl hW)).mono ?_
    rintro e w' ⟨u, lim', rfl, hb, _, hr⟩
    obtain ⟨b, o, c, rfl, h1, h2⟩ := ints_of hr.toSl (by rw [ordS_len]; exact g.tasks.1)
    exact ⟨b, o, c, by rw [ordS_len], hb, h1, h2⟩
  obtain ⟨ca, cn, cc, ha, hn, hc, ta, tn, tc, rfl⟩ := set_form s hv
  have hP : ∀ W' ob oo oc, Below W.heap.size W W' → ob < W'.heap.size → (∀ i (h : i < (ordS s).length), W'.cell? ⟨ob, oo + i, none⟩ = some (.int .i64 (ordS s)[i])) → Calls Try.prog 69 #[.agg #[.int .i64 s.proto, .slice ca cn cc, .slice ha hn hc, .slice ta tn tc], .slice (some ⟨ob, oo, none⟩) s.tasks.length oc] W' (CopyPost W' s.tasks.length) := by
    intro W' ob oo oc hW hob hcl
    have h9 := g.tasks
    exact pick_w s.tasks.length s.tasks.length (by omega) (by omega) (by omega) W' s.proto ca ha ta cn cc hn hc tn tc (fun W'' hW2 => copy_own s hs g W'' lim _ (hv.mono (Ext.of_below (hW.trans (hW2.mono hW.size)) fun _ _ => rfl) (fun _ _ => rfl) (Nat.le_refl _)) (glob_belowP hgl (hW.trans (hW2.mono hW.size)))) ob oo oc hob (ordS s) (ordS_len s) (fun x hx => by have := ordS_ok s x hx; omega) hcl
  have hgt := g.tasks
  generalize s.tasks.length = m at *
  have hO2 : Aside _ := hO
  have hP2 : Aside _ := hP
  generalize ordS s = l at *
  clear hO hP hv hs hgl g
  go_enter Try.func44, Try.ntmps44
  go_wp2_with (go_at_call 9999)
  have hXs : ((W.alloc (.cells #[.int .i64 s.proto, .slice ca cn cc, .slice ha hn hc, .slice ta tn tc] 25)).alloc (.cells #[.int .i64 0, .slice none 0 0, .slice none 0 0, .slice none 0 0] 25)).heap.size = W.heap.size + 2 := (Array.size_push ..).trans (congrArg (· + 1) (Array.size_push ..))
  have hX : Below W.heap.size W ((W.alloc (.cells #[.int .i64 s.proto, .slice ca cn cc, .slice ha hn hc, .slice ta tn tc] 25)).alloc (.cells #[.int .i64 0, .slice none 0 0, .slice none 0 0, .slice none 0 0] 25)) := (alloc_below W _).trans ((alloc_below _ _).mono (by rw [show (W.alloc (.cells #[.int .i64 s.proto, .slice ca cn cc, .slice ha hn hc, .slice ta tn tc] 25)).heap.size = W.heap.size + 1 from Array.size_push ..]; omega))
  have hXr : RowAt ((W.alloc (.cells #[.int .i64 s.proto, .slice ca cn cc, .slice ha hn hc, .slice ta tn tc] 25)).alloc (.cells #[.int .i64 0, .slice none 0 0, .slice none 0 0, .slice none 0 0] 25)) (W.heap.size + 1) 4 := by
    refine ⟨#[.int .i64 0, .slice none 0 0, .slice none 0 0, .slice none 0 0], 25, ?_, Nat.le_refl 4⟩
    have := heap_alloc_new (W.alloc (.cells #[.int .i64 s.proto, .slice ca cn cc, .slice ha hn hc, .slice ta tn tc] 25)) (.cells #[.int .i64 0, .slice none 0 0, .slice none 0 0, .slice none 0 0] 25)
    rw [show (W.alloc (.cells #[.int .i64 s.proto, .slice ca cn cc, .slice ha hn hc, .slice ta tn tc] 25)).heap.size = W.heap.size + 1 from Array.size_push ..] at this
    exact this
  have hXc : ∀ j v, #[Value.int .i64 s.proto, .slice ca cn cc, .slice ha hn hc, .slice ta tn tc][j]? = some v → ((W.alloc (.cells #[.int .i64 s.proto, .slice ca cn cc, .slice ha hn hc, .slice ta tn tc] 25)).alloc (.cells #[.int .i64 0, .slice none 0 0, .slice none 0 0, .slice none 0 0] 25)).cell? ⟨W.heap.size, j, none⟩ = some v := fun j v hj => by
    have h1 : (W.alloc (.cells #[.int .i64 s.proto, .slice ca cn cc, .slice ha hn hc, .slice ta tn tc] 25)).cell? ⟨W.heap.size, j, none⟩ = some v := (World.cell?_alloc_at (w := W) _ _ W.heap.size j rfl).trans hj
    exact ((alloc_below _ _).cell (by rw [show (W.alloc (.cells #[.int .i64 s.proto, .slice ca cn cc, .slice ha hn hc, .slice ta tn tc] 25)).heap.size = W.heap.size + 1 from Array.size_push ..]; exact Nat.lt_succ_self _)).trans h1
  generalize (W.alloc (.cells #[.int .i64 s.proto, .slice ca cn cc, .slice ha hn hc, .slice ta tn tc] 25)).alloc (.cells #[.int .i64 0, .slice none 0 0, .slice none 0 0, .slice none 0 0] 25) = X at *
  have hc0 : X.cell? ⟨W.heap.size, 0, none⟩ = some (.int .i64 s.proto) := hXc 0 _ rfl
  have hc1 : X.cell? ⟨W.heap.size, 1, none⟩ = some (.slice ca cn cc) := hXc 1 _ rfl
  have hc2 : X.cell? ⟨W.heap.size, 2, none⟩ = some (.slice ha hn hc) := hXc 2 _ rfl
  have hc3 : X.cell? ⟨W.heap.size, 3, none⟩ = some (.slice ta tn tc) := hXc 3 _ rfl
  have hX2 : Aside _ := And.intro hXs (And.intro hX hXr)
  clear hXs hX hXr hXc
  have hcA : ∀ w1, Below X.drew.heap.size X.drew w1 → w1.cell? ⟨W.heap.size, 0, none⟩ = some (.int .i64 s.proto) ∧ w1.cell? ⟨W.heap.size, 1, none⟩ = some (.slice ca cn cc) ∧ w1.cell? ⟨W.heap.size, 2, none⟩ = some (.slice ha hn hc) ∧ w1.cell? ⟨W.heap.size, 3, none⟩ = some (.slice ta tn tc) := by
    intro w1 hb
    have hl : W.heap.size < X.drew.heap.size := by show W.heap.size < X.heap.size; rw [hX2.out.1]; omega
    exact ⟨(hb.cell hl).trans hc0, (hb.cell hl).trans hc1, (hb.cell hl).trans hc2, (hb.cell hl).trans hc3⟩
  have hcB : Aside _ := hcA
  clear hcA
  have hZ : Aside (∀ w1, Below X.drew.heap.size X.drew w1 → Below W.heap.size W w1) := fun w1 hb => hX2.out.2.1.drew.trans (hb.mono (by show W.heap.size ≤ X.heap.size; rw [hX2.out.1]; omega))
  have hV : Aside (∀ w1, Below X.drew.heap.size X.drew w1 → W.heap.size + 1 < w1.heap.size) := fun w1 hb => by
    have := hb.size
    have h2 : X.drew.heap.size = X.heap.size := rfl
    rw [h2, hX2.out.1] at this; omega
  have hY : Aside (∀ w1 e w2 (n : Nat), Below X.drew.heap.size X.drew w1 → CopyPost w1 n e w2 → RowAt w2 (W.heap.size + 1) 4) := fun w1 e w2 n hb hp => by
    have h1 : RowAt w1 (W.heap.size + 1) 4 := RowAt.below (w := X.drew) hX2.out.2.2 hb
    obtain ⟨_, _, _, _, _, _, _, _, _, _, _, h2, _⟩ := hp
    exact h1.below h2
  go_region_with (first
    | (go_at_call 43; refine Calls.mono (hO2.out _ hX2.out.2.1.drew) ?_; rintro e w1 ⟨ob, oo, oc, rfl, hb, hob, hcl⟩; have hH : Aside _ := And.intro hb (And.intro hob hcl); obtain ⟨hd0, hd1, hd2, hd3⟩ := hcB.out w1 hb; clear hb hob hcl)
    | (go_at_call 69; refine Calls.mono (hP2.out _ _ _ _ (hZ.out _ hH.out.1) hH.out.2.1 hH.out.2.2) ?_; rintro e w2 hp; have hr2 := hY.out _ _ _ _ hH.out.1 hp; obtain ⟨k0, hk0⟩ := hr2.cell (j := 0) (by omega); obtain ⟨k1, hk1⟩ := hr2.cell (j := 1) (by omega); obtain ⟨k2, hk2⟩ := hr2.cell (j := 2) (by omega); obtain ⟨k3, hk3⟩ := hr2.cell (j := 3) (by omega); have hf0 := hr2.live 0; have hf1 := hr2.live 1; have hf2 := hr2.live 2; have hf3 := hr2.live 3; have hq : Aside _ := fun vs => copy_set hp (hZ.out _ hH.out.1) (W.heap.size + 1) (by omega) (hV.out _ hH.out.1) vs; obtain ⟨p2, ca2, cn2, cc2, ha2, hn2, hc2', tb2, cap2, rfl, _⟩ := hp; clear hr2))
  all_goals go_wp2_with (go_at_call 9999)
  all_goals
    refine bodyPost_ret (by simp [results, Try.results44, go_sem, hk0, hk1, hk2, hk3]; try rfl) rfl ?_
    exact hq.out [_, _, _, _]
end Go.Proofs.YtkohggddaheefaaEv
