/- canon.picked, walked. -/
import Derived.Test.YtkohggddaheefaaApp6
import Derived.WalkMore
import Derived.LoopN
import Derived.Deep.LoopGhost
import Derived.Deep.QuietTactic
import Derived.Deep.RegionLaw
set_option linter.unusedSimpArgs false
set_option linter.unusedVariables false
namespace Go.Proofs.YtkohggddaheefaaEv
open Go Go.RowKit
set_option maxHeartbeats 1000000
set_option maxRecDepth 100000
def numO : Value → Nat
  | .int _ z => z.toNat
  | _ => 0
theorem step_append_runT {P : Program} (w : World) {ops : Array Oper} {o : Oper} {a : Act} {K : Act → World → Prop} {Q : Exit → Act → World → Prop} {E : Prop} (hgd : o.guard = none) (s x : Operand) (t tn : TypeId)
    (ho : o.op = .call { callee := .builtin .append, args := #[s, x], argTypes := #[t, tn] }) (vs vx : Value) (hs : a.eval s = vs) (hx : a.eval x = vx)
    (v' : Value) (w' : World) (hr : (Builtin.append_ #[t, tn] o.type #[vs, vx]).run P w = .ok v' w') (h : K (a.put o.dst v') w') : if Region.wanted o (yielded ops a.tmps) = true then Oper.wp P o a w K Q else E := by
  have hw : Region.wanted o (yielded ops a.tmps) = true := by simp [Region.wanted, hgd]
  rw [if_pos hw]
  exact Lib.wp_append_run w s x t tn ho vs vx hs hx v' w' hr h
/-- What holds at the loop's head. -/
structure PickRel (W w1 : World) (tb n ob oo : Nat) (l : List Int) (p1 c1 h1 : Value) (i : Nat) (tv : Value) (wr : World) : Prop where
  below : Below W.heap.size W wr
  size : w1.heap.size + 1 ≤ wr.heap.size
  out0 : wr.cell? ⟨w1.heap.size, 0, none⟩ = some p1
  out1 : wr.cell? ⟨w1.heap.size, 1, none⟩ = some c1
  out2 : wr.cell? ⟨w1.heap.size, 2, none⟩ = some h1
  out3 : wr.cell? ⟨w1.heap.size, 3, none⟩ = some tv
  outr : RowAt wr w1.heap.size 4
  res : RowAt wr (W.heap.size + 1) 4
  old : OwnS (W.heap.size + 2) w1.heap.size wr tb n
  new : RowT (W.heap.size + 2) wr.heap.size wr tv i
  apart : ∀ b c, tv = .slice (some ⟨b, 0, none⟩) i c → w1.heap.size < b
  ord : ∀ k (h : k < l.length), wr.cell? ⟨ob, oo + k, none⟩ = some (.int .i64 l[k])
theorem OwnS.keep {B U : Nat} {w w' : World} {tb n : Nat} (h : OwnS B U w tb n) (hk : ∀ k, k < U → w'.heap[k]? = w.heap[k]?) : OwnS B U w' tb n := by
  obtain ⟨h1, h2, ⟨row, t, h3, h4⟩, h5⟩ := h
  refine ⟨h1, h2, ⟨row, t, (hk _ h2).trans h3, h4⟩, fun k hkn => ?_⟩
  obtain ⟨pb, len, cap, q1, q2, q3, q4, q5, ⟨row2, t2, q6, q7⟩, q8⟩ := h5 k hkn
  exact ⟨pb, len, cap, (cell?_of_heap (hk _ h2) _).trans q1, q2, q3, q4, q5, ⟨row2, t2, (hk _ q4).trans q6, q7⟩, fun j hj => by obtain ⟨u, z1, z2⟩ := q8 j hj; exact ⟨u, (cell?_of_heap (hk _ h2) _).trans z1, z2⟩⟩
theorem RowT.set {B U : Nat} {w : World} {v : Value} {i : Nat} (h : RowT B U w v i) (c q : Nat) (vs : List Value) (hc : ∀ b cap, v = .slice (some ⟨b, 0, none⟩) i cap → b ≠ c) : RowT B U (w.setCells c q vs) v i := by
  rcases h with h | ⟨tb, cap, rfl, h2, h3, h4⟩
  · exact .inl h
  · have hne := hc tb cap rfl
    exact .inr ⟨tb, cap, rfl, h2, h3.set c q vs, h4.set c q vs (fun e => absurd e.symm hne) fun e => absurd e.symm hne⟩
theorem pick_step {W w1 wr : World} {tb n ob oo : Nat} {l : List Int} {p1 c1 h1 : Value} {i : Nat} {base : Option Addr} {cap2 : Nat} (R : PickRel W w1 tb n ob oo l p1 c1 h1 i (.slice base i cap2) wr) (hi : i ≤ 1000) (hW : W.heap.size + 2 ≤ w1.heap.size) (hob : ob < W.heap.size)
    (u0 u1 u2 u3 u4 : Value) (h0 : u0.oneCell' = true) (h1' : u1.oneCell' = true) (h2 : u2.oneCell' = true) (h3 : u3.oneCell' = true) (h4 : u4.oneCell' = true) (pb len pc : Nat) (hl0 : 0 < len) (hpB : W.heap.size + 2 ≤ pb) (hpU : pb < w1.heap.size) (hpr : RowAt wr pb 3) :
    ∃ tb' cap' w', (Builtin.append_ #[23, 23] 23 #[.slice base i cap2, .slice (some ⟨wr.heap.size, 0, none⟩) 1 1]).run Try.prog (wr.alloc (.cells #[u0, u1, u2, u3, u4, .slice (some ⟨pb, 0, none⟩) len pc] 37)).drew = .ok (.slice (some ⟨tb', 0, none⟩) (i + 1) cap') w' ∧
      w'.cell? ⟨w1.heap.size, 3, none⟩ = some (.slice base i cap2) ∧ w'.frozen? ⟨w1.heap.size, 3, none⟩ = false ∧
      PickRel W w1 tb n ob oo l p1 c1 h1 (i + 1) (.slice (some ⟨tb', 0, none⟩) (i + 1) cap') (w'.setCell ⟨w1.heap.size, 3, none⟩ (.slice (some ⟨tb', 0, none⟩) (i + 1) cap')) := by
  have hsz := R.size
  have hX : Below wr.heap.size wr (wr.alloc (.cells #[u0, u1, u2, u3, u4, .slice (some ⟨pb, 0, none⟩) len pc] 37)).drew := (alloc_below wr _).drew
  have hXs : (wr.alloc (.cells #[u0, u1, u2, u3, u4, .slice (some ⟨pb, 0, none⟩) len pc] 37)).drew.heap.size = wr.heap.size + 1 := Array.size_push ..
  have hxh : (wr.alloc (.cells #[u0, u1, u2, u3, u4, .slice (some ⟨pb, 0, none⟩) len pc] 37)).drew.heap[wr.heap.size]? = some (.cells #[u0, u1, u2, u3, u4, .slice (some ⟨pb, 0, none⟩) len pc] 37 (0, 0)) := heap_alloc_new wr _
  generalize (wr.alloc (.cells #[u0, u1, u2, u3, u4, .slice (some ⟨pb, 0, none⟩) len pc] 37)).drew = X at *
  have hT : RowT (W.heap.size + 2) wr.heap.size X (.slice base i cap2) i := by
    rcases R.new with ⟨e, h⟩ | ⟨b, c, h, q1, q2, q3⟩
    · exact .inl ⟨e, h⟩
    · exact .inr ⟨b, c, h, q1, q2.below hX, q3.below hX⟩
  obtain ⟨tb', cap', w', hrun, hR', tbk, hK, hwh⟩ := app_task (W.heap.size + 2) wr.heap.size X (.slice base i cap2) i hi hT (by omega) wr.heap.size 1 [u0, u1, u2, u3, u4, .slice (some ⟨pb, 0, none⟩) len pc]
    ⟨rfl, fun v hv => by
      simp only [List.mem_cons, List.not_mem_nil, or_false] at hv
      rcases hv with rfl | rfl | rfl | rfl | rfl | rfl <;> first | assumption | rfl, pb, len, pc, rfl, hl0, hpB, by omega, hpr.below hX⟩
    (fun j u hj => by
      have hjl := (List.getElem?_eq_some_iff.1 hj).1
      have hjl : j < 6 := hjl
      rw [cell_of_row hxh (by show j < 6; exact hjl), Array.getD_eq_getD_getElem?]
      rw [← List.getElem?_toArray] at hj
      rw [hj]; rfl)
    (fun b c h => ⟨rfl, fun pb2 len2 c2 h5 => by
      have h5 : some (Value.slice (some ⟨pb, 0, none⟩) len pc) = some (.slice (some ⟨pb2, 0, none⟩) len2 c2) := h5
      simp only [Option.some.injEq, Value.slice.injEq, Addr.mk.injEq] at h5
      have := R.apart b c h
      omega⟩) (by omega) 23
  have htk : w1.heap.size < tbk := by
    rcases hwh with ⟨c, h, _⟩ | ⟨_, h⟩
    · exact R.apart tbk c h
    · omega
  have htb : w1.heap.size < tb' := by
    rcases hwh with ⟨c, h, e⟩ | ⟨h, _⟩
    · rw [e]; exact htk
    · omega
  have hkeep : ∀ k, k ≤ w1.heap.size → w'.heap[k]? = wr.heap[k]? := fun k hk => (hK.block k (by omega) (by omega)).trans (hX.block k (by omega))
  have hcell : ∀ k o, k ≤ w1.heap.size → w'.cell? ⟨k, o, none⟩ = wr.cell? ⟨k, o, none⟩ := fun k o hk => cell?_of_heap (hkeep k hk) o
  have hrow : ∀ k m, k ≤ w1.heap.size → RowAt wr k m → RowAt w' k m := fun k m hk h => by
    obtain ⟨row, t, q1, q2⟩ := h
    exact ⟨row, t, (hkeep k hk).trans q1, q2⟩
  have hout := hrow _ _ (Nat.le_refl _) R.outr
  have hb1 : Below W.heap.size W w' := R.below.trans ⟨hK.os.trans hX.os, hK.tape.trans hX.tape, hK.output.trans hX.output, Nat.le_trans hX.size hK.size, fun k hk => hkeep k (by omega)⟩
  have hset : ∀ v : Value, w'.setCell ⟨w1.heap.size, 3, none⟩ v = w'.setCells w1.heap.size 3 [v] := fun v => rfl
  refine ⟨tb', cap', w', hrun, (hcell _ _ (Nat.le_refl _)).trans R.out3, hout.live 3, ?_⟩
  rw [hset]
  generalize hv : Value.slice (some ⟨tb', 0, none⟩) (i + 1) cap' = v at *
  have hs2 := setCells_below [v] w' w1.heap.size 3 W.heap.size (by omega)
  have hoc : ∀ j, j < 3 → (w'.setCells w1.heap.size 3 [v]).cell? ⟨w1.heap.size, j, none⟩ = wr.cell? ⟨w1.heap.size, j, none⟩ := fun j hj => (World.cell?_setCells_out w1.heap.size [v] 3 w' ⟨w1.heap.size, j, none⟩ fun _ _ => .inl hj).trans (hcell _ _ (Nat.le_refl _))
  obtain ⟨row, t, hrh, hrs⟩ := hout
  refine ⟨hb1.trans hs2, ?_, (hoc 0 (by omega)).trans R.out0, (hoc 1 (by omega)).trans R.out1, (hoc 2 (by omega)).trans R.out2, ?_, RowAt.set ⟨row, t, hrh, hrs⟩ _ _ _, (hrow _ _ (by omega) R.res).set _ _ _, ?_, ?_, ?_, fun k hk => ?_⟩
  · have := hK.size; have := hs2.size; omega
  · have := cell_setC w' w1.heap.size 3 [v] row t hrh 0 v rfl (by omega)
    exact this
  · refine (R.old.keep fun k hk => hkeep k (by omega)).set _ _ _ (fun e => ?_) fun e => ?_
    · have := R.old.2.1; omega
    · have := R.old.2.1; omega
  · have hh := (hR'.set w1.heap.size 3 [v] fun b c e => by
      rw [← hv] at e
      cases e
      omega)
    rcases hh with h | ⟨b, c, e, q1, q2, q3⟩
    · exact .inl h
    · exact .inr ⟨b, c, e, q1, q2, q3.1, Nat.lt_of_lt_of_le q3.2.1 hs2.size, q3.2.2.1, fun k hk => (q3.2.2.2 k hk).grow hs2.size⟩
  · intro b c e
    rw [← hv] at e
    cases e
    exact htb
  · rw [cell?_of_heap (setCells_other [v] w' w1.heap.size 3 ob (by omega))]
    exact (hcell _ _ (by omega)).trans (R.ord k hk)
theorem pick_start {W w1 : World} {a b : Array Value} {t t' : TypeId} {tb n ob oo : Nat} {l : List Int} {p1 c1 h1 : Value} (hb1 : Below ((W.alloc (.cells a t)).alloc (.cells b t')).heap.size ((W.alloc (.cells a t)).alloc (.cells b t')) w1) (hO : OwnS ((W.alloc (.cells a t)).alloc (.cells b t')).heap.size w1.heap.size w1 tb n) (hb4 : 4 ≤ b.size) (hobW : ob < W.heap.size)
    (hlc : ∀ i (h : i < l.length), W.cell? ⟨ob, oo + i, none⟩ = some (.int .i64 l[i])) : PickRel W w1 tb n ob oo l p1 c1 h1 0 (.slice none 0 0) (w1.alloc (.cells #[p1, c1, h1, .slice none 0 0] 25)) := by
  have hs1 : (W.alloc (.cells a t)).heap.size = W.heap.size + 1 := Array.size_push ..
  have hs2 : ((W.alloc (.cells a t)).alloc (.cells b t')).heap.size = W.heap.size + 2 := (Array.size_push ..).trans (congrArg (· + 1) hs1)
  have hs3 : (w1.alloc (.cells #[p1, c1, h1, .slice none 0 0] 25)).heap.size = w1.heap.size + 1 := Array.size_push ..
  have hw := hb1.size
  rw [hs2] at hw hO
  have hB0 : Below W.heap.size W ((W.alloc (.cells a t)).alloc (.cells b t')) := (alloc_below W _).trans ((alloc_below _ _).mono (by omega))
  have hB1 : Below W.heap.size W w1 := hB0.trans (hb1.mono (by omega))
  have hA := alloc_below w1 (.cells #[p1, c1, h1, .slice none 0 0] 25)
  have hB : Below W.heap.size W (w1.alloc (.cells #[p1, c1, h1, .slice none 0 0] 25)) := hB1.trans (hA.mono (by omega))
  refine ⟨hB, by omega, World.cell?_alloc_at _ _ _ 0 rfl, World.cell?_alloc_at _ _ _ 1 rfl, World.cell?_alloc_at _ _ _ 2 rfl, World.cell?_alloc_at _ _ _ 3 rfl, ⟨_, _, heap_alloc_new w1 _, Nat.le_refl 4⟩, ⟨b, t', ?_, hb4⟩, hO.below hA, .inl ⟨rfl, rfl⟩, fun _ _ h => (by cases h), fun k hk => (hB.cell hobW).trans (hlc k hk)⟩
  rw [hA.block _ (by omega), hb1.block _ (by omega), ← hs1]
  exact heap_alloc_new _ _
theorem pick_end {W w1 wr : World} {tb n ob oo : Nat} {l : List Int} {p : Int} {ca ha : Option Addr} {cn cc hn hc m : Nat} {p1 c1 h1 : Value} {base : Option Addr} {cap2 : Nat} (R : PickRel W w1 tb n ob oo l p1 c1 h1 m (.slice base m cap2) wr) (h0m : 0 < m) (vs : List Value) :
    CopyPost W m (.returned (.agg #[.int .i64 p, .slice ca cn cc, .slice ha hn hc, .slice base m cap2])) (wr.setCells (W.heap.size + 1) 0 vs) := by
  have hs := setCells_below vs wr (W.heap.size + 1) 0 W.heap.size (by omega)
  rcases R.new with ⟨e, _⟩ | ⟨b, c, e, q1, _, q3⟩
  · omega
  · cases e
    have hb := q3.1
    have q4 := q3.set (W.heap.size + 1) 0 vs (fun e => by omega) fun e => by omega
    refine ⟨p, ca, cn, cc, ha, hn, hc, b, cap2, rfl, q1, R.below.trans hs, by omega, Nat.lt_of_lt_of_le q4.2.1 hs.size, q4.2.2.1, fun k hk => ?_⟩
    obtain ⟨pb, len, cp, z1, z2, z3, z4, z5, z6, z7⟩ := q4.2.2.2 k hk
    exact ⟨pb, len, cp, z1, z2, by omega, Nat.lt_of_lt_of_le z4 hs.size, z5, z6, z7⟩
theorem pick_w (n m : Nat) (hn : n ≤ 1000) (hm : m ≤ 1000) (h0m : 0 < m) (W : World) (p : Int) (ca ha ta : Option Addr) (cn cc hn2 hc tn tc : Nat) (hC : ∀ W', Below W.heap.size W W' → Calls Try.prog 21 #[.agg #[.int .i64 p, .slice ca cn cc, .slice ha hn2 hc, .slice ta tn tc]] W' (CopyPost W' n))
    (ob oo oc : Nat) (hobW : ob < W.heap.size) (l : List Int) (hl : l.length = m) (hlr : ∀ x ∈ l, 0 ≤ x ∧ x < n) (hlc : ∀ i (h : i < l.length), W.cell? ⟨ob, oo + i, none⟩ = some (.int .i64 l[i])) :
    Calls Try.prog 69 #[.agg #[.int .i64 p, .slice ca cn cc, .slice ha hn2 hc, .slice ta tn tc], .slice (some ⟨ob, oo, none⟩) m oc] W (CopyPost W m) := by
  go_enter Try.func69, Try.ntmps69
  go_wp2_with (go_at_call 9999)
  go_at_call 21
  refine Calls.mono (hC _ ((alloc_below W _).trans ((alloc_below _ _).mono (by rw [show (W.alloc (.cells #[.int .i64 p, .slice ca cn cc, .slice ha hn2 hc, .slice ta tn tc] 25)).heap.size = W.heap.size + 1 from Array.size_push ..]; omega)))) ?_
  rintro e w1 ⟨p1, ca1, cn1, cc1, ha1, hn1, hc1, tb, cap, rfl, hcap, hb1, hO⟩
  have A0 := And.intro hb1 hO
  have A : Aside _ := A0
  have hsz2 : ((W.alloc (.cells #[.int .i64 p, .slice ca cn cc, .slice ha hn2 hc, .slice ta tn tc] 25)).alloc (.cells #[.int .i64 0, .slice none 0 0, .slice none 0 0, .slice none 0 0] 25)).heap.size = W.heap.size + 2 := (Array.size_push ..).trans (congrArg (· + 1) (Array.size_push ..))
  have hW2 : Aside (W.heap.size + 2 ≤ w1.heap.size) := by have := hb1.size; rw [hsz2] at this; exact this
  have hob2 : Aside (ob < W.heap.size) := hobW
  have hl2 : Aside (∀ x ∈ l, 0 ≤ x ∧ x < (n : Int)) := hlr
  have hlc2 : Aside _ := hlc
  clear A0 hb1 hO hC hlc hlr hsz2 hobW
  go_wp2
  go_loopw [16] (fun v16 wr => ∃ (i : Nat) (tv : Value), v16 = .int .i64 i ∧ i ≤ m ∧ PickRel W w1 tb n ob oo l (.int .i64 p1) (.slice ca1 cn1 cc1) (.slice ha1 hn1 hc1) i tv wr) (fun v16 _ => m - numO v16)
  case atStart => exact ⟨0, .slice none 0 0, rfl, Nat.zero_le _, pick_start A.out.1 A.out.2 (Nat.le_refl 4) hob2.out hlc2.out⟩
  case round =>
    obtain ⟨i, tv, rfl, hi, hR⟩ := hrel
    have ho0 := hR.out0
    have ho1 := hR.out1
    have ho2 := hR.out2
    have ho3 := hR.out3
    obtain ⟨base, cap2, rfl⟩ : ∃ base cap2, tv = .slice base i cap2 := by
      rcases hR.new with ⟨rfl, rfl⟩ | ⟨b, c, rfl, _⟩
      · exact ⟨_, _, rfl⟩
      · exact ⟨_, _, rfl⟩
    obtain ⟨r0, hr0⟩ := hR.res.cell (j := 0) (by omega)
    obtain ⟨r1, hr1⟩ := hR.res.cell (j := 1) (by omega)
    obtain ⟨r2, hr2⟩ := hR.res.cell (j := 2) (by omega)
    obtain ⟨r3, hr3⟩ := hR.res.cell (j := 3) (by omega)
    have hf0 := hR.res.live 0
    have hf1 := hR.res.live 1
    have hf2 := hR.res.live 2
    have hf3 := hR.res.live 3
    by_cases him : i = m
    · have B : Aside _ := hR
      clear hR
      have hil : ¬ i < m := by omega
      subst him
      go_wp2_with (go_at_call 9999)
      refine bodyPost_ret (by simp [results, Try.results69, go_sem, hr0, hr1, hr2, hr3]; try rfl) rfl ?_
      exact pick_end B.out h0m [.int .i64 p1, .slice ca1 cn1 cc1, .slice ha1 hn1 hc1, .slice base i cap2]
    · have him2 : i < m := by omega
      have hil : i < l.length := by omega
      obtain ⟨q, hq⟩ : ∃ q : Nat, l[i] = (q : Int) := ⟨l[i].toNat, by have := (hl2.out _ (List.getElem_mem hil)).1; omega⟩
      have hqn : q < n := by have := (hl2.out _ (List.getElem_mem hil)).2; omega
      have hoc := hR.ord i hil
      rw [hq] at hoc
      have hold := hR.old
      obtain ⟨pb, len, pc, hu5, hp1, hp2, hp3, hp4, hp5, hp6⟩ := hold.2.2.2 q hqn
      obtain ⟨u0, hu0, ho0'⟩ := hp6 0 (by omega)
      obtain ⟨u1, hu1, ho1'⟩ := hp6 1 (by omega)
      obtain ⟨u2, hu2, ho2'⟩ := hp6 2 (by omega)
      obtain ⟨u3, hu3, ho3'⟩ := hp6 3 (by omega)
      obtain ⟨u4, hu4, ho4'⟩ := hp6 4 (by omega)
      rw [Nat.add_zero] at hu0
      have hlt : w1.heap.size < wr.heap.size := hR.size
      obtain ⟨tb', cap', w', hxr, hxc, hxf, hR2⟩ := pick_step hR (by omega) hW2.out hob2.out u0 u1 u2 u3 u4 ho0' ho1' ho2' ho3' ho4' pb len pc hp1 hp2 hp3 hp5
      have R2 : Aside _ := hR2
      clear hR hR2 hq hold hp1 hp2 hp3 hp4 hp5 hp6 ho0' ho1' ho2' ho3' ho4'
      clear him
      go_wp2_with (go_at_call 9999)
      go_region_law (refine step_append_runT _ (by rfl) _ _ _ _ (by rfl) _ _ (by rfl) (by rfl) _ _ hxr ?_)
      all_goals go_wp2_with (go_at_call 9999)
      all_goals exact ⟨⟨i + 1, _, rfl, by omega, R2.out⟩, by simp only [numO]; omega⟩
end Go.Proofs.YtkohggddaheefaaEv
