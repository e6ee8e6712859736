/- A task alone is told with its bound, its deadline, what each lock may take, or that it is late. -/
import Derived.Test.YtamblgbmdhldbaaGreatDoorRows
import Derived.Test.YtamblgbmdhldbaaGreatDoorCards
import Derived.Test.YtamblgbmdhldbaaGreatDoorTie
import Derived.Test.YtamblgbmdhldbaaGreatDoorIn1
import Derived.Test.YtamblgbmdhldbaaGreatDoorRepOne
import Derived.WalkKit
import Derived.ProofKit
import Derived.OpenShut
import Derived.ShutString
import Derived.ChangeOld
import Derived.Below
import Derived.SizedLaws
import Derived.LaidMore
import Derived.Stop.Joined
import Derived.Lib.LaidTab
import Derived.SevenTiedAt
set_option linter.unusedVariables false
namespace Go.Proofs.YtamblgbmdhldbaaGreatDoor.reportOne
open Go.ChangeShapes Go.WideShapes Go.ChangeAt Go.RowKit
open Go.Proofs.YtamblgbmdhldbaaGreatDoorEv
theorem own : ownKnob Tryz.prog.godebug = none := by kernel_rfl
set_option maxRecDepth 100000 in
theorem gTab : Tryz.prog.globalNamed "internal/strconv.uint64pow10" = some 0 := by kernel_rfl
theorem tTab : (Tryz.prog.globals[0]?).map (·.type) = some 132 := by kernel_rfl
/-- What lies when the call begins. -/
theorem door_met (os : Os) (args : Array Value) : laidMetH Tryz.prog Rows.reportOneRow.laid ((World.doorLaid Tryz.prog 400 os).forCall (fun _ _ => 0) ⟨#[], args, []⟩).memory :=
  laidMetH_of_parts3 (fuel := 8) (laidMet_of_run' 8 (by kernel_rfl) (by kernel_rfl)) (by kernel_rfl) (by kernel_rfl)
theorem of_laid {W : World} (h : laidMetH Tryz.prog Rows.reportOneRow.laid W) : GlobOk W id 0 := by
  rw [MakeChecks.laidMetH_plain _ _ _ (by kernel_rfl)] at h
  obtain ⟨ps, ⟨g0, t0, cs0, f0, p0, q0, hg0, ht0, hv0, hd0, ⟨g1, t1, cs1, f1, p1, q1, hg1, ht1, hv1, hd1, ⟨g2, t2, cs2, f2, p2, q2, hg2, ht2, hv2, hd2, _, _⟩, _⟩, _⟩, _⟩ := h
  obtain rfl := Option.some.inj (gTab.symm.trans hg2)
  obtain rfl := Option.some.inj (tTab.symm.trans ht2)
  have hc := Lib.cells_of_tab (k := .u64) (zs := Lib.pow10Tab) Tryz.underlying132 Tryz.underlying97 (by kernel_rfl) (by kernel_rfl) hd2
  intro p hp
  obtain rfl := List.mem_singleton.1 hp
  refine ⟨?_, fun r hr => absurd hr (Nat.not_lt_zero _)⟩
  unfold World.var? at hv2
  rw [gTab] at hv2
  simp only [Option.bind] at hv2
  split at hv2
  · rename_i cs t z hh
    simp only [Option.some.injEq] at hv2
    subst hv2
    refine ⟨t, z, hh.trans ?_⟩
    have : cs = (Lib.pow10Tab.map fun z => Value.int .u64 z).toArray := by rw [← hc]
    rw [this]; rfl
  · cases hv2
set_option maxRecDepth 100000 in
theorem lifted (os : Os) (started : os.Started) (H : Type) (enc : TypeId × Value → H) :
    ReturnsInHanded {} Tryz.checked os 5 .any (fun w args => (Rows.reportOneSpec.pre enc Tryz.prog Tryz.f5 [] false w args ∧ laidMetH Tryz.prog Rows.reportOneRow.laid w) ∧ sizedMet enc Tryz.prog Tryz.f5 (OpenSpec.ofChange Rows.reportOneSpec) false w args) (Rows.reportOneSpec.post enc Tryz.prog Tryz.f5 false true false false) := by
  refine returnsInHanded_of_change_and (C := Tryz.checked) (X := fun w _ => laidMetH Tryz.prog Rows.reportOneRow.laid w) (fun _ _ _ hh h => h.of_heap hh) own started (by kernel_rfl) Tryz.func5
    (ChangeSpec.witness_shaped (enc := enc) (C := Tryz.checked) (os := os) (X := fun w _ => laidMetH Tryz.prog Rows.reportOneRow.laid w) false (World.doorLaid Tryz.prog 400 os) #[.int .u8 0, .int .u8 0, .int .u8 0, .int .u8 0] 8 rfl (World.shaped_of_RefB (by kernel_rfl) (by kernel_rfl)) (by kernel_rfl) (by kernel_rfl) (by kernel_rfl) (door_met os _)) ?_
  intro W base args ds gs before hval0 hW hcnd hsz0 hL _
  have hval : ∀ (j : Nat) t v, Tryz.f5.params[j]? = some t → args[j]? = some v → Value.okWide Tryz.prog W .any base t v := hval0
  have hW' := hW
  obtain ⟨p, q, hA0, hV, rfl, hfz, hnd⟩ := hW
  have hA : DataW.TrodAll enc Tryz.prog W 0 (fun _ => true) true Tryz.f5.params.toList args.toList ds p := hA0
  rw [Tryz.params5] at hA hval
  have hA' := hA
  obtain ⟨v0, vs0, d0, ds0, p0, q0, hargs, rfl, hp, h0, r0⟩ := trodAll_cons hA
  obtain ⟨v1, vs1, d1, ds1, p1, q1, rfl, rfl, rfl, h1, r1⟩ := trodAll_cons r0
  obtain ⟨v2, vs2, d2, ds2, p2, q2, rfl, rfl, rfl, h2, r2⟩ := trodAll_cons r1
  obtain ⟨v3, vs3, d3, ds3, p3, q3, rfl, rfl, rfl, h3, r3⟩ := trodAll_cons r2
  obtain ⟨rfl, rfl, rfl⟩ := trodAll_nil r3
  obtain rfl : args = #[v0, v1, v2, v3] := by cases args; simp_all
  obtain ⟨rfl, rfl⟩ := trodVars_none hV
  obtain ⟨x0, k0, i0⟩ := inp_int Tryz.underlying5 (hval 0 5 v0 rfl rfl) h0
  obtain ⟨x1, k1, i1⟩ := inp_int Tryz.underlying5 (hval 1 5 v1 rfl rfl) h1
  obtain ⟨x2, k2, i2⟩ := inp_int Tryz.underlying5 (hval 2 5 v2 rfl rfl) h2
  obtain ⟨x3, k3, i3⟩ := inp_int Tryz.underlying5 (hval 3 5 v3 rfl rfl) h3
  clear hA0 hval0 hsz0
  refine (law_goesX (callL_sound tab_ok ext6_sound) (reportOne_is x0 x1 x2 x3 k0 k1 k2 k3) W (of_laid hL) rfl fun i hi => ?_).mono fun e W' ⟨he, bel⟩ => ?_
  · have hi : i < 4 := hi
    rcases i with _ | _ | _ | _ | i
    · exact i0
    · exact i1
    · exact i2
    · exact i3
    · omega
  subst he
  have hlt : ∀ x ∈ p, x.block < W.heap.size := fun x hx => by simpa using hW'.lt x (List.mem_append_left _ hx)
  exact ⟨_, rfl, _, _, _, [], _, [], hW', trodAll_mk1 (shut_bool Tryz.underlying4 _), trodAll_below (by kernel_rfl) bel _ _ _ _ (by kernel_rfl) hA' hlt, rfl, bel.frame _, fun h => by cases h⟩
theorem over : Rows.reportOneRow.holds Tryz.pinned (OpenSpec.ofChange Rows.reportOneSpec) :=
  OpenClaim.holds_of_wide 5 Tryz.f5 rfl rfl rfl rfl rfl rfl rfl ⟨rfl, rfl, rfl, rfl, rfl⟩ rfl rfl rfl rfl rfl (by kernel_rfl) Tryz.func5 (by kernel_rfl)
    (of_decide_eq_true (by kernel_rfl)) (by unfold Func.isWrapper; first | (rw [if_pos (by decide +kernel)]; kernel_rfl) | (rw [if_neg (by decide +kernel)]; exact ⟨rfl, rfl⟩))
    (fun os started H enc _ => lifted os started H enc)
theorem proved : Rows.ReportOneCardSaid :=
  Claim7.holds_tied_plain_at .later [] [.data, .data, .data] true (true, "4ae43c0d88ae7c83191992ae37143b99eb28f5c9a732c1732e49016fc388c3c3") false
    over (fun _ h => by cases h) (by kernel_rfl) (fun _ h => by cases h) reportOne_row_tie rfl ⟨rfl, rfl⟩ (by kernel_rfl) rfl
    (fun f fn hf hfn => by
      obtain rfl : f = 5 := Option.some.inj ((show Tryz.prog.funcNamed "swingbridge/swingbridgelaw19.ReportOne" = some 5 by kernel_rfl).symm.trans hf) |>.symm
      obtain rfl : fn = Tryz.f5 := (Option.some.inj (Tryz.func5.symm.trans hfn)).symm
      exact ⟨by kernel_rfl, fun j t ht => by
        rw [Tryz.params5] at ht
        have hm : t ∈ [5, 5, 5, 5] := by simpa using Array.mem_of_getElem? ht
        have hall : ([5, 5, 5, 5].all fun u => !Tryz.prog.wantsStandIn u) = true := by kernel_rfl
        exact (show Tryz.prog.wantsStandIn t = false by simpa using List.all_eq_true.1 hall t hm)⟩)
    (by kernel_rfl)
#print axioms proved
end Go.Proofs.YtamblgbmdhldbaaGreatDoor.reportOne
namespace Go.Proofs.YtamblgbmdhldbaaGreatDoor
/-- The card, under a short name, for the claim. -/
theorem reportOne_holds : Rows.ReportOneCardSaid := reportOne.proved
end Go.Proofs.YtamblgbmdhldbaaGreatDoor
