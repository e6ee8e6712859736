/- swingbridgelaw10.CanonSlices. -/
import Derived.Test.YtkohggddaheefaaCaSlE
set_option linter.unusedSimpArgs false
set_option linter.unusedVariables false
namespace Go.Proofs.YtkohggddaheefaaEv
open Go Go.RowKit
set_option maxHeartbeats 1000000
set_option maxRecDepth 100000
theorem slice_len {w : World} {lim : Nat → Nat} {b : Option Addr} {k c : Nat} {l : List A} {n g : Nat} (h : RepV w lim (.slice b k c) (.sl l n g)) : k = n := by
  generalize hx : A.sl l n g = a at h
  generalize hv : Value.slice b k c = v at h
  cases h with
  | val _ _ => cases hx
  | nil => simp only [A.sl.injEq] at hx; simp only [Value.slice.injEq] at hv; omega
  | emp b o s g => simp only [A.sl.injEq] at hx; simp only [Value.slice.injEq] at hv; omega
  | sl b o n c l2 g vs hn hg h3 hc hl hr => simp only [A.sl.injEq] at hx; simp only [Value.slice.injEq] at hv; omega
theorem set_len {w : World} {lim : Nat → Nat} {s : St} {p : Int} {ca ha ta : Option Addr} {cn cc hn hc tn tc : Nat} (h : Rep w lim id 0 (.agg #[.int .i64 p, .slice ca cn cc, .slice ha hn hc, .slice ta tn tc]) (.agg (St.c s))) : tn = s.tasks.length := by
  obtain ⟨vs, e, hsz, hcs, _⟩ := h.toAgg
  cases e
  have h3 := hcs 3 (by show 3 < 4; omega)
  exact slice_len (Rep.r (.c h3)).toSl
theorem frz_own {μ : Nat → Nat} {s : St} {bx : Bx} (hb : bx[1]? = some [vi s.proto, .sl (s.cores.map vi) s.cores.length 0, .sl (s.homes.map vi) s.homes.length 0, .sl (s.tasks.flatMap Tk.c) s.tasks.length 2]) : frzP μ bx (.ptr 1 0) = .ipx (μ 1) 0 (St.c s) := by
  have t10 := fun (bx : Bx) (d : Nat) => plain_mapM (bx := bx) (d := d) (plain_tk s.tasks)
  have hl6 := len_tk s.tasks
  simp only [frzP, hb]
  simp only [St.c, slT]
  generalize s.tasks.flatMap Tk.c = T at *
  simp [slI, frzC, vi, t10, -List.map_map]
theorem cs_same (s : St) (hs : Sm s) (W : World) (lim : Nat → Nat) (v u : Value) (hv : Rep W lim id 0 v (.agg (St.c s))) (hu : Rep W lim id 0 u (.agg (St.c s))) (hgl : GlobOk W id 0) : Calls Try.prog 20 #[v, u] W fun e w' => e = .returned (.bool true) ∧ Below W.heap.size W w' := by
  have h := pure_vb (k := false) (sameR_is s s hs.fits)
  rw [sameSt_self'] at h
  refine (pure_w (callL_sound tab_ok ext0_sound) h W lim #[v, u] rfl (fun i hi => ?_) hgl).mono ?_
  · have hi : i < 2 := hi
    match i, hi with
    | 0, _ => exact ⟨hv, fun _ _ e => by cases e⟩
    | 1, _ => exact ⟨hu, fun _ _ e => by cases e⟩
  · rintro e w' ⟨z, lim', rfl, hb, _, hr⟩
    exact ⟨congrArg _ hr.val.1, hb⟩
theorem bodyPost_mono {P : Program} {fn : Func} {R R' : Ending → World → Prop} (h : ∀ e w, R e w → R' e w) : ∀ e a w, bodyPost P fn R e a w → bodyPost P fn R' e a w
  | .normal, _, _, ⟨hd, v, hr, hR⟩ => ⟨hd, v, hr, h _ _ hR⟩
  | .ret, _, _, ⟨hd, v, hr, hR⟩ => ⟨hd, v, hr, h _ _ hR⟩
  | .panic _, _, _, ⟨hd, hR⟩ => ⟨hd, h _ _ hR⟩
  | .outgrown, _, _, hR => h _ _ hR
  | .exit _, _, _, hR => hR.elim
  | .goto _, _, _, hR => hR.elim
theorem cs_w (s : St) (b : Int) (hb : 0 ≤ b ∧ b ≤ 255) (W : World) (lim : Nat → Nat) (v0 v1 : Value) (hv : Rep W lim id 0 v0 (.agg (St.c s))) (hv1 : Rep W lim id 0 v1 (vu8 b)) (hgl : GlobOk W id 0) :
    Calls Try.prog 14 #[v0, v1] W fun e w' => e = .returned (.bool true) ∧ Below W.heap.size W w' := by
  refine start_w Try.func14 (c0 := Try.f14.body.getD .skip) rfl (xs := [.agg (St.c s), vu8 b]) (lim := lim) rfl (by show 2 ≤ 121; decide) ?_ hgl ?_
  · intro i hi
    have hi : i < 2 := hi
    match i, hi with
    | 0, _ => exact ⟨hv, fun _ _ e => by cases e⟩
    | 1, _ => exact ⟨hv1, n2_val _⟩
  intro F h0 hnt hw hlim a hI
  have hc := comp14p
  rw [show (121 : Nat) = F.nt from hnt.symm] at hc
  have hbel : ∀ s' a' w', Inv F s' a' w' → Below W.heap.size W w' := by
    rintro s' a' w' ⟨_, _, _, h⟩
    have := h.below
    rw [h0, hw] at this
    exact this.below
  have early : (few8 s = false ∨ (few8 s = true ∧ okS s = false)) → (Try.f14.body.getD .skip).wp Try.prog (bodyPost Try.prog Try.f14 fun e w' => e = .returned (.bool true) ∧ Below W.heap.size W w') a W := by
    intro hf
    obtain ⟨e, bx, he, k4⟩ := pr_0 s hf b
    refine pre_sound tab_ok ext1_sound 5 deep14p hc (evl_nb h0 he) hI (fun h => by cases h) fun _ a' w' hI' => ?_
    have hB := hbel _ _ _ hI'
    obtain ⟨_, _, _, h⟩ := hI'
    have h4 := h.env 4
    rw [show (e, bx).1 4 = vb true from k4] at h4
    have h4 := h4.val.1
    refine ⟨h.defers, .bool true, ?_, rfl, hB⟩
    rw [Array.getD_eq_getD_getElem?] at h4
    simp [results, Try.results14, go_sem, h4]
    try rfl
  rcases (Bool.eq_false_or_eq_true (few8 s)).symm with hf | hf
  · exact early (.inl hf)
  rcases (Bool.eq_false_or_eq_true (okS s)).symm with ho | ho
  · exact early (.inr ⟨hf, ho⟩)
  have hs := few8_sm s hf
  have g := (okS_iff s).1 ho
  have h9 := g.tasks
  obtain ⟨zz, he, e3, rfl, k1, k2, k5⟩ := pr_1 s hf ho b
  refine pre_sound tab_ok ext1_sound 5 deep14p hc (evl_nb h0 he) hI (fun _ a3 w3 hI3 => ?_) fun h => absurd rfl h
  have hB3 := hbel _ _ _ hI3
  have hgl3 := glob_belowP hgl hB3
  obtain ⟨lim3, μ3, own3, h3⟩ := hI3
  have hd := h3.defers
  have hsz := h3.size
  rw [hnt] at hsz
  obtain ⟨F2, n0, n1, n2', lim4, μ4, own4, h4⟩ := freeze h3
  have x1 := h4.env 1
  have x2 := h4.env 2
  have x5 := h4.env 5
  simp only [k1, k2, k5] at x1 x2 x5
  rw [show frzP μ3 (bxS s (s.tasks.flatMap Tk.c) s.tasks.length 2) (vu8 b) = vu8 b by simp [frzP, frzR, frzC, vu8]] at x1
  rw [frz_set (s := s) rfl] at x2
  rw [frz_own (s := s) rfl] at x5
  have x1 := x1.val.1
  obtain ⟨x2, ca, cn, cc, ha, hn', hcc, ta, tn, tc, c0, c1, c2, c3, hrep⟩ := ptr_set x2
  obtain ⟨x5, ca', cn2, cc2, ha', hn2, hcc2, ta', tn2, tc2, m0, m1, m2, m3, hrep5⟩ := ptr_set x5
  obtain rfl := set_len hrep
  obtain rfl := set_len hrep5
  have ev : ∀ (a : Act) (k : Nat), a.eval (.tmp k) = a.tmps.getD k undef := fun a k => by simp [Act.eval]
  show Code.wp Try.prog (.seq (.region 13 ops13 true) (cdPost 6 (Try.f14.body.getD .skip))) _ a3 w3
  refine wp_seq ?_
  refine region13 (p2 := .pointer (some ⟨μ3 0, 0, none⟩)) (n := s.tasks.length) hb m0 m1 m2 m3 (fun W' hW => canon_w s hs g W' lim4 _ (hrep5.mono (Ext.of_below hW fun _ _ => rfl) (fun _ _ => rfl) (Nat.le_refl _)) (glob_belowP hgl3 hW)) (fun W' hW => move_w s hs g W' lim4 _ (hrep5.mono (Ext.of_below hW fun _ _ => rfl) (fun _ _ => rfl) (Nat.le_refl _)) (glob_belowP hgl3 hW) b)
    a3 hd hsz ((ev a3 1).trans x1) ((ev a3 2).trans x2) ((ev a3 5).trans x5) fun a' w' o => ?_
  obtain ⟨q8, tb8, cap8, o8, p8, _, _, w8⟩ := o.st8
  obtain ⟨q9, tb9, cap9, o9, p9, _, _, w9⟩ := o.st9
  have hact : a' = ⟨#[a'.tmps.getD 0 undef, a'.tmps.getD 1 undef, a'.tmps.getD 2 undef, a'.tmps.getD 3 undef, a'.tmps.getD 4 undef, a'.tmps.getD 5 undef, a'.tmps.getD 6 undef, a'.tmps.getD 7 undef, a'.tmps.getD 8 undef, a'.tmps.getD 9 undef, a'.tmps.getD 10 undef, a'.tmps.getD 11 undef, a'.tmps.getD 12 undef, a'.tmps.getD 13 undef, a'.tmps.getD 14 undef, a'.tmps.getD 15 undef, a'.tmps.getD 16 undef, a'.tmps.getD 17 undef, a'.tmps.getD 18 undef, a'.tmps.getD 19 undef, a'.tmps.getD 20 undef, a'.tmps.getD 21 undef, a'.tmps.getD 22 undef, a'.tmps.getD 23 undef, a'.tmps.getD 24 undef, a'.tmps.getD 25 undef, a'.tmps.getD 26 undef, a'.tmps.getD 27 undef, a'.tmps.getD 28 undef, a'.tmps.getD 29 undef, a'.tmps.getD 30 undef, a'.tmps.getD 31 undef, a'.tmps.getD 32 undef, a'.tmps.getD 33 undef, a'.tmps.getD 34 undef, a'.tmps.getD 35 undef, a'.tmps.getD 36 undef, a'.tmps.getD 37 undef, a'.tmps.getD 38 undef, a'.tmps.getD 39 undef, a'.tmps.getD 40 undef, a'.tmps.getD 41 undef, a'.tmps.getD 42 undef, a'.tmps.getD 43 undef, a'.tmps.getD 44 undef, a'.tmps.getD 45 undef, a'.tmps.getD 46 undef, a'.tmps.getD 47 undef, a'.tmps.getD 48 undef, a'.tmps.getD 49 undef, a'.tmps.getD 50 undef, a'.tmps.getD 51 undef, a'.tmps.getD 52 undef, a'.tmps.getD 53 undef, a'.tmps.getD 54 undef, a'.tmps.getD 55 undef, a'.tmps.getD 56 undef, a'.tmps.getD 57 undef, a'.tmps.getD 58 undef, a'.tmps.getD 59 undef, a'.tmps.getD 60 undef, a'.tmps.getD 61 undef, a'.tmps.getD 62 undef, a'.tmps.getD 63 undef, a'.tmps.getD 64 undef, a'.tmps.getD 65 undef, a'.tmps.getD 66 undef, a'.tmps.getD 67 undef, a'.tmps.getD 68 undef, a'.tmps.getD 69 undef, a'.tmps.getD 70 undef, a'.tmps.getD 71 undef, a'.tmps.getD 72 undef, a'.tmps.getD 73 undef, a'.tmps.getD 74 undef, a'.tmps.getD 75 undef, a'.tmps.getD 76 undef, a'.tmps.getD 77 undef, a'.tmps.getD 78 undef, a'.tmps.getD 79 undef, a'.tmps.getD 80 undef, a'.tmps.getD 81 undef, a'.tmps.getD 82 undef, a'.tmps.getD 83 undef, a'.tmps.getD 84 undef, a'.tmps.getD 85 undef, a'.tmps.getD 86 undef, a'.tmps.getD 87 undef, a'.tmps.getD 88 undef, a'.tmps.getD 89 undef, a'.tmps.getD 90 undef, a'.tmps.getD 91 undef, a'.tmps.getD 92 undef, a'.tmps.getD 93 undef, a'.tmps.getD 94 undef, a'.tmps.getD 95 undef, a'.tmps.getD 96 undef, a'.tmps.getD 97 undef, a'.tmps.getD 98 undef, a'.tmps.getD 99 undef, a'.tmps.getD 100 undef, a'.tmps.getD 101 undef, a'.tmps.getD 102 undef, a'.tmps.getD 103 undef, a'.tmps.getD 104 undef, a'.tmps.getD 105 undef, a'.tmps.getD 106 undef, a'.tmps.getD 107 undef, a'.tmps.getD 108 undef, a'.tmps.getD 109 undef, a'.tmps.getD 110 undef, a'.tmps.getD 111 undef, a'.tmps.getD 112 undef, a'.tmps.getD 113 undef, a'.tmps.getD 114 undef, a'.tmps.getD 115 undef, a'.tmps.getD 116 undef, a'.tmps.getD 117 undef, a'.tmps.getD 118 undef, a'.tmps.getD 119 undef, a'.tmps.getD 120 undef], []⟩ := by
    have hd := o.def0
    have hsz := o.size
    obtain ⟨t3, d3⟩ := a'
    simp only at hd hsz
    subst hd
    have e := arr_lit t3
    rw [show t3.size = 121 from hsz] at e
    conv => lhs; rw [e]
    rfl
  have key := cs_rest w3 w' s.tasks.length (by omega) (fun i => a'.tmps.getD i undef) (μ3 0) (μ3 1) q8 q9 tb8 tb9 cap8 cap9 s.proto ca ha ta ca' ha' ta' cn cc hn' hcc tc cn2 cc2 hn2 hcc2 tc2 ((ev a' 2).symm.trans o.t2) ((ev a' 5).symm.trans o.t5) ((ev a' 8).symm.trans o8) ((ev a' 9).symm.trans o9) c0 c1 c2 c3 m0 m1 m2 m3 ⟨o.below, p8, p9, w8, w9⟩
    (fun W' hW => cs_same s hs W' lim4 _ _ (hrep5.mono (Ext.of_below hW fun _ _ => rfl) (fun _ _ => rfl) (Nat.le_refl _)) (hrep.mono (Ext.of_below hW fun _ _ => rfl) (fun _ _ => rfl) (Nat.le_refl _)) (glob_belowP hgl3 hW))
  rw [hact]
  exact Code.wp_mono (bodyPost_mono fun e w ⟨h1, h2⟩ => ⟨h1, hB3.trans (h2.mono hB3.size)⟩) key
/-- What the law's code does, as a whole. -/
noncomputable def ext9 : CallF := fun f args bx => @ite _ (f = 14 ∧ bx = [] ∧ ∃ (s : St) (b : Int), (0 ≤ b ∧ b ≤ 255) ∧ args = [.agg (St.c s), vu8 b]) (Classical.propDecidable _) (some (vb true, [])) (ext1 f args bx)
theorem ext9_sound : SoundF Try.prog ext9 := by
  intro f xs bx r bx' h w lim μ vs hsz hrep hbox hgl
  unfold ext9 at h
  split at h
  · rename_i hcond
    obtain ⟨rfl, rfl, s, b, hb, rfl⟩ := hcond
    cases h
    refine ⟨fun w => ?_, n2_val _, ?_⟩
    · simp [callFunc, Try.func14, Try.f14]
    · have hvs : vs = #[vs.getD 0 undef, vs.getD 1 undef] := by
        have hsz : vs.size = 2 := hsz
        have e := arr_lit vs
        rw [hsz] at e
        conv => lhs; rw [e]
        rfl
      have h0 := (hrep 0 (by simp)).1
      have h1 := (hrep 1 (by simp)).1
      have hglo : GlobOk w id 0 := hgl.none id
      rw [hvs]
      refine (cs_w s b hb w lim _ _ (h0.mono (Ext.refl _ _) (fun r hr => absurd hr (Nat.not_lt_zero _)) (Nat.le_refl _)) (h1.mono (Ext.refl _ _) (fun r hr => absurd hr (Nat.not_lt_zero _)) (Nat.le_refl _)) hglo).mono ?_
      rintro e w' ⟨rfl, hbel⟩
      exact ⟨_, lim, μ, rfl, Nat.le_refl _, But.of_below hbel (Nat.le_refl _), fun _ _ => rfl, fun _ _ => rfl, fun r hr hr' => absurd hr' (Nat.not_lt_zero _), boxRep_nil _ _ _, .rv (.val _ rfl)⟩
  · exact ext1_sound _ _ _ _ _ h w lim μ vs hsz hrep hbox hgl
theorem canonSlices_is (s : St) (b : Int) (_ : s.ok) (kb : (Lit.int .u8 b).wf = true) : Ans (vb true) [] (callL tab0 ext9 14 [.agg (St.c s), vu8 b] []) := by
  refine ⟨[], ?_⟩
  have h : ext9 14 [.agg (St.c s), vu8 b] [] = some (vb true, []) := by
    unfold ext9
    exact if_pos ⟨rfl, rfl, s, b, u8_of kb, rfl⟩
  unfold callL callOf
  rw [h]
  rfl
end Go.Proofs.YtkohggddaheefaaEv
