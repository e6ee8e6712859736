/- sorted.Put and slices.SortFunc of numbers: as calls whose answers are told. -/
import Derived.Test.YtgndbkeiickihaaPutW
import Derived.Test.YtgndbkeiickihaaSortX
set_option linter.unusedSimpArgs false
set_option linter.unusedVariables false
namespace Go.Proofs.YtgndbkeiickihaaEv
open Go Go.RowKit Go.Proofs.YtgndbkeiickihaaIns
set_option maxHeartbeats 1000000
set_option maxRecDepth 100000
theorem glob_below {w w' : World} {μ : Nat → Nat} {n : Nat} (h : GlobOk w μ n) (hb : Below w.heap.size w w') : GlobOk w' id 0 := fun p hp =>
  ⟨let ⟨⟨t, z, h1⟩, _⟩ := h p hp; ⟨t, z, (hb.block _ (lt_of_heap h1)).trans h1⟩, fun r hr => absurd hr (Nat.not_lt_zero _)⟩
theorem fg_inj : ∀ {L M : List It}, fg itc L = fg itc M → L = M
  | [], [], _ => rfl
  | [], y :: M, h => by have := congrArg List.length h; rw [it_len, it_len] at this; simp at this
  | x :: L, [], h => by have := congrArg List.length h; rw [it_len, it_len] at this; simp at this
  | x :: L, y :: M, h => by
    have h' : vi x.key :: vi x.id :: fg itc L = vi y.key :: vi y.id :: fg itc M := h
    simp only [List.cons.injEq, vi, A.val.injEq, Value.int.injEq, true_and] at h'
    obtain ⟨h1, h2, h3⟩ := h'
    have e := fg_inj h3
    subst e
    cases x; cases y
    simp only at h1 h2
    subst h1; subst h2; rfl
theorem cells_fg (L : List It) : (fg itc L).length = (cellsI L).length ∧ ∀ j (h : j < (fg itc L).length), ∃ v, (cellsI L)[j]? = some v ∧ (fg itc L)[j] = .val v := by
  have e : fg itc L = (cellsI L).map A.val := by
    unfold fg cellsI itc
    rw [List.map_flatMap]
    rfl
  rw [e]
  refine ⟨by simp, fun j h => ⟨(cellsI L)[j]'(by simpa using h), List.getElem?_eq_getElem _, by simp⟩⟩
/-- Sort, in any world behind. -/
theorem sort_post (L : List It) (h59 : L.length ≤ 59) (w : World) (lim μ : Nat → Nat) (m : Nat) (v : Value) (hv : RepV w lim v (slX L)) (hgl : GlobOk w μ m) (W : World) (hW : Below w.heap.size w W) : Calls Try.prog 13 #[v] W (SortPost W (ss ilt L)) := by
  cases L with
  | nil =>
    have hv' : v = .slice none 0 0 ∨ ∃ p c, v = .slice (some p) 0 c := by
      generalize hx : slX [] = a at hv
      cases hv with
      | val _ _ => cases hx
      | nil => exact .inl rfl
      | emp b o s g => exact .inr ⟨_, _, rfl⟩
      | sl b o n c l g vs hn hg h3 hc hl hr => cases hx; exact .inr ⟨_, _, rfl⟩
    refine (sort_none v W hv' fun w' hb => glob_below hgl (hW.trans (hb.mono hW.size))).mono ?_
    rintro e w' ⟨q, rfl, hb, hq⟩
    exact ⟨q, 0, rfl, hb, .inl ⟨rfl, hq, rfl⟩⟩
  | cons x L =>
    have hr := hv.mono (Ext.of_below (lim := lim) (lim' := lim) hW fun _ _ => rfl)
    obtain ⟨_, _, h⟩ := callL_sound tab_ok ext0_sound 13 [slX (x :: L)] [] _ _ (sortI_is (x :: L) (by simp) h59) W lim id #[v] rfl (fun i hi => by
      have hi : i < 1 := hi
      obtain rfl : i = 0 := by omega
      exact ⟨.rv hr, fun _ _ e => by cases e⟩) (boxRep_nil _ _ _) (glob_below hgl hW)
    refine h.mono ?_
    rintro e w' ⟨u, lim', μ', rfl, _, hb, _, _, hμ, hbox, hr⟩
    obtain ⟨c, rfl, hc, _, hz⟩ := hr.toBsz
    obtain ⟨row, t, hh, hs, hcs⟩ := hbox.row 0 (by simp)
    have hl : (ss ilt (x :: L)).length = (x :: L).length := ss_len ..
    refine ⟨_, c, by rw [hl], hb.below, .inr ⟨μ' 0, row, t, rfl, hμ 0 (by simp) (by simp), hh, by rw [rowSz_of hh] at hz; exact hz, by rw [hl]; exact hc, fun j y hj => ?_⟩⟩
    obtain ⟨c1, c2⟩ := cells_fg (ss ilt (x :: L))
    have hjl : j < (fg itc (ss ilt (x :: L))).length := by rw [c1]; exact (List.getElem?_eq_some_iff.1 hj).1
    obtain ⟨y', hy, hy2⟩ := c2 j hjl
    rw [hj] at hy
    cases hy
    have h2 := hcs j hjl
    simp only [List.getElem_cons_zero] at h2
    rw [hy2] at h2
    have h3 := (Rep.r (.c h2)).val.1
    have hjr : j < row.size := Nat.lt_of_lt_of_le hjl hs
    rw [cell_of_row hh hjr, h3]
noncomputable def extPut : CallF := fun f args bx => @dite _ (f = 16 ∧ ∃ p : List It × It, p.1.length ≤ 59 ∧ args = [slX p.1, .agg (itc p.2)]) (Classical.propDecidable _) (fun h => some (slX (mge ilt (ss ilt (Classical.choose h.2).1) [(Classical.choose h.2).2]), bx)) fun _ => none
theorem extPut_is (L : List It) (x : It) (h : L.length ≤ 59) (bx : Bx) : extPut 16 [slX L, .agg (itc x)] bx = some (slX (mge ilt (ss ilt L) [x]), bx) := by
  have hc : 16 = 16 ∧ ∃ p : List It × It, p.1.length ≤ 59 ∧ [slX L, .agg (itc x)] = [slX p.1, .agg (itc p.2)] := ⟨rfl, (L, x), h, rfl⟩
  unfold extPut
  rw [dif_pos hc]
  obtain ⟨h1, h2⟩ := Classical.choose_spec hc.2
  generalize Classical.choose hc.2 = p at h1 h2
  obtain ⟨M, y⟩ := p
  simp only [List.cons.injEq, slX, A.sl.injEq, A.agg.injEq, and_true] at h2
  obtain ⟨⟨h3, _⟩, h4⟩ := h2
  have e1 := fg_inj h3
  subst e1
  have e2 : x = y := by
    cases x; cases y
    simpa [itc, vi] using h4
  subst e2
  rfl
theorem extPut_sound : SoundF Try.prog extPut := by
  intro f xs bx r bx' h w lim μ vs hsz hrep hbox hgl
  by_cases hc : f = 16 ∧ ∃ p : List It × It, p.1.length ≤ 59 ∧ xs = [slX p.1, .agg (itc p.2)]
  · obtain ⟨rfl, ⟨L, x⟩, h59, rfl⟩ := hc
    rw [extPut_is L x h59] at h
    cases h
    have hr0 := (hrep 0 (by simp)).1
    have hr1 := (hrep 1 (by simp)).1
    simp only [List.getElem_cons_zero, List.getElem_cons_succ] at hr0 hr1
    obtain ⟨xs, hv1, hxs, hxc, _⟩ := hr1.toAgg
    have hx : xs = #[.int .i64 x.key, .int .i64 x.id] := by
      have k0 := (Rep.r (.c (hxc 0 (by simp [itc])))).val.1
      have k1 := (Rep.r (.c (hxc 1 (by simp [itc])))).val.1
      apply Array.ext_getElem?
      intro i
      simp only [itc, List.length_cons, List.length_nil] at hxs
      rcases i with _ | _ | i
      · rw [Array.getD_eq_getD_getElem?] at k0
        rw [Array.getElem?_eq_getElem (by omega)] at k0 ⊢
        simp at k0; simp [k0]
      · rw [Array.getD_eq_getD_getElem?] at k1
        rw [Array.getElem?_eq_getElem (by omega)] at k1 ⊢
        simp at k1; simp [k1]
      · rw [Array.getElem?_eq_none (by omega)]; simp
    subst hx
    have hvs : vs = #[vs.getD 0 undef, .agg #[.int .i64 x.key, .int .i64 x.id]] := by
      have hsz : vs.size = 2 := hsz
      apply Array.ext_getElem?
      intro i
      rcases i with _ | _ | i
      · rw [Array.getD_eq_getD_getElem?, Array.getElem?_eq_getElem (by omega)]; simp
      · rw [Array.getD_eq_getD_getElem?] at hv1
        rw [Array.getElem?_eq_getElem (by omega)] at hv1 ⊢
        simp at hv1; simp [hv1]
      · rw [Array.getElem?_eq_none (by omega)]; simp
    generalize vs.getD 0 undef = v at hvs hr0
    subst hvs
    have hl : (ss ilt L).length = L.length := ss_len ..
    simp only at h59
    have hsrt : Srt ilt (ss ilt L) := ss_srt ilt ilt_swo _ L rfl
    refine ⟨enters_of Try.func16 (by kernel_rfl) rfl _, fun _ _ e => (by cases e), ?_⟩
    refine (put_w v x (ss ilt L) (by omega : (ss ilt L).length ≤ 900) w fun W' hW => sort_post L h59 w lim μ _ v hr0.toSl hgl W' hW).mono ?_
    rintro e w' ⟨b, c, rfl, hcn, hb, hbs, hcs⟩
    rw [← cut_put _ x hsrt] at hcn hcs ⊢
    generalize mge ilt (ss ilt L) [x] = M at *
    have hlim : ∀ k, k < w.heap.size → (fun k => if k < w.heap.size then lim k else rowSz w' k) k = lim k := fun k hk => if_pos hk
    have hI : InvG ⟨w, lim, μ, bx.length, 0, hgl⟩ lim μ (fun _ => .t 0) (emp, bx) { tmps := #[], defers := [] } w := by
      refine ⟨rfl, rfl, Nat.le_refl _, fun _ _ => rfl, fun r hr hr' => absurd hr' (Nat.not_lt.2 hr), fun i => .any _, hbox, fun i => .of_n2 (fun _ _ e => (by cases e)), fun r _ _ _ hr hr' => absurd hr' (Nat.not_lt.2 hr), But.refl _ _ _ _, fun _ _ => rfl⟩
    have hS := hI.step (lim' := fun k => if k < w.heap.size then lim k else rowSz w' k) hb hlim
    refine ⟨_, _, μ, rfl, Nat.le_refl _, hS.below, fun _ _ => rfl, hlim, fun r h1 h2 => absurd h2 (Nat.not_lt.2 h1), hS.box, .rv ?_⟩
    obtain ⟨c1, c2⟩ := cells_fg M
    have hcell : ∀ i, i < (fg itc M).length → w'.cell? ⟨b, 0 + i, none⟩ = some ((cellsI M).getD i undef) := by
      intro i hi
      obtain ⟨y, hy, _⟩ := c2 i hi
      rw [Nat.zero_add, hcs i y hy, List.getD_eq_getElem?_getD, hy]; rfl
    refine .sl b 0 M.length c (fg itc M) 0 (fun i => (cellsI M).getD i undef) hcn (fun h => by cases h) (by omega) hcell (fun i hi => ?_) (fun i hi => ?_)
    · show 0 + i < if b < w.heap.size then lim b else rowSz w' b
      rw [if_neg (by omega)]
      exact lt_rowSz (hcell i hi)
    · obtain ⟨y, hy, hy2⟩ := c2 i hi
      rw [hy2, List.getD_eq_getElem?_getD, hy]
      exact .val _ (cellsI_one M y (List.mem_of_getElem? hy))
  · unfold extPut at h
    rw [dif_neg hc] at h
    cases h
end Go.Proofs.YtgndbkeiickihaaEv
