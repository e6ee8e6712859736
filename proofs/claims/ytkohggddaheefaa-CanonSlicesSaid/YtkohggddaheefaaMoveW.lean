/- canon.Move, walked. -/
import Derived.Test.YtkohggddaheefaaCanonW
import Derived.Test.YtkohggddaheefaaCanon2
import Derived.Test.YtkohggddaheefaaStartW
set_option linter.unusedSimpArgs false
set_option linter.unusedVariables false
namespace Go.Proofs.YtkohggddaheefaaEv
open Go Go.RowKit
set_option maxHeartbeats 1000000
set_option maxRecDepth 100000
def MvR (s : St) (b : Int) (zz : Out × Env × Bx) : Prop := ∃ e', zz = (.nor, e', [[vi s.proto, .sl (s.cores.map vi) s.cores.length 0, .sl (s.homes.map vi) s.homes.length 0, .sl (s.tasks.flatMap Tk.c) s.tasks.length 0], [vi 0, .sl [] 0 2, .sl [] 0 2, .sl [] 0 2]]) ∧ e' 2 = .ptr 0 0 ∧ e' 4 = .ptr 1 0 ∧ e' 6 = .sl ((mvL s b s.tasks.length).map vi) s.tasks.length 2
def mvIn : C → C
  | .seq _ (.scope c) => c
  | c => c
theorem mv_pre0 (s : St) (b : Int) : ∃ e', evL tab0 ext0 0 (C.pre 0 C46.body) (initFrom 0 [.agg (St.c s), vi b], []) = some (.nor, e', [[vi s.proto, .sl (s.cores.map vi) s.cores.length 0, .sl (s.homes.map vi) s.homes.length 0, .sl (s.tasks.flatMap Tk.c) s.tasks.length 0], [vi 0, .sl [] 0 1, .sl [] 0 1, .sl [] 0 1]]) ∧ e' 1 = vi b ∧ e' 2 = .ptr 0 0 ∧ e' 4 = .ptr 1 0 := by
  simp only [St.c, slI, slT]
  exact ⟨_, (Eq.refl (evL tab0 ext0 0 (C.pre 0 C46.body) _)).trans (by simp [C46, C.pre, initFrom, push_cast, -Int.not_lt, -Int.not_le, ↓evI_call, ↓evI_calli, ↓evI_calln, ↓evI_callz, ↓evI_callv, ↓evI_mxn]; rfl), by simp [put_at], by simp [put_at], by simp [put_at]⟩
theorem mv_pre (s : St) (hs : Sm s) (b : Int) (e : Env) (g1 : e 1 = vi b) (g2 : e 2 = .ptr 0 0) (g4 : e 4 = .ptr 1 0) : EXN (MvR s b) (evL tab0 ext0 0 (C.pre 3 (mvIn C46.body)) (e, [[vi s.proto, .sl (s.cores.map vi) s.cores.length 0, .sl (s.homes.map vi) s.homes.length 0, .sl (s.tasks.flatMap Tk.c) s.tasks.length 0], [vi 0, .sl [] 0 1, .sl [] 0 1, .sl [] 0 1]])) := by
  have h9 := hs.tasks
  have hv : s.tasks.length ≠ 0 → MvOk s b := fun h => mv_ok hs (by omega) b
  have h0 := fun e => mo_loop s hs b hv s.tasks.length 0 e (by omega)
  simp only [← mo_own] at h0
  have hln := mvL_len s b s.tasks.length
  have e0 : (mvL s b 0).map vi = [] := rfl
  unfold MvQ at h0
  rw [e0] at h0
  unfold MvR
  generalize mvL s b s.tasks.length = o at *
  simp [C46, C.pre, mvIn, push_cast, -Int.not_lt, -Int.not_le, ↓evI_call, ↓evI_calli, ↓evI_calln, ↓evI_callz, ↓evI_callv, ↓evI_mxn, g1, g2, g4]
  refine behindP (P := EXN _) (h0 _ (by simp [put_at, g1]) (by simp [put_at, g2]) (by simp [put_at, g4]) (by simp [put_at]) (by simp [put_at]) (by simp [put_at]) (by simp [put_at])) ?_
  rintro _ ⟨e', rfl, k2, k4, k6⟩
  exact ⟨_, rfl, _, rfl, k2, k4, k6⟩
theorem ints_sl {w : World} {lim : Nat → Nat} {v : Value} {l : List Int} {n g : Nat} (h : RepV w lim v (.sl (l.map vi) n g)) (h0 : 0 < n) (hl : l.length = n) : ∃ b o c, v = .slice (some ⟨b, o, none⟩) n c ∧ b < w.heap.size ∧ ∀ i (h : i < l.length), w.cell? ⟨b, o + i, none⟩ = some (.int .i64 l[i]) := by
  generalize hx : A.sl (l.map vi) n g = a at h
  cases h with
  | val _ _ => cases hx
  | nil => simp only [A.sl.injEq] at hx; omega
  | emp b o s g => simp only [A.sl.injEq] at hx; omega
  | sl b o n c l2 g vs hn hg h3 hc hl hr =>
    simp only [A.sl.injEq] at hx
    obtain ⟨rfl, rfl, _⟩ := hx
    have hcell : ∀ i (h : i < l.length), w.cell? ⟨b, o + i, none⟩ = some (.int .i64 l[i]) := by
      intro i hi
      have hi2 : i < (l.map vi).length := by simpa using hi
      have h1 := hr i hi2
      have e : (l.map vi)[i] = vi l[i] := by simp
      rw [e] at h1
      rw [hc i hi2, (Rep.rv (lim := lim) (μ := id) (m := 0) h1).val.1]
    exact ⟨b, o, c, rfl, lt_of_cell (hcell 0 (by omega)), hcell⟩
theorem arr_lit (t : Array Value) : t = ((List.range t.size).map fun i => t.getD i undef).toArray := by
  apply Array.ext
  · simp
  · intro i h1 h2
    simp [Array.getD_eq_getD_getElem?, h1]
def cdIn : Option Code → Code
  | some (.seq _ (.scope c)) => c
  | _ => .skip
theorem move_tail (W w : World) (m : Nat) (x : Nat → Value) (b0 b1 ob oo oc : Nat) (p : Int) (ca ha ta : Option Addr) (cn cc hn hc tn tc : Nat)
    (h2 : x 2 = .pointer (some ⟨b0, 0, none⟩)) (h4 : x 4 = .pointer (some ⟨b1, 0, none⟩)) (h6 : x 6 = .slice (some ⟨ob, oo, none⟩) m oc)
    (hc0 : w.cell? ⟨b0, 0, none⟩ = some (.int .i64 p)) (hc1 : w.cell? ⟨b0, 1, none⟩ = some (.slice ca cn cc)) (hc2 : w.cell? ⟨b0, 2, none⟩ = some (.slice ha hn hc)) (hc3 : w.cell? ⟨b0, 3, none⟩ = some (.slice ta tn tc))
    (hr : RowAt w b1 4) (hB : Below W.heap.size W w) (hb1 : W.heap.size ≤ b1)
    (hP : Calls Try.prog 69 #[.agg #[.int .i64 p, .slice ca cn cc, .slice ha hn hc, .slice ta tn tc], .slice (some ⟨ob, oo, none⟩) m oc] w (CopyPost w m)) :
    (cdPost 3 (cdIn Try.f46.body)).wp Try.prog (Exit.noGoto (bodyPost Try.prog Try.f46 (CopyPost W m))) ⟨#[x 0, x 1, x 2, x 3, x 4, x 5, x 6, x 7, x 8, x 9, x 10, x 11, x 12, x 13, x 14, x 15, x 16, x 17, x 18, x 19, x 20, x 21, x 22, x 23, x 24, x 25, x 26, x 27, x 28, x 29, x 30, x 31, x 32, x 33, x 34, x 35, x 36, x 37, x 38, x 39, x 40, x 41], []⟩ w := by
  have hP2 : Aside _ := hP
  have hR2 : Aside _ := And.intro hr (And.intro hB hb1)
  clear hP hr hB hb1
  generalize hQ : bodyPost Try.prog Try.f46 (CopyPost W m) = Q
  have hQ2 : Aside _ := hQ
  clear hQ
  dsimp only [cdIn, Try.f46, cdPost]
  rw [h2, h4, h6]
  go_wp2_with (go_at_call 9999)
  go_at_call 69
  refine Calls.mono hP2.out ?_
  rintro e w2 hp
  obtain ⟨hr, hB, hb1⟩ := hR2.out
  have hr2 : RowAt w2 b1 4 := by
    obtain ⟨_, _, _, _, _, _, _, _, _, _, _, h2, _⟩ := hp
    exact hr.below h2
  obtain ⟨k0, hk0⟩ := hr2.cell (j := 0) (by omega)
  obtain ⟨k1, hk1⟩ := hr2.cell (j := 1) (by omega)
  obtain ⟨k2, hk2⟩ := hr2.cell (j := 2) (by omega)
  obtain ⟨k3, hk3⟩ := hr2.cell (j := 3) (by omega)
  have hf0 := hr2.live 0
  have hf1 := hr2.live 1
  have hf2 := hr2.live 2
  have hf3 := hr2.live 3
  have hq : Aside _ := fun vs => copy_set hp hB b1 hb1 hr.lt vs
  obtain ⟨p2, ca2, cn2, cc2, ha2, hn2, hc2', tb2, cap2, rfl, _⟩ := hp
  clear hr hB hb1 hr2
  go_wp2_with (go_at_call 9999)
  rw [← hQ2.out]
  refine bodyPost_ret (by simp [results, Try.results46, go_sem, hk0, hk1, hk2, hk3]; try rfl) rfl ?_
  exact hq.out [_, _, _, _]
/-- A pointer to a set that is told: what it reads. -/
theorem ptr_set {w : World} {lim μ : Nat → Nat} {v : Value} {b : Nat} {s : St} (h : Rep w lim μ 0 v (.ipx b 0 (St.c s))) : v = .pointer (some ⟨b, 0, none⟩) ∧ ∃ ca cn cc ha hn hc ta tn tc,
    w.cell? ⟨b, 0, none⟩ = some (.int .i64 s.proto) ∧ w.cell? ⟨b, 1, none⟩ = some (.slice ca cn cc) ∧ w.cell? ⟨b, 2, none⟩ = some (.slice ha hn hc) ∧ w.cell? ⟨b, 3, none⟩ = some (.slice ta tn tc) ∧
    Rep w lim id 0 (.agg #[.int .i64 s.proto, .slice ca cn cc, .slice ha hn hc, .slice ta tn tc]) (.agg (St.c s)) := by
  obtain ⟨hv, h⟩ := h.toIpx
  obtain ⟨b', o, vs, hv', hc, hl, hr⟩ := h.toIp
  rw [hv] at hv'
  cases hv'
  have h0 := hr 0 (by show 0 < 4; omega)
  have h1 := hr 1 (by show 1 < 4; omega)
  have h2 := hr 2 (by show 2 < 4; omega)
  have h3 := hr 3 (by show 3 < 4; omega)
  have c0 := hc 0 (by show 0 < 4; omega)
  have c1 := hc 1 (by show 1 < 4; omega)
  have c2 := hc 2 (by show 2 < 4; omega)
  have c3 := hc 3 (by show 3 < 4; omega)
  have e0 := (Rep.rv (lim := lim) (μ := id) (m := 0) h0).val.1
  obtain ⟨x1, n1, k1, e1⟩ := isSlice (RepC.v (μ := id) (m := 0) h1) (.inr ⟨_, _, _, rfl⟩)
  obtain ⟨x2, n2, k2, e2⟩ := isSlice (RepC.v (μ := id) (m := 0) h2) (.inr ⟨_, _, _, rfl⟩)
  obtain ⟨x3, n3, k3, e3⟩ := isSlice (RepC.v (μ := id) (m := 0) h3) (.inr ⟨_, _, _, rfl⟩)
  rw [e0] at c0 h0
  rw [e1] at c1 h1
  rw [e2] at c2 h2
  rw [e3] at c3 h3
  refine ⟨hv, _, _, _, _, _, _, _, _, _, c0, c1, c2, c3, .r (.agg _ _ rfl ?_ ?_)⟩
  · intro i hi
    have hi : i < 4 := hi
    match i, hi with
    | 0, _ => exact .v h0
    | 1, _ => exact .v h1
    | 2, _ => exact .v h2
    | 3, _ => exact .v h3
  · intro i hi
    have hi : i < 4 := hi
    match i, hi with
    | 0, _ => exact fun _ _ e => by cases e
    | 1, _ => exact fun _ _ e => by cases e
    | 2, _ => exact fun _ _ e => by cases e
    | 3, _ => exact fun _ _ e => by cases e
theorem frz_set {μ : Nat → Nat} {s : St} {r : Nat} {bx : Bx} (hb : bx[r]? = some (St.c s)) : frzP μ bx (.ptr r 0) = .ipx (μ r) 0 (St.c s) := by
  have t10 := fun (bx : Bx) (d : Nat) => plain_mapM (bx := bx) (d := d) (plain_tk s.tasks)
  have hl6 := len_tk s.tasks
  simp only [frzP, hb]
  simp only [St.c, slT]
  generalize s.tasks.flatMap Tk.c = T at *
  simp [slI, frzC, vi, t10, -List.map_map]
theorem evl_nb {t : Nat → Option CFun} {x : CallF} {n m : Nat} {c : C} {s : Env × Bx} {r : Option (Out × Env × Bx)} (h : m = n) (he : evL t x n c s = r) : evL t x m c s = r := by rw [h]; exact he
theorem move_w (s : St) (hs : Sm s) (g : Good s) (W : World) (lim : Nat → Nat) (v : Value) (hv : Rep W lim id 0 v (.agg (St.c s))) (hgl : GlobOk W id 0) (b : Int) : Calls Try.prog 46 #[v, .int .i64 b] W (CopyPost W s.tasks.length) := by
  obtain ⟨hn, lv, c0, hbody, hcomp⟩ := row_code row46 Try.func46
  refine start_w Try.func46 hbody (xs := [.agg (St.c s), vi b]) (lim := lim) rfl (by show 2 ≤ 42; decide) ?_ hgl ?_
  · intro i hi
    have hi : i < 2 := hi
    match i, hi with
    | 0, _ => exact ⟨hv, fun _ _ e => by cases e⟩
    | 1, _ => exact ⟨.rv (.val _ rfl), n2_val _⟩
  intro F h0 hnt hw hlim a hI
  have hc : comp Try.prog F.nt hn lv 0 c0 = some C46.body := by rw [hnt]; exact hcomp
  obtain ⟨e1, he1, a1, a2, a4⟩ := mv_pre0 s b
  refine cut_sound tab_ok ext0_sound 0 hc rfl (evl_nb h0 he1) hI (fun _ a2' w2 hI2 => ?_) fun h => absurd rfl h
  have hc2 := comp_post 0 hc rfl
  obtain ⟨z, hz, hcz⟩ := comp_scope (A := mvIn C46.body) hc2
  rw [hz]
  refine wp_scope_straight ?_
  obtain ⟨zz, he3, e3, rfl, k2, k4, k6⟩ := mv_pre s hs b e1 a1 a2 a4
  refine cut_sound tab_ok ext0_sound 3 hcz rfl (evl_nb h0 he3) hI2 (fun _ a3 w3 hI3 => ?_) fun h => absurd rfl h
  have hin : cdIn Try.f46.body = z := by
    rw [hbody]
    obtain ⟨x, y, rfl, _, _⟩ := comp_seq hc
    have hz : y = .scope z := hz
    rw [hz]
    rfl
  rw [← hin]
  obtain ⟨lim3, μ3, own3, h3⟩ := hI3
  have hbel : Below W.heap.size W w3 := by
    have := h3.below
    rw [h0, hw] at this
    exact this.below
  have hm1 := h3.mub 1 (by rw [h0]; omega) (by simp)
  rw [hw] at hm1
  have hrow : RowAt w3 (μ3 1) 4 := by
    obtain ⟨cs, t, q1, q2, _⟩ := h3.box.row 1 (by simp)
    exact ⟨cs, t, q1, q2⟩
  have hx4 : a3.tmps.getD 4 undef = .pointer (some ⟨μ3 1, 0, none⟩) := by
    have := h3.env 4
    rw [show (e3, _).1 4 = .ptr 1 0 from k4] at this
    exact this.toPtr.1
  have h9 := g.tasks
  obtain ⟨ob, oo, oc, hx6, hob, hocs⟩ := ints_sl (by
    have := h3.env 6
    rw [show (e3, _).1 6 = _ from k6] at this
    exact this.toSl) (by omega) (mvL_len s b s.tasks.length)
  have hd := h3.defers
  have hsz := h3.size
  rw [hnt] at hsz
  obtain ⟨F2, n0, n1, n2', lim4, μ4, own4, h4⟩ := freeze h3
  have hx2 := h4.env 2
  rw [show (fun i => frzP μ3 _ (e3 i), ([] : Bx)).1 2 = frzP μ3 [[vi s.proto, .sl (s.cores.map vi) s.cores.length 0, .sl (s.homes.map vi) s.homes.length 0, .sl (s.tasks.flatMap Tk.c) s.tasks.length 0], [vi 0, .sl [] 0 2, .sl [] 0 2, .sl [] 0 2]] (.ptr 0 0) from by simp only [k2]] at hx2
  rw [frz_set (s := s) rfl] at hx2
  obtain ⟨hx2, ca, cn, cc, ha, hn', hcc, ta, tn, tc, c0', c1', c2', c3', hrep⟩ := ptr_set hx2
  have hgl3 := glob_belowP hgl hbel
  have hP := pick_w s.tasks.length s.tasks.length (by omega) (by omega) (by omega) w3 s.proto ca ha ta cn cc hn' hcc tn tc (fun W'' hW2 => copy_own s hs g W'' lim4 _ (hrep.mono (Ext.of_below hW2 fun _ _ => rfl) (fun _ _ => rfl) (Nat.le_refl _)) (glob_belowP hgl3 hW2)) ob oo oc hob (mvL s b s.tasks.length) (mvL_len ..) (fun x hx => by
    obtain ⟨k, hk, hk2⟩ := mvL_ok (mv_ok hs (by omega) b) s.tasks.length x hx
    omega) hocs
  have hact : a3 = ⟨#[a3.tmps.getD 0 undef, a3.tmps.getD 1 undef, a3.tmps.getD 2 undef, a3.tmps.getD 3 undef, a3.tmps.getD 4 undef, a3.tmps.getD 5 undef, a3.tmps.getD 6 undef, a3.tmps.getD 7 undef, a3.tmps.getD 8 undef, a3.tmps.getD 9 undef, a3.tmps.getD 10 undef, a3.tmps.getD 11 undef, a3.tmps.getD 12 undef, a3.tmps.getD 13 undef, a3.tmps.getD 14 undef, a3.tmps.getD 15 undef, a3.tmps.getD 16 undef, a3.tmps.getD 17 undef, a3.tmps.getD 18 undef, a3.tmps.getD 19 undef, a3.tmps.getD 20 undef, a3.tmps.getD 21 undef, a3.tmps.getD 22 undef, a3.tmps.getD 23 undef, a3.tmps.getD 24 undef, a3.tmps.getD 25 undef, a3.tmps.getD 26 undef, a3.tmps.getD 27 undef, a3.tmps.getD 28 undef, a3.tmps.getD 29 undef, a3.tmps.getD 30 undef, a3.tmps.getD 31 undef, a3.tmps.getD 32 undef, a3.tmps.getD 33 undef, a3.tmps.getD 34 undef, a3.tmps.getD 35 undef, a3.tmps.getD 36 undef, a3.tmps.getD 37 undef, a3.tmps.getD 38 undef, a3.tmps.getD 39 undef, a3.tmps.getD 40 undef, a3.tmps.getD 41 undef], []⟩ := by
    obtain ⟨t3, d3⟩ := a3
    simp only at hd hsz
    subst hd
    have e := arr_lit t3
    rw [show t3.size = 42 from hsz] at e
    conv => lhs; rw [e]
    rfl
  rw [hact]
  exact move_tail W w3 s.tasks.length (fun i => a3.tmps.getD i undef) (μ3 0) (μ3 1) ob oo oc s.proto ca ha ta cn cc hn' hcc tn tc hx2 hx4 hx6 c0' c1' c2' c3' hrow hbel hm1 hP
end Go.Proofs.YtkohggddaheefaaEv
