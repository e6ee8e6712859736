/- swingbridgelaw19.ReportTurns. -/
import Derived.Test.YtamblgbmdhldbaaGreatDoorRepR
import Derived.Test.YtamblgbmdhldbaaGreatDoorTurn
set_option linter.unusedSimpArgs false
set_option linter.unusedVariables false
namespace Go.Proofs.YtamblgbmdhldbaaGreatDoorEv
open Go
set_option maxHeartbeats 4000000
/-! ### the plain law -/
theorem ord_nat {s : St} (g : Good s) {L : List Nat} (hp : L.Perm (List.range s.tasks.length)) (hs : L.Pairwise fun a b => prioAt s a ≤ prioAt s b) : L = ordS s := by
  refine List.Perm.eq_of_pairwise (le := fun a b => prioAt s a ≤ prioAt s b) ?_ hs ?_ (hp.trans (ord_perm s).symm)
  · intro a b ha hb h1 h2
    exact prio_inj g (List.mem_range.1 (hp.mem_iff.1 ha)) (ord_lt hb) (by omega)
  · refine (ss_srt (plt s) (plt_swo s) _ _ rfl).imp fun {a b} h => ?_
    unfold plt at h
    simpa using h
theorem rot_perm {α : Type} (k : Nat) (l : List α) : (rot k l).Perm l := by
  unfold rot
  refine List.perm_append_comm.trans ?_
  rw [List.take_append_drop]
theorem sg_range {n k : Nat} (hk : k < n) : (List.range n).map (sg n k) = rot k (List.range n) := by
  refine ext_get (n := n) (by simp) (by rw [rot_len, List.length_range]) fun i hi => ?_
  rw [rot_get (List.length_range) hk hi, List.getElem?_map, List.getElem?_range hi, List.getElem?_range (sg_lt hk hi)]; rfl
theorem ord_trn {s : St} (g : Good s) {k : Nat} (hk : k < s.tasks.length) : (ordS (trn s k)).map (sg s.tasks.length k) = ordS s := by
  have hp := ord_perm (trn s k)
  rw [trn_len] at hp
  refine ord_nat g ?_ ?_
  · refine (hp.map _).trans ?_
    rw [sg_range hk]
    exact rot_perm _ _
  · refine List.pairwise_map.2 (((ss_srt (plt (trn s k)) (plt_swo _) _ _ rfl : Srt (plt (trn s k)) (ordS (trn s k))).imp_of_mem fun {a b} ha hb h => ?_))
    unfold plt at h
    have ha' : a < s.tasks.length := by have := ord_lt ha; rwa [trn_len] at this
    have hb' : b < s.tasks.length := by have := ord_lt hb; rwa [trn_len] at this
    rw [t_prio hk ha', t_prio hk hb'] at h
    simpa using h
theorem line_trn {s : St} (hs : Sm s) (ho : okS s = true) (hz : eqz (anS s).2 0 = true) {k : Nat} (hk : k < s.tasks.length) {i : Nat} (hi : i < s.tasks.length) : lineOf (trn s k) (anS (trn s k)).1 i = lineOf s (anS s).1 (sg s.tasks.length k i) := by
  have ho2 := trn_ok s (k := k) (by omega)
  have g := (okS_iff s).1 ho
  unfold anS at hz ⊢
  rw [ho2, if_pos ho, if_pos ho, t_least hk]
  rw [if_pos ho] at hz
  by_cases hl : eqz (leastB s).2 0 = true
  · rw [if_pos hl, if_pos hl]
    have hlen := (least_ok hs g (by simpa [eqz] using hl)).1
    unfold lineOf
    rw [t_get hk hi]
    have e1 := t_b hk hlen hi
    have e2 := t_waits hk hlen hi
    have e3 : (wl (trn s k) (rot k (leastB s).1) (trn s k).tasks.length).getD i [] = (wl s (leastB s).1 s.tasks.length).getD (sg s.tasks.length k i) [] := by
      unfold wl
      rw [trn_len]
      simp [hi, sg_lt hk hi, e2]
    show (match s.tasks[sg s.tasks.length k i]? with
      | some t => lineS t (bAt (rot k (leastB s).1) i) ((wl (trn s k) (rot k (leastB s).1) (trn s k).tasks.length).getD i [])
      | none => addB) = _
    rw [e1, e3]; rfl
  · rw [if_neg hl] at hz; exact absurd hz hl
theorem lines_trn {s : St} (hs : Sm s) (ho : okS s = true) {k : Nat} (hk : k < s.tasks.length) : linesS (trn s k) = linesS s := by
  have g := (okS_iff s).1 ho
  have hA := (t_an hk).1 ho
  have ho2 := trn_ok s (k := k) (by omega)
  unfold linesS
  rw [ho2, if_pos ho, if_pos ho, hA.1]
  by_cases hz : eqz (anS s).2 0 = true
  · rw [if_pos hz, if_pos hz, ← ord_trn g hk, List.map_map]
    congr 2
    refine List.map_congr_left fun i hi => ?_
    have hi2 := ord_lt hi
    rw [trn_len] at hi2
    exact line_trn hs ho hz hk hi2
  · rw [if_neg hz, if_neg hz]
/-- What lines there are. -/
theorem lines_shape {s : St} (ho : okS s = true) : (linesS s).2 = 0 ∧ ((∃ L : List ByteArray, L.length = s.tasks.length ∧ (linesS s).1 = addB :: L) ∨ (linesS s).1 = [lateB] ∨ (linesS s).1 = [unkB]) := by
  unfold linesS
  rw [if_pos ho]
  by_cases hz : eqz (anS s).2 0 = true
  · rw [if_pos hz]
    exact ⟨rfl, .inl ⟨_, by rw [List.length_map, ord_len], rfl⟩⟩
  · rw [if_neg hz]
    refine ⟨rfl, .inr ?_⟩
    have h0 : ¬ (anS s).2 = 0 := by simpa [eqz] using hz
    rcases an_code ho with h | h | h
    · exact absurd h h0
    · left; rw [h]; rfl
    · right; rw [h]; rfl
/-! ### the walk -/
theorem trn_sm {s : St} (hs : Sm s) (k : Nat) : Sm (trn s k) :=
  ⟨hs.cores, hs.homes, by rw [trn_len]; exact hs.tasks, fun t ht => hs.parts t (rot_mem.1 ht), fun t ht => hs.names t (rot_mem.1 ht)⟩
theorem reportTurns_is (s : St) (b : Int) (_ : s.ok) (k1 : (Lit.int .u8 b).wf = true) : Ans (vb true) [] (callL tab0 ext5 4 [.agg (St.c s), vu8 b] []) := by
  rw [callL_tab _ _ rfl tab4 rfl]
  have h1 := pure_vb (k := false) known_7
  have h2 := pure5 (pure1 (pure_vb (k := false) (few_is_8 s)))
  rcases (Bool.eq_false_or_eq_true (few8 s)).symm with hs | hs
  · rw [hs] at h2
    simp only [St.c, slI, slT] at h2
    simp [C4, push_cast, -Int.not_lt, -Int.not_le, ↓evI_call, ↓evI_calli, ↓evI_callz, ↓evI_callv, ↓evI_mxn, St.c, slI, slT, h1, h2]
    exact ⟨_, rfl⟩
  rw [hs] at h2
  have hs := few8_sm s hs
  have h9 := hs.tasks
  have h5 := pure5 (pure1 (pure_vb (k := false) (okR_is s hs.fits)))
  have hok : eqz (chk s).2 0 = okS s := rfl
  rw [hok] at h5
  rcases (Bool.eq_false_or_eq_true (okS s)).symm with ho | ho
  · rw [ho] at h5
    simp only [St.c, slI, slT] at h2 h5
    simp [C4, push_cast, -Int.not_lt, -Int.not_le, ↓evI_call, ↓evI_calli, ↓evI_callz, ↓evI_callv, ↓evI_mxn, St.c, slI, slT, h1, h2, h5]
    exact ⟨_, rfl⟩
  rw [ho] at h5
  have g := (okS_iff s).1 ho
  have hN1 := g.tasks.1
  have hN2 : ¬ (s.tasks.length : Int) = 0 := by omega
  have hN4 : ¬ s.tasks = [] := fun h => by rw [h] at hN1; exact absurd hN1 (by simp)
  have q1 := Int.tmod_eq_emod_of_nonneg (b := (s.tasks.length : Int)) (u8_of k1).1
  have q2 := Int.emod_nonneg b (show (s.tasks.length : Int) ≠ 0 by omega)
  have q3 := Int.emod_lt_of_pos b (show (0 : Int) < s.tasks.length by omega)
  obtain ⟨m, hm⟩ : ∃ m : Nat, (m : Int) = b % s.tasks.length := ⟨(b % s.tasks.length).toNat, by omega⟩
  rw [← hm] at q1 q3
  have hmN : m < s.tasks.length := by omega
  have hmN2 : m ≤ s.tasks.length := by omega
  have hmN3 : (m : Int) ≤ s.tasks.length := by omega
  have wb : IntKind.wrap .i64 b = b := wrap_in _ (by have := u8_of k1; omega) (by have := u8_of k1; omega)
  have wm : IntKind.wrap .i64 (m : Int) = (m : Int) := wrap_in _ (by omega) (by omega)
  have w1 : IntKind.wrap .i64 ((s.tasks.length : Int) + 1) = (s.tasks.length : Int) + 1 := wrap_in _ (by omega) (by omega)
  have h3 := lines_is s hs
  have h4 := lines_is (trn s m) (trn_sm hs m)
  rw [lines_trn hs ho hmN] at h4
  have h6 := pure5 (pure1 (same_is (linesS s).1 (lines_few s hs)))
  have hsh := lines_shape ho
  -- the tasks turned round
  have hdr : (s.tasks.flatMap Tk.c).drop (m * 6) = (s.tasks.drop m).flatMap Tk.c := by
    have h := take_tk s.tasks m hmN2
    have h2 := List.take_append_drop (m * 6) (s.tasks.flatMap Tk.c)
    rw [h] at h2
    have h3 : s.tasks.flatMap Tk.c = (s.tasks.take m).flatMap Tk.c ++ (s.tasks.drop m).flatMap Tk.c := by rw [← List.flatMap_append, List.take_append_drop]
    rw [h3] at h2 ⊢
    exact List.append_cancel_left h2
  have hl6 := len_tk s.tasks
  have htk : ((s.tasks.flatMap Tk.c).drop (m * 6)).take ((s.tasks.length - m) * 6) = (s.tasks.flatMap Tk.c).drop (m * 6) := List.take_of_length_le (by rw [List.length_drop, hl6]; omega)
  have hcat : (s.tasks.flatMap Tk.c).drop (m * 6) ++ (s.tasks.flatMap Tk.c).take (m * 6) = (rot m s.tasks).flatMap Tk.c := by
    rw [hdr, take_tk s.tasks m hmN2, ← List.flatMap_append]; rfl
  have t4 := plain_tk (rot m s.tasks)
  have t1 := plain_own t4
  have t2 := plain_cp t4
  have t3 := plain_norm t4
  have t7 := len_tk (rot m s.tasks)
  have t10 := fun (bx : Bx) (d : Nat) => plain_mapM (bx := bx) (d := d) t4
  have d1 : ((s.tasks.flatMap Tk.c).drop (m * 6)).length = (s.tasks.length - m) * 6 := by rw [List.length_drop, hl6]; omega
  have d2 : ((s.tasks.flatMap Tk.c).take (m * 6)).length = m * 6 := by rw [List.length_take, hl6]; omega
  have e1 : s.tasks.length - m + m = s.tasks.length := by omega
  have hsz1 : (s.tasks.length - m) * 72 ≤ 70368744177664 := by omega
  have hsz2 : s.tasks.length * 72 ≤ 70368744177664 := by omega
  have s2 : St.c (trn s m) = [vi s.proto, slI s.cores, slI s.homes, .sl ((rot m s.tasks).flatMap Tk.c) s.tasks.length 0] := by
    show [vi s.proto, slI s.cores, slI s.homes, slT (rot m s.tasks)] = _
    unfold slT; rw [rot_len]
  rw [s2] at h4
  have hmp : ∀ bx : Bx, ∀ d, (((rot m s.tasks).flatMap Tk.c).take (s.tasks.length * 6)).mapM (frzC bx d) = some ((rot m s.tasks).flatMap Tk.c) := fun bx d => by
    rw [List.take_of_length_le (Nat.le_of_eq (by rw [t7, rot_len]))]; exact t10 bx d
  have hlT : s.tasks.length * 6 ≤ ((rot m s.tasks).flatMap Tk.c).length := Nat.le_of_eq (by rw [t7, rot_len])
  generalize (rot m s.tasks).flatMap Tk.c = T at *
  simp only [St.c, slI, slT] at h2 h3 h4 h5
  obtain ⟨hz, hsh⟩ := hsh
  rw [hz] at h3 h4
  clear hz hok
  generalize (linesS s).1 = l at *
  simp only [slS] at h3 h4 h6
  rcases hsh with ⟨L, hL, rfl⟩ | rfl | rfl
  · have e5 : ((addB :: L).length : Int) = (s.tasks.length : Int) + 1 := by rw [List.length_cons, hL]; omega
    have e6 : eqz ((s.tasks.length : Int) + 1) ((s.tasks.length : Int) + 1) = true := eqz_self _
    rw [List.map_cons] at h3 h4 h6
    have e7 : (vs addB :: L.map vs).length = s.tasks.length + 1 := by simp [hL]
    have e8 : (addB :: L).length = s.tasks.length + 1 := by simp [hL]
    rw [e8] at h3 h4 h6
    unfold addB at *
    generalize L.map vs = M at *
    simp [C4, push_cast, -Int.not_lt, -Int.not_le, ↓evI_call, ↓evI_calli, ↓evI_callz, ↓evI_callv, ↓evI_mxn, St.c, slI, slT, h1, h2, h3, h4, h5, h6, hN2, hN4, q1, wb, wm, w1, hmN, hmN2, hmN3, hl6, htk, hcat, t1, t2, t3, hmp, hlT, d1, d2, e1, e6, hsz1, hsz2, asList, eqz_self, -List.all_eq_true]
    exact ⟨_, rfl⟩
  · have e5 : eqz 1 ((s.tasks.length : Int) + 1) = false := by simp [eqz]; omega
    unfold lateB at *
    simp only [List.map_cons, List.map_nil, List.length_cons, List.length_nil] at h3 h4 h6
    simp [C4, push_cast, -Int.not_lt, -Int.not_le, ↓evI_call, ↓evI_calli, ↓evI_callz, ↓evI_callv, ↓evI_mxn, St.c, slI, slT, h1, h2, h3, h4, h5, h6, hN2, hN4, q1, wb, wm, w1, hmN, hmN2, hmN3, hl6, htk, hcat, t1, t2, t3, hmp, hlT, d1, d2, e1, e5, hsz1, hsz2, asList, eqz_self, -List.all_eq_true]
    exact ⟨_, rfl⟩
  · have e5 : eqz 1 ((s.tasks.length : Int) + 1) = false := by simp [eqz]; omega
    unfold unkB at *
    simp only [List.map_cons, List.map_nil, List.length_cons, List.length_nil] at h3 h4 h6
    simp [C4, push_cast, -Int.not_lt, -Int.not_le, ↓evI_call, ↓evI_calli, ↓evI_callz, ↓evI_callv, ↓evI_mxn, St.c, slI, slT, h1, h2, h3, h4, h5, h6, hN2, hN4, q1, wb, wm, w1, hmN, hmN2, hmN3, hl6, htk, hcat, t1, t2, t3, hmp, hlT, d1, d2, e1, e5, hsz1, hsz2, asList, eqz_self, -List.all_eq_true]
    exact ⟨_, rfl⟩
end Go.Proofs.YtamblgbmdhldbaaGreatDoorEv
