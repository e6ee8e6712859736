/- swingbridgelaw8.TaskSpoils: the walks. -/
import Derived.Test.YtkohggddaheefaaTaSpA
import Derived.Test.YtkohggddaheefaaSame
set_option linter.unusedSimpArgs false
set_option linter.unusedVariables false
namespace Go.Proofs.YtkohggddaheefaaEv
open Go
set_option maxHeartbeats 8000000
theorem sp_0_0 (s : St) (hs : Sm s) (g : Good s) (hh : s.homes.length = 0) (w z : Int) (k : Nat) (hk : k < s.tasks.length) (hw : w.tmod 10 = 0) (hz : z.tmod s.tasks.length = k) (z3 : IntKind.wrap .i64 z = z)
    (h1 : pureOf (callL tabC extC) false 15 [] = some (vb true)) (h2 : pureOf (callL tabC extC) false 16 [.agg (St.c s)] = some (vb true)) (h3 : pureOf (callL tabC extC) false 22 [.agg (St.c s)] = some (vb true)) :
    Ans (vb true) [] (callL tabC extC 4 [.agg (St.c s), vu8 w, vu8 z] []) := by
  rw [callL_tab _ _ rfl (rfl : tabC 4 = some C4v) rfl]
  have hn := g.tasks
  have h4 := pureC (by decide) (copied_p s hs (by omega))
  have h5 := copyB0 s hs g hh
  have hS := pureC (by decide) (pure_vb (k := false) (sameR_is s s hs.fits))
  rw [sameSt_self] at hS
  have hC := pureC (by decide) (pure_tup2 (k := false) (check_is _ (sp_sm hs hk 0).fits))
  have hchk := sp_chk g hk (spT s 0 s.tasks[k]) (sp_err g hk 0 (by decide)) (by decide)
  have hM := pureC (by decide) (pure_vb (k := false) (sameS_is (twS s k (spT s 0 s.tasks[k])) s (sp_sm hs hk 0).fits))
  rw [same_no g hchk (by decide)] at hM
  have hE : spE 0 = 10 := rfl
  rw [hchk] at hC
  simp only [hE] at hC
  have hsc : St.c (twS s k (spT s 0 s.tasks[k])) = [vi s.proto, slI s.cores, slI s.homes, .sl ((s.tasks.set k (spT s 0 s.tasks[k])).flatMap Tk.c) s.tasks.length 0] := by
    have e : s.tasks.length = (s.tasks.set k (spT s 0 s.tasks[k])).length := (List.length_set ..).symm
    rw [e]; rfl
  rw [hsc] at hC hM
  have hTl := tB_len 7 s.tasks s.tasks.length
  have tcp := tB_cp 7 s.tasks s.tasks.length
  have ccp : (s.cores.map vi).map A.cp1 = s.cores.map vi := plain_cp (plain_vi _)
  have hcp : (s.homes.map vi).map A.cp1 = s.homes.map vi := plain_cp (plain_vi _)
  have jcp := jB_map A.cp1 (fun _ h => plain_cp h) s.tasks s.tasks.length
  have lC : (s.cores.map vi).length = s.cores.length := List.length_map _
  have lH : (s.homes.map vi).length = s.homes.length := List.length_map _
  have mC := fun (bx : Bx) (d : Nat) => plain_mapM (bx := bx) (d := d) (plain_vi s.cores)
  have mH := fun (bx : Bx) (d : Nat) => plain_mapM (bx := bx) (d := d) (plain_vi s.homes)
  have tC : (s.cores.map vi).take s.cores.length = s.cores.map vi := List.take_of_length_le (by omega)
  have tH : (s.homes.map vi).take s.homes.length = s.homes.map vi := List.take_of_length_le (by omega)
  have mT : ∀ (a0 a1 a2 a3 a4 a5 : List A) (x : List A), (tB 7 s.tasks s.tasks.length).mapM (frzC ([a0, a1, a2, a3, a4, a5] ++ (jB s.tasks s.tasks.length ++ [x])) 2) = some (s.tasks.flatMap Tk.c) := fun a0 a1 a2 a3 a4 a5 x => by
    refine tB_frz _ 1 7 s.tasks s.tasks rfl fun j t u ht hu => ?_
    rw [ht] at hu
    cases hu
    refine ⟨⟨rfl, rfl, rfl, rfl, rfl, rfl⟩, ?_⟩
    have hj := (List.getElem?_eq_some_iff.1 ht).1
    have hl := jB_len s.tasks s.tasks.length (Nat.le_refl _)
    rw [List.getElem?_append_right (by show 6 ≤ _; omega)]
    show (jB s.tasks s.tasks.length ++ [x])[7 + 2 * j - 6]? = _
    rw [show 7 + 2 * j - 6 = 2 * j + 1 by omega, List.getElem?_append_left (by omega)]
    exact jB_get s.tasks j t ht
  have q2 : (k : Int) < s.tasks.length := by omega
  have q3 : ¬ (s.tasks.length : Int) = 0 := by omega
  have q4 : ¬ s.tasks = [] := fun h => by rw [h] at hk; exact absurd hk (Nat.not_lt_zero _)
  have wk : IntKind.wrap .i64 (k : Int) = (k : Int) := wrap_in _ (by omega) (by omega)
  have b1 : k * 6 + 0 + 1 ≤ s.tasks.length * 6 := by omega
  have hset : ∀ gg : Nat, (tB 7 s.tasks s.tasks.length).take (k * 6 + 0) ++ (vs badB : A) :: (tB 7 s.tasks s.tasks.length).drop (k * 6 + 0 + 1) = (tB 7 s.tasks s.tasks.length).take (k * 6 + 0) ++ (vs badB : A) :: (tB 7 s.tasks s.tasks.length).drop (k * 6 + 0 + 1) := fun _ => rfl
  have mT2 : ∀ (gg : Nat) (a0 a1 a2 a3 a4 a5 : List A) (x : List A), ((tB 7 s.tasks s.tasks.length).take (k * 6 + 0) ++ (vs badB : A) :: (tB 7 s.tasks s.tasks.length).drop (k * 6 + 0 + 1)).mapM (frzC ([a0, a1, a2, a3, a4, a5] ++ (jB s.tasks s.tasks.length ++ [x])) 2) = some ((s.tasks.set k (spT s 0 s.tasks[k])).flatMap Tk.c) := fun gg a0 a1 a2 a3 a4 a5 x => by
    rw [mapM_set (mT a0 a1 a2 a3 a4 a5 x) (v' := vs badB) rfl (by omega)]
    congr 1
    exact set_tk hk (by decide) rfl
  have l2 : ∀ gg : Nat, ((tB 7 s.tasks s.tasks.length).take (k * 6 + 0) ++ (vs badB : A) :: (tB 7 s.tasks s.tasks.length).drop (k * 6 + 0 + 1)).length = s.tasks.length * 6 := fun gg => by
    rw [List.length_append, List.length_cons, List.length_take, List.length_drop, hTl]; omega
  generalize (s.tasks.set k (spT s 0 s.tasks[k])).flatMap Tk.c = TF2 at *
  generalize tB 7 s.tasks s.tasks.length = T at *
  generalize jB s.tasks s.tasks.length = J at *
  try simp only [Nat.add_zero] at mT2 l2 b1
  have tT : T.take (s.tasks.length * 6) = T := List.take_of_length_le (by omega)
  try unfold badB at mT2 l2
  have mT2 := mT2 0
  have l2 := l2 0
  obtain ⟨T2, hT2⟩ : ∃ T2, T.take (k * 6) ++ (vs ⟨#[66, 97, 100]⟩ : A) :: T.drop (k * 6 + 1) = T2 := ⟨_, rfl⟩
  rw [hT2] at mT2 l2
  have t2T : T2.take (s.tasks.length * 6) = T2 := List.take_of_length_le (by omega)
  generalize hTF : s.tasks.flatMap Tk.c = TF at *
  have hJg : ∀ x : List A, (J ++ [x])[J.length]? = some x := fun x => by simp
  have hJt : ∀ x y : List A, (J ++ [x]).set J.length y = J ++ [y] := fun x y => by simp
  have hh0 : s.homes = [] := List.eq_nil_of_length_eq_zero hh
  simp only [St.c, slI, slT, cX0, hTF] at h2 h3 h4 h5 hS hC hM
  simp only [hh0, List.map_nil, List.length_nil] at h2 h3 h4 h5 hS hC hM
  generalize hCC : s.cores.map vi = CC at *
  skip
  simp only [List.cons_append, List.nil_append] at mT mT2 h5
  have w2 : IntKind.wrap .u8 0 = 0 := by decide
  simp (maxSteps := 1000000) [C4v, push_cast, -Int.not_lt, -Int.not_le, ↓evI_call, ↓evI_calli, ↓evI_calln, ↓evI_callz, ↓evI_callv, ↓evI_mxn, St.c, slI, slT, hCC, hh0, hTF, h1, h2, h3, h4, h5, hS, hC, hM, hw, w2, hz, z3, wk, q2, q3, q4, hk, b1, aft, strip, A.cp1, A.scal, A.isVal, tcp, ccp, hcp, jcp, lC, lH, mC, mH, tC, tH, tT, hT2, t2T, mT, mT2, l2, hTl, hJg, hJt, eqz, -List.all_eq_true]
  exact ⟨_, rfl⟩
theorem sp_0_1 (s : St) (hs : Sm s) (g : Good s) (hh : s.homes.length = 0) (w z : Int) (k : Nat) (hk : k < s.tasks.length) (hw : w.tmod 10 = 1) (hz : z.tmod s.tasks.length = k) (z3 : IntKind.wrap .i64 z = z)
    (h1 : pureOf (callL tabC extC) false 15 [] = some (vb true)) (h2 : pureOf (callL tabC extC) false 16 [.agg (St.c s)] = some (vb true)) (h3 : pureOf (callL tabC extC) false 22 [.agg (St.c s)] = some (vb true)) :
    Ans (vb true) [] (callL tabC extC 4 [.agg (St.c s), vu8 w, vu8 z] []) := by
  rw [callL_tab _ _ rfl (rfl : tabC 4 = some C4v) rfl]
  have hn := g.tasks
  have h4 := pureC (by decide) (copied_p s hs (by omega))
  have h5 := copyB0 s hs g hh
  have hS := pureC (by decide) (pure_vb (k := false) (sameR_is s s hs.fits))
  rw [sameSt_self] at hS
  have hC := pureC (by decide) (pure_tup2 (k := false) (check_is _ (sp_sm hs hk 1).fits))
  have hchk := sp_chk g hk (spT s 1 s.tasks[k]) (sp_err g hk 1 (by decide)) (by decide)
  have hM := pureC (by decide) (pure_vb (k := false) (sameS_is (twS s k (spT s 1 s.tasks[k])) s (sp_sm hs hk 1).fits))
  rw [same_no g hchk (by decide)] at hM
  have hE : spE 1 = 10 := rfl
  rw [hchk] at hC
  simp only [hE] at hC
  have hsc : St.c (twS s k (spT s 1 s.tasks[k])) = [vi s.proto, slI s.cores, slI s.homes, .sl ((s.tasks.set k (spT s 1 s.tasks[k])).flatMap Tk.c) s.tasks.length 0] := by
    have e : s.tasks.length = (s.tasks.set k (spT s 1 s.tasks[k])).length := (List.length_set ..).symm
    rw [e]; rfl
  rw [hsc] at hC hM
  have hTl := tB_len 7 s.tasks s.tasks.length
  have tcp := tB_cp 7 s.tasks s.tasks.length
  have ccp : (s.cores.map vi).map A.cp1 = s.cores.map vi := plain_cp (plain_vi _)
  have hcp : (s.homes.map vi).map A.cp1 = s.homes.map vi := plain_cp (plain_vi _)
  have jcp := jB_map A.cp1 (fun _ h => plain_cp h) s.tasks s.tasks.length
  have lC : (s.cores.map vi).length = s.cores.length := List.length_map _
  have lH : (s.homes.map vi).length = s.homes.length := List.length_map _
  have mC := fun (bx : Bx) (d : Nat) => plain_mapM (bx := bx) (d := d) (plain_vi s.cores)
  have mH := fun (bx : Bx) (d : Nat) => plain_mapM (bx := bx) (d := d) (plain_vi s.homes)
  have tC : (s.cores.map vi).take s.cores.length = s.cores.map vi := List.take_of_length_le (by omega)
  have tH : (s.homes.map vi).take s.homes.length = s.homes.map vi := List.take_of_length_le (by omega)
  have mT : ∀ (a0 a1 a2 a3 a4 a5 : List A) (x : List A), (tB 7 s.tasks s.tasks.length).mapM (frzC ([a0, a1, a2, a3, a4, a5] ++ (jB s.tasks s.tasks.length ++ [x])) 2) = some (s.tasks.flatMap Tk.c) := fun a0 a1 a2 a3 a4 a5 x => by
    refine tB_frz _ 1 7 s.tasks s.tasks rfl fun j t u ht hu => ?_
    rw [ht] at hu
    cases hu
    refine ⟨⟨rfl, rfl, rfl, rfl, rfl, rfl⟩, ?_⟩
    have hj := (List.getElem?_eq_some_iff.1 ht).1
    have hl := jB_len s.tasks s.tasks.length (Nat.le_refl _)
    rw [List.getElem?_append_right (by show 6 ≤ _; omega)]
    show (jB s.tasks s.tasks.length ++ [x])[7 + 2 * j - 6]? = _
    rw [show 7 + 2 * j - 6 = 2 * j + 1 by omega, List.getElem?_append_left (by omega)]
    exact jB_get s.tasks j t ht
  have q2 : (k : Int) < s.tasks.length := by omega
  have q3 : ¬ (s.tasks.length : Int) = 0 := by omega
  have q4 : ¬ s.tasks = [] := fun h => by rw [h] at hk; exact absurd hk (Nat.not_lt_zero _)
  have wk : IntKind.wrap .i64 (k : Int) = (k : Int) := wrap_in _ (by omega) (by omega)
  have b1 : k * 6 + 2 + 1 ≤ s.tasks.length * 6 := by omega
  have g1 := tB_get 7 s.tasks k 1 hk (by decide)
  have e1 : (Tk.c s.tasks[k])[1]? = some (vi s.tasks[k].period) := rfl
  rw [e1] at g1
  have pp := (g.task _ (List.getElem_mem hk)).period
  have wp : IntKind.wrap .i64 (s.tasks[k].period + 1) = s.tasks[k].period + 1 := wrap_in _ (by omega) (by omega)
  have b2 : k * 6 + 1 + 1 ≤ s.tasks.length * 6 := by omega
  have hset : ∀ gg : Nat, (tB 7 s.tasks s.tasks.length).take (k * 6 + 2) ++ (vi (s.tasks[k].period + 1) : A) :: (tB 7 s.tasks s.tasks.length).drop (k * 6 + 2 + 1) = (tB 7 s.tasks s.tasks.length).take (k * 6 + 2) ++ (vi (s.tasks[k].period + 1) : A) :: (tB 7 s.tasks s.tasks.length).drop (k * 6 + 2 + 1) := fun _ => rfl
  have mT2 : ∀ (gg : Nat) (a0 a1 a2 a3 a4 a5 : List A) (x : List A), ((tB 7 s.tasks s.tasks.length).take (k * 6 + 2) ++ (vi (s.tasks[k].period + 1) : A) :: (tB 7 s.tasks s.tasks.length).drop (k * 6 + 2 + 1)).mapM (frzC ([a0, a1, a2, a3, a4, a5] ++ (jB s.tasks s.tasks.length ++ [x])) 2) = some ((s.tasks.set k (spT s 1 s.tasks[k])).flatMap Tk.c) := fun gg a0 a1 a2 a3 a4 a5 x => by
    rw [mapM_set (mT a0 a1 a2 a3 a4 a5 x) (v' := vi (s.tasks[k].period + 1)) rfl (by omega)]
    congr 1
    exact set_tk hk (by decide) rfl
  have l2 : ∀ gg : Nat, ((tB 7 s.tasks s.tasks.length).take (k * 6 + 2) ++ (vi (s.tasks[k].period + 1) : A) :: (tB 7 s.tasks s.tasks.length).drop (k * 6 + 2 + 1)).length = s.tasks.length * 6 := fun gg => by
    rw [List.length_append, List.length_cons, List.length_take, List.length_drop, hTl]; omega
  generalize (s.tasks.set k (spT s 1 s.tasks[k])).flatMap Tk.c = TF2 at *
  generalize tB 7 s.tasks s.tasks.length = T at *
  generalize jB s.tasks s.tasks.length = J at *
  try simp only [Nat.add_zero] at mT2 l2 b1
  have tT : T.take (s.tasks.length * 6) = T := List.take_of_length_le (by omega)
  try unfold badB at mT2 l2
  have mT2 := mT2 0
  have l2 := l2 0
  obtain ⟨T2, hT2⟩ : ∃ T2, T.take (k * 6 + 2) ++ (vi (s.tasks[k].period + 1) : A) :: T.drop (k * 6 + 2 + 1) = T2 := ⟨_, rfl⟩
  rw [hT2] at mT2 l2
  have t2T : T2.take (s.tasks.length * 6) = T2 := List.take_of_length_le (by omega)
  generalize hTF : s.tasks.flatMap Tk.c = TF at *
  have hJg : ∀ x : List A, (J ++ [x])[J.length]? = some x := fun x => by simp
  have hJt : ∀ x y : List A, (J ++ [x]).set J.length y = J ++ [y] := fun x y => by simp
  have hh0 : s.homes = [] := List.eq_nil_of_length_eq_zero hh
  simp only [St.c, slI, slT, cX0, hTF] at h2 h3 h4 h5 hS hC hM
  simp only [hh0, List.map_nil, List.length_nil] at h2 h3 h4 h5 hS hC hM
  generalize hCC : s.cores.map vi = CC at *
  skip
  simp only [List.cons_append, List.nil_append] at mT mT2 h5
  have w2 : IntKind.wrap .u8 1 = 1 := by decide
  simp (maxSteps := 1000000) [C4v, push_cast, -Int.not_lt, -Int.not_le, ↓evI_call, ↓evI_calli, ↓evI_calln, ↓evI_callz, ↓evI_callv, ↓evI_mxn, St.c, slI, slT, hCC, hh0, hTF, h1, h2, h3, h4, h5, hS, hC, hM, hw, w2, hz, z3, wk, q2, q3, q4, hk, b1, g1, wp, b2, aft, strip, A.cp1, A.scal, A.isVal, tcp, ccp, hcp, jcp, lC, lH, mC, mH, tC, tH, tT, hT2, t2T, mT, mT2, l2, hTl, hJg, hJt, eqz, -List.all_eq_true]
  exact ⟨_, rfl⟩
theorem sp_0_2 (s : St) (hs : Sm s) (g : Good s) (hh : s.homes.length = 0) (w z : Int) (k : Nat) (hk : k < s.tasks.length) (hw : w.tmod 10 = 2) (hz : z.tmod s.tasks.length = k) (z3 : IntKind.wrap .i64 z = z)
    (h1 : pureOf (callL tabC extC) false 15 [] = some (vb true)) (h2 : pureOf (callL tabC extC) false 16 [.agg (St.c s)] = some (vb true)) (h3 : pureOf (callL tabC extC) false 22 [.agg (St.c s)] = some (vb true)) :
    Ans (vb true) [] (callL tabC extC 4 [.agg (St.c s), vu8 w, vu8 z] []) := by
  rw [callL_tab _ _ rfl (rfl : tabC 4 = some C4v) rfl]
  have hn := g.tasks
  have h4 := pureC (by decide) (copied_p s hs (by omega))
  have h5 := copyB0 s hs g hh
  have hS := pureC (by decide) (pure_vb (k := false) (sameR_is s s hs.fits))
  rw [sameSt_self] at hS
  have hC := pureC (by decide) (pure_tup2 (k := false) (check_is _ (sp_sm hs hk 2).fits))
  have hchk := sp_chk g hk (spT s 2 s.tasks[k]) (sp_err g hk 2 (by decide)) (by decide)
  have hM := pureC (by decide) (pure_vb (k := false) (sameS_is (twS s k (spT s 2 s.tasks[k])) s (sp_sm hs hk 2).fits))
  rw [same_no g hchk (by decide)] at hM
  have hE : spE 2 = 10 := rfl
  rw [hchk] at hC
  simp only [hE] at hC
  have hsc : St.c (twS s k (spT s 2 s.tasks[k])) = [vi s.proto, slI s.cores, slI s.homes, .sl ((s.tasks.set k (spT s 2 s.tasks[k])).flatMap Tk.c) s.tasks.length 0] := by
    have e : s.tasks.length = (s.tasks.set k (spT s 2 s.tasks[k])).length := (List.length_set ..).symm
    rw [e]; rfl
  rw [hsc] at hC hM
  have hTl := tB_len 7 s.tasks s.tasks.length
  have tcp := tB_cp 7 s.tasks s.tasks.length
  have ccp : (s.cores.map vi).map A.cp1 = s.cores.map vi := plain_cp (plain_vi _)
  have hcp : (s.homes.map vi).map A.cp1 = s.homes.map vi := plain_cp (plain_vi _)
  have jcp := jB_map A.cp1 (fun _ h => plain_cp h) s.tasks s.tasks.length
  have lC : (s.cores.map vi).length = s.cores.length := List.length_map _
  have lH : (s.homes.map vi).length = s.homes.length := List.length_map _
  have mC := fun (bx : Bx) (d : Nat) => plain_mapM (bx := bx) (d := d) (plain_vi s.cores)
  have mH := fun (bx : Bx) (d : Nat) => plain_mapM (bx := bx) (d := d) (plain_vi s.homes)
  have tC : (s.cores.map vi).take s.cores.length = s.cores.map vi := List.take_of_length_le (by omega)
  have tH : (s.homes.map vi).take s.homes.length = s.homes.map vi := List.take_of_length_le (by omega)
  have mT : ∀ (a0 a1 a2 a3 a4 a5 : List A) (x : List A), (tB 7 s.tasks s.tasks.length).mapM (frzC ([a0, a1, a2, a3, a4, a5] ++ (jB s.tasks s.tasks.length ++ [x])) 2) = some (s.tasks.flatMap Tk.c) := fun a0 a1 a2 a3 a4 a5 x => by
    refine tB_frz _ 1 7 s.tasks s.tasks rfl fun j t u ht hu => ?_
    rw [ht] at hu
    cases hu
    refine ⟨⟨rfl, rfl, rfl, rfl, rfl, rfl⟩, ?_⟩
    have hj := (List.getElem?_eq_some_iff.1 ht).1
    have hl := jB_len s.tasks s.tasks.length (Nat.le_refl _)
    rw [List.getElem?_append_right (by show 6 ≤ _; omega)]
    show (jB s.tasks s.tasks.length ++ [x])[7 + 2 * j - 6]? = _
    rw [show 7 + 2 * j - 6 = 2 * j + 1 by omega, List.getElem?_append_left (by omega)]
    exact jB_get s.tasks j t ht
  have q2 : (k : Int) < s.tasks.length := by omega
  have q3 : ¬ (s.tasks.length : Int) = 0 := by omega
  have q4 : ¬ s.tasks = [] := fun h => by rw [h] at hk; exact absurd hk (Nat.not_lt_zero _)
  have wk : IntKind.wrap .i64 (k : Int) = (k : Int) := wrap_in _ (by omega) (by omega)
  have b1 : k * 6 + 3 + 1 ≤ s.tasks.length * 6 := by omega
  have hset : ∀ gg : Nat, (tB 7 s.tasks s.tasks.length).take (k * 6 + 3) ++ (vi 1001 : A) :: (tB 7 s.tasks s.tasks.length).drop (k * 6 + 3 + 1) = (tB 7 s.tasks s.tasks.length).take (k * 6 + 3) ++ (vi 1001 : A) :: (tB 7 s.tasks s.tasks.length).drop (k * 6 + 3 + 1) := fun _ => rfl
  have mT2 : ∀ (gg : Nat) (a0 a1 a2 a3 a4 a5 : List A) (x : List A), ((tB 7 s.tasks s.tasks.length).take (k * 6 + 3) ++ (vi 1001 : A) :: (tB 7 s.tasks s.tasks.length).drop (k * 6 + 3 + 1)).mapM (frzC ([a0, a1, a2, a3, a4, a5] ++ (jB s.tasks s.tasks.length ++ [x])) 2) = some ((s.tasks.set k (spT s 2 s.tasks[k])).flatMap Tk.c) := fun gg a0 a1 a2 a3 a4 a5 x => by
    rw [mapM_set (mT a0 a1 a2 a3 a4 a5 x) (v' := vi 1001) rfl (by omega)]
    congr 1
    exact set_tk hk (by decide) rfl
  have l2 : ∀ gg : Nat, ((tB 7 s.tasks s.tasks.length).take (k * 6 + 3) ++ (vi 1001 : A) :: (tB 7 s.tasks s.tasks.length).drop (k * 6 + 3 + 1)).length = s.tasks.length * 6 := fun gg => by
    rw [List.length_append, List.length_cons, List.length_take, List.length_drop, hTl]; omega
  generalize (s.tasks.set k (spT s 2 s.tasks[k])).flatMap Tk.c = TF2 at *
  generalize tB 7 s.tasks s.tasks.length = T at *
  generalize jB s.tasks s.tasks.length = J at *
  try simp only [Nat.add_zero] at mT2 l2 b1
  have tT : T.take (s.tasks.length * 6) = T := List.take_of_length_le (by omega)
  try unfold badB at mT2 l2
  have mT2 := mT2 0
  have l2 := l2 0
  obtain ⟨T2, hT2⟩ : ∃ T2, T.take (k * 6 + 3) ++ (vi 1001 : A) :: T.drop (k * 6 + 3 + 1) = T2 := ⟨_, rfl⟩
  rw [hT2] at mT2 l2
  have t2T : T2.take (s.tasks.length * 6) = T2 := List.take_of_length_le (by omega)
  generalize hTF : s.tasks.flatMap Tk.c = TF at *
  have hJg : ∀ x : List A, (J ++ [x])[J.length]? = some x := fun x => by simp
  have hJt : ∀ x y : List A, (J ++ [x]).set J.length y = J ++ [y] := fun x y => by simp
  have hh0 : s.homes = [] := List.eq_nil_of_length_eq_zero hh
  simp only [St.c, slI, slT, cX0, hTF] at h2 h3 h4 h5 hS hC hM
  simp only [hh0, List.map_nil, List.length_nil] at h2 h3 h4 h5 hS hC hM
  generalize hCC : s.cores.map vi = CC at *
  skip
  simp only [List.cons_append, List.nil_append] at mT mT2 h5
  have w2 : IntKind.wrap .u8 2 = 2 := by decide
  simp (maxSteps := 1000000) [C4v, push_cast, -Int.not_lt, -Int.not_le, ↓evI_call, ↓evI_calli, ↓evI_calln, ↓evI_callz, ↓evI_callv, ↓evI_mxn, St.c, slI, slT, hCC, hh0, hTF, h1, h2, h3, h4, h5, hS, hC, hM, hw, w2, hz, z3, wk, q2, q3, q4, hk, b1, aft, strip, A.cp1, A.scal, A.isVal, tcp, ccp, hcp, jcp, lC, lH, mC, mH, tC, tH, tT, hT2, t2T, mT, mT2, l2, hTl, hJg, hJt, eqz, -List.all_eq_true]
  exact ⟨_, rfl⟩
theorem sp_0_3 (s : St) (hs : Sm s) (g : Good s) (hh : s.homes.length = 0) (w z : Int) (k : Nat) (hk : k < s.tasks.length) (hw : w.tmod 10 = 3) (hz : z.tmod s.tasks.length = k) (z3 : IntKind.wrap .i64 z = z)
    (h1 : pureOf (callL tabC extC) false 15 [] = some (vb true)) (h2 : pureOf (callL tabC extC) false 16 [.agg (St.c s)] = some (vb true)) (h3 : pureOf (callL tabC extC) false 22 [.agg (St.c s)] = some (vb true)) :
    Ans (vb true) [] (callL tabC extC 4 [.agg (St.c s), vu8 w, vu8 z] []) := by
  rw [callL_tab _ _ rfl (rfl : tabC 4 = some C4v) rfl]
  have hn := g.tasks
  have h4 := pureC (by decide) (copied_p s hs (by omega))
  have h5 := copyB0 s hs g hh
  have hS := pureC (by decide) (pure_vb (k := false) (sameR_is s s hs.fits))
  rw [sameSt_self] at hS
  have hC := pureC (by decide) (pure_tup2 (k := false) (check_is _ (sp_sm hs hk 3).fits))
  have hchk := sp_chk g hk (spT s 3 s.tasks[k]) (sp_err g hk 3 (by decide)) (by decide)
  have hM := pureC (by decide) (pure_vb (k := false) (sameS_is (twS s k (spT s 3 s.tasks[k])) s (sp_sm hs hk 3).fits))
  rw [same_no g hchk (by decide)] at hM
  have hE : spE 3 = 16 := rfl
  rw [hchk] at hC
  simp only [hE] at hC
  have hsc : St.c (twS s k (spT s 3 s.tasks[k])) = [vi s.proto, slI s.cores, slI s.homes, .sl ((s.tasks.set k (spT s 3 s.tasks[k])).flatMap Tk.c) s.tasks.length 0] := by
    have e : s.tasks.length = (s.tasks.set k (spT s 3 s.tasks[k])).length := (List.length_set ..).symm
    rw [e]; rfl
  rw [hsc] at hC hM
  have hTl := tB_len 7 s.tasks s.tasks.length
  have tcp := tB_cp 7 s.tasks s.tasks.length
  have ccp : (s.cores.map vi).map A.cp1 = s.cores.map vi := plain_cp (plain_vi _)
  have hcp : (s.homes.map vi).map A.cp1 = s.homes.map vi := plain_cp (plain_vi _)
  have jcp := jB_map A.cp1 (fun _ h => plain_cp h) s.tasks s.tasks.length
  have lC : (s.cores.map vi).length = s.cores.length := List.length_map _
  have lH : (s.homes.map vi).length = s.homes.length := List.length_map _
  have mC := fun (bx : Bx) (d : Nat) => plain_mapM (bx := bx) (d := d) (plain_vi s.cores)
  have mH := fun (bx : Bx) (d : Nat) => plain_mapM (bx := bx) (d := d) (plain_vi s.homes)
  have tC : (s.cores.map vi).take s.cores.length = s.cores.map vi := List.take_of_length_le (by omega)
  have tH : (s.homes.map vi).take s.homes.length = s.homes.map vi := List.take_of_length_le (by omega)
  have mT : ∀ (a0 a1 a2 a3 a4 a5 : List A) (x : List A), (tB 7 s.tasks s.tasks.length).mapM (frzC ([a0, a1, a2, a3, a4, a5] ++ (jB s.tasks s.tasks.length ++ [x])) 2) = some (s.tasks.flatMap Tk.c) := fun a0 a1 a2 a3 a4 a5 x => by
    refine tB_frz _ 1 7 s.tasks s.tasks rfl fun j t u ht hu => ?_
    rw [ht] at hu
    cases hu
    refine ⟨⟨rfl, rfl, rfl, rfl, rfl, rfl⟩, ?_⟩
    have hj := (List.getElem?_eq_some_iff.1 ht).1
    have hl := jB_len s.tasks s.tasks.length (Nat.le_refl _)
    rw [List.getElem?_append_right (by show 6 ≤ _; omega)]
    show (jB s.tasks s.tasks.length ++ [x])[7 + 2 * j - 6]? = _
    rw [show 7 + 2 * j - 6 = 2 * j + 1 by omega, List.getElem?_append_left (by omega)]
    exact jB_get s.tasks j t ht
  have q2 : (k : Int) < s.tasks.length := by omega
  have q3 : ¬ (s.tasks.length : Int) = 0 := by omega
  have q4 : ¬ s.tasks = [] := fun h => by rw [h] at hk; exact absurd hk (Nat.not_lt_zero _)
  have wk : IntKind.wrap .i64 (k : Int) = (k : Int) := wrap_in _ (by omega) (by omega)
  have b1 : k * 6 + 4 + 1 ≤ s.tasks.length * 6 := by omega
  have hset : ∀ gg : Nat, (tB 7 s.tasks s.tasks.length).take (k * 6 + 4) ++ (vi (s.cores.length : Nat) : A) :: (tB 7 s.tasks s.tasks.length).drop (k * 6 + 4 + 1) = (tB 7 s.tasks s.tasks.length).take (k * 6 + 4) ++ (vi (s.cores.length : Nat) : A) :: (tB 7 s.tasks s.tasks.length).drop (k * 6 + 4 + 1) := fun _ => rfl
  have mT2 : ∀ (gg : Nat) (a0 a1 a2 a3 a4 a5 : List A) (x : List A), ((tB 7 s.tasks s.tasks.length).take (k * 6 + 4) ++ (vi (s.cores.length : Nat) : A) :: (tB 7 s.tasks s.tasks.length).drop (k * 6 + 4 + 1)).mapM (frzC ([a0, a1, a2, a3, a4, a5] ++ (jB s.tasks s.tasks.length ++ [x])) 2) = some ((s.tasks.set k (spT s 3 s.tasks[k])).flatMap Tk.c) := fun gg a0 a1 a2 a3 a4 a5 x => by
    rw [mapM_set (mT a0 a1 a2 a3 a4 a5 x) (v' := vi (s.cores.length : Nat)) rfl (by omega)]
    congr 1
    exact set_tk hk (by decide) rfl
  have l2 : ∀ gg : Nat, ((tB 7 s.tasks s.tasks.length).take (k * 6 + 4) ++ (vi (s.cores.length : Nat) : A) :: (tB 7 s.tasks s.tasks.length).drop (k * 6 + 4 + 1)).length = s.tasks.length * 6 := fun gg => by
    rw [List.length_append, List.length_cons, List.length_take, List.length_drop, hTl]; omega
  generalize (s.tasks.set k (spT s 3 s.tasks[k])).flatMap Tk.c = TF2 at *
  generalize tB 7 s.tasks s.tasks.length = T at *
  generalize jB s.tasks s.tasks.length = J at *
  try simp only [Nat.add_zero] at mT2 l2 b1
  have tT : T.take (s.tasks.length * 6) = T := List.take_of_length_le (by omega)
  try unfold badB at mT2 l2
  have mT2 := mT2 0
  have l2 := l2 0
  obtain ⟨T2, hT2⟩ : ∃ T2, T.take (k * 6 + 4) ++ (vi (s.cores.length : Nat) : A) :: T.drop (k * 6 + 4 + 1) = T2 := ⟨_, rfl⟩
  rw [hT2] at mT2 l2
  have t2T : T2.take (s.tasks.length * 6) = T2 := List.take_of_length_le (by omega)
  generalize hTF : s.tasks.flatMap Tk.c = TF at *
  have hJg : ∀ x : List A, (J ++ [x])[J.length]? = some x := fun x => by simp
  have hJt : ∀ x y : List A, (J ++ [x]).set J.length y = J ++ [y] := fun x y => by simp
  have hh0 : s.homes = [] := List.eq_nil_of_length_eq_zero hh
  simp only [St.c, slI, slT, cX0, hTF] at h2 h3 h4 h5 hS hC hM
  simp only [hh0, List.map_nil, List.length_nil] at h2 h3 h4 h5 hS hC hM
  generalize hCC : s.cores.map vi = CC at *
  skip
  simp only [List.cons_append, List.nil_append] at mT mT2 h5
  have w2 : IntKind.wrap .u8 3 = 3 := by decide
  simp (maxSteps := 1000000) [C4v, push_cast, -Int.not_lt, -Int.not_le, ↓evI_call, ↓evI_calli, ↓evI_calln, ↓evI_callz, ↓evI_callv, ↓evI_mxn, St.c, slI, slT, hCC, hh0, hTF, h1, h2, h3, h4, h5, hS, hC, hM, hw, w2, hz, z3, wk, q2, q3, q4, hk, b1, aft, strip, A.cp1, A.scal, A.isVal, tcp, ccp, hcp, jcp, lC, lH, mC, mH, tC, tH, tT, hT2, t2T, mT, mT2, l2, hTl, hJg, hJt, eqz, -List.all_eq_true]
  exact ⟨_, rfl⟩
theorem sp_0_4 (s : St) (hs : Sm s) (g : Good s) (hh : s.homes.length = 0) (w z : Int) (k : Nat) (hk : k < s.tasks.length) (hw : w.tmod 10 = 4) (hz : z.tmod s.tasks.length = k) (z3 : IntKind.wrap .i64 z = z)
    (h1 : pureOf (callL tabC extC) false 15 [] = some (vb true)) (h2 : pureOf (callL tabC extC) false 16 [.agg (St.c s)] = some (vb true)) (h3 : pureOf (callL tabC extC) false 22 [.agg (St.c s)] = some (vb true)) :
    Ans (vb true) [] (callL tabC extC 4 [.agg (St.c s), vu8 w, vu8 z] []) := by
  rw [callL_tab _ _ rfl (rfl : tabC 4 = some C4v) rfl]
  have hn := g.tasks
  have h4 := pureC (by decide) (copied_p s hs (by omega))
  have h5 := copyB0 s hs g hh
  have hS := pureC (by decide) (pure_vb (k := false) (sameR_is s s hs.fits))
  rw [sameSt_self] at hS
  have hC := pureC (by decide) (pure_tup2 (k := false) (check_is _ (sp_sm hs hk 4).fits))
  have hchk := sp_chk g hk (spT s 4 s.tasks[k]) (sp_err g hk 4 (by decide)) (by decide)
  have hM := pureC (by decide) (pure_vb (k := false) (sameS_is (twS s k (spT s 4 s.tasks[k])) s (sp_sm hs hk 4).fits))
  rw [same_no g hchk (by decide)] at hM
  have hE : spE 4 = 15 := rfl
  rw [hchk] at hC
  simp only [hE] at hC
  have hsc : St.c (twS s k (spT s 4 s.tasks[k])) = [vi s.proto, slI s.cores, slI s.homes, .sl ((s.tasks.set k (spT s 4 s.tasks[k])).flatMap Tk.c) s.tasks.length 0] := by
    have e : s.tasks.length = (s.tasks.set k (spT s 4 s.tasks[k])).length := (List.length_set ..).symm
    rw [e]; rfl
  rw [hsc] at hC hM
  have hTl := tB_len 7 s.tasks s.tasks.length
  have tcp := tB_cp 7 s.tasks s.tasks.length
  have ccp : (s.cores.map vi).map A.cp1 = s.cores.map vi := plain_cp (plain_vi _)
  have hcp : (s.homes.map vi).map A.cp1 = s.homes.map vi := plain_cp (plain_vi _)
  have jcp := jB_map A.cp1 (fun _ h => plain_cp h) s.tasks s.tasks.length
  have lC : (s.cores.map vi).length = s.cores.length := List.length_map _
  have lH : (s.homes.map vi).length = s.homes.length := List.length_map _
  have mC := fun (bx : Bx) (d : Nat) => plain_mapM (bx := bx) (d := d) (plain_vi s.cores)
  have mH := fun (bx : Bx) (d : Nat) => plain_mapM (bx := bx) (d := d) (plain_vi s.homes)
  have tC : (s.cores.map vi).take s.cores.length = s.cores.map vi := List.take_of_length_le (by omega)
  have tH : (s.homes.map vi).take s.homes.length = s.homes.map vi := List.take_of_length_le (by omega)
  have mT : ∀ (a0 a1 a2 a3 a4 a5 : List A) (x : List A), (tB 7 s.tasks s.tasks.length).mapM (frzC ([a0, a1, a2, a3, a4, a5] ++ (jB s.tasks s.tasks.length ++ [x])) 2) = some (s.tasks.flatMap Tk.c) := fun a0 a1 a2 a3 a4 a5 x => by
    refine tB_frz _ 1 7 s.tasks s.tasks rfl fun j t u ht hu => ?_
    rw [ht] at hu
    cases hu
    refine ⟨⟨rfl, rfl, rfl, rfl, rfl, rfl⟩, ?_⟩
    have hj := (List.getElem?_eq_some_iff.1 ht).1
    have hl := jB_len s.tasks s.tasks.length (Nat.le_refl _)
    rw [List.getElem?_append_right (by show 6 ≤ _; omega)]
    show (jB s.tasks s.tasks.length ++ [x])[7 + 2 * j - 6]? = _
    rw [show 7 + 2 * j - 6 = 2 * j + 1 by omega, List.getElem?_append_left (by omega)]
    exact jB_get s.tasks j t ht
  have q2 : (k : Int) < s.tasks.length := by omega
  have q3 : ¬ (s.tasks.length : Int) = 0 := by omega
  have q4 : ¬ s.tasks = [] := fun h => by rw [h] at hk; exact absurd hk (Nat.not_lt_zero _)
  have wk : IntKind.wrap .i64 (k : Int) = (k : Int) := wrap_in _ (by omega) (by omega)
  have b1 : k * 6 + 5 + 1 ≤ s.tasks.length * 6 := by omega
  have hset : ∀ gg : Nat, (tB 7 s.tasks s.tasks.length).take (k * 6 + 5) ++ (.sl [] 0 1 : A) :: (tB 7 s.tasks s.tasks.length).drop (k * 6 + 5 + 1) = (tB 7 s.tasks s.tasks.length).take (k * 6 + 5) ++ (.sl [] 0 1 : A) :: (tB 7 s.tasks s.tasks.length).drop (k * 6 + 5 + 1) := fun _ => rfl
  have mT2 : ∀ (gg : Nat) (a0 a1 a2 a3 a4 a5 : List A) (x : List A), ((tB 7 s.tasks s.tasks.length).take (k * 6 + 5) ++ (.sl [] 0 1 : A) :: (tB 7 s.tasks s.tasks.length).drop (k * 6 + 5 + 1)).mapM (frzC ([a0, a1, a2, a3, a4, a5] ++ (jB s.tasks s.tasks.length ++ [x])) 2) = some ((s.tasks.set k (spT s 4 s.tasks[k])).flatMap Tk.c) := fun gg a0 a1 a2 a3 a4 a5 x => by
    rw [mapM_set (mT a0 a1 a2 a3 a4 a5 x) (v' := slP []) rfl (by omega)]
    congr 1
    exact set_tk hk (by decide) rfl
  have l2 : ∀ gg : Nat, ((tB 7 s.tasks s.tasks.length).take (k * 6 + 5) ++ (.sl [] 0 1 : A) :: (tB 7 s.tasks s.tasks.length).drop (k * 6 + 5 + 1)).length = s.tasks.length * 6 := fun gg => by
    rw [List.length_append, List.length_cons, List.length_take, List.length_drop, hTl]; omega
  generalize (s.tasks.set k (spT s 4 s.tasks[k])).flatMap Tk.c = TF2 at *
  generalize tB 7 s.tasks s.tasks.length = T at *
  generalize jB s.tasks s.tasks.length = J at *
  try simp only [Nat.add_zero] at mT2 l2 b1
  have tT : T.take (s.tasks.length * 6) = T := List.take_of_length_le (by omega)
  try unfold badB at mT2 l2
  have mT2 := mT2 0
  have l2 := l2 0
  obtain ⟨T2, hT2⟩ : ∃ T2, T.take (k * 6 + 5) ++ (.sl [] 0 1 : A) :: T.drop (k * 6 + 5 + 1) = T2 := ⟨_, rfl⟩
  rw [hT2] at mT2 l2
  have t2T : T2.take (s.tasks.length * 6) = T2 := List.take_of_length_le (by omega)
  generalize hTF : s.tasks.flatMap Tk.c = TF at *
  have hJg : ∀ x : List A, (J ++ [x])[J.length]? = some x := fun x => by simp
  have hJt : ∀ x y : List A, (J ++ [x]).set J.length y = J ++ [y] := fun x y => by simp
  have hh0 : s.homes = [] := List.eq_nil_of_length_eq_zero hh
  simp only [St.c, slI, slT, cX0, hTF] at h2 h3 h4 h5 hS hC hM
  simp only [hh0, List.map_nil, List.length_nil] at h2 h3 h4 h5 hS hC hM
  generalize hCC : s.cores.map vi = CC at *
  skip
  simp only [List.cons_append, List.nil_append] at mT mT2 h5
  have w2 : IntKind.wrap .u8 4 = 4 := by decide
  simp (maxSteps := 1000000) [C4v, push_cast, -Int.not_lt, -Int.not_le, ↓evI_call, ↓evI_calli, ↓evI_calln, ↓evI_callz, ↓evI_callv, ↓evI_mxn, St.c, slI, slT, hCC, hh0, hTF, h1, h2, h3, h4, h5, hS, hC, hM, hw, w2, hz, z3, wk, q2, q3, q4, hk, b1, aft, strip, A.cp1, A.scal, A.isVal, tcp, ccp, hcp, jcp, lC, lH, mC, mH, tC, tH, tT, hT2, t2T, mT, mT2, l2, hTl, hJg, hJt, eqz, -List.all_eq_true]
  exact ⟨_, rfl⟩
theorem sp_0_5 (s : St) (hs : Sm s) (g : Good s) (hh : s.homes.length = 0) (w z : Int) (k : Nat) (hk : k < s.tasks.length) (hw : w.tmod 10 = 5) (hz : z.tmod s.tasks.length = k) (z3 : IntKind.wrap .i64 z = z)
    (h1 : pureOf (callL tabC extC) false 15 [] = some (vb true)) (h2 : pureOf (callL tabC extC) false 16 [.agg (St.c s)] = some (vb true)) (h3 : pureOf (callL tabC extC) false 22 [.agg (St.c s)] = some (vb true)) :
    Ans (vb true) [] (callL tabC extC 4 [.agg (St.c s), vu8 w, vu8 z] []) := by
  rw [callL_tab _ _ rfl (rfl : tabC 4 = some C4v) rfl]
  have hn := g.tasks
  have h4 := pureC (by decide) (copied_p s hs (by omega))
  have h5 := copyB0 s hs g hh
  have hS := pureC (by decide) (pure_vb (k := false) (sameR_is s s hs.fits))
  rw [sameSt_self] at hS
  have hsm : Sm (twS s k (spT s 5 s.tasks[k])) := sp_sm hs hk 5
  have hC := pureC (by decide) (pure_tup2 (k := false) (check_is _ hsm.fits))
  have hchk : chk (twS s k (spT s 5 s.tasks[k])) = ((k : Int), 15) := sp_chk g hk (spT s 5 s.tasks[k]) (sp_err g hk 5 (by decide)) (by decide)
  have hM := pureC (by decide) (pure_vb (k := false) (sameS_is (twS s k (spT s 5 s.tasks[k])) s hsm.fits))
  rw [same_no g hchk (by decide)] at hM
  rw [hchk] at hC
  have hsc : St.c (twS s k (spT s 5 s.tasks[k])) = [vi s.proto, slI s.cores, slI s.homes, .sl ((s.tasks.set k (spT s 5 s.tasks[k])).flatMap Tk.c) s.tasks.length 0] := by
    have e : s.tasks.length = (s.tasks.set k (spT s 5 s.tasks[k])).length := (List.length_set ..).symm
    rw [e]; rfl
  rw [hsc] at hC hM
  have hTl := tB_len 7 s.tasks s.tasks.length
  have tcp := tB_cp 7 s.tasks s.tasks.length
  have ccp : (s.cores.map vi).map A.cp1 = s.cores.map vi := plain_cp (plain_vi _)
  have hcp : (s.homes.map vi).map A.cp1 = s.homes.map vi := plain_cp (plain_vi _)
  have jcp := jB_map A.cp1 (fun _ h => plain_cp h) s.tasks s.tasks.length
  have lC : (s.cores.map vi).length = s.cores.length := List.length_map _
  have lH : (s.homes.map vi).length = s.homes.length := List.length_map _
  have mC := fun (bx : Bx) (d : Nat) => plain_mapM (bx := bx) (d := d) (plain_vi s.cores)
  have mH := fun (bx : Bx) (d : Nat) => plain_mapM (bx := bx) (d := d) (plain_vi s.homes)
  have tC : (s.cores.map vi).take s.cores.length = s.cores.map vi := List.take_of_length_le (by omega)
  have tH : (s.homes.map vi).take s.homes.length = s.homes.map vi := List.take_of_length_le (by omega)
  have mT : ∀ (a0 a1 a2 a3 a4 a5 : List A) (x : List A), (tB 7 s.tasks s.tasks.length).mapM (frzC ([a0, a1, a2, a3, a4, a5] ++ (jB s.tasks s.tasks.length ++ [x])) 2) = some (s.tasks.flatMap Tk.c) := fun a0 a1 a2 a3 a4 a5 x => by
    refine tB_frz _ 1 7 s.tasks s.tasks rfl fun j t u ht hu => ?_
    rw [ht] at hu
    cases hu
    refine ⟨⟨rfl, rfl, rfl, rfl, rfl, rfl⟩, ?_⟩
    have hj := (List.getElem?_eq_some_iff.1 ht).1
    have hl := jB_len s.tasks s.tasks.length (Nat.le_refl _)
    rw [List.getElem?_append_right (by show 6 ≤ _; omega)]
    show (jB s.tasks s.tasks.length ++ [x])[7 + 2 * j - 6]? = _
    rw [show 7 + 2 * j - 6 = 2 * j + 1 by omega, List.getElem?_append_left (by omega)]
    exact jB_get s.tasks j t ht
  have q2 : (k : Int) < s.tasks.length := by omega
  have q3 : ¬ (s.tasks.length : Int) = 0 := by omega
  have q4 : ¬ s.tasks = [] := fun h => by rw [h] at hk; exact absurd hk (Nat.not_lt_zero _)
  have wk : IntKind.wrap .i64 (k : Int) = (k : Int) := wrap_in _ (by omega) (by omega)
  have b5 : k * 6 + 5 + 1 ≤ s.tasks.length * 6 := by omega
  have g5 := tB_get5 7 s.tasks k hk
  rw [show 7 + 2 * k = 2 * k + 7 by omega] at g5
  have kp := (g.task _ (List.getElem_mem hk)).parts
  have p1 : (0 : Int) < s.tasks[k].parts.length := by omega
  have p2 : 0 < s.tasks[k].parts.length := by omega
  have p3 : 1 ≤ s.tasks[k].parts.length := by omega
  obtain ⟨p, ps, hps⟩ : ∃ p ps, s.tasks[k].parts = p :: ps := by
    cases hx : s.tasks[k].parts with
    | nil => rw [hx] at kp; simp at kp
    | cons p ps => exact ⟨p, ps, rfl⟩
  have hsp : (spT s 5 s.tasks[k]).parts = { p with len := 61 } :: ps := by
    unfold spT; simp only [hps]; rfl
  have hl := jB_len s.tasks s.tasks.length (Nat.le_refl _)
  have hget := jB_get s.tasks k s.tasks[k] (List.getElem?_eq_getElem hk)
  obtain ⟨R, hR⟩ : ∃ R, R = ps.flatMap Pt.c := ⟨_, rfl⟩
  have hPC : s.tasks[k].parts.flatMap Pt.c = vi p.kind :: vi p.len :: vi p.res :: R := by rw [hps, hR]; rfl
  rw [hPC] at hget
  have hJp : ∀ x : List A, (jB s.tasks s.tasks.length ++ [x])[2 * k + 1]? = some (vi p.kind :: vi p.len :: vi p.res :: R) := fun x => by rw [List.getElem?_append_left (by omega)]; exact hget
  obtain ⟨J2, hJ2⟩ : ∃ J2, J2 = (jB s.tasks s.tasks.length).set (2 * k + 1) (vi p.kind :: vi 61 :: vi p.res :: R) := ⟨_, rfl⟩
  have hJq : ∀ x : List A, (jB s.tasks s.tasks.length ++ [x]).set (2 * k + 1) (vi p.kind :: vi 61 :: vi p.res :: R) = J2 ++ [x] := fun x => by rw [hJ2, List.set_append_left _ _ (by omega)]
  have hJ2l : J2.length = (jB s.tasks s.tasks.length).length := by rw [hJ2, List.length_set]
  have mT2 : ∀ (a0 a1 a2 a3 a4 a5 : List A) (x : List A), (tB 7 s.tasks s.tasks.length).mapM (frzC ([a0, a1, a2, a3, a4, a5] ++ (J2 ++ [x])) 2) = some ((s.tasks.set k (spT s 5 s.tasks[k])).flatMap Tk.c) := fun a0 a1 a2 a3 a4 a5 x => by
    refine tB_frz _ 1 7 s.tasks _ (List.length_set ..).symm fun j t u ht hu => ?_
    have hj := (List.getElem?_eq_some_iff.1 ht).1
    have hbx : ([a0, a1, a2, a3, a4, a5] ++ (J2 ++ [x]))[7 + 2 * j]? = J2[2 * j + 1]? := by
      rw [List.getElem?_append_right (by show 6 ≤ _; omega)]
      show (J2 ++ [x])[7 + 2 * j - 6]? = _
      rw [show 7 + 2 * j - 6 = 2 * j + 1 by omega, List.getElem?_append_left (by omega)]
    rw [hbx, hJ2]
    by_cases hjk : k = j
    · subst hjk
      rw [List.getElem?_set_self hk] at hu
      cases hu
      have ht2 : t = s.tasks[k] := (Option.some.inj ((List.getElem?_eq_getElem hk).symm.trans ht)).symm
      subst ht2
      refine ⟨⟨rfl, rfl, rfl, rfl, rfl, by rw [hsp, hps]; rfl⟩, ?_⟩
      rw [List.getElem?_set_self (by omega), hsp, hR]; rfl
    · rw [List.getElem?_set_ne hjk] at hu
      rw [ht] at hu
      cases hu
      refine ⟨⟨rfl, rfl, rfl, rfl, rfl, rfl⟩, ?_⟩
      rw [List.getElem?_set_ne (by omega)]
      exact jB_get s.tasks j t ht
  generalize (s.tasks.set k (spT s 5 s.tasks[k])).flatMap Tk.c = TF2 at *
  generalize tB 7 s.tasks s.tasks.length = T at *
  generalize jB s.tasks s.tasks.length = J at *
  have tT : T.take (s.tasks.length * 6) = T := List.take_of_length_le (by omega)
  generalize hTF : s.tasks.flatMap Tk.c = TF at *
  have hJg : ∀ x : List A, (J ++ [x])[J.length]? = some x := fun x => by simp
  have hJt : ∀ x y : List A, (J ++ [x]).set J.length y = J ++ [y] := fun x y => by simp
  have hJ2g : ∀ x : List A, (J2 ++ [x])[J.length]? = some x := fun x => by rw [← hJ2l]; simp
  have g5' : ∀ h : k * 6 + 5 < T.length, T[k * 6 + 5] = .bs (2 * k + 7) s.tasks[k].parts.length 3 := fun h => by rw [List.getElem?_eq_getElem h] at g5; exact Option.some.inj g5
  have hh0 : s.homes = [] := List.eq_nil_of_length_eq_zero hh
  simp only [St.c, slI, slT, cX0, hTF] at h2 h3 h4 h5 hS hC hM
  simp only [hh0, List.map_nil, List.length_nil] at h2 h3 h4 h5 hS hC hM
  try simp only [hh0, List.length_nil, Int.natCast_zero] at hJq
  generalize hCC : s.cores.map vi = CC at *
  skip
  simp only [List.cons_append, List.nil_append] at mT h5
  simp only [List.cons_append, List.nil_append] at mT2
  have w2 : IntKind.wrap .u8 5 = 5 := by decide
  simp (maxSteps := 1000000) [C4v, push_cast, -Int.not_lt, -Int.not_le, ↓evI_call, ↓evI_calli, ↓evI_calln, ↓evI_callz, ↓evI_callv, ↓evI_mxn, St.c, slI, slT, hCC, hh0, hTF, h1, h2, h3, h4, h5, hS, hC, hM, hw, w2, hz, z3, wk, q2, q3, q4, hk, b5, g5, g5', p1, p2, p3, hJp, hJq, hJ2g, mT2, aft, strip, A.cp1, A.scal, A.isVal, tcp, ccp, hcp, jcp, lC, lH, mC, mH, tC, tH, tT, mT, hTl, hJg, hJt, eqz, -List.all_eq_true]
  exact ⟨_, rfl⟩
theorem sp_0_6 (s : St) (hs : Sm s) (g : Good s) (hh : s.homes.length = 0) (w z : Int) (k : Nat) (hk : k < s.tasks.length) (hw : w.tmod 10 = 6) (hz : z.tmod s.tasks.length = k) (z3 : IntKind.wrap .i64 z = z)
    (h1 : pureOf (callL tabC extC) false 15 [] = some (vb true)) (h2 : pureOf (callL tabC extC) false 16 [.agg (St.c s)] = some (vb true)) (h3 : pureOf (callL tabC extC) false 22 [.agg (St.c s)] = some (vb true)) :
    Ans (vb true) [] (callL tabC extC 4 [.agg (St.c s), vu8 w, vu8 z] []) := by
  rw [callL_tab _ _ rfl (rfl : tabC 4 = some C4v) rfl]
  have hn := g.tasks
  have h4 := pureC (by decide) (copied_p s hs (by omega))
  have h5 := copyB0 s hs g hh
  have hS := pureC (by decide) (pure_vb (k := false) (sameR_is s s hs.fits))
  rw [sameSt_self] at hS
  have hsm : Sm (twS s k (spT s 6 s.tasks[k])) := sp_sm hs hk 6
  have hC := pureC (by decide) (pure_tup2 (k := false) (check_is _ hsm.fits))
  have hchk : chk (twS s k (spT s 6 s.tasks[k])) = ((k : Int), 15) := sp_chk g hk (spT s 6 s.tasks[k]) (sp_err g hk 6 (by decide)) (by decide)
  have hM := pureC (by decide) (pure_vb (k := false) (sameS_is (twS s k (spT s 6 s.tasks[k])) s hsm.fits))
  rw [same_no g hchk (by decide)] at hM
  rw [hchk] at hC
  have hsc : St.c (twS s k (spT s 6 s.tasks[k])) = [vi s.proto, slI s.cores, slI s.homes, .sl ((s.tasks.set k (spT s 6 s.tasks[k])).flatMap Tk.c) s.tasks.length 0] := by
    have e : s.tasks.length = (s.tasks.set k (spT s 6 s.tasks[k])).length := (List.length_set ..).symm
    rw [e]; rfl
  rw [hsc] at hC hM
  have hTl := tB_len 7 s.tasks s.tasks.length
  have tcp := tB_cp 7 s.tasks s.tasks.length
  have ccp : (s.cores.map vi).map A.cp1 = s.cores.map vi := plain_cp (plain_vi _)
  have hcp : (s.homes.map vi).map A.cp1 = s.homes.map vi := plain_cp (plain_vi _)
  have jcp := jB_map A.cp1 (fun _ h => plain_cp h) s.tasks s.tasks.length
  have lC : (s.cores.map vi).length = s.cores.length := List.length_map _
  have lH : (s.homes.map vi).length = s.homes.length := List.length_map _
  have mC := fun (bx : Bx) (d : Nat) => plain_mapM (bx := bx) (d := d) (plain_vi s.cores)
  have mH := fun (bx : Bx) (d : Nat) => plain_mapM (bx := bx) (d := d) (plain_vi s.homes)
  have tC : (s.cores.map vi).take s.cores.length = s.cores.map vi := List.take_of_length_le (by omega)
  have tH : (s.homes.map vi).take s.homes.length = s.homes.map vi := List.take_of_length_le (by omega)
  have mT : ∀ (a0 a1 a2 a3 a4 a5 : List A) (x : List A), (tB 7 s.tasks s.tasks.length).mapM (frzC ([a0, a1, a2, a3, a4, a5] ++ (jB s.tasks s.tasks.length ++ [x])) 2) = some (s.tasks.flatMap Tk.c) := fun a0 a1 a2 a3 a4 a5 x => by
    refine tB_frz _ 1 7 s.tasks s.tasks rfl fun j t u ht hu => ?_
    rw [ht] at hu
    cases hu
    refine ⟨⟨rfl, rfl, rfl, rfl, rfl, rfl⟩, ?_⟩
    have hj := (List.getElem?_eq_some_iff.1 ht).1
    have hl := jB_len s.tasks s.tasks.length (Nat.le_refl _)
    rw [List.getElem?_append_right (by show 6 ≤ _; omega)]
    show (jB s.tasks s.tasks.length ++ [x])[7 + 2 * j - 6]? = _
    rw [show 7 + 2 * j - 6 = 2 * j + 1 by omega, List.getElem?_append_left (by omega)]
    exact jB_get s.tasks j t ht
  have q2 : (k : Int) < s.tasks.length := by omega
  have q3 : ¬ (s.tasks.length : Int) = 0 := by omega
  have q4 : ¬ s.tasks = [] := fun h => by rw [h] at hk; exact absurd hk (Nat.not_lt_zero _)
  have wk : IntKind.wrap .i64 (k : Int) = (k : Int) := wrap_in _ (by omega) (by omega)
  have b5 : k * 6 + 5 + 1 ≤ s.tasks.length * 6 := by omega
  have g5 := tB_get5 7 s.tasks k hk
  rw [show 7 + 2 * k = 2 * k + 7 by omega] at g5
  have kp := (g.task _ (List.getElem_mem hk)).parts
  have p1 : (0 : Int) < s.tasks[k].parts.length := by omega
  have p2 : 0 < s.tasks[k].parts.length := by omega
  have p3 : 1 ≤ s.tasks[k].parts.length := by omega
  obtain ⟨p, ps, hps⟩ : ∃ p ps, s.tasks[k].parts = p :: ps := by
    cases hx : s.tasks[k].parts with
    | nil => rw [hx] at kp; simp at kp
    | cons p ps => exact ⟨p, ps, rfl⟩
  have hsp : (spT s 6 s.tasks[k]).parts = ⟨3, 1, s.homes.length⟩ :: ps := by
    unfold spT; simp only [hps]; rfl
  have hl := jB_len s.tasks s.tasks.length (Nat.le_refl _)
  have hget := jB_get s.tasks k s.tasks[k] (List.getElem?_eq_getElem hk)
  obtain ⟨R, hR⟩ : ∃ R, R = ps.flatMap Pt.c := ⟨_, rfl⟩
  have hPC : s.tasks[k].parts.flatMap Pt.c = vi p.kind :: vi p.len :: vi p.res :: R := by rw [hps, hR]; rfl
  rw [hPC] at hget
  have hJp : ∀ x : List A, (jB s.tasks s.tasks.length ++ [x])[2 * k + 1]? = some (vi p.kind :: vi p.len :: vi p.res :: R) := fun x => by rw [List.getElem?_append_left (by omega)]; exact hget
  obtain ⟨J2, hJ2⟩ : ∃ J2, J2 = (jB s.tasks s.tasks.length).set (2 * k + 1) (vi 3 :: vi 1 :: vi (s.homes.length : Nat) :: R) := ⟨_, rfl⟩
  have hJq : ∀ x : List A, (jB s.tasks s.tasks.length ++ [x]).set (2 * k + 1) (vi 3 :: vi 1 :: vi (s.homes.length : Nat) :: R) = J2 ++ [x] := fun x => by rw [hJ2, List.set_append_left _ _ (by omega)]
  have hJ2l : J2.length = (jB s.tasks s.tasks.length).length := by rw [hJ2, List.length_set]
  have mT2 : ∀ (a0 a1 a2 a3 a4 a5 : List A) (x : List A), (tB 7 s.tasks s.tasks.length).mapM (frzC ([a0, a1, a2, a3, a4, a5] ++ (J2 ++ [x])) 2) = some ((s.tasks.set k (spT s 6 s.tasks[k])).flatMap Tk.c) := fun a0 a1 a2 a3 a4 a5 x => by
    refine tB_frz _ 1 7 s.tasks _ (List.length_set ..).symm fun j t u ht hu => ?_
    have hj := (List.getElem?_eq_some_iff.1 ht).1
    have hbx : ([a0, a1, a2, a3, a4, a5] ++ (J2 ++ [x]))[7 + 2 * j]? = J2[2 * j + 1]? := by
      rw [List.getElem?_append_right (by show 6 ≤ _; omega)]
      show (J2 ++ [x])[7 + 2 * j - 6]? = _
      rw [show 7 + 2 * j - 6 = 2 * j + 1 by omega, List.getElem?_append_left (by omega)]
    rw [hbx, hJ2]
    by_cases hjk : k = j
    · subst hjk
      rw [List.getElem?_set_self hk] at hu
      cases hu
      have ht2 : t = s.tasks[k] := (Option.some.inj ((List.getElem?_eq_getElem hk).symm.trans ht)).symm
      subst ht2
      refine ⟨⟨rfl, rfl, rfl, rfl, rfl, by rw [hsp, hps]; rfl⟩, ?_⟩
      rw [List.getElem?_set_self (by omega), hsp, hR]; rfl
    · rw [List.getElem?_set_ne hjk] at hu
      rw [ht] at hu
      cases hu
      refine ⟨⟨rfl, rfl, rfl, rfl, rfl, rfl⟩, ?_⟩
      rw [List.getElem?_set_ne (by omega)]
      exact jB_get s.tasks j t ht
  generalize (s.tasks.set k (spT s 6 s.tasks[k])).flatMap Tk.c = TF2 at *
  generalize tB 7 s.tasks s.tasks.length = T at *
  generalize jB s.tasks s.tasks.length = J at *
  have tT : T.take (s.tasks.length * 6) = T := List.take_of_length_le (by omega)
  generalize hTF : s.tasks.flatMap Tk.c = TF at *
  have hJg : ∀ x : List A, (J ++ [x])[J.length]? = some x := fun x => by simp
  have hJt : ∀ x y : List A, (J ++ [x]).set J.length y = J ++ [y] := fun x y => by simp
  have hJ2g : ∀ x : List A, (J2 ++ [x])[J.length]? = some x := fun x => by rw [← hJ2l]; simp
  have g5' : ∀ h : k * 6 + 5 < T.length, T[k * 6 + 5] = .bs (2 * k + 7) s.tasks[k].parts.length 3 := fun h => by rw [List.getElem?_eq_getElem h] at g5; exact Option.some.inj g5
  have hh0 : s.homes = [] := List.eq_nil_of_length_eq_zero hh
  simp only [St.c, slI, slT, cX0, hTF] at h2 h3 h4 h5 hS hC hM
  simp only [hh0, List.map_nil, List.length_nil] at h2 h3 h4 h5 hS hC hM
  try simp only [hh0, List.length_nil, Int.natCast_zero] at hJq
  generalize hCC : s.cores.map vi = CC at *
  skip
  simp only [List.cons_append, List.nil_append] at mT h5
  simp only [List.cons_append, List.nil_append] at mT2
  have w2 : IntKind.wrap .u8 6 = 6 := by decide
  simp (maxSteps := 1000000) [C4v, push_cast, -Int.not_lt, -Int.not_le, ↓evI_call, ↓evI_calli, ↓evI_calln, ↓evI_callz, ↓evI_callv, ↓evI_mxn, St.c, slI, slT, hCC, hh0, hTF, h1, h2, h3, h4, h5, hS, hC, hM, hw, w2, hz, z3, wk, q2, q3, q4, hk, b5, g5, g5', p1, p2, p3, hJp, hJq, hJ2g, mT2, aft, strip, A.cp1, A.scal, A.isVal, tcp, ccp, hcp, jcp, lC, lH, mC, mH, tC, tH, tT, mT, hTl, hJg, hJt, eqz, -List.all_eq_true]
  exact ⟨_, rfl⟩
theorem sp_0_7 (s : St) (hs : Sm s) (g : Good s) (hh : s.homes.length = 0) (w z : Int) (k : Nat) (hk : k < s.tasks.length) (hw : w.tmod 10 = 7) (hz : z.tmod s.tasks.length = k) (z3 : IntKind.wrap .i64 z = z)
    (h1 : pureOf (callL tabC extC) false 15 [] = some (vb true)) (h2 : pureOf (callL tabC extC) false 16 [.agg (St.c s)] = some (vb true)) (h3 : pureOf (callL tabC extC) false 22 [.agg (St.c s)] = some (vb true)) :
    Ans (vb true) [] (callL tabC extC 4 [.agg (St.c s), vu8 w, vu8 z] []) := by
  rw [callL_tab _ _ rfl (rfl : tabC 4 = some C4v) rfl]
  have hn := g.tasks
  have h4 := pureC (by decide) (copied_p s hs (by omega))
  have h5 := copyB0 s hs g hh
  have hS := pureC (by decide) (pure_vb (k := false) (sameR_is s s hs.fits))
  rw [sameSt_self] at hS
  have hsm : Sm ⟨4, s.cores, s.homes, s.tasks⟩ := ⟨hs.cores, hs.homes, hs.tasks, hs.parts, hs.names⟩
  have hC := pureC (by decide) (pure_tup2 (k := false) (check_is _ hsm.fits))
  have hchk : chk ⟨4, s.cores, s.homes, s.tasks⟩ = (-1, 10) := sp_proto
  have hM := pureC (by decide) (pure_vb (k := false) (sameS_is ⟨4, s.cores, s.homes, s.tasks⟩ s hsm.fits))
  rw [same_no g hchk (by decide)] at hM
  rw [hchk] at hC
  have hsc : St.c ⟨4, s.cores, s.homes, s.tasks⟩ = [vi 4, slI s.cores, slI s.homes, slT s.tasks] := rfl
  rw [hsc] at hC hM
  have hTl := tB_len 7 s.tasks s.tasks.length
  have tcp := tB_cp 7 s.tasks s.tasks.length
  have ccp : (s.cores.map vi).map A.cp1 = s.cores.map vi := plain_cp (plain_vi _)
  have hcp : (s.homes.map vi).map A.cp1 = s.homes.map vi := plain_cp (plain_vi _)
  have jcp := jB_map A.cp1 (fun _ h => plain_cp h) s.tasks s.tasks.length
  have lC : (s.cores.map vi).length = s.cores.length := List.length_map _
  have lH : (s.homes.map vi).length = s.homes.length := List.length_map _
  have mC := fun (bx : Bx) (d : Nat) => plain_mapM (bx := bx) (d := d) (plain_vi s.cores)
  have mH := fun (bx : Bx) (d : Nat) => plain_mapM (bx := bx) (d := d) (plain_vi s.homes)
  have tC : (s.cores.map vi).take s.cores.length = s.cores.map vi := List.take_of_length_le (by omega)
  have tH : (s.homes.map vi).take s.homes.length = s.homes.map vi := List.take_of_length_le (by omega)
  have mT : ∀ (a0 a1 a2 a3 a4 a5 : List A) (x : List A), (tB 7 s.tasks s.tasks.length).mapM (frzC ([a0, a1, a2, a3, a4, a5] ++ (jB s.tasks s.tasks.length ++ [x])) 2) = some (s.tasks.flatMap Tk.c) := fun a0 a1 a2 a3 a4 a5 x => by
    refine tB_frz _ 1 7 s.tasks s.tasks rfl fun j t u ht hu => ?_
    rw [ht] at hu
    cases hu
    refine ⟨⟨rfl, rfl, rfl, rfl, rfl, rfl⟩, ?_⟩
    have hj := (List.getElem?_eq_some_iff.1 ht).1
    have hl := jB_len s.tasks s.tasks.length (Nat.le_refl _)
    rw [List.getElem?_append_right (by show 6 ≤ _; omega)]
    show (jB s.tasks s.tasks.length ++ [x])[7 + 2 * j - 6]? = _
    rw [show 7 + 2 * j - 6 = 2 * j + 1 by omega, List.getElem?_append_left (by omega)]
    exact jB_get s.tasks j t ht
  have q2 : (k : Int) < s.tasks.length := by omega
  have q3 : ¬ (s.tasks.length : Int) = 0 := by omega
  have q4 : ¬ s.tasks = [] := fun h => by rw [h] at hk; exact absurd hk (Nat.not_lt_zero _)
  have wk : IntKind.wrap .i64 (k : Int) = (k : Int) := wrap_in _ (by omega) (by omega)
  generalize tB 7 s.tasks s.tasks.length = T at *
  generalize jB s.tasks s.tasks.length = J at *
  have tT : T.take (s.tasks.length * 6) = T := List.take_of_length_le (by omega)
  generalize hTF : s.tasks.flatMap Tk.c = TF at *
  have hJg : ∀ x : List A, (J ++ [x])[J.length]? = some x := fun x => by simp
  have hJt : ∀ x y : List A, (J ++ [x]).set J.length y = J ++ [y] := fun x y => by simp
  have hh0 : s.homes = [] := List.eq_nil_of_length_eq_zero hh
  simp only [St.c, slI, slT, cX0, hTF] at h2 h3 h4 h5 hS hC hM
  simp only [hh0, List.map_nil, List.length_nil] at h2 h3 h4 h5 hS hC hM
  try simp only [hh0, List.length_nil, Int.natCast_zero] at hJq
  generalize hCC : s.cores.map vi = CC at *
  skip
  simp only [List.cons_append, List.nil_append] at mT h5
  skip
  have w2 : IntKind.wrap .u8 7 = 7 := by decide
  simp (maxSteps := 1000000) [C4v, push_cast, -Int.not_lt, -Int.not_le, ↓evI_call, ↓evI_calli, ↓evI_calln, ↓evI_callz, ↓evI_callv, ↓evI_mxn, St.c, slI, slT, hCC, hh0, hTF, h1, h2, h3, h4, h5, hS, hC, hM, hw, w2, hz, z3, wk, q2, q3, q4, hk, aft, strip, A.cp1, A.scal, A.isVal, tcp, ccp, hcp, jcp, lC, lH, mC, mH, tC, tH, tT, mT, hTl, hJg, hJt, eqz, -List.all_eq_true]
  exact ⟨_, rfl⟩
theorem sp_0_8 (s : St) (hs : Sm s) (g : Good s) (hh : s.homes.length = 0) (w z : Int) (k : Nat) (hk : k < s.tasks.length) (hw : w.tmod 10 = 8) (hz : z.tmod s.tasks.length = k) (z3 : IntKind.wrap .i64 z = z)
    (h1 : pureOf (callL tabC extC) false 15 [] = some (vb true)) (h2 : pureOf (callL tabC extC) false 16 [.agg (St.c s)] = some (vb true)) (h3 : pureOf (callL tabC extC) false 22 [.agg (St.c s)] = some (vb true)) :
    Ans (vb true) [] (callL tabC extC 4 [.agg (St.c s), vu8 w, vu8 z] []) := by
  rw [callL_tab _ _ rfl (rfl : tabC 4 = some C4v) rfl]
  have hn := g.tasks
  have h4 := pureC (by decide) (copied_p s hs (by omega))
  have h5 := copyB0 s hs g hh
  have hS := pureC (by decide) (pure_vb (k := false) (sameR_is s s hs.fits))
  rw [sameSt_self] at hS
  have hsm : Sm ⟨s.proto, s.cores.set 0 0, s.homes, s.tasks⟩ := ⟨by show (s.cores.set 0 0).length ≤ 8; rw [List.length_set]; exact hs.cores, hs.homes, hs.tasks, hs.parts, hs.names⟩
  have hC := pureC (by decide) (pure_tup2 (k := false) (check_is _ hsm.fits))
  have hchk : chk ⟨s.proto, s.cores.set 0 0, s.homes, s.tasks⟩ = (-1, 16) := sp_core g
  have hM := pureC (by decide) (pure_vb (k := false) (sameS_is ⟨s.proto, s.cores.set 0 0, s.homes, s.tasks⟩ s hsm.fits))
  rw [same_no g hchk (by decide)] at hM
  rw [hchk] at hC
  have hsc : St.c ⟨s.proto, s.cores.set 0 0, s.homes, s.tasks⟩ = [vi s.proto, .sl ((s.cores.set 0 0).map vi) s.cores.length 0, slI s.homes, slT s.tasks] := by unfold St.c slI; rw [List.length_set]
  rw [hsc] at hC hM
  have hTl := tB_len 7 s.tasks s.tasks.length
  have tcp := tB_cp 7 s.tasks s.tasks.length
  have ccp : (s.cores.map vi).map A.cp1 = s.cores.map vi := plain_cp (plain_vi _)
  have hcp : (s.homes.map vi).map A.cp1 = s.homes.map vi := plain_cp (plain_vi _)
  have jcp := jB_map A.cp1 (fun _ h => plain_cp h) s.tasks s.tasks.length
  have lC : (s.cores.map vi).length = s.cores.length := List.length_map _
  have lH : (s.homes.map vi).length = s.homes.length := List.length_map _
  have mC := fun (bx : Bx) (d : Nat) => plain_mapM (bx := bx) (d := d) (plain_vi s.cores)
  have mH := fun (bx : Bx) (d : Nat) => plain_mapM (bx := bx) (d := d) (plain_vi s.homes)
  have tC : (s.cores.map vi).take s.cores.length = s.cores.map vi := List.take_of_length_le (by omega)
  have tH : (s.homes.map vi).take s.homes.length = s.homes.map vi := List.take_of_length_le (by omega)
  have mT : ∀ (a0 a1 a2 a3 a4 a5 : List A) (x : List A), (tB 7 s.tasks s.tasks.length).mapM (frzC ([a0, a1, a2, a3, a4, a5] ++ (jB s.tasks s.tasks.length ++ [x])) 2) = some (s.tasks.flatMap Tk.c) := fun a0 a1 a2 a3 a4 a5 x => by
    refine tB_frz _ 1 7 s.tasks s.tasks rfl fun j t u ht hu => ?_
    rw [ht] at hu
    cases hu
    refine ⟨⟨rfl, rfl, rfl, rfl, rfl, rfl⟩, ?_⟩
    have hj := (List.getElem?_eq_some_iff.1 ht).1
    have hl := jB_len s.tasks s.tasks.length (Nat.le_refl _)
    rw [List.getElem?_append_right (by show 6 ≤ _; omega)]
    show (jB s.tasks s.tasks.length ++ [x])[7 + 2 * j - 6]? = _
    rw [show 7 + 2 * j - 6 = 2 * j + 1 by omega, List.getElem?_append_left (by omega)]
    exact jB_get s.tasks j t ht
  have q2 : (k : Int) < s.tasks.length := by omega
  have q3 : ¬ (s.tasks.length : Int) = 0 := by omega
  have q4 : ¬ s.tasks = [] := fun h => by rw [h] at hk; exact absurd hk (Nat.not_lt_zero _)
  have wk : IntKind.wrap .i64 (k : Int) = (k : Int) := wrap_in _ (by omega) (by omega)
  have hc := g.cores
  have n1 : 0 < s.cores.length := by omega
  have n2 : (0 : Int) < s.cores.length := by omega
  have n3 : 1 ≤ s.cores.length := by omega
  have n4 : ¬ s.cores = [] := fun h => by rw [h] at n1; exact absurd n1 (Nat.lt_irrefl 0)
  have hC2 : vi 0 :: (s.cores.map vi).tail = (s.cores.set 0 0).map vi := by
    cases hx : s.cores with
    | nil => exact absurd hx n4
    | cons c cs => rfl
  have mC2 := fun (bx : Bx) (d : Nat) => plain_mapM (bx := bx) (d := d) (plain_vi (s.cores.set 0 0))
  have lC2 : ((s.cores.set 0 0).map vi).length = s.cores.length := by rw [List.length_map, List.length_set]
  have tC2 : ((s.cores.set 0 0).map vi).take s.cores.length = (s.cores.set 0 0).map vi := List.take_of_length_le (by omega)
  generalize (s.cores.set 0 0).map vi = CC2 at *
  generalize tB 7 s.tasks s.tasks.length = T at *
  generalize jB s.tasks s.tasks.length = J at *
  have tT : T.take (s.tasks.length * 6) = T := List.take_of_length_le (by omega)
  generalize hTF : s.tasks.flatMap Tk.c = TF at *
  have hJg : ∀ x : List A, (J ++ [x])[J.length]? = some x := fun x => by simp
  have hJt : ∀ x y : List A, (J ++ [x]).set J.length y = J ++ [y] := fun x y => by simp
  have hh0 : s.homes = [] := List.eq_nil_of_length_eq_zero hh
  simp only [St.c, slI, slT, cX0, hTF] at h2 h3 h4 h5 hS hC hM
  simp only [hh0, List.map_nil, List.length_nil] at h2 h3 h4 h5 hS hC hM
  try simp only [hh0, List.length_nil, Int.natCast_zero] at hJq
  generalize hCC : s.cores.map vi = CC at *
  skip
  simp only [List.cons_append, List.nil_append] at mT h5
  skip
  have w2 : IntKind.wrap .u8 8 = 8 := by decide
  simp (maxSteps := 1000000) [C4v, push_cast, -Int.not_lt, -Int.not_le, ↓evI_call, ↓evI_calli, ↓evI_calln, ↓evI_callz, ↓evI_callv, ↓evI_mxn, St.c, slI, slT, hCC, hh0, hTF, h1, h2, h3, h4, h5, hS, hC, hM, hw, w2, hz, z3, wk, q2, q3, q4, hk, n1, n2, n3, n4, hC2, mC2, lC2, tC2, aft, strip, A.cp1, A.scal, A.isVal, tcp, ccp, hcp, jcp, lC, lH, mC, mH, tC, tH, tT, mT, hTl, hJg, hJt, eqz, -List.all_eq_true]
  exact ⟨_, rfl⟩
theorem sp_0_9 (s : St) (hs : Sm s) (g : Good s) (hh : s.homes.length = 0) (w z : Int) (k : Nat) (hk : k < s.tasks.length) (hw : w.tmod 10 = 9) (hz : z.tmod s.tasks.length = k) (z3 : IntKind.wrap .i64 z = z)
    (h1 : pureOf (callL tabC extC) false 15 [] = some (vb true)) (h2 : pureOf (callL tabC extC) false 16 [.agg (St.c s)] = some (vb true)) (h3 : pureOf (callL tabC extC) false 22 [.agg (St.c s)] = some (vb true)) :
    Ans (vb true) [] (callL tabC extC 4 [.agg (St.c s), vu8 w, vu8 z] []) := by
  rw [callL_tab _ _ rfl (rfl : tabC 4 = some C4v) rfl]
  have hn := g.tasks
  have h4 := pureC (by decide) (copied_p s hs (by omega))
  have h5 := copyB0 s hs g hh
  have hS := pureC (by decide) (pure_vb (k := false) (sameR_is s s hs.fits))
  rw [sameSt_self] at hS
  have hsm : Sm ⟨s.proto, s.cores, s.homes, []⟩ := ⟨hs.cores, hs.homes, by show 0 ≤ 9; decide, fun t ht => absurd ht (by simp), fun t ht => absurd ht (by simp)⟩
  have hC := pureC (by decide) (pure_tup2 (k := false) (check_is _ hsm.fits))
  have hchk : chk ⟨s.proto, s.cores, s.homes, []⟩ = (-1, 14) := sp_none g
  have hM := pureC (by decide) (pure_vb (k := false) (sameS_is ⟨s.proto, s.cores, s.homes, []⟩ s hsm.fits))
  rw [same_no g hchk (by decide)] at hM
  rw [hchk] at hC
  have hsc : St.c ⟨s.proto, s.cores, s.homes, []⟩ = [vi s.proto, slI s.cores, slI s.homes, .sl [] 0 0] := rfl
  rw [hsc] at hC hM
  have hTl := tB_len 7 s.tasks s.tasks.length
  have tcp := tB_cp 7 s.tasks s.tasks.length
  have ccp : (s.cores.map vi).map A.cp1 = s.cores.map vi := plain_cp (plain_vi _)
  have hcp : (s.homes.map vi).map A.cp1 = s.homes.map vi := plain_cp (plain_vi _)
  have jcp := jB_map A.cp1 (fun _ h => plain_cp h) s.tasks s.tasks.length
  have lC : (s.cores.map vi).length = s.cores.length := List.length_map _
  have lH : (s.homes.map vi).length = s.homes.length := List.length_map _
  have mC := fun (bx : Bx) (d : Nat) => plain_mapM (bx := bx) (d := d) (plain_vi s.cores)
  have mH := fun (bx : Bx) (d : Nat) => plain_mapM (bx := bx) (d := d) (plain_vi s.homes)
  have tC : (s.cores.map vi).take s.cores.length = s.cores.map vi := List.take_of_length_le (by omega)
  have tH : (s.homes.map vi).take s.homes.length = s.homes.map vi := List.take_of_length_le (by omega)
  have mT : ∀ (a0 a1 a2 a3 a4 a5 : List A) (x : List A), (tB 7 s.tasks s.tasks.length).mapM (frzC ([a0, a1, a2, a3, a4, a5] ++ (jB s.tasks s.tasks.length ++ [x])) 2) = some (s.tasks.flatMap Tk.c) := fun a0 a1 a2 a3 a4 a5 x => by
    refine tB_frz _ 1 7 s.tasks s.tasks rfl fun j t u ht hu => ?_
    rw [ht] at hu
    cases hu
    refine ⟨⟨rfl, rfl, rfl, rfl, rfl, rfl⟩, ?_⟩
    have hj := (List.getElem?_eq_some_iff.1 ht).1
    have hl := jB_len s.tasks s.tasks.length (Nat.le_refl _)
    rw [List.getElem?_append_right (by show 6 ≤ _; omega)]
    show (jB s.tasks s.tasks.length ++ [x])[7 + 2 * j - 6]? = _
    rw [show 7 + 2 * j - 6 = 2 * j + 1 by omega, List.getElem?_append_left (by omega)]
    exact jB_get s.tasks j t ht
  have q2 : (k : Int) < s.tasks.length := by omega
  have q3 : ¬ (s.tasks.length : Int) = 0 := by omega
  have q4 : ¬ s.tasks = [] := fun h => by rw [h] at hk; exact absurd hk (Nat.not_lt_zero _)
  have wk : IntKind.wrap .i64 (k : Int) = (k : Int) := wrap_in _ (by omega) (by omega)
  generalize tB 7 s.tasks s.tasks.length = T at *
  generalize jB s.tasks s.tasks.length = J at *
  have tT : T.take (s.tasks.length * 6) = T := List.take_of_length_le (by omega)
  generalize hTF : s.tasks.flatMap Tk.c = TF at *
  have hJg : ∀ x : List A, (J ++ [x])[J.length]? = some x := fun x => by simp
  have hJt : ∀ x y : List A, (J ++ [x]).set J.length y = J ++ [y] := fun x y => by simp
  have hh0 : s.homes = [] := List.eq_nil_of_length_eq_zero hh
  simp only [St.c, slI, slT, cX0, hTF] at h2 h3 h4 h5 hS hC hM
  simp only [hh0, List.map_nil, List.length_nil] at h2 h3 h4 h5 hS hC hM
  try simp only [hh0, List.length_nil, Int.natCast_zero] at hJq
  generalize hCC : s.cores.map vi = CC at *
  skip
  simp only [List.cons_append, List.nil_append] at mT h5
  skip
  have w2 : IntKind.wrap .u8 9 = 9 := by decide
  simp (maxSteps := 1000000) [C4v, push_cast, -Int.not_lt, -Int.not_le, ↓evI_call, ↓evI_calli, ↓evI_calln, ↓evI_callz, ↓evI_callv, ↓evI_mxn, St.c, slI, slT, hCC, hh0, hTF, h1, h2, h3, h4, h5, hS, hC, hM, hw, w2, hz, z3, wk, q2, q3, q4, hk, aft, strip, A.cp1, A.scal, A.isVal, tcp, ccp, hcp, jcp, lC, lH, mC, mH, tC, tH, tT, mT, hTl, hJg, hJt, eqz, -List.all_eq_true]
  exact ⟨_, rfl⟩
end Go.Proofs.YtkohggddaheefaaEv
