/- Law 2: contracts with Put and SortFunc as entries. -/
import Derived.Test.YtgndbkeiickihaaPutE
import Derived.Test.YtgndbkeiickihaaVarS
set_option linter.unusedSimpArgs false
set_option linter.unusedVariables false
namespace Go.Proofs.YtgndbkeiickihaaEv
open Go
set_option maxHeartbeats 1000000
set_option maxRecDepth 100000
/-- The table with SortFunc's own code: for a row of nothing. -/
def tabS : Nat → Option CFun := fun f => if f = 36 then some C36s else tab0 f
theorem tabS_ok : TabOk Try.prog tabS := by
  intro f F h
  unfold tabS at h
  split at h
  · rename_i e; cases h; subst e; exact row36s
  · exact tab_ok f F h
theorem sf_nil : callL tabS ext0 36 [.sl [] 0 0, .fn 37 []] [] = some (.tup [], []) := (callL_iff ..).2 ⟨100, by kernel_rfl⟩
noncomputable def extP : CallF := fun f args bx =>
  if f = 36 then (@ite _ (args = [.sl [] 0 0, .fn 37 []] ∧ bx = []) (Classical.propDecidable _) (some (.tup [], [])) (extSF f args bx))
  else if f = 16 then extPut f args bx else ext0 f args bx
theorem extP_sound : SoundF Try.prog extP := by
  intro f xs bx r bx' h
  unfold extP at h
  split at h
  · rename_i e
    split at h
    · rename_i hc
      obtain ⟨rfl, rfl⟩ := hc
      subst e
      cases h
      exact callL_sound tabS_ok ext0_sound _ _ _ _ _ sf_nil
    · exact extSF_sound _ _ _ _ _ h
  · split at h
    · exact extPut_sound _ _ _ _ _ h
    · exact ext0_sound _ _ _ _ _ h
theorem leXP : LeX tab0 ext0 extP := by
  refine ⟨fun f a b r h => ?_, fun f a b h => ?_⟩
  · unfold extP
    by_cases h1 : f = 36
    · subst h1; cases h
    · by_cases h2 : f = 16
      · subst h2; cases h
      · rw [if_neg h1, if_neg h2]; exact h
  · unfold extP
    by_cases h1 : f = 36
    · subst h1; exact .inr rfl
    · by_cases h2 : f = 16
      · subst h2; exact .inr rfl
      · rw [if_neg h1, if_neg h2]; exact .inl h
theorem upP : LeF (callL tab0 ext0) (callL tab0 extP) := callL_monoX leXP
theorem pureP {k f args v} (h : pureOf (callL tab0 ext0) k f args = some v) : pureOf (callL tab0 extP) k f args = some v := pureOf_mono upP _ _ _ _ h
theorem callL_ext {tab : Nat → Option CFun} {ext : CallF} {f : Nat} {args : List A} {bx : Bx} {r : A × Bx} (h : ext f args bx = some r) : callL tab ext f args bx = some r := by
  unfold callL callOf
  rw [h]
theorem putP (L : List It) (x : It) (h : L.length ≤ 59) : pureOf (callL tab0 extP) false 16 [slX L, .agg (itc x)] = some (slX (mge ilt (ss ilt L) [x])) := by
  have h1 : extP 16 [slX L, .agg (itc x)] [] = some (slX (mge ilt (ss ilt L) [x]), []) := by
    unfold extP
    rw [if_neg (by decide), if_pos rfl]
    exact extPut_is L x h []
  refine pureOf_eq (callL_ext h1) ?_
  show frzC [] 3 (slX (mge ilt (ss ilt L) [x])) = _
  rfl
theorem sfP (l : List Int) (h : l.length ≤ 1000) : callL tab0 extP 36 [.bs 0 l.length 1, .fn 37 []] [l.map vi] = some (.tup [], [(sortD l).map vi]) := by
  refine callL_ext ?_
  unfold extP
  rw [if_pos rfl, if_neg (fun h => by cases h.2)]
  unfold extSF
  refine (if_pos ⟨rfl, rfl, by omega, l, rfl, rfl⟩).trans ?_
  rw [l0_is (bx := [l.map vi]) (r := 0) (l := l) rfl]
  rfl
theorem sfP0 : callL tab0 extP 36 [.sl [] 0 0, .fn 37 []] [] = some (.tup [], []) := by
  refine callL_ext ?_
  unfold extP
  rw [if_pos rfl, if_pos ⟨rfl, rfl⟩]
theorem topP (l : List Int) (k : Int) (hl : l.length ≤ 60) : pureOf (callL tab0 extP) false 19 [slI l, vi k] = some (slI (topS l k)) := by
  rw [pureOf_b, callL_tab _ _ (by unfold extP; rw [if_neg (by decide), if_neg (by decide)]; rfl) tab19 rfl]
  have g1 := upP _ _ _ _ (clone_35 (l.map vi) l.length [] (plain_vi _) (by simp) (by omega))
  have hm1 : foldM true k [vi 0] = some (max k 0) := by show some (if 0 > k then 0 else k) = _; congr 1; split <;> omega
  have hm2 : foldM false (max k 0) [vi l.length] = some (min (max k 0) l.length) := by show some (if (l.length : Int) < max k 0 then (l.length : Int) else max k 0) = _; congr 1; split <;> omega
  by_cases hz : l.length = 0
  · obtain rfl : l = [] := List.length_eq_zero_iff.1 hz
    have hs := sfP0
    have hm3 : foldM false (max k 0) [vi 0] = some 0 := by show some (if (0 : Int) < max k 0 then (0 : Int) else max k 0) = _; congr 1; split <;> omega
    unfold cloned at g1
    simp only [List.length_nil, List.map_nil, if_true] at g1
    have e : topS [] k = [] := by unfold topS sortD; simp
    rw [e]
    simp [C19, push_cast, -Int.not_lt, -Int.not_le, ↓evI_call, ↓evI_calli, ↓evI_calln, ↓evI_callz, ↓evI_callv, ↓evI_mxn, slI, g1, aft, strip, hs, hm1, hm3, frzK]
  · have s1 := sfP l (by omega)
    unfold cloned at g1
    rw [if_neg hz] at g1
    have pc := plain_cp (plain_vi l)
    have pd := plain_dang (m := 1) (plain_vi l)
    have pc' := plain_cp (plain_vi (sortD l))
    have pd' := plain_dang (m := 1) (plain_vi (sortD l))
    have pm := fun bx d => plain_mapM (bx := bx) (d := d) (plain_vi (topS l k))
    have q0 : 0 ≤ min (max k 0) (l.length : Int) ∧ min (max k 0) (l.length : Int) ≤ l.length := by omega
    have htk : ((sortD l).map vi).take (min (max k 0) (l.length : Int)).toNat = (topS l k).map vi := by unfold topS; rw [List.map_take]
    have hlen : ((sortD l).map vi).length = l.length := by rw [List.length_map, sortD_len]
    have htl := topS_len l k
    have hk2 : (min (max k 0) (l.length : Int)).toNat = (topS l k).length := by omega
    have hk3 : (topS l k).length ≤ l.length := by omega
    simp only [List.nil_append, List.length_nil, slI] at s1 ⊢
    rw [hk2] at htk
    generalize min (max k 0) (l.length : Int) = w at *
    generalize max k 0 = w' at *
    generalize l.map vi = B at *
    generalize (sortD l).map vi = B' at *
    simp [C19, push_cast, -Int.not_lt, -Int.not_le, ↓evI_call, ↓evI_calli, ↓evI_calln, ↓evI_callz, ↓evI_callv, ↓evI_mxn, slI, g1, aft, strip, pc, pd, pc', pd', s1, hm1, hm2, q0, frzK, hk2, htk, hlen, pm, hk3, -List.all_eq_true]
end Go.Proofs.YtgndbkeiickihaaEv
