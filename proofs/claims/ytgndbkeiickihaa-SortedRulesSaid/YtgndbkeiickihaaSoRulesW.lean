/- swingbridgelaw2.SortedRules: its code in pieces. -/
import Derived.Test.YtgndbkeiickihaaSoRules
import Derived.Test.YtgndbkeiickihaaFrz
set_option linter.unusedSimpArgs false
set_option linter.unusedVariables false
namespace Go.Proofs.YtgndbkeiickihaaEv
open Go
set_option maxHeartbeats 1000000
set_option maxRecDepth 100000
theorem ru_0 (L : List It) (h : L.length > 50 ∨ L = []) : EXR (fun zz => ∃ e bx, zz = (.ret, e, bx) ∧ e 2 = vb true) (evL tab0 extP 0 C4.body (initFrom 0 [slX L], [])) := by
  have hkn := knownP
  rcases h with h | rfl
  · have hL' : (50 : Int) < L.length := by omega
    simp [C4, initFrom, push_cast, -Int.not_lt, -Int.not_le, ↓evI_call, ↓evI_calli, ↓evI_calln, ↓evI_callz, ↓evI_callv, ↓evI_mxn, slX, hkn, hL']
    exact ⟨_, rfl, _, ⟨_, rfl⟩, by simp [put_at]⟩
  · have h1 := pureP (sortP_is [] (by decide))
    have h2 := pureP (is_is [] (by decide))
    have e1 : ss ilt ([] : List It) = [] := rfl
    have e2 : isI [] = true := by decide +kernel
    rw [e1] at h1
    rw [e2] at h2
    simp only [slX, List.flatMap_nil, List.length_nil] at h1 h2
    simp [C4, initFrom, push_cast, -Int.not_lt, -Int.not_le, ↓evI_call, ↓evI_calli, ↓evI_calln, ↓evI_callz, ↓evI_callv, ↓evI_mxn, slX, hkn, h1, h2, asList, go4_0, B4_0, go4_2, B4_2, loopIn, loopIn0, keepL, emp, A.dang, A.dangC, eqz]
    exact ⟨_, rfl, _, ⟨_, rfl⟩, by simp [put_at]⟩
theorem ru_1 (L : List It) (h5 : L.length ≤ 50) (h0 : 0 < L.length) : EXR (fun zz => ∃ e, zz = (.nor, e, [fg itc (numb L)]) ∧ e 3 = .bs 0 L.length 2) (evL tab0 extP 0 (C.pre 4 C4.body) (initFrom 0 [slX L], [])) := by
  have hkn := knownP
  have hL' : ¬ (50 : Int) < L.length := by omega
  have hlp := fun e => rules_loop0 L h5 L.length 0 e (by omega) h0
  have hpl := plain_norm (it_plain L)
  have hlen := it_len L
  have b1 : L.length * 16 ≤ 70368744177664 := by omega
  have hne : ¬ L.length = 0 := by omega
  have e0 : numA L 0 = L := rfl
  rw [e0] at hlp
  simp only [slX]
  generalize fg itc L = B at *
  simp [C4, C.pre, initFrom, push_cast, -Int.not_lt, -Int.not_le, ↓evI_call, ↓evI_calli, ↓evI_calln, ↓evI_callz, ↓evI_callv, ↓evI_mxn, hkn, hL', hpl, hlen, b1, hne, h0, asList, -List.all_eq_true, -List.map_map]
  refine behindP (P := EXR _) (hlp _ (by simp [put_at]) (by simp [put_at])) ?_
  rintro a ⟨e', rfl, k3⟩
  simp [push_cast, -Int.not_lt, -Int.not_le, ↓evI_call, ↓evI_calli, ↓evI_calln, ↓evI_callz, ↓evI_callv, ↓evI_mxn, k3]
  exact ⟨_, rfl, _, rfl, k3⟩
theorem ru_2 (L : List It) (h5 : L.length ≤ 50) (h0 : 0 < L.length) (e : Env) (g3 : e 3 = slX (numb L)) : EXR (fun zz => ∃ e' bx', zz = (.ret, e', bx') ∧ e' 2 = vb true) (evL tab0 extP 0 (C.post 4 C4.body) (e, [])) := by
  have hnl := numb_len L
  have hsl : (ss ilt (numb L)).length = L.length := by rw [ss_len, hnl]
  have h1 := pureP (sortP_is (numb L) (by omega))
  have h2 := pureP (is_is (ss ilt (numb L)) (by omega))
  rw [isI_srt (ss_srt ilt ilt_swo _ _ rfl)] at h2
  have hlp := fun e => rules_loop2 L h5 _ rfl L.length 0 e (by omega)
  rw [seen_zero] at hlp
  have hz : eqz (L.length : Int) L.length = true := by simp [eqz]
  have h0' : (0 : Int) < L.length := by omega
  have b1 : (L.length : Int) ≤ 70368744177664 := by omega
  have hcst : (List.replicate L.length [A.val (Value.bool false)]).flatten = List.replicate L.length (vb false) := by
    rw [List.flatten_replicate_singleton]
  simp only [slX, hnl, hsl] at h1 h2 g3 hlp
  generalize fg itc (ss ilt (numb L)) = T at *
  generalize fg itc (numb L) = N at *
  simp [C4, C.post, push_cast, -Int.not_lt, -Int.not_le, ↓evI_call, ↓evI_calli, ↓evI_calln, ↓evI_callz, ↓evI_callv, ↓evI_mxn, g3, h1, h2, hz, h0, h0', b1, hcst]
  refine behindP (P := EXR _) (hlp _ (by simp [put_at, g3]) (by simp [put_at]) (by simp [put_at]) (by simp [put_at])) ?_
  rintro a ⟨e', bx, rfl⟩
  simp [push_cast, -Int.not_lt, -Int.not_le, ↓evI_call, ↓evI_calli, ↓evI_calln, ↓evI_callz, ↓evI_callv, ↓evI_mxn]
  exact ⟨_, rfl, _, ⟨_, rfl⟩, by simp [put_at]⟩
/-! ### put together -/
theorem ru_frz {μ : Nat → Nat} (L : List It) : frzP μ [fg itc (numb L)] (.bs 0 L.length 2) = slX (numb L) := by
  have hl := it_len (numb L)
  rw [numb_len] at hl
  have hp := it_plain (numb L)
  have e : slX (numb L) = .sl (fg itc (numb L)) L.length 0 := by unfold slX; rw [numb_len]
  rw [e]
  show (frzR [fg itc (numb L)] (.bs 0 L.length 2)).getD .any = _
  generalize fg itc (numb L) = B at *
  have a3 : frzC [B] 3 (.bs 0 L.length 2) = some (.sl B L.length 0) := by
    show (if L.length * 2 ≤ B.length then ((B.take (L.length * 2)).mapM (frzC [B] 2)).map fun l => A.sl l L.length 0 else none) = _
    rw [if_pos (by omega), List.take_of_length_le (by omega), plain_mapM hp]
    rfl
  show (frzC [B] 3 (.bs 0 L.length 2)).getD .any = _
  rw [a3]
  rfl
theorem rules_wp {F : Fr} {hn : Hn} {lv : Nat → List Nat × Nat} {kk : Nat} {c0 : Code} {a : Act} {w : World} {Q : Exit → Act → World → Prop} (L : List It) (h0 : F.nb = 0)
    (hc : comp Try.prog F.nt hn lv kk c0 = some C4.body) (hI : Inv F (initFrom 0 [slX L], []) a w) (hQ : ∀ a' w', Inv F (put 2 (vb true) emp, []) a' w' → Q .ret a' w') : c0.wp Try.prog Q a w := by
  have fin : ∀ {e : Env} {bx : Bx} {a' w'}, Inv F (e, bx) a' w' → e 2 = vb true → Inv F (put 2 (vb true) emp, []) a' w' := fun h he => forget h h0 _ fun i => by
    rw [put_at]
    split
    · rename_i hi; subst hi; exact .inr ⟨_, rfl, he⟩
    · exact .inl rfl
  by_cases hr : L.length > 50 ∨ L = []
  · obtain ⟨zz, he, e, bx, rfl, h6⟩ := ru_0 L hr
    have he : evL tab0 extP F.nb C4.body (initFrom 0 [slX L], []) = some (.ret, e, bx) := by rw [h0]; exact he
    exact (codeL_sound tab_ok extP_sound F hn lv kk _ _ _ _ _ hc he a w Q hI fun a' w' hI5 => hQ a' w' (fin hI5 h6)).wp
  have h5 : L.length ≤ 50 := by
    rcases Nat.lt_or_ge 50 L.length with h | h
    · exact absurd (.inl h) hr
    · exact h
  have hl0 : 0 < L.length := by
    rcases Nat.eq_zero_or_pos L.length with h | h
    · exact absurd (.inr (List.length_eq_zero_iff.1 h)) hr
    · exact h
  obtain ⟨zz, he1, e1, rfl, a3⟩ := ru_1 L h5 hl0
  have he1 : evL tab0 extP F.nb (C.pre 4 C4.body) (initFrom 0 [slX L], []) = some (.nor, e1, [fg itc (numb L)]) := by rw [h0]; exact he1
  refine cut_sound tab_ok extP_sound 4 hc rfl he1 hI (fun _ a2 w2 hI2 => ?_) fun h => absurd rfl h
  obtain ⟨lim, μ, own, hG⟩ := hI2
  obtain ⟨F2, n0, n1, n2, hF⟩ := freeze hG
  have c2 := comp_post 4 hc rfl
  rw [← n1] at c2
  obtain ⟨zz, he3, e3, bx3, rfl, e32⟩ := ru_2 L h5 hl0 (fun i => frzP μ [fg itc (numb L)] (e1 i)) (by simp only [a3]; exact ru_frz L)
  rw [← n0] at he3
  refine (codeL_sound tab_ok extP_sound F2 hn lv kk _ _ _ _ _ c2 he3 a2 w2 Q hF fun a' w' hI5 => hQ a' w' ?_).wp
  have hT5 := thaw hG hI5 n2 n0 n1 (put 2 (vb true) emp) (fun i => by
    simp only [put_at]
    split
    · rename_i hi; subst hi; exact .inr (.inl ⟨_, rfl, e32⟩)
    · exact .inl rfl)
  exact fin ⟨lim, μ, own, hT5⟩ (by simp [put_at])
/-- What the law's code does, as a whole. -/
noncomputable def evRu : Ev := fun nb c s => @ite _ (nb = 0 ∧ c = C4.body ∧ ∃ L : List It, s = (initFrom 0 [slX L], [])) (Classical.propDecidable _) (some (.ret, put 2 (vb true) emp, [])) none
theorem evRu_sound : CodeSound Try.prog evRu := by
  intro F hn lv k c0 c s out s' hc he a w Q hI hQ
  unfold evRu at he
  split at he
  · rename_i hcond
    obtain ⟨h0, rfl, L, rfl⟩ := hcond
    cases he
    have key : c0.wp Try.prog Q a w := rules_wp L h0 hc hI hQ
    obtain ⟨u, v, rfl, _⟩ := comp_seq hc
    exact key
  · cases he
noncomputable def extR : CallF := fun f args bx => if f = 4 then callOf tab0 extN evRu f args bx else extP f args bx
theorem extR_sound : SoundF Try.prog extR := by
  intro f xs bx r bx' h
  unfold extR at h
  split at h
  · exact call_sound evRu_sound tab_ok (extN_sound _) _ _ _ _ _ h
  · exact extP_sound _ _ _ _ _ h
theorem sortedRules_is (L : List It) (_ : ∀ p ∈ L, p.ok) : Ans (vb true) [] (callL tab0 extR 4 [slX L] []) := by
  refine ⟨[], ?_⟩
  have h : extR 4 [slX L] [] = some (vb true, []) := by
    unfold extR
    rw [if_pos rfl]
    unfold callOf
    simp only [extN, tab4]
    refine (if_pos (show ([slX L] : List A).length = C4.np from rfl)).trans ?_
    have he : evRu ([] : Bx).length C4.body (initFrom 0 [slX L], []) = some (.ret, put 2 (vb true) emp, []) := by
      unfold evRu
      exact if_pos ⟨rfl, rfl, L, rfl⟩
    rw [he]
    rfl
  unfold callL callOf
  rw [h]
  rfl
end Go.Proofs.YtgndbkeiickihaaEv
