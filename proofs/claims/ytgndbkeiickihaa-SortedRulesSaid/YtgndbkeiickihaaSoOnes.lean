/- swingbridgelaw2.SortedOnes. -/
import Derived.Test.YtgndbkeiickihaaSoY
import Derived.Test.YtgndbkeiickihaaItemI
set_option linter.unusedSimpArgs false
set_option linter.unusedVariables false
namespace Go.Proofs.YtgndbkeiickihaaEv
open Go
set_option maxHeartbeats 1000000
set_option maxRecDepth 100000
theorem ss_fix : ∀ (d : Nat) (S : List It), S.length = d → Srt ilt S → ss ilt S = S := by
  intro d
  induction d with
  | zero => intro S h _; obtain rfl := List.length_eq_zero_iff.1 h; rfl
  | succ d ih =>
    intro S h hs
    obtain ⟨T, x, rfl⟩ : ∃ T x, S = T ++ [x] := ⟨S.dropLast, S.getLast (by intro e; rw [e] at h; cases h), (List.dropLast_concat_getLast _).symm⟩
    obtain ⟨h1, _, h3⟩ := List.pairwise_append.1 hs
    rw [ss_snoc, ih T (by simpa using h) h1]
    have := mge_put ilt T [] x (fun u hu => h3 u hu x (by simp)) (fun v hv => by cases hv)
    rw [List.append_nil] at this
    exact this
theorem isI_srt {S : List It} (hs : Srt ilt S) : isI S = true := by
  show okTo S (S.length - 1) = true
  rw [okTo_iff]
  intro k hk
  unfold badI
  rw [List.getElem?_eq_getElem (show k < S.length by omega), List.getElem?_eq_getElem (show k + 1 < S.length by omega)]
  exact List.pairwise_iff_getElem.1 hs k (k + 1) (by omega) (by omega) (by omega)
def ONQ (L : List It) (zz : Out × Env × Bx) : Prop := ∃ e' g', zz = (.ex 0, e', []) ∧ e' 0 = slX L ∧ e' 3 = .sl (fg itc (ss ilt L)) L.length g'
theorem ones_loop (L : List It) (h9 : L.length ≤ 40) : ∀ (d i g : Nat) (e : Env), i + d = L.length → e 0 = slX L → e 3 = .sl (fg itc (ss ilt (L.take i))) i g → e 4 = vi i →
    EXR (ONQ L) (evL tab0 extP 0 L6_0 (e, [])) := by
  intro d
  induction d with
  | zero =>
    intro i g e hi g0 g3 g4
    obtain rfl : i = L.length := by omega
    rw [List.take_length] at g3
    rw [go6_0]
    simp [B6_0, push_cast, -Int.not_lt, -Int.not_le, ↓evI_call, ↓evI_calli, ↓evI_calln, ↓evI_callz, ↓evI_callv, ↓evI_mxn, loopIn, loopIn0, keepL, emp, A.dang, A.dangC, slX, g0, g3, g4]
    exact ⟨_, rfl, _, g, rfl, by simp [put_at, slX], by simp [put_at]⟩
  | succ d ih =>
    intro i g e hi g0 g3 g4
    have h1 : i < L.length := by omega
    have h3 : (i : Int) < L.length := by omega
    obtain ⟨R1, d1⟩ := it_drop L i h1
    have hw : IntKind.wrap .i64 ((i : Int) + 1) = (i : Int) + 1 := wrap_in _ (by omega) (by omega)
    have hss := ss_snoc ilt (L.take i) L[i]
    rw [← List.take_succ_eq_append_getElem h1] at hss
    have hsl : (ss ilt (L.take i)).length = i := by rw [ss_len, List.length_take]; omega
    have hp := putP (ss ilt (L.take i)) L[i] (by omega)
    rw [ss_fix _ _ rfl (ss_srt ilt ilt_swo _ _ rfl), ← hss] at hp
    have hsl2 : (ss ilt (L.take (i + 1))).length = i + 1 := by rw [ss_len, List.length_take]; omega
    have hq := pureP (is_is (ss ilt (L.take (i + 1))) (by omega))
    rw [isI_srt (ss_srt ilt ilt_swo _ _ rfl)] at hq
    have hz : eqz ((i : Int) + 1) ((i : Int) + 1) = true := by simp [eqz]
    simp only [slX, hsl, hsl2, itc] at hp hq
    have ih' := ih (i + 1)
    clear ih hss
    rw [go6_0]
    generalize L[i] = y at *
    generalize fg itc (ss ilt (L.take i)) = O at *
    generalize fg itc (ss ilt (L.take (i + 1))) = O2 at *
    simp [B6_0, push_cast, -Int.not_lt, -Int.not_le, ↓evI_call, ↓evI_calli, ↓evI_calln, ↓evI_callz, ↓evI_callv, ↓evI_mxn, loopIn, loopIn0, keepL, emp, A.dang, A.dangC, slX, g0, g3, g4, h3, d1, hw, hp, hq, hz]
    refine ih' 0 _ (by omega) ?_ ?_ ?_ <;> simp [put_at, slX]
theorem sortedOnes_is (L : List It) (_ : ∀ p ∈ L, p.ok) : Ans (vb true) [] (callL tab0 extP 6 [slX L] []) := by
  rw [callL_tab _ _ (by rw [extP_no (by decide) (by decide)]; rfl) tab6 rfl]
  have hk := knownP
  by_cases hL : L.length > 40
  · have hL' : (40 : Int) < L.length := by omega
    simp [C6, push_cast, -Int.not_lt, -Int.not_le, ↓evI_call, ↓evI_calli, ↓evI_calln, ↓evI_callz, ↓evI_callv, ↓evI_mxn, slX, hk, hL']
    exact Ans.nil rfl
  have hL' : ¬ (40 : Int) < L.length := by omega
  have hlp := fun e => ones_loop L (by omega) L.length 0 2 e (by omega)
  have hsl : (ss ilt L).length = L.length := ss_len ilt L
  have h1 := pureP (sortP_is L (by omega))
  have h2 := pureP (sameI_is (ss ilt L) (by omega))
  have h3 := pureP (sortP_is (ss ilt L) (by omega))
  rw [ss_fix _ _ rfl (ss_srt ilt ilt_swo _ _ rfl)] at h3
  simp only [slX, List.take_zero, ss_nil, List.flatMap_nil, hsl] at hlp h1 h2 h3
  simp [C6, push_cast, -Int.not_lt, -Int.not_le, ↓evI_call, ↓evI_calli, ↓evI_calln, ↓evI_callz, ↓evI_callv, ↓evI_mxn, slX, hk, hL']
  refine behindP (P := fun r => Ans _ [] r) (hlp _ (by simp [put_at]) (by simp [put_at]) (by simp [put_at])) ?_
  rintro a ⟨e', g', rfl, k0, k3⟩
  simp only [slX] at k0
  generalize fg itc (ss ilt L) = O at *
  simp [push_cast, -Int.not_lt, -Int.not_le, ↓evI_call, ↓evI_calli, ↓evI_calln, ↓evI_callz, ↓evI_callv, ↓evI_mxn, k0, k3, h1, h2, h3]
  exact Ans.nil rfl
end Go.Proofs.YtgndbkeiickihaaEv
