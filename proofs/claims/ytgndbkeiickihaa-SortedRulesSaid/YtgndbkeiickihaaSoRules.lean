/- swingbridgelaw2.SortedRules. -/
import Derived.Test.YtgndbkeiickihaaSoRulesP
set_option linter.unusedSimpArgs false
set_option linter.unusedVariables false
namespace Go.Proofs.YtgndbkeiickihaaEv
open Go
set_option maxHeartbeats 1000000
set_option maxRecDepth 100000
/-! ### the numbers written -/
def RUQ (L : List It) (zz : Out × Env × Bx) : Prop := ∃ e', zz = (.ex 0, e', [fg itc (numb L)]) ∧ e' 3 = .bs 0 L.length 2
theorem num_put (L : List It) (i : Nat) (h : i < L.length) : (fg itc (numA L i)).take (i * 2 + 1) ++ vi i :: (fg itc (numA L i)).drop (i * 2 + 1 + 1) = fg itc (numA L (i + 1)) := by
  have hl := numA_len L i
  have hd := drop_flat itc 2 (fun _ => rfl) (numA L i) i (by omega)
  have hp := itE.put (L := numA L i) (i := i) (by omega) ⟨((numA L i).getD i default).key, i⟩
  have e : numA L (i + 1) = (numA L i).set i ⟨((numA L i).getD i default).key, i⟩ := rfl
  rw [e, ← hp]
  have hg : (numA L i).getD i default = (numA L i)[i]'(by omega) := by rw [List.getD_eq_getElem?_getD, List.getElem?_eq_getElem (by omega)]; rfl
  rw [hg]
  have hc : (fg itc (numA L i)) = (fg itc (numA L i)).take (i * 2) ++ (itc ((numA L i)[i]'(by omega)) ++ ((numA L i).drop (i + 1)).flatMap itc) := by
    conv => lhs; rw [← List.take_append_drop (i * 2) (fg itc (numA L i))]
    rw [hd]
  have hlt : ((fg itc (numA L i)).take (i * 2)).length = i * 2 := by rw [List.length_take, it_len]; omega
  have hd2 : (fg itc (numA L i)).drop (i * 2 + 2) = ((numA L i).drop (i + 1)).flatMap itc := by
    rw [← List.drop_drop, hd]; rfl
  rw [hd2]
  generalize (fg itc (numA L i)).take (i * 2) = U at *
  generalize ((numA L i).drop (i + 1)).flatMap itc = V at *
  generalize (numA L i)[i]'(by omega) = y at *
  rw [hc]
  rw [← hlt]
  rw [List.take_length_add_append]
  simp [itc]
theorem rules_loop0 (L : List It) (h5 : L.length ≤ 50) : ∀ (d i : Nat) (e : Env), i + d = L.length → 0 < L.length → e 3 = .bs 0 L.length 2 → e 4 = vi i →
    EXR (RUQ L) (evL tab0 extP 0 L4_0 (e, [fg itc (numA L i)])) := by
  intro d
  induction d with
  | zero =>
    intro i e hi h0 g3 g4
    obtain rfl : i = L.length := by omega
    have hpl := it_plain (numb L)
    have hdg := plain_dang (m := 1) hpl
    have hown : (fg itc (numb L)).map A.own = fg itc (numb L) := by
      have h := hpl
      simp only [List.all_eq_true] at h
      refine (List.map_congr_left fun a ha => ?_).trans (List.map_id' _)
      have := h a ha
      cases a <;> simp_all [A.plain, A.own]
    show EXR (RUQ L) (evL tab0 extP 0 L4_0 (e, [fg itc (numb L)]))
    unfold RUQ
    rw [go4_0]
    generalize fg itc (numb L) = B at *
    simp [B4_0, push_cast, -Int.not_lt, -Int.not_le, ↓evI_call, ↓evI_calli, ↓evI_calln, ↓evI_callz, ↓evI_callv, ↓evI_mxn, loopIn, loopIn0, keepL, emp, A.dang, A.dangC, g3, g4, hdg, hown, -List.all_eq_true, -List.map_map]
    exact ⟨_, rfl, _, rfl, by simp [put_at]⟩
  | succ d ih =>
    intro i e hi h0 g3 g4
    have h1 : i < L.length := by omega
    have h3 : (i : Int) < L.length := by omega
    have hpl := it_plain (numA L i)
    have hdg := plain_dang (m := 1) hpl
    have hlen := it_len (numA L i)
    rw [numA_len] at hlen
    have hown : (fg itc (numA L i)).map A.own = fg itc (numA L i) := by
      have h := hpl
      simp only [List.all_eq_true] at h
      refine (List.map_congr_left fun a ha => ?_).trans (List.map_id' _)
      have := h a ha
      cases a <;> simp_all [A.plain, A.own]
    have hw : IntKind.wrap .i64 ((i : Int) + 1) = (i : Int) + 1 := wrap_in _ (by omega) (by omega)
    have hpu := num_put L i h1
    have hb : i * 2 + 1 + 1 ≤ L.length * 2 := by omega
    have hb2 : i * 2 + 1 < L.length * 2 := by omega
    have ih' := ih (i + 1)
    clear ih
    rw [← hpu] at ih'
    clear hpu
    rw [go4_0]
    generalize fg itc (numA L i) = B at *
    simp [B4_0, push_cast, -Int.not_lt, -Int.not_le, ↓evI_call, ↓evI_calli, ↓evI_calln, ↓evI_callz, ↓evI_callv, ↓evI_mxn, loopIn, loopIn0, keepL, emp, A.dang, A.dangC, g3, g4, hdg, hown, h3, hw, hlen, hb, hb2, -List.all_eq_true, -List.map_map]
    refine ih' _ (by omega) h0 ?_ ?_ <;> simp [put_at]
/-! ### the row in order -/
def RUQ2 (zz : Out × Env × Bx) : Prop := ∃ e' bx, zz = (.ex 2, e', bx)
theorem rules_loop2 (L : List It) (h5 : L.length ≤ 50) (S : List It) (hS : S = ss ilt (numb L)) : ∀ (d i : Nat) (e : Env), i + d = L.length → e 3 = slX (numb L) → e 5 = slX S → e 6 = .bs 0 L.length 1 → e 7 = vi i →
    EXR RUQ2 (evL tab0 extP 0 L4_2 (e, [seenA L.length S i])) := by
  have hnl := numb_len L
  have hsl : S.length = L.length := by rw [hS, ss_len, hnl]
  intro d
  induction d with
  | zero =>
    intro i e hi g3 g5 g6 g7
    obtain rfl : i = L.length := by omega
    have hpl := seen_plain L.length S L.length
    have hdg := plain_dang (m := 1) hpl
    have hown : (seenA L.length S L.length).map A.own = seenA L.length S L.length := by
      have h := hpl
      simp only [List.all_eq_true] at h
      refine (List.map_congr_left fun a ha => ?_).trans (List.map_id' _)
      have := h a ha
      cases a <;> simp_all [A.plain, A.own]
    rw [go4_2]
    generalize seenA L.length S L.length = B at *
    simp [B4_2, push_cast, -Int.not_lt, -Int.not_le, ↓evI_call, ↓evI_calli, ↓evI_calln, ↓evI_callz, ↓evI_callv, ↓evI_mxn, loopIn, loopIn0, keepL, emp, A.dang, A.dangC, slX, hnl, hsl, g3, g5, g6, g7, hdg, hown, -List.all_eq_true, -List.map_map]
    exact ⟨_, rfl, _, _, rfl⟩
  | succ d ih =>
    intro i e hi g3 g5 g6 g7
    have h1 : i < L.length := by omega
    have h3 : (i : Int) < L.length := by omega
    have hiS : i < S.length := by omega
    have hpl := seen_plain L.length S i
    have hdg := plain_dang (m := 1) hpl
    have hlen := seen_len L.length S i
    have hown : (seenA L.length S i).map A.own = seenA L.length S i := by
      have h := hpl
      simp only [List.all_eq_true] at h
      refine (List.map_congr_left fun a ha => ?_).trans (List.map_id' _)
      have := h a ha
      cases a <;> simp_all [A.plain, A.own]
    have hw : IntKind.wrap .i64 ((i : Int) + 1) = (i : Int) + 1 := wrap_in _ (by omega) (by omega)
    have hmem : S[i] ∈ numb L := by subst hS; exact (ss_perm ilt _ (numb L) rfl).mem_iff.1 (List.getElem_mem hiS)
    obtain ⟨q, hq, hqi, hqe⟩ := numb_mem hmem
    have hqn : q < L.length := by omega
    have hq3 : (q : Int) < L.length := by omega
    have hqk : (numb L)[q].key = S[i].key := by rw [hqe]
    have hsn : (seenA L.length S i)[q]? = some (vb false) := by subst hS; exact seen_at L i q hiS hqi hqn
    have hsn2 : ∀ h : q < (seenA L.length S i).length, (seenA L.length S i)[q]'h = vb false := fun h => by rw [List.getElem?_eq_getElem h] at hsn; exact Option.some.inj hsn
    have hset := seen_set L.length S i q hiS hqi hqn
    obtain ⟨R1, d1⟩ := it_drop S i hiS
    obtain ⟨R2, d2⟩ := it_drop (numb L) q hq
    rw [hqk] at d2
    rw [hqi] at d1
    have hq0 : ¬ (q : Int) < 0 := by omega
    have hqle : ¬ L.length ≤ q := by omega
    have hq1 : q + 1 ≤ L.length := by omega
    have hz : eqz S[i].key S[i].key = true := by simp [eqz]
    have hlx : ∀ m, i = m + 1 → ∀ hm : m < S.length, S[m].key = S[i].key → S[m].id < (q : Int) := by
      intro m hm1 hm hke
      have := List.pairwise_iff_getElem.1 (hS ▸ numb_lex L : S.Pairwise lexR) m i hm hiS (by omega)
      unfold lexR at this
      omega
    have ih' := ih (i + 1)
    clear ih
    rw [← hset] at ih'
    clear hset hmem hqe hqi hqk
    rw [go4_2]
    generalize seenA L.length S i = B at *
    by_cases hi0 : i = 0
    · subst hi0
      obtain ⟨R3, hR3⟩ : ∃ R3, fg itc S = vi S[0].key :: vi q :: R3 := ⟨R1, by simpa using d1⟩
      generalize S[0].key = ky at *
      have h00 : (0 : Int) < L.length := by omega
      have hw1 : IntKind.wrap .i64 1 = 1 := by decide
      simp only [slX, hnl, hsl] at g3 g5 ih'
      generalize fg itc (numb L) = N at *
      generalize fg itc S = T at *
      subst hR3
      simp [B4_2, push_cast, -Int.not_lt, -Int.not_le, ↓evI_call, ↓evI_calli, ↓evI_calln, ↓evI_callz, ↓evI_callv, ↓evI_mxn, loopIn, loopIn0, keepL, emp, A.dang, A.dangC, g3, g5, g6, g7, hdg, hown, h1, hlen, hsn, hsn2, d2, hz, hq0, hqle, hq1, hq3, hqn, hw1, -List.all_eq_true, -List.map_map]
      refine ih' _ (by omega) ?_ ?_ ?_ ?_ <;> simp [put_at]
    · obtain ⟨m, rfl⟩ : ∃ m, i = m + 1 := ⟨i - 1, by omega⟩
      have hmS : m < S.length := by omega
      have hm2 : (m : Int) < L.length := by omega
      have hlx := hlx m rfl hmS
      obtain ⟨R4, d4⟩ := it_drop S m hmS
      have h3' : (m : Int) + 1 < L.length := by omega
      have hpos : (0 : Int) < (m : Int) + 1 := by omega
      have hp0 : (0 : Int) ≤ (m : Int) + 1 := by omega
      have hwm : IntKind.wrap .i64 (m : Int) = (m : Int) := wrap_in _ (by omega) (by omega)
      have hw3 : IntKind.wrap .i64 ((m : Int) + 1 + 1) = (m : Int) + 1 + 1 := wrap_in _ (by omega) (by omega)
      generalize S[m + 1].key = ky at *
      generalize S[m].key = km at *
      generalize S[m].id = im at *
      simp only [slX, hnl, hsl] at g3 g5 ih'
      generalize fg itc (numb L) = N at *
      generalize fg itc S = T at *
      by_cases hke : km = ky
      · have hzz : eqz km ky = true := by simp [eqz, hke]
        have hlt : ¬ (q : Int) < im := by have := hlx hke; omega
        simp [B4_2, push_cast, -Int.not_lt, -Int.not_le, ↓evI_call, ↓evI_calli, ↓evI_calln, ↓evI_callz, ↓evI_callv, ↓evI_mxn, loopIn, loopIn0, keepL, emp, A.dang, A.dangC, g3, g5, g6, g7, hdg, hown, h3', hlen, hsn, hsn2, d1, d2, d4, hz, hq0, hqle, hq1, hq3, hqn, hpos, hp0, hwm, hw3, hm2, hzz, hlt, -List.all_eq_true, -List.map_map]
        refine ih' _ (by omega) ?_ ?_ ?_ ?_ <;> simp [put_at]
      · have hzz : eqz km ky = false := by simp [eqz, hke]
        simp [B4_2, push_cast, -Int.not_lt, -Int.not_le, ↓evI_call, ↓evI_calli, ↓evI_calln, ↓evI_callz, ↓evI_callv, ↓evI_mxn, loopIn, loopIn0, keepL, emp, A.dang, A.dangC, g3, g5, g6, g7, hdg, hown, h3', hlen, hsn, hsn2, d1, d2, d4, hz, hq0, hqle, hq1, hq3, hqn, hpos, hp0, hwm, hw3, hm2, hzz, -List.all_eq_true, -List.map_map]
        refine ih' _ (by omega) ?_ ?_ ?_ ?_ <;> simp [put_at]
end Go.Proofs.YtgndbkeiickihaaEv
