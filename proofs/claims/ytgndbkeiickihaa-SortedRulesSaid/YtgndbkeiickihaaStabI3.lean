/- slices.SortStableFunc of at most 59 records. -/
import Derived.Test.YtgndbkeiickihaaStabI2
set_option linter.unusedSimpArgs false
set_option linter.unusedVariables false
namespace Go.Proofs.YtgndbkeiickihaaEv
open Go
set_option maxHeartbeats 2000000
section
variable {α : Type} {enc : α → List A} (hE : Enc enc 2) {lt : α → α → Bool} {fc : Nat}
include hE
theorem st_call (hC : CmpK enc lt fc) (hS : Swo lt) (L : List α) (n : Nat) (hL : L.length = n) (hn : n ≤ 59) : callL tab0 ext0 47 [.bs 0 n 2, vi n, .fn fc []] [fg enc L] = some (.tup [], [fg enc (ss lt L)]) := by
  have w20 : IntKind.wrap .i64 20 = 20 := by decide
  have w40 : IntKind.wrap .i64 40 = 40 := by decide
  have w60 : IntKind.wrap .i64 60 = 60 := by decide
  have w80 : IntKind.wrap .i64 80 = 80 := by decide
  have w120 : IntKind.wrap .i64 120 = 120 := by decide
  have w0 : IntKind.wrap .i64 0 = 0 := by decide
  have hcl : ∀ M : List α, (fg enc M).all (A.dangC 1) = true := fun M => plain_dang (hE.fplain _)
  have ha : ∀ M : List α, aft 1 (.tup [], [fg enc M]) = (.tup [], [], [fg enc M]) := fun M => aft_clean (fgC hE M) (v := .tup []) rfl
  rw [callL_tab _ _ rfl tab47 rfl]
  by_cases c1 : n < 20
  · have h1 := ic_call hE hC hS n (by omega) [] L [] n (by simp [hL]) (by simp)
    simp only [List.nil_append, List.append_nil, List.length_nil] at h1
    have k1 : ¬ (20 : Int) ≤ n := by omega
    have k2 : ¬ (20 : Int) < n := by omega
    have k3 : ¬ 20 ≤ n := by omega
    have k4 : ¬ 20 < n := by omega
    have z : ((0 : Nat) : Int) = 0 := rfl
    rw [z] at h1
    have hcl1 := hcl L
    have hcl2 := hcl (ss lt L)
    have ha2 := ha (ss lt L)
    generalize fg enc L = B at *
    generalize fg enc (ss lt L) = B2 at *
    simp [C47, push_cast, -Int.not_lt, -Int.not_le, ↓evI_call, ↓evI_calli, ↓evI_calln, ↓evI_callz, ↓evI_callv, ↓evI_mxn, loopIn, loopIn0, keepL, emp, A.dang, A.dangC, go47_0, B47_0, go47_2, B47_2, hcl1, hcl2, k1, k2, k3, k4, h1, ha2, -List.all_eq_true]
  by_cases c2 : n < 40
  · obtain ⟨X, Y, rfl, hX⟩ : ∃ X Y, L = X ++ Y ∧ X.length = 20 := ⟨L.take 20, L.drop 20, (List.take_append_drop _ _).symm, by rw [List.length_take]; omega⟩
    rw [List.length_append] at hL
    have h1 := ic_call hE hC hS n (by omega) [] X Y 20 (by simp [hX]) (by omega)
    have h2 := ic_call hE hC hS n (by omega) (ss lt X) Y [] n (by rw [ss_len]; omega) (by simp)
    simp only [List.nil_append, List.append_nil, List.length_nil, ss_len, hX] at h1 h2
    have z : ((0 : Nat) : Int) = 0 := rfl
    have z20 : ((20 : Nat) : Int) = 20 := rfl
    rw [z, z20] at h1; rw [z20] at h2
    have k1 : (20 : Int) ≤ n := by omega
    have k2 : ¬ (40 : Int) ≤ n := by omega
    have k3 : ¬ (40 : Int) < n := by omega
    have k1' : 20 ≤ n := by omega
    have k2' : ¬ 40 ≤ n := by omega
    have k3' : ¬ 40 < n := by omega
    have hcl0 := hcl (X ++ Y)
    have hcl1 := hcl (ss lt X ++ Y)
    have hcl2 := hcl (ss lt X ++ ss lt Y)
    have ha1 := ha (ss lt X ++ Y)
    have ha2 := ha (ss lt X ++ ss lt Y)
    by_cases c3 : n = 20
    · have : Y = [] := List.length_eq_zero_iff.1 (by omega)
      subst this
      have e3 : ss lt X ++ ss lt [] = ss lt (X ++ []) := by rw [ss_nil, List.append_nil, List.append_nil]
      rw [← e3]
      subst c3
      generalize fg enc (X ++ []) = B at *
      generalize fg enc (ss lt X ++ []) = B1 at *
      generalize fg enc (ss lt X ++ ss lt []) = B2 at *
      rw [z20] at h2 ⊢
      simp [C47, push_cast, -Int.not_lt, -Int.not_le, ↓evI_call, ↓evI_calli, ↓evI_calln, ↓evI_callz, ↓evI_callv, ↓evI_mxn, loopIn, loopIn0, keepL, emp, A.dang, A.dangC, go47_0, B47_0, go47_2, B47_2, hcl0, hcl1, hcl2, h1, h2, ha1, ha2, w20, w40, -List.all_eq_true]
    · have h3 := sm_call hE hC hS n (by omega) _ (ss lt X) (ss lt Y) (Nat.le_refl _) [] [] (by simp only [ss_len, List.length_nil]; omega) (by rw [ss_len]; omega) (by rw [ss_len]; omega) (ss_srt lt hS _ _ rfl) (ss_srt lt hS _ _ rfl) 20 n (by simp [ss_len, hX]) (by rw [ss_len]; omega)
      rw [← ss_app lt hS X _ Y rfl] at h3
      simp only [List.nil_append, List.append_nil, List.length_nil] at h3
      rw [z, z20] at h3
      have k4 : (20 : Int) < n := by omega
      have k4' : 20 < n := by omega
      have hcl3 := hcl (ss lt (X ++ Y))
      have ha3 := ha (ss lt (X ++ Y))
      generalize fg enc (X ++ Y) = B at *
      generalize fg enc (ss lt X ++ Y) = B1 at *
      generalize fg enc (ss lt X ++ ss lt Y) = B2 at *
      generalize fg enc (ss lt (X ++ Y)) = B3 at *
      simp [C47, push_cast, -Int.not_lt, -Int.not_le, ↓evI_call, ↓evI_calli, ↓evI_calln, ↓evI_callz, ↓evI_callv, ↓evI_mxn, loopIn, loopIn0, keepL, emp, A.dang, A.dangC, go47_0, B47_0, go47_2, B47_2, go47_4, B47_4, hcl0, hcl1, hcl2, hcl3, h1, h2, h3, ha1, ha2, ha3, w0, w20, w40, k1, k2, k3, k4, k1', k2', k3', k4', -List.all_eq_true]
  · obtain ⟨X, Y, Z, rfl, hX, hY⟩ : ∃ X Y Z, L = X ++ (Y ++ Z) ∧ X.length = 20 ∧ Y.length = 20 := ⟨L.take 20, (L.drop 20).take 20, (L.drop 20).drop 20, by rw [List.take_append_drop, List.take_append_drop], by rw [List.length_take]; omega, by rw [List.length_take, List.length_drop]; omega⟩
    rw [List.length_append, List.length_append] at hL
    have h1 := ic_call hE hC hS n (by omega) [] X (Y ++ Z) 20 (by simp [hX]) (by simp; omega)
    have h2 := ic_call hE hC hS n (by omega) (ss lt X) Y Z 40 (by rw [ss_len]; omega) (by omega)
    have h3 := ic_call hE hC hS n (by omega) (ss lt X ++ ss lt Y) Z [] n (by simp [ss_len]; omega) (by simp)
    have h4 := sm_call hE hC hS n (by omega) _ (ss lt X) (ss lt Y) (Nat.le_refl _) [] (ss lt Z) (by simp only [ss_len, List.length_nil]; omega) (by rw [ss_len]; omega) (by rw [ss_len]; omega) (ss_srt lt hS _ _ rfl) (ss_srt lt hS _ _ rfl) 20 40 (by simp [ss_len, hX]) (by rw [ss_len]; omega)
    rw [← ss_app lt hS X _ Y rfl] at h4
    simp only [List.nil_append, List.append_nil, List.length_nil, List.length_append, ss_len, hX, hY, List.append_assoc] at h1 h2 h3 h4
    have z : ((0 : Nat) : Int) = 0 := rfl
    have z20 : ((20 : Nat) : Int) = 20 := rfl
    have z40 : ((40 : Nat) : Int) = 40 := rfl
    have z40' : ((20 + 20 : Nat) : Int) = 40 := rfl
    rw [z, z20] at h1; rw [z20, z40] at h2; rw [z40'] at h3; rw [z, z20, z40] at h4
    have k1 : (20 : Int) ≤ n := by omega
    have k2 : (40 : Int) ≤ n := by omega
    have k3 : ¬ (60 : Int) ≤ n := by omega
    have k4 : ¬ (80 : Int) ≤ n := by omega
    have k5 : ¬ (60 : Int) < n := by omega
    have k6 : (20 : Int) < n := by omega
    have k7 : ¬ (80 : Int) < n := by omega
    have k1' : 20 ≤ n := by omega
    have k2' : 40 ≤ n := by omega
    have k3' : ¬ 60 ≤ n := by omega
    have k4' : ¬ 80 ≤ n := by omega
    have k5' : ¬ 60 < n := by omega
    have k6' : 20 < n := by omega
    have k7' : ¬ 80 < n := by omega
    have hcl0 := hcl (X ++ (Y ++ Z))
    have hcl1 := hcl (ss lt X ++ (Y ++ Z))
    have hcl2 := hcl (ss lt X ++ (ss lt Y ++ Z))
    have hcl3 := hcl (ss lt X ++ (ss lt Y ++ ss lt Z))
    have hcl4 := hcl (ss lt (X ++ Y) ++ ss lt Z)
    have ha1 := ha (ss lt X ++ (Y ++ Z))
    have ha2 := ha (ss lt X ++ (ss lt Y ++ Z))
    have ha3 := ha (ss lt X ++ (ss lt Y ++ ss lt Z))
    have ha4 := ha (ss lt (X ++ Y) ++ ss lt Z)
    by_cases c3 : n = 40
    · have : Z = [] := List.length_eq_zero_iff.1 (by omega)
      subst this
      have e3 : ss lt (X ++ Y) ++ ss lt [] = ss lt (X ++ (Y ++ [])) := by rw [ss_nil, List.append_nil, List.append_nil]
      rw [← e3]
      subst c3
      generalize fg enc (X ++ (Y ++ [])) = B at *
      generalize fg enc (ss lt X ++ (Y ++ [])) = B1 at *
      generalize fg enc (ss lt X ++ (ss lt Y ++ [])) = B2 at *
      generalize fg enc (ss lt X ++ (ss lt Y ++ ss lt [])) = B3 at *
      generalize fg enc (ss lt (X ++ Y) ++ ss lt []) = B4 at *
      rw [z40] at h3 ⊢
      simp [C47, push_cast, -Int.not_lt, -Int.not_le, ↓evI_call, ↓evI_calli, ↓evI_calln, ↓evI_callz, ↓evI_callv, ↓evI_mxn, loopIn, loopIn0, keepL, emp, A.dang, A.dangC, go47_0, B47_0, go47_2, B47_2, go47_4, B47_4, hcl0, hcl1, hcl2, hcl3, hcl4, h1, h2, h3, h4, ha1, ha2, ha3, ha4, w0, w20, w40, w60, w80, -List.all_eq_true]
    · have h5 := sm_call hE hC hS n (by omega) _ (ss lt (X ++ Y)) (ss lt Z) (Nat.le_refl _) [] [] (by simp only [ss_len, List.length_nil, List.length_append]; omega) (by rw [ss_len, List.length_append]; omega) (by rw [ss_len]; omega) (ss_srt lt hS _ _ rfl) (ss_srt lt hS _ _ rfl) 40 n (by simp [ss_len, hX, hY]) (by rw [ss_len]; omega)
      rw [← ss_app lt hS (X ++ Y) _ Z rfl] at h5
      simp only [List.nil_append, List.append_nil, List.length_nil, List.append_assoc] at h5
      rw [z, z40] at h5
      have k8 : (40 : Int) < n := by omega
      have k8' : 40 < n := by omega
      have hcl5 := hcl (ss lt (X ++ (Y ++ Z)))
      have ha5 := ha (ss lt (X ++ (Y ++ Z)))
      generalize fg enc (X ++ (Y ++ Z)) = B at *
      generalize fg enc (ss lt X ++ (Y ++ Z)) = B1 at *
      generalize fg enc (ss lt X ++ (ss lt Y ++ Z)) = B2 at *
      generalize fg enc (ss lt X ++ (ss lt Y ++ ss lt Z)) = B3 at *
      generalize fg enc (ss lt (X ++ Y) ++ ss lt Z) = B4 at *
      generalize fg enc (ss lt (X ++ (Y ++ Z))) = B5 at *
      simp [C47, push_cast, -Int.not_lt, -Int.not_le, ↓evI_call, ↓evI_calli, ↓evI_calln, ↓evI_callz, ↓evI_callv, ↓evI_mxn, loopIn, loopIn0, keepL, emp, A.dang, A.dangC, go47_0, B47_0, go47_2, B47_2, go47_4, B47_4, hcl0, hcl1, hcl2, hcl3, hcl4, hcl5, h1, h2, h3, h4, h5, ha1, ha2, ha3, ha4, ha5, w0, w20, w40, w60, w80, w120, k1, k2, k3, k4, k5, k6, k7, k8, k1', k2', k3', k4', k5', k6', k7', k8', -List.all_eq_true]
theorem sfI_call (hC : CmpK enc lt fc) (hS : Swo lt) (L : List α) (n : Nat) (hL : L.length = n) (hn : n ≤ 59) : callL tab0 ext0 31 [.bs 0 n 2, .fn fc []] [fg enc L] = some (.tup [], [fg enc (ss lt L)]) := by
  rw [callL_tab _ _ rfl tab31 rfl]
  have h1 := st_call hE hC hS L n hL hn
  have ha : aft 1 (.tup [], [fg enc (ss lt L)]) = (.tup [], [], [fg enc (ss lt L)]) := aft_clean (fgC hE (ss lt L)) (v := .tup []) rfl
  generalize fg enc L = B at *
  generalize fg enc (ss lt L) = B2 at *
  simp [C31, push_cast, -Int.not_lt, -Int.not_le, ↓evI_call, ↓evI_calli, ↓evI_calln, ↓evI_callz, ↓evI_callv, ↓evI_mxn, h1, ha]
end
end Go.Proofs.YtgndbkeiickihaaEv
