/- swingbridgelaw10.CanonTells. -/
import Derived.Test.YtkohggddaheefaaCanon2
import Derived.Test.YtkohggddaheefaaExt1
import Derived.Test.YtkohggddaheefaaLib
import Derived.Test.YtkohggddaheefaaSame
import Derived.Test.YtkohggddaheefaaRef7
import Derived.Test.YtkohggddaheefaaIn1
set_option linter.unusedSimpArgs false
set_option linter.unusedVariables false
namespace Go.Proofs.YtkohggddaheefaaEv
open Go
set_option maxHeartbeats 2000000
theorem sameSt_self' (s : St) : sameSt s s = true := by
  unfold sameSt
  rw [eqz_self, eqz_self]
  simp only [decide_true, Bool.and_self, Bool.true_and, Option.isNone_iff_eq_none]
  rw [fstP_none]
  intro k h1 h2
  have hk : k < s.tasks.length := by omega
  rw [badAt_is _ _ _ hk hk]
  simp [sameTk, eqz_self]
theorem pkS_sm {s : St} (hs : Sm s) {o : List Int} (ho : OrdOk s o) (hl : o.length ≤ 9) : Sm (pkS s o) := by
  have key : ∀ t ∈ (pkS s o).tasks, t.parts.length ≤ 10 ∧ t.name.size ≤ 20 := by
    intro t ht
    obtain ⟨x, hx, rfl⟩ := List.mem_map.1 ht
    obtain ⟨k, rfl, hk⟩ := ho x hx
    have e : tkAt s (k : Int) = s.tasks[k] := by unfold tkAt; simp [hk]
    rw [e]
    exact ⟨hs.parts _ (List.getElem_mem hk), hs.names _ (List.getElem_mem hk)⟩
  exact ⟨hs.cores, hs.homes, by show (o.map (tkAt s)).length ≤ 9; rw [List.length_map]; exact hl, fun t ht => (key t ht).1, fun t ht => (key t ht).2⟩
set_option maxRecDepth 100000 in
theorem two_kn10 : two (evK tab0 ext0 2000) C40a C40b [] [] = some (vb true, []) := by kernel_rfl
theorem known_10 : Ans (vb true) [] (callL tab0 ext1 40 [] []) := by
  have h2 := two_mono (evK_leL tab0 ext0 2000) two_kn10
  refine ⟨[], ?_⟩
  unfold callL callOf
  have e : ext1 40 [] [] = some (vb true, []) := h2
  rw [e]; rfl
theorem mvL_ok' {s : St} (hs : Sm s) (b : Int) : OrdOk s (mvL s b s.tasks.length) := by
  by_cases h : s.tasks.length = 0
  · rw [h]; intro x hx; cases hx
  · exact mvL_ok (mv_ok hs (by omega) b) _
theorem canonTells_is (s : St) (b : Int) (_ : s.ok) (_ : (Lit.int .i64 b).wf = true) : Ans (vb true) [] (callL tab0 ext1 12 [.agg (St.c s), vi b] []) := by
  rw [callL_tab _ _ rfl tab12 rfl]
  have h1 := pure_vb (k := false) known_10
  have h2 := pure1 (pure_vb (k := false) (few_is_41 s))
  rcases (Bool.eq_false_or_eq_true (few8 s)).symm with hs | hs
  · rw [hs] at h2
    simp only [St.c, slI, slT] at h2
    simp [C12, push_cast, -Int.not_lt, -Int.not_le, ↓evI_call, ↓evI_calli, ↓evI_calln, ↓evI_callz, ↓evI_callv, ↓evI_mxn, St.c, slI, slT, h1, h2]
    exact ⟨_, rfl⟩
  rw [hs] at h2
  have hs := few8_sm s hs
  have h3 := pure1 (refOrder_is s hs)
  have h4 := pure1 (order_is s hs)
  have h5 := pure1 (pure_vb (k := false) (eqR2_is (ordS s) (ordS s) (by rw [ordS_len]; have := hs.tasks; omega)))
  have h6 := pure1 (canon_is s hs)
  have h7 := pure1 (with_is s hs (ordS s) (ordS_ok s) (by rw [ordS_len]; exact hs.tasks))
  have hp1 := pkS_sm hs (ordS_ok s) (by rw [ordS_len]; exact hs.tasks)
  have hp2 := pkS_sm hs (mvL_ok' hs b) (by rw [mvL_len]; exact hs.tasks)
  have h8 := pure1 (pure_vb (k := false) (sameR_is (pkS s (ordS s)) (pkS s (ordS s)) hp1.fits))
  have h9 := pure1 (move_is s hs b)
  have h10 := pure1 (refMove_is s hs b)
  have h11 := pure1 (pure_vb (k := false) (sameR_is (pkS s (mvL s b s.tasks.length)) (pkS s (mvL s b s.tasks.length)) hp2.fits))
  rw [sameSt_self'] at h8 h11
  simp only [decide_true] at h5
  generalize pkS s (ordS s) = X at *
  generalize pkS s (mvL s b s.tasks.length) = Y at *
  generalize ordS s = o at *
  simp only [St.c, slI, slT] at *
  simp [C12, push_cast, -Int.not_lt, -Int.not_le, ↓evI_call, ↓evI_calli, ↓evI_calln, ↓evI_callz, ↓evI_callv, ↓evI_mxn, h1, h2, h3, h4, h5, h6, h7, h8, h9, h10, h11]
  exact ⟨_, rfl⟩
end Go.Proofs.YtkohggddaheefaaEv
