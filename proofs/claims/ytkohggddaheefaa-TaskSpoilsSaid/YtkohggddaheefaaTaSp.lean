/- swingbridgelaw8.TaskSpoils. -/
import Derived.Test.YtkohggddaheefaaTaSpB
set_option linter.unusedSimpArgs false
set_option linter.unusedVariables false
namespace Go.Proofs.YtkohggddaheefaaEv
open Go
set_option maxHeartbeats 4000000
theorem taskSpoils_is (s : St) (w z : Int) (_ : s.ok) (kw : (Lit.int .u8 w).wf = true) (kz : (Lit.int .u8 z).wf = true) : Ans (vb true) [] (callL tabC extC 4 [.agg (St.c s), vu8 w, vu8 z] []) := by
  have h1 := pureC (by decide) (pure_vb (k := false) known_15)
  have h2 := pureC (by decide) (pure_vb (k := false) (few_is_16 s))
  rcases (Bool.eq_false_or_eq_true (few8 s)).symm with hs | hs
  · rw [callL_tab _ _ rfl (rfl : tabC 4 = some C4v) rfl]
    rw [hs] at h2
    simp only [St.c, slI, slT] at h2
    simp [C4v, push_cast, -Int.not_lt, -Int.not_le, ↓evI_call, ↓evI_calli, ↓evI_calln, ↓evI_callz, ↓evI_callv, ↓evI_mxn, St.c, slI, slT, h1, h2]
    exact ⟨_, rfl⟩
  rw [hs] at h2
  have hs := few8_sm s hs
  have h3 := pureC (by decide) (pure_vb (k := false) (okR_is s hs.fits))
  have hok : eqz (chk s).2 0 = okS s := rfl
  rw [hok] at h3
  rcases (Bool.eq_false_or_eq_true (okS s)).symm with ho | ho
  · rw [callL_tab _ _ rfl (rfl : tabC 4 = some C4v) rfl]
    rw [ho] at h3
    simp only [St.c, slI, slT] at h2 h3
    simp [C4v, push_cast, -Int.not_lt, -Int.not_le, ↓evI_call, ↓evI_calli, ↓evI_calln, ↓evI_callz, ↓evI_callv, ↓evI_mxn, St.c, slI, slT, h1, h2, h3]
    exact ⟨_, rfl⟩
  rw [ho] at h3
  have g := (okS_iff s).1 ho
  have hn := g.tasks
  have u0 := u8_of kz
  have u1 := u8_of kw
  have q1 := Int.tmod_eq_emod_of_nonneg (b := (s.tasks.length : Int)) u0.1
  have q2 := Int.emod_nonneg z (show (s.tasks.length : Int) ≠ 0 by omega)
  have q3 := Int.emod_lt_of_pos z (show (0 : Int) < s.tasks.length by omega)
  obtain ⟨k, hk⟩ : ∃ m : Nat, (m : Int) = z % s.tasks.length := ⟨(z % s.tasks.length).toNat, by omega⟩
  rw [← hk] at q1 q3
  have hkn : k < s.tasks.length := by omega
  have z3 : IntKind.wrap .i64 z = z := wrap_in _ (by omega) (by omega)
  have w1 : w.tmod 10 = w % 10 := Int.tmod_eq_emod_of_nonneg u1.1
  have hm : w % 10 = 0 ∨ w % 10 = 1 ∨ w % 10 = 2 ∨ w % 10 = 3 ∨ w % 10 = 4 ∨ w % 10 = 5 ∨ w % 10 = 6 ∨ w % 10 = 7 ∨ w % 10 = 8 ∨ w % 10 = 9 := by omega
  by_cases hh : s.homes.length = 0
  · rcases hm with h | h | h | h | h | h | h | h | h | h
    · exact sp_0_0 s hs g hh w z k hkn (by rw [w1, h]) q1 z3 h1 h2 h3
    · exact sp_0_1 s hs g hh w z k hkn (by rw [w1, h]) q1 z3 h1 h2 h3
    · exact sp_0_2 s hs g hh w z k hkn (by rw [w1, h]) q1 z3 h1 h2 h3
    · exact sp_0_3 s hs g hh w z k hkn (by rw [w1, h]) q1 z3 h1 h2 h3
    · exact sp_0_4 s hs g hh w z k hkn (by rw [w1, h]) q1 z3 h1 h2 h3
    · exact sp_0_5 s hs g hh w z k hkn (by rw [w1, h]) q1 z3 h1 h2 h3
    · exact sp_0_6 s hs g hh w z k hkn (by rw [w1, h]) q1 z3 h1 h2 h3
    · exact sp_0_7 s hs g hh w z k hkn (by rw [w1, h]) q1 z3 h1 h2 h3
    · exact sp_0_8 s hs g hh w z k hkn (by rw [w1, h]) q1 z3 h1 h2 h3
    · exact sp_0_9 s hs g hh w z k hkn (by rw [w1, h]) q1 z3 h1 h2 h3
  · rcases hm with h | h | h | h | h | h | h | h | h | h
    · exact sp_1_0 s hs g hh w z k hkn (by rw [w1, h]) q1 z3 h1 h2 h3
    · exact sp_1_1 s hs g hh w z k hkn (by rw [w1, h]) q1 z3 h1 h2 h3
    · exact sp_1_2 s hs g hh w z k hkn (by rw [w1, h]) q1 z3 h1 h2 h3
    · exact sp_1_3 s hs g hh w z k hkn (by rw [w1, h]) q1 z3 h1 h2 h3
    · exact sp_1_4 s hs g hh w z k hkn (by rw [w1, h]) q1 z3 h1 h2 h3
    · exact sp_1_5 s hs g hh w z k hkn (by rw [w1, h]) q1 z3 h1 h2 h3
    · exact sp_1_6 s hs g hh w z k hkn (by rw [w1, h]) q1 z3 h1 h2 h3
    · exact sp_1_7 s hs g hh w z k hkn (by rw [w1, h]) q1 z3 h1 h2 h3
    · exact sp_1_8 s hs g hh w z k hkn (by rw [w1, h]) q1 z3 h1 h2 h3
    · exact sp_1_9 s hs g hh w z k hkn (by rw [w1, h]) q1 z3 h1 h2 h3
end Go.Proofs.YtkohggddaheefaaEv
