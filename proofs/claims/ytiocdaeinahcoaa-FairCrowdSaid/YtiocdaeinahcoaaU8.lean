/- Small inputs. -/
import Derived.Test.YtiocdaeinahcoaaInp
set_option linter.unusedSimpArgs false
set_option linter.unusedVariables false
namespace Go.Proofs.YtiocdaeinahcoaaEv
open Go
abbrev vu8 (n : Int) : A := .val (.int .u8 n)
theorem u8_of {n : Int} (h : (Lit.int .u8 n).wf = true) : 0 ≤ n ∧ n ≤ 255 := by
  simp only [Lit.wf, Bool.and_eq_true, decide_eq_true_eq] at h
  have e1 : IntKind.min .u8 = 0 := by decide
  have e2 : IntKind.max .u8 = 255 := by decide
  omega
theorem wrap_u8i (n : Int) (h : 0 ≤ n ∧ n ≤ 255) : IntKind.wrap .i64 n = n := wrap_in n (by omega) (by omega)
end Go.Proofs.YtiocdaeinahcoaaEv
