/- What the laws call known: by running the code. -/
import Derived.Test.YtclebnamhpgdmaaGreatExt
import Derived.Test.YtclebnamhpgdmaaGreatT
import Derived.KernelRfl
set_option linter.unusedSimpArgs false
set_option linter.unusedVariables false
namespace Go.Proofs.YtclebnamhpgdmaaGreatEv
open Go
def isTrue : Option (A × Bx) → Bool
  | some (.val (.bool true), _) => true
  | _ => false
theorem isTrue_of {r : Option (A × Bx)} (h : isTrue r = true) : Ans (vb true) [] r := by
  unfold isTrue at h
  split at h
  · exact ⟨_, rfl⟩
  · cases h
theorem run_true {tab ext f} (k : Nat) (h : isTrue (callOf tab ext (evK tab ext k) f [] []) = true) : Ans (vb true) [] (callL tab ext f [] []) := by
  obtain ⟨j, h⟩ := isTrue_of h
  exact ⟨j, (callL_iff ..).2 ⟨k, h⟩⟩
set_option maxRecDepth 100000
end Go.Proofs.YtclebnamhpgdmaaGreatEv
