/- What law 19 calls known: by running the code. -/
import Derived.Test.YtamblgbmdhldbaaGreatDoorItoaX
set_option linter.unusedSimpArgs false
set_option linter.unusedVariables false
namespace Go.Proofs.YtamblgbmdhldbaaGreatDoorEv
open Go
set_option maxRecDepth 100000
theorem known_7 : Ans (vb true) [] (callL tab0 ext5 7 [] []) := run_true5 3000 (by kernel_rfl)
end Go.Proofs.YtamblgbmdhldbaaGreatDoorEv
