/- The seat's table. -/
import Derived.Test.YtapjngmlocgdoaaTab1
namespace Go.Proofs.YtapjngmlocgdoaaEv
open Go
set_option maxRecDepth 100000
def tab0 : Nat → Option CFun
  | 6 => some C6
  | _ => none
theorem tab6 : tab0 6 = some C6 := rfl
theorem tab_ok : TabOk Try.prog tab0 := by
  intro f F h
  unfold tab0 at h
  split at h
  · cases h; exact row6
  · cases h
end Go.Proofs.YtapjngmlocgdoaaEv
