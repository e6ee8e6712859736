/- Functions that run in two orders, beside those that the table knows; what the laws call known, by running the code. -/
import Derived.Test.YtkohggddaheefaaTwo
import Derived.Test.YtkohggddaheefaaTsk
set_option linter.unusedSimpArgs false
set_option linter.unusedVariables false
namespace Go.Proofs.YtkohggddaheefaaEv
open Go
noncomputable def ext1 : CallF := fun f args bx => match f with
  | 40 => two (evL tab0 ext0) C40a C40b args bx
  | _ => ext0 f args bx
noncomputable def extK (k : Nat) : CallF := fun f args bx => match f with
  | 40 => two (evK tab0 ext0 k) C40a C40b args bx
  | _ => ext0 f args bx
theorem ext1_sound : SoundF Try.prog ext1 := by
  intro f xs bx r bx' h
  unfold ext1 at h
  split at h
  · exact two_sound tab_ok ext0_sound row2_40 h
  · exact ext0_sound _ _ _ _ _ h
theorem leX1 : LeX tab0 ext0 ext1 := by
  refine ⟨fun f a b r h => ?_, fun f a b h => ?_⟩
  · unfold ext1
    split
    · cases h
    · exact h
  · unfold ext1
    split
    · exact .inr rfl
    · exact .inl h
theorem leXK (k : Nat) : LeX tab0 (extK k) ext1 := by
  refine ⟨fun f a b r h => ?_, fun f a b h => ?_⟩
  · unfold ext1
    unfold extK at h
    split
    · exact two_mono (evK_leL tab0 ext0 k) h
    · split at h
      all_goals first | (exfalso; simp_all; done) | exact h
  · unfold ext1
    split
    · exact .inr rfl
    · unfold extK at h
      split at h
      all_goals first | (exfalso; simp_all; done) | exact .inl h
theorem up1 : LeF (callL tab0 ext0) (callL tab0 ext1) := callL_monoX leX1
theorem pure1 {k f args v} (h : pureOf (callL tab0 ext0) k f args = some v) : pureOf (callL tab0 ext1) k f args = some v := pureOf_mono up1 _ _ _ _ h
theorem run_true1 {f} (k : Nat) (h : isTrue (callOf tab0 (extK k) (evK tab0 (extK k) k) f [] []) = true) : Ans (vb true) [] (callL tab0 ext1 f [] []) := by
  obtain ⟨j, h⟩ := isTrue_of h
  exact ⟨j, callL_monoX (leXK k) _ _ _ _ ((callL_iff ..).2 ⟨k, h⟩)⟩
set_option maxRecDepth 100000
end Go.Proofs.YtkohggddaheefaaEv
