/- What law 18's laws call known, by running the code: its own sets are written to. -/
import Derived.Test.YtclebnamhpgdmaaVar
import Derived.Test.YtclebnamhpgdmaaExt1
set_option linter.unusedSimpArgs false
set_option linter.unusedVariables false
namespace Go.Proofs.YtclebnamhpgdmaaEv
open Go
def tabV : Nat → Option CFun := fun f => match f with
  | 21 => some C21v
  | 28 => some C28v
  | 23 => some C23v
  | 38 => some C38v
  | 37 => none
  | _ => tab0 f
noncomputable def extV (k : Nat) : CallF := fun f args bx => match f with
  | 36 => two (evK tab0 ext0 k) C36a C36b args bx
  | 37 => callOf tab0 ext0 (evK tab0 ext0 k) 37 args bx
  | _ => ext0 f args bx
theorem tabV_ok : TabOk Try.prog tabV := by
  intro f F h
  unfold tabV at h
  split at h
  · cases h; exact row21v
  · cases h; exact row28v
  · cases h; exact row23v
  · cases h; exact row38v
  · cases h
  · exact tab_ok _ _ h
theorem extV_sound (k : Nat) : SoundF Try.prog (extV k) := by
  intro f xs bx r bx' h
  unfold extV at h
  split at h
  · exact two_sound tab_ok ext0_sound row2_36 (two_mono (evK_leL tab0 ext0 k) h)
  · exact call_sound (evK_sound tab_ok ext0_sound k) tab_ok ext0_sound _ _ _ _ _ h
  · exact ext0_sound _ _ _ _ _ h
theorem soundV (k : Nat) : SoundF Try.prog (callOf tabV (extV k) (evK tabV (extV k) k)) := call_sound (evK_sound tabV_ok (extV_sound k) k) tabV_ok (extV_sound k)
theorem no_box {P : Program} {f : Nat} {vs : Array Value} {w : World} {lim μ : Nat → Nat} {junk : Bx} {b : Bool} (h : Calls P f vs w fun e w' => ∃ v lim' μ', e = .returned v ∧ ([] : Bx).length ≤ junk.length ∧ But w.heap.size μ ([] : Bx).length w w' ∧ (∀ r, r < ([] : Bx).length → μ' r = μ r) ∧ (∀ b, b < w.heap.size → lim' b = lim b) ∧
    (∀ r, ([] : Bx).length ≤ r → r < junk.length → w.heap.size ≤ μ' r) ∧ BoxRep w' lim' μ' junk ∧ Rep w' lim' μ' junk.length v (vb b)) :
    Calls P f vs w fun e w' => ∃ v lim' μ', e = .returned v ∧ ([] : Bx).length ≤ ([] : Bx).length ∧ But w.heap.size μ ([] : Bx).length w w' ∧ (∀ r, r < ([] : Bx).length → μ' r = μ r) ∧ (∀ b, b < w.heap.size → lim' b = lim b) ∧
    (∀ r, ([] : Bx).length ≤ r → r < ([] : Bx).length → w.heap.size ≤ μ' r) ∧ BoxRep w' lim' μ' [] ∧ Rep w' lim' μ' ([] : Bx).length v (vb b) := by
  refine h.mono fun e w' ⟨v, lim', μ', h1, _, h3, h4, h5, _, _, h8⟩ => ?_
  obtain ⟨rfl, h9⟩ := h8.val
  exact ⟨_, lim', μ', h1, Nat.le_refl _, h3, h4, h5, fun r _ hr => absurd hr (Nat.not_lt_zero _), ⟨fun r hr => absurd hr (Nat.not_lt_zero _), fun r hr => absurd hr (Nat.not_lt_zero _), fun r _ hr => absurd hr (Nat.not_lt_zero _)⟩, .rv (.val _ h9)⟩
set_option maxRecDepth 100000 in
theorem run_21 : isTrue (callOf tabV (extV 2000) (evK tabV (extV 2000) 2000) 21 [] []) = true := by kernel_rfl
noncomputable def ext2 : CallF := fun f args bx => match f with
  | 21 => match args, bx with
    | [], [] => some (vb true, [])
    | _, _ => none
  | _ => ext1 f args bx
theorem ext2_sound : SoundF Try.prog ext2 := by
  intro f xs bx r bx' h
  unfold ext2 at h
  split at h
  · split at h
    · cases h
      obtain ⟨j, hj⟩ := isTrue_of run_21
      intro w lim μ vs hsz hrep hbox hgl
      obtain ⟨h1, h2, h3⟩ := soundV 2000 _ _ _ _ _ hj w lim μ vs hsz hrep hbox hgl
      exact ⟨h1, h2, no_box h3⟩
    · cases h
  · exact ext1_sound _ _ _ _ _ h
theorem leX2 : LeX tab0 ext1 ext2 := by
  refine ⟨fun f a b r h => ?_, fun f a b h => ?_⟩
  · unfold ext2
    split
    · cases h
    · exact h
  · unfold ext2
    split
    · exact .inr rfl
    · exact .inl h
theorem up2 : LeF (callL tab0 ext1) (callL tab0 ext2) := callL_monoX leX2
theorem pure2 {k f args v} (h : pureOf (callL tab0 ext1) k f args = some v) : pureOf (callL tab0 ext2) k f args = some v := pureOf_mono up2 _ _ _ _ h
theorem known_21 : Ans (vb true) [] (callL tab0 ext2 21 [] []) := ⟨[], rfl⟩
end Go.Proofs.YtclebnamhpgdmaaEv
