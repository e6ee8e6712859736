/- What law 18's laws call known, by running the code: its own sets are written to. -/
import Derived.Test.YtclebnamhpgdmaaGreatVar
import Derived.Test.YtclebnamhpgdmaaGreatExt1
set_option linter.unusedSimpArgs false
set_option linter.unusedVariables false
namespace Go.Proofs.YtclebnamhpgdmaaGreatEv
open Go
def tabV : Nat → Option CFun := fun f => match f with
  | 13 => some C13v
  | 35 => some C35v
  | 15 => some C15v
  | 36 => some C36v
  | 34 => none
  | _ => tab0 f
def extV (k : Nat) : CallF := fun f args bx => match f with
  | 30 => two (evK tab0 ext0 k) C30a C30b args bx
  | 33 => two (evK tab0 ext0 k) C33a C33b args bx
  | 34 => callOf tab0 ext0 (evK tab0 ext0 k) 34 args bx
  | _ => ext0 f args bx
theorem tabV_ok : TabOk Tryz.prog tabV := by
  intro f F h
  unfold tabV at h
  split at h
  · cases h; exact row13v
  · cases h; exact row35v
  · cases h; exact row15v
  · cases h; exact row36v
  · cases h
  · exact tab_ok _ _ h
theorem extV_sound (k : Nat) : SoundF Tryz.prog (extV k) := by
  intro f xs bx r bx' h
  unfold extV at h
  split at h
  · exact two_sound tab_ok ext0_sound row2_30 (two_mono (evK_leL tab0 ext0 k) h)
  · exact two_sound tab_ok ext0_sound row2_33 (two_mono (evK_leL tab0 ext0 k) h)
  · exact call_sound (evK_sound tab_ok ext0_sound k) tab_ok ext0_sound _ _ _ _ _ h
  · exact ext0_sound _ _ _ _ _ h
theorem soundV (k : Nat) : SoundF Tryz.prog (callOf tabV (extV k) (evK tabV (extV k) k)) := call_sound (evK_sound tabV_ok (extV_sound k) k) tabV_ok (extV_sound k)
theorem no_box {P : Program} {f : Nat} {vs : Array Value} {w : World} {lim μ : Nat → Nat} {junk : Bx} {b : Bool} (h : Calls P f vs w fun e w' => ∃ v lim' μ', e = .returned v ∧ ([] : Bx).length ≤ junk.length ∧ But w.heap.size μ ([] : Bx).length w w' ∧ (∀ r, r < ([] : Bx).length → μ' r = μ r) ∧ (∀ b, b < w.heap.size → lim' b = lim b) ∧
    (∀ r, ([] : Bx).length ≤ r → r < junk.length → w.heap.size ≤ μ' r) ∧ BoxRep w' lim' μ' junk ∧ Rep w' lim' μ' junk.length v (vb b)) :
    Calls P f vs w fun e w' => ∃ v lim' μ', e = .returned v ∧ ([] : Bx).length ≤ ([] : Bx).length ∧ But w.heap.size μ ([] : Bx).length w w' ∧ (∀ r, r < ([] : Bx).length → μ' r = μ r) ∧ (∀ b, b < w.heap.size → lim' b = lim b) ∧
    (∀ r, ([] : Bx).length ≤ r → r < ([] : Bx).length → w.heap.size ≤ μ' r) ∧ BoxRep w' lim' μ' [] ∧ Rep w' lim' μ' ([] : Bx).length v (vb b) := by
  refine h.mono fun e w' ⟨v, lim', μ', h1, _, h3, h4, h5, _, _, h8⟩ => ?_
  obtain ⟨rfl, h9⟩ := h8.val
  exact ⟨_, lim', μ', h1, Nat.le_refl _, h3, h4, h5, fun r _ hr => absurd hr (Nat.not_lt_zero _), ⟨fun r hr => absurd hr (Nat.not_lt_zero _), fun r hr => absurd hr (Nat.not_lt_zero _), fun r _ hr => absurd hr (Nat.not_lt_zero _)⟩, .rv (.val _ h9)⟩
set_option maxRecDepth 100000 in
theorem run_13 : isTrue (callOf tabV (extV 2000) (evK tabV (extV 2000) 2000) 13 [] []) = true := by kernel_rfl
noncomputable def ext2 : CallF := fun f args bx => match f with
  | 13 => match args, bx with
    | [], [] => some (vb true, [])
    | _, _ => none
  | _ => ext1 f args bx
theorem ext2_sound : SoundF Tryz.prog ext2 := by
  intro f xs bx r bx' h
  unfold ext2 at h
  split at h
  · split at h
    · cases h
      obtain ⟨j, hj⟩ := isTrue_of run_13
      intro w lim μ vs hsz hrep hbox
      obtain ⟨h1, h2, h3⟩ := soundV 2000 _ _ _ _ _ hj w lim μ vs hsz hrep hbox
      exact ⟨h1, h2, no_box h3⟩
    · cases h
  · exact ext1_sound _ _ _ _ _ h
theorem leX2 : LeX tab0 ext1 ext2 := by
  refine ⟨fun f a b r h => ?_, fun f a b h => ?_⟩
  · unfold ext2
    split
    · cases h
    · exact h
  · unfold ext2
    split
    · exact .inr rfl
    · exact .inl h
theorem up2 : LeF (callL tab0 ext1) (callL tab0 ext2) := callL_monoX leX2
theorem pure2 {k f args v} (h : pureOf (callL tab0 ext1) k f args = some v) : pureOf (callL tab0 ext2) k f args = some v := pureOf_mono up2 _ _ _ _ h
theorem known_13 : Ans (vb true) [] (callL tab0 ext2 13 [] []) := ⟨[], rfl⟩
end Go.Proofs.YtclebnamhpgdmaaGreatEv
