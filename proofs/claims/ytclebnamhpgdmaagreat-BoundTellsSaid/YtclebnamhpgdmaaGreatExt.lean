/- slices.Clone of nothing, nil or not, answers nothing. -/
import Derived.Test.YtclebnamhpgdmaaGreatTab
import Derived.Test.YtclebnamhpgdmaaGreatEvR
set_option linter.unusedSimpArgs false
set_option linter.unusedVariables false
namespace Go.Proofs.YtclebnamhpgdmaaGreatEv
open Go
/-- slices.Clone of nothing. -/
def cl0 : CallF := fun _ args bx => match args with
  | [.sl [] 0 0] => some (.sl [] 0 0, bx)
  | _ => none
theorem clone3_111 (bx : Bx) : callL tab0 extN 111 [.sl [] 0 3] bx = some (.sl [] 0 0, bx) := by
  rw [callL_tab _ _ rfl tab111 rfl]
  simp [C111, push_cast, -Int.not_lt, -Int.not_le, ↓evI_call, ↓evI_calli, ↓evI_callv, ↓evI_mxn]
theorem clone4_111 (bx : Bx) : callL tab0 extN 111 [.sl [] 0 4] bx = some (.sl [] 0 0, bx) := by
  rw [callL_tab _ _ rfl tab111 rfl]
  simp [C111, push_cast, -Int.not_lt, -Int.not_le, ↓evI_call, ↓evI_calli, ↓evI_callv, ↓evI_mxn, asList]
/-- A call that is as one of these two is told the same. -/
theorem cl0_sound {P : Program} {Φ : CallF} (hs : SoundF P Φ) {f : Nat} (h3 : ∀ bx, Φ f [.sl [] 0 3] bx = some (.sl [] 0 0, bx)) (h4 : ∀ bx, Φ f [.sl [] 0 4] bx = some (.sl [] 0 0, bx)) {xs bx r bx'} (h : cl0 f xs bx = some (r, bx')) : 
    ∀ (w : World) (lim μ : Nat → Nat) (vs : Array Value), vs.size = xs.length →
  (∀ i (h : i < xs.length), Rep w lim μ bx.length (vs.getD i undef) xs[i] ∧ n2 xs[i]) → BoxRep w lim μ bx →
  (∀ w, (callFunc f vs).run P w = .ok (.enter f vs) w) ∧ n2 r ∧
  Calls P f vs w fun e w' => ∃ v lim' μ', e = .returned v ∧ bx.length ≤ bx'.length ∧ But w.heap.size μ bx.length w w' ∧ (∀ r, r < bx.length → μ' r = μ r) ∧ (∀ b, b < w.heap.size → lim' b = lim b) ∧
    (∀ r, bx.length ≤ r → r < bx'.length → w.heap.size ≤ μ' r) ∧ BoxRep w' lim' μ' bx' ∧ Rep w' lim' μ' bx'.length v r := by
  intro w lim μ vs hsz hrep hbox
  unfold cl0 at h
  split at h
  · simp only [Option.some.injEq, Prod.mk.injEq] at h
    obtain ⟨rfl, rfl⟩ := h
    obtain ⟨h0, -⟩ := hrep 0 (by simp)
    simp only [List.getElem_cons_zero] at h0
    have hz : ∀ g, g ≠ 2 → Rep w lim μ bx.length (vs.getD 0 undef) (.sl [] 0 g) → ∀ i (h : i < [A.sl [] 0 g].length), Rep w lim μ bx.length (vs.getD i undef) [A.sl [] 0 g][i] ∧ n2 [A.sl [] 0 g][i] := by
      intro g hg h i hi
      obtain rfl : i = 0 := by simp at hi; omega
      exact ⟨h, fun l n e => by simp only [List.getElem_cons_zero, A.sl.injEq] at e; exact hg e.2.2⟩
    have h0' := h0.toSl
    generalize vs.getD 0 undef = u at h0' hz
    have hcase : u = .slice none 0 0 ∨ RepV w lim u (.sl [] 0 4) := by
      cases h0' with
      | nil g h4 => exact .inl rfl
      | emp b o s g h3 => exact .inr (.emp b o s 4 (by omega))
      | sl b o n c l g vs hn hg h3 hc hl hr => exact .inr (.sl b o 0 c [] 4 vs hn (by omega) (by omega) hc hl hr)
    rcases hcase with rfl | h'
    · obtain ⟨a1, a2, a3⟩ := hs f [.sl [] 0 3] bx _ _ (h3 bx) w lim μ vs hsz (hz 3 (by omega) (.rv (.nil 3 (by omega)))) hbox
      refine ⟨a1, (by intro l n e; cases e), a3.mono fun e w' ⟨v, lim', μ', b1, b2, b3, b4, b5, b6, b7, b8⟩ => ⟨v, lim', μ', b1, b2, b3, b4, b5, b6, b7, b8⟩⟩
    · obtain ⟨a1, a2, a3⟩ := hs f [.sl [] 0 4] bx _ _ (h4 bx) w lim μ vs hsz (hz 4 (by omega) (.rv h')) hbox
      exact ⟨a1, (by intro l n e; cases e), a3.mono fun e w' ⟨v, lim', μ', b1, b2, b3, b4, b5, b6, b7, b8⟩ => ⟨v, lim', μ', b1, b2, b3, b4, b5, b6, b7, b8⟩⟩
  · cases h
def ext0 : CallF := fun f args bx => match f with
  | 111 => cl0 111 args bx
  | _ => none
theorem ext0_sound : SoundF Tryz.prog ext0 := by
  intro f xs bx r bx' h
  have hs : SoundF Tryz.prog (callL tab0 extN) := callL_sound tab_ok (extN_sound _)
  unfold ext0 at h
  split at h
  · exact cl0_sound hs clone3_111 clone4_111 h
  · cases h
end Go.Proofs.YtclebnamhpgdmaaGreatEv
