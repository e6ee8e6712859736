/- The start of a call, by hand; code of which the first pieces alone are compiled. -/
import Derived.Test.YtkohggddaheefaaFrz
set_option linter.unusedSimpArgs false
set_option linter.unusedVariables false
namespace Go.Proofs.YtkohggddaheefaaEv
open Go Go.RowKit
def cdPre : Nat → Code → Code
  | 0, .seq a _ => a
  | n + 1, .seq a b => .seq a (cdPre n b)
  | _, c => c
def cdDeep : Nat → Code → Bool
  | 0, .seq _ _ => true
  | n + 1, .seq _ b => cdDeep n b
  | _, _ => false
theorem pre_sound {P : Program} {tab : Nat → Option CFun} {ext : CallF} (ht : TabOk P tab) (hx : SoundF P ext) {F : Fr} {hn : Hn} {lv : Nat → List Nat × Nat} {k : Nat} : ∀ (n : Nat) {c0 : Code} {c : C} {s : Env × Bx} {out : Out} {s' : Env × Bx},
    cdDeep n c0 = true → comp P F.nt hn lv k (cdPre n c0) = some c → evL tab ext F.nb c s = some (out, s') → ∀ {a w Q}, Inv F s a w →
    (out = .nor → ∀ a' w', Inv F s' a' w' → (cdPost n c0).wp P Q a' w') → (out ≠ .nor → ∀ a' w', Inv F s' a' w' → Q (exitOf out) a' w') → c0.wp P Q a w
  | 0, c0, c, s, out, s', hd, h, he, a, w, Q, hI, h1, h2 => by
    cases c0 with
    | seq x y =>
      refine wp_seq ?_
      refine (codeL_sound ht hx F hn lv k x c s out s' h he a w _ hI fun a' w' hI' => ?_).wp
      cases out with
      | nor => exact h1 rfl a' w' hI'
      | ex i => exact h2 (by simp) a' w' hI'
      | ret => exact h2 (by simp) a' w' hI'
    | _ => cases hd
  | n + 1, c0, c, s, out, s', hd, h, he, a, w, Q, hI, h1, h2 => by
    cases c0 with
    | seq x y =>
      have hs : ∃ A B, c = .seq A B ∧ comp P F.nt hn lv k x = some A ∧ comp P F.nt hn lv k (cdPre n y) = some B := by
        simp only [cdPre, comp] at h
        split at h
        · rename_i ha hb; cases h; exact ⟨_, _, rfl, ha, hb⟩
        · cases h
      obtain ⟨A, B, rfl, hA, hB⟩ := hs
      refine wp_seq ?_
      rw [evL_step] at he
      simp only [stepC] at he
      cases hEA : evL tab ext F.nb A s with
      | none => rw [hEA] at he; cases he
      | some q =>
        obtain ⟨o1, s1⟩ := q
        rw [hEA] at he
        refine (codeL_sound ht hx F hn lv k x A s o1 s1 hA hEA a w _ hI fun a' w' hI' => ?_).wp
        cases o1 with
        | nor => exact pre_sound ht hx n hd hB he hI' h1 h2
        | ex i => cases he; exact h2 (by simp) a' w' hI'
        | ret => cases he; exact h2 (by simp) a' w' hI'
    | _ => cases hd
/-- A call, from its start. -/
theorem start_w {P : Program} {f : Nat} {fn : Func} {c0 : Code} (hfn : P.funcs[f]? = some fn) (hbody : fn.body = some c0) {xs : List A} {vs : Array Value} {w : World} {lim : Nat → Nat} (hsz : vs.size = xs.length) (hnt : vs.size ≤ fn.ntmps)
    (hrep : ∀ i (h : i < xs.length), Rep w lim id 0 (vs.getD i undef) xs[i] ∧ n2 xs[i]) (hgl : GlobOk w id 0) {Post : Ending → World → Prop}
    (h : ∀ F : Fr, F.nb = 0 → F.nt = fn.ntmps → F.w0 = w → F.lim0 = lim → ∀ a, Inv F (initFrom 0 xs, []) a w → c0.wp P (bodyPost P fn Post) a w) : Calls P f vs w Post := by
  refine calls_of_wp hfn hbody ?_
  refine h ⟨w, lim, id, 0, fn.ntmps, hgl⟩ rfl rfl rfl rfl _ ?_
  have hat : ∀ i, Rep w lim id 0 ((vs ++ Array.replicate (fn.ntmps - vs.size) undef).getD i undef) (initFrom 0 xs i) ∧ n2 (initFrom 0 xs i) := by
    intro i
    rw [initFrom_at]
    by_cases hi : i < xs.length
    · rw [dif_pos (by simpa using hi)]
      have := hrep i hi
      rw [Array.getD_eq_getD_getElem?] at this ⊢
      rw [Array.getElem?_append_left (by omega)]
      simpa using this
    · rw [dif_neg (by simpa using hi)]
      exact ⟨.any _, fun l n e => by cases e⟩
  refine ⟨lim, id, fun _ => .t 0, rfl, ?_, Nat.le_refl _, fun _ _ => rfl, fun r hr hr' => ?_, fun i => (hat i).1, boxRep_nil _ _ _, fun i => .of_n2 (hat i).2, ?_, But.refl _ _ _ _, fun _ _ => rfl⟩
  · simp; omega
  · exact absurd hr' (Nat.not_lt.2 hr)
  · intro r o cs t hr hr'; exact absurd hr' (Nat.not_lt_zero _)
theorem row_code {P : Program} {f : Nat} {F : CFun} {fn : Func} (hr : RowOk P f F) (hfn : P.funcs[f]? = some fn) : ∃ hn lv c0, fn.body = some c0 ∧ comp P fn.ntmps hn lv 0 c0 = some F.body := by
  obtain ⟨fn', hn, lv, hfn', hcF, _⟩ := hr
  rw [hfn] at hfn'
  cases hfn'
  unfold compF at hcF
  split at hcF
  · rename_i c hbody
    split at hcF
    · rename_i b rs hcomp hres
      split at hcF
      · simp only [Option.some.injEq] at hcF
        refine ⟨hn, lv, c, hbody, ?_⟩
        rw [hcomp, ← hcF]
      · cases hcF
    · cases hcF
  · cases hcF
end Go.Proofs.YtkohggddaheefaaEv
