/- calc.Sum's answer, what law 1's laws call known: by the contracts that the print has told. -/
import Derived.Test.YtapjngmlocgdoaaT1
import Derived.Test.YtapjngmlocgdoaaPureCalcSums
set_option linter.unusedSimpArgs false
set_option linter.unusedVariables false
namespace Go.Proofs.YtapjngmlocgdoaaEv
open Go Go.RowKit
/-- A number of a cell. -/
def intOf : A → Option Int
  | .val (.int .i64 n) => if -9223372036854775808 ≤ n ∧ n ≤ 9223372036854775807 then some n else none
  | _ => none
def toldA (n : Int) : A := if -9223372036854775808 ≤ n ∧ n ≤ 9223372036854775807 then .tup [vi n, vb true] else .tup [vi 0, vb false]
def extS : CallF := fun f args bx => match f, args with
  | 23, [.sl l n _] => if l.length = n ∧ n ≤ 1000 then (l.mapM intOf).map fun zs => (toldA zs.sum, bx) else none
  | 14, [] => some (vb true, bx)
  | _, _ => none
theorem intOf_some {a : A} {n : Int} (h : intOf a = some n) : a = vi n ∧ Go.Proofs.Ytapjngmlocgdoaa.Pure.inI n := by
  unfold intOf at h
  split at h
  · split at h
    · rename_i h2
      cases h; exact ⟨rfl, h2⟩
    · cases h
  · cases h
theorem mapM_len {α β : Type} {f : α → Option β} : ∀ {l : List α} {zs : List β}, l.mapM f = some zs → zs.length = l.length ∧ ∀ i (h : i < l.length) (h2 : i < zs.length), f l[i] = some zs[i]
  | [], zs, h => by
    simp at h
    subst h
    exact ⟨rfl, fun i h => absurd h (Nat.not_lt_zero _)⟩
  | a :: l, zs, h => by
    rw [List.mapM_cons] at h
    cases h1 : f a with
    | none => rw [h1] at h; cases h
    | some z =>
      rw [h1] at h
      cases h2 : l.mapM f with
      | none => rw [h2] at h; cases h
      | some zs' =>
        rw [h2] at h
        cases h
        obtain ⟨e1, e2⟩ := mapM_len h2
        refine ⟨by simp [e1], fun i hi hi2 => ?_⟩
        rcases i with _ | i
        · exact h1
        · exact e2 i (by simpa using hi) (by simpa using hi2)
theorem reads_sl {w : World} {lim : Nat → Nat} {v : Value} {l : List A} {n g : Nat} {zs : List Int} (h : RepV w lim v (.sl l n g)) (hn : l.length = n) (hk : n ≤ 1000) (hz : l.mapM intOf = some zs) :
    ∃ a c, v = .slice a zs.length c ∧ zs.length ≤ c ∧ (YtapjngmlocgdoaaW.PrintWords.Kd.int .i64).C w a zs.length zs := by
  obtain ⟨e1, e2⟩ := mapM_len hz
  cases h with
  | nil _ _ =>
    have : zs = [] := List.eq_nil_of_length_eq_zero (by rw [e1]; rfl)
    subst this
    exact ⟨none, 0, rfl, Nat.le_refl _, rfl, by decide, fun h => absurd h (Nat.lt_irrefl 0)⟩
  | emp b o s _ _ =>
    have : zs = [] := List.eq_nil_of_length_eq_zero (by rw [e1]; rfl)
    subst this
    exact ⟨_, 0, rfl, Nat.le_refl _, rfl, by decide, fun h => absurd h (Nat.lt_irrefl 0)⟩
  | sl b o _ c _ _ vs hc _ _ hcell _ hr =>
    have e3 : zs.length = n := by omega
    rw [e3]
    refine ⟨_, c, rfl, hc, e3, by omega, fun _ => ⟨_, rfl, fun j p hj => ?_⟩⟩
    obtain ⟨hj2, rfl⟩ := List.getElem?_eq_some_iff.1 hj
    have hjl : j < l.length := by omega
    obtain ⟨f1, _⟩ := intOf_some (e2 j hjl hj2)
    have hv := hr j hjl
    rw [f1] at hv
    have hvs : vs j = .int .i64 zs[j] := by
      generalize vs j = u at hv
      cases hv; rfl
    refine ⟨[.int .i64 zs[j]], rfl, rfl, fun i u hu => ?_⟩
    rcases i with _ | i
    · cases hu
      have := hcell j hjl
      rw [hvs] at this
      show w.cell? (Addr.add ⟨b, o, none⟩ (j * 1 + 0)) = _
      rw [Nat.mul_one, Nat.add_zero]
      rw [← this]
      by_cases hj0 : j = 0 <;> simp [Addr.add, hj0]
    · simp at hu
theorem sum_calls {zs : List Int} {a : Option Addr} {c : Nat} {w : World} (hl : zs.length ≤ 1000) (hc : zs.length ≤ c) (hr : (YtapjngmlocgdoaaW.PrintWords.Kd.int .i64).C w a zs.length zs) (hz : ∀ x ∈ zs, Go.Proofs.Ytapjngmlocgdoaa.Pure.inI x) :
    Calls Try.prog 23 #[.slice a zs.length c] w fun e w' => e = .returned (.tuple #[.int .i64 (Go.Proofs.Ytapjngmlocgdoaa.Pure.told zs.sum).1, .bool (Go.Proofs.Ytapjngmlocgdoaa.Pure.told zs.sum).2]) ∧ Below w.heap.size w w' :=
  (Go.Proofs.Ytapjngmlocgdoaa.PCalcSums.calc_Sum.calls 2000 a c zs _ _ w hr hc (Go.Proofs.Ytapjngmlocgdoaa.Pure.sum_eq zs (by omega) hz 2000 (by omega))).mono fun e w' ⟨h1, h2⟩ => ⟨h1, h2.below⟩
theorem rep_two {w : World} {lim μ : Nat → Nat} {m : Nat} (n : Int) (b : Bool) : Rep w lim μ m (.tuple #[.int .i64 n, .bool b]) (.tup [vi n, vb b]) := by
  refine .tup _ _ rfl fun i hi => ?_
  have hi : i < 2 := hi
  rcases i with _ | _ | i
  · exact .c (.v (.val _ rfl))
  · exact .c (.v (.val _ rfl))
  · omega
theorem extS_sound : SoundF Try.prog extS := by
  intro f xs bx r bx' h w lim μ vs hsz hrep hbox hgl
  unfold extS at h
  split at h
  · rename_i l n g
    split at h
    · rename_i hn
      cases hz : l.mapM intOf with
      | none => rw [hz] at h; cases h
      | some zs =>
        rw [hz] at h
        simp only [Option.map_some, Option.some.injEq, Prod.mk.injEq] at h
        obtain ⟨rfl, rfl⟩ := h
        obtain ⟨h0, -⟩ := hrep 0 (by simp)
        simp only [List.getElem_cons_zero] at h0
        have hV : RepV w lim (vs.getD 0 undef) (.sl l n g) := by
          generalize vs.getD 0 undef = v at h0
          cases h0 with
          | r h => cases h with
            | c h => cases h with
              | v h => exact h
        obtain ⟨a, c, hv, hc, hr⟩ := reads_sl hV hn.1 hn.2 hz
        obtain ⟨m1, m2⟩ := mapM_len hz
        have hin : ∀ x ∈ zs, Go.Proofs.Ytapjngmlocgdoaa.Pure.inI x := fun x hx => by
          obtain ⟨i, hi, rfl⟩ := List.getElem_of_mem hx
          exact (intOf_some (m2 i (by omega) hi)).2
        have hvs : vs = #[.slice a zs.length c] := by
          refine Array.ext (by simpa using hsz) fun i h1 h2 => ?_
          have hi : i = 0 := by simp at h2; omega
          subst hi
          rw [Array.getD_eq_getD_getElem?, Array.getElem?_eq_getElem h1] at hv
          simpa using hv
        subst hvs
        refine ⟨fun w => ?_, (by intro l n e; unfold toldA at e; split at e <;> cases e), ?_⟩
        · obtain ⟨c, hb⟩ := Option.isSome_iff_exists.1 (by kernel_rfl : Try.f23.body.isSome = true)
          have hname : ¬ (Try.f23.name = "runtime.NumGoroutine") := by decide +kernel
          simp [callFunc, Try.func23, hname, hb]
        · refine (sum_calls (by omega) hc hr hin).mono fun e w' he => ?_
          obtain ⟨rfl, hb⟩ := he
          refine ⟨_, lim, μ, rfl, Nat.le_refl _, But.of_below hb, fun _ _ => rfl, fun _ _ => rfl, fun r h1 h2 => absurd h2 (Nat.not_lt.2 h1), hbox.mono hb fun _ _ => rfl, ?_⟩
          unfold toldA Go.Proofs.Ytapjngmlocgdoaa.Pure.told
          split
          · exact rep_two _ _
          · exact rep_two _ _
    · cases h
  · cases h
    have hvs : vs = #[] := by
      refine Array.eq_empty_of_size_eq_zero (by simpa using hsz)
    subst hvs
    refine ⟨fun w => ?_, (by intro l n e; cases e), ?_⟩
    · obtain ⟨c, hb⟩ := Option.isSome_iff_exists.1 (by kernel_rfl : Try.f14.body.isSome = true)
      have hname : ¬ (Try.f14.name = "runtime.NumGoroutine") := by decide +kernel
      simp [callFunc, Try.func14, hname, hb]
    · refine (Go.Proofs.Ytapjngmlocgdoaa.PCalcSums.swingbridgelaw1_known.calls 10 true w Go.Proofs.Ytapjngmlocgdoaa.Pure.known_eq).mono fun e w' he => ?_
      obtain ⟨rfl, hb⟩ := he
      exact ⟨_, lim, μ, rfl, Nat.le_refl _, But.of_below hb, fun _ _ => rfl, fun _ _ => rfl, fun r h1 h2 => absurd h2 (Nat.not_lt.2 h1), hbox.mono hb fun _ _ => rfl, .rv (.val _ rfl)⟩
  · cases h
end Go.Proofs.YtapjngmlocgdoaaEv
