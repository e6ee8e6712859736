/- Code and calls. -/
import Derived.Test.YtclebnamhpgdmaaGreatEvP
import Derived.Scope
namespace Go.Proofs.YtclebnamhpgdmaaGreatEv
open Go Go.RowKit
set_option linter.unusedSimpArgs false
set_option linter.unusedVariables false

/-! ### from the program's code to the compact one -/
def tkOf (ops : Array Oper) : List Nat := ops.toList.filterMap fun o => match o.op with
  | .call { callee := .builtin .append, args := xs, .. } => match xs.toList with
    | .tmp t :: _ => some t
    | _ => none
  | _ => none

def okD (nt : Nat) : Option Nat → Bool
  | some d => decide (d < nt)
  | none => true

def compJ (P : Program) (nt : Nat) (ops : Array Oper) (tk : Hn) (o : Oper) : Option J :=
  match compI P tk o.dst o.op with
  | some i =>
    if i.os.all (okO nt) = true ∧ okD nt o.dst = true then
      match o.guard with
      | none => some ⟨o.dst, i, none⟩
      | some (k, b) => match (ops[k]?).bind (·.dst) with
        | some t => some ⟨o.dst, i, some (t, b)⟩
        | none => none
    else none
  | none => none

def compL (P : Program) (nt : Nat) (ops : Array Oper) (tk : Hn) : List Oper → Option (List J)
  | [] => some []
  | o :: r => match compJ P nt ops tk o, compL P nt ops tk r with
    | some j, some t => some (j :: t)
    | _, _ => none

def dregOk (mixed : Bool) (ops : Array Oper) (js : List J) : Bool :=
  drawOkI (indepD (clOf js) (neOf (clOf js) js)) mixed ops js && js.all (rootJ (clOf js) (neOf (clOf js) js)) &&
  (neOf (clOf js) js).all fun p => !((clOf js).any fun q => q.1 == p.1) && !((clOf js).any fun q => q.1 == p.2)
def comp (P : Program) (nt : Nat) (hn : Hn) (lv : Nat → List Nat × Nat) : Nat → Code → Option C
  | _, .skip => some .skip
  | _, .region _ ops draw => match compL P nt ops { hn with tk := tkOf ops } ops.toList with
    | some js => if draw = false ∨ drawOk (P.follows .mixedOrders) ops js = true then some (.reg js)
      else if dregOk (P.follows .mixedOrders) ops js = true then some (.dreg (clOf js) (neOf (clOf js) js) js) else none
    | none => none
  | k, .seq a b => match comp P nt hn lv k a, comp P nt hn lv k b with
    | some a', some b' => some (.seq a' b')
    | _, _ => none
  | k, .cond c a b => match toO c, comp P nt hn lv k a, comp P nt hn lv k b with
    | some x, some a', some b' => if okO nt x = true then some (.cond x a' b') else none
    | _, _, _ => none
  | _, .block id a => (comp P nt hn lv id a).map (.block id)
  | k, .loop a => (comp P nt hn lv k a).map (.loop (lv k).1 (lv k).2)
  | _, .exit id => some (.exit id)
  | _, .label _ => some .skip
  | k, .scope a => (comp P nt hn lv k a).map .scope
  | _, .ret => some .ret
  | _, _ => none

def resOf (P : Program) : List ResultVar → Option (List RV)
  | [] => some []
  | .tmp t :: r => (resOf P r).map fun x => .t t :: x
  | .cell a t :: r => match P.underlying t, P.info? t, resOf P r with
    | some d, some i, some x => if isAggD d = true then some (.cell a i.size :: x) else none
    | _, _, _ => none

def compF (P : Program) (hn : Hn) (lv : Nat → List Nat × Nat) (fn : Func) : Option CFun :=
  match fn.body with
  | some c => match comp P fn.ntmps hn lv 0 c, resOf P fn.results.toList with
    | some b, some r => if fn.params.size + fn.nfree ≤ fn.ntmps then some ⟨fn.ntmps, fn.params.size + fn.nfree, b, r⟩ else none
    | _, _ => none
  | none => none

def lvOf (l : List (Nat × (List Nat × Nat))) (k : Nat) : List Nat × Nat := ((l.find? fun p => p.1 == k).map (·.2)).getD ([], 0)

/-- A row of the table is the program's own function. -/
def RowOk (P : Program) (f : Nat) (F : CFun) : Prop := ∃ fn hn lv, P.funcs[f]? = some fn ∧ compF P hn lv fn = some F ∧ (fn.name == "runtime.NumGoroutine") = false
def TabOk (P : Program) (tab : Nat → Option CFun) : Prop := ∀ f F, tab f = some F → RowOk P f F

/-! ### loops -/
def LoopGoes (P : Program) (c : Code) (Q : Exit → Act → World → Prop) (a : Act) (w : World) : Prop :=
  ∀ (b : Frame) (k : List Item) (cs : List Frame), ∃ e a' w', Q e a' w' ∧ Arrives P (lone (b.at a (.code c :: .inLoop c :: k)) cs w) b k cs e a' w'

theorem LoopGoes.unroll {P c Q a w} (h : c.wp P (Exit.then (LoopGoes P c Q) Q) a w) : LoopGoes P c Q a w := by
  intro b k cs
  obtain ⟨e, a1, w1, hq, harr⟩ := h b (.inLoop c :: k) cs
  cases e with
  | normal =>
    obtain ⟨e2, a2, w2, hq2, harr2⟩ := hq b k cs
    exact ⟨e2, a2, w2, hq2, .of_steps (Steps.trans harr (.one step_inLoop)) harr2⟩
  | exit id => exact ⟨_, a1, w1, hq, .pass (x := .inLoop c) rfl (fun _ _ => .inl (by simp)) harr⟩
  | goto l => exact ⟨_, a1, w1, hq, .pass (x := .inLoop c) rfl (fun _ _ => .inl (by simp)) harr⟩
  | ret => exact ⟨_, a1, w1, hq, .pass (x := .inLoop c) rfl (fun _ _ => .inl (by simp)) harr⟩
  | panic ch => exact ⟨_, a1, w1, hq, .pass (x := .inLoop c) rfl (fun _ _ => .inl (by simp)) harr⟩
  | outgrown => exact ⟨_, a1, w1, hq, .pass (x := .inLoop c) rfl (fun _ _ => .inl (by simp)) harr⟩

theorem LoopGoes.wp {P c Q a w} (h : LoopGoes P c Q a w) : (Code.loop c).wp P Q a w := by
  intro b k cs
  obtain ⟨e, a1, w1, hq, harr⟩ := h b k cs
  exact ⟨e, a1, w1, hq, .of_steps (.one step_loop) harr⟩

def Does (P : Program) (c : Code) (Q : Exit → Act → World → Prop) (a : Act) (w : World) : Prop :=
  match c with
  | .loop b => LoopGoes P b Q a w
  | c => c.wp P Q a w

theorem Does.wp {P c Q a w} (h : Does P c Q a w) : c.wp P Q a w := by
  cases c <;> first | exact LoopGoes.wp h | exact h

def exitOf : Out → Exit
  | .nor => .normal
  | .ex id => .exit id
  | .ret => .ret

def CodeSound (P : Program) (ev : Ev) : Prop := ∀ (F : Fr) (hn : Hn) (lv : Nat → List Nat × Nat) (k : Nat) (c0 : Code) (c : C) (s : Env × Bx) (out : Out) (s' : Env × Bx), comp P F.nt hn lv k c0 = some c → ev F.nb c s = some (out, s') →
  ∀ a w Q, Inv F s a w → (∀ a' w', Inv F s' a' w' → Q (exitOf out) a' w') → Does P c0 Q a w

/-! ### regions -/
section
variable {P : Program} {F : Fr} {Φ : CallF} {ops : Array Oper} {tk : Hn}

theorem compL_get : ∀ (l : List Oper) (js : List J), compL P F.nt ops tk l = some js → js.length = l.length ∧ ∀ i (o : Oper), l[i]? = some o → compJ P F.nt ops tk o = some (js.getD i default)
  | [], js, h => by cases h; exact ⟨rfl, fun i o h => by simp at h⟩
  | o :: l, js, h => by
    unfold compL at h
    split at h
    · rename_i j t e1 e2
      cases h
      obtain ⟨h1, h2⟩ := compL_get l t e2
      refine ⟨by simp [h1], fun i o' hi => ?_⟩
      cases i with
      | zero => simp at hi; subst hi; exact e1
      | succ i => simpa using h2 i o' (by simpa using hi)
    · cases h

theorem undef_und {s : Env × Bx} {a : Act} {w : World} {d : Option Nat} (h : Inv F s a w) (hd : okD F.nt d = true) : Inv F (putO d .und s.1, s.2) (a.put d undef) w := by
  obtain ⟨lim, μ, own, h⟩ := h
  exact h.setO (fun k e => by subst e; simpa [okD] using hd) .und (fun l n b q c e => by cases e)

theorem ops_sound (hΦ : SoundF P Φ) {js : List J} (hjs : ∀ i (o : Oper), ops[i]? = some o → compJ P F.nt ops tk o = some (js.getD i default)) {Q : Exit → Act → World → Prop} :
    ∀ (σ : List Nat) (s s' : Env × Bx) (a : Act) (w : World), (∀ i ∈ σ, i < ops.size) → evJs Φ F.nb (σ.map fun i => js.getD i default) s = some s' → Inv F s a w → (∀ a' w', Inv F s' a' w' → Q .normal a' w') → wpOps P ops Q σ a w
  | [], s, s', a, w, _, hev, hI, hQ => by cases hev; exact hQ _ _ hI
  | i :: σ, s, s', a, w, hlt, hev, hI, hQ => by
    have hi := hlt i (by simp)
    have ho : ops[i]? = some ops[i] := Array.getElem?_eq_getElem hi
    simp only [wpOps, ho]
    generalize ops[i] = o at ho
    have hc := hjs i o ho
    simp only [List.map_cons, evJs] at hev
    generalize js.getD i default = j at hc hev
    cases h1 : evJ Φ F.nb j s with
    | none => simp [h1] at hev
    | some s1 =>
      simp only [h1] at hev
      have ih : ∀ a' w', Inv F s1 a' w' → wpOps P ops Q σ a' w' := fun a' w' hI' => ops_sound hΦ hjs σ s1 s' a' w' (fun k hk => hlt k (by simp [hk])) hev hI' hQ
      unfold compJ at hc
      split at hc
      · rename_i ii hcI
        split at hc
        · rename_i hcond
          obtain ⟨hk, hd⟩ := hcond
          have hd' : ∀ k, o.dst = some k → k < F.nt := fun k e => by rw [e] at hd; simpa [okD] using hd
          have hrun : ∀ (j : J), j.d = o.dst → j.i = ii → evRun Φ F.nb j s = some s1 → o.wp P a w (wpOps P ops Q σ) Q := by
            intro j jd ji hr
            unfold evRun at hr
            rw [ji, jd] at hr
            cases he : evI Φ F.nb ii s.1 s.2 with
            | none => simp [he] at hr
            | some q =>
              obtain ⟨v, ups, bx'⟩ := q
              simp only [he, Option.some.injEq] at hr
              subst hr
              obtain ⟨lim, μ, own, h⟩ := hI
              exact opSound hΦ h hcI hk hd' he ih
          cases hg : o.guard with
          | none =>
            simp only [hg] at hc
            cases hc
            simp only [evJ] at h1
            rw [if_pos (by simp [Region.wanted, hg])]
            exact .inl (hrun _ rfl rfl h1)
          | some p =>
            obtain ⟨kk, b⟩ := p
            simp only [hg] at hc
            split at hc
            · rename_i t ht
              cases hc
              simp only [evJ] at h1
              have henv : ∀ lim μ own, InvG F lim μ own s a w → Rep w lim μ s.2.length (a.tmps.getD t undef) (s.1 t) := fun lim μ own h => h.env t
              split at h1
              · rename_i b' e1
                have hval : a.tmps.getD t undef = .bool b' := by
                  obtain ⟨lim, μ, own, h⟩ := hI
                  have := h.env t
                  rw [e1] at this
                  exact this.val.1
                have hy : yielded ops a.tmps kk = some b' := by
                  unfold yielded
                  rw [ht, Option.bind_some]
                  rw [Array.getD_eq_getD_getElem?] at hval
                  cases hz : a.tmps[t]? with
                  | none => rw [hz] at hval; simp [undef] at hval
                  | some v => rw [hz] at hval; simp at hval; subst hval; rfl
                split at h1
                · rename_i hb
                  subst hb
                  rw [if_pos (by simp [Region.wanted, hg, hy])]
                  exact .inl (hrun _ rfl rfl h1)
                · rename_i hb
                  rw [if_neg (by simp [Region.wanted, hg, hy, hb])]
                  cases h1
                  exact ih _ _ (undef_und hI hd)
              · rename_i e1
                have hval : a.tmps.getD t undef = undef := by
                  obtain ⟨lim, μ, own, h⟩ := hI
                  have := h.env t
                  rw [e1] at this
                  generalize a.tmps.getD t undef = v at this
                  cases this with
                  | und => rfl
                  | r h => cases h with
                    | c h => cases h with
                      | v h => cases h
                have hy : yielded ops a.tmps kk = none := by
                  unfold yielded
                  rw [ht, Option.bind_some]
                  rw [Array.getD_eq_getD_getElem?] at hval
                  cases hz : a.tmps[t]? with
                  | none => rfl
                  | some v => rw [hz] at hval; simp at hval; subst hval; rfl
                rw [if_neg (by simp [Region.wanted, hg, hy])]
                cases h1
                exact ih _ _ (undef_und hI hd)
              · cases h1
            · cases hc
        · cases hc
      · cases hc
end

theorem keepL_at (e : Env) : ∀ (live : List Nat) (i : Nat), keepL live e i = if i ∈ live then e i else .any
  | [], i => rfl
  | k :: live, i => by
    show put k (e k) (keepL live e) i = _
    rw [put_at, keepL_at e live i]
    by_cases h : i = k
    · subst h; simp
    · rw [if_neg h]; simp [h]

theorem dang_agg {w lim μ m m'} {vs : Array Value} {l : List A} (hr : ∀ i (h : i < l.length), RepC w lim μ m (vs.getD i undef) l[i]) (hd : l.all (A.dangC m') = true) : ∀ i (h : i < l.length), RepC w lim μ m' (vs.getD i undef) l[i] :=
  fun i hi => dangC_rep (hr i hi) (List.all_eq_true.1 hd _ (List.getElem_mem hi))

theorem dang_rep {w lim μ m m' v a} (h : Rep w lim μ m v a) (hd : a.dang m' = true) : Rep w lim μ m' v a := by
  cases h with
  | any => exact .any _
  | und => exact .und
  | r h => cases h with
    | c h =>
      refine .r (.c (dangC_rep h ?_))
      cases h with
      | v h => cases h <;> rfl
      | bs => exact hd
    | agg vs l hs hr h2 => exact .r (.agg vs l hs (dang_agg hr hd) h2)
  | tup vs l hs hr =>
    refine .tup vs l hs fun i hi => ?_
    have h1 := List.all_eq_true.1 hd _ (List.getElem_mem hi)
    have h2 := hr i hi
    cases hx : l[i] with
    | agg l' =>
      rw [hx] at h1 h2
      obtain ⟨us, hv, hs', hr', h2'⟩ := (Rep.r h2).toAgg
      rw [hv]
      exact .agg us l' hs' (dang_agg hr' h1) h2'
    | _ =>
      rw [hx] at h1 h2
      generalize vs.getD i undef = v at h2
      cases h2 with
      | c h => exact .c (dangC_rep h h1)
  | ptr r o h => exact .ptr r o (by simpa [A.dang] using hd)
  | ip b o l vs hc hl hr => exact .ip b o l vs hc hl hr
  | fn f caps h => exact .fn f caps fun p hp => by simpa using List.all_eq_true.1 hd p hp

theorem loopIn0_inv {F : Fr} {live : List Nat} {kb : Nat} {s s0 : Env × Bx} {a : Act} {w : World} (h : Inv F s a w) (hl : loopIn0 F.nb live kb s = some s0) : Inv F s0 a w := by
  obtain ⟨lim, μ, own, h⟩ := h
  unfold loopIn0 at hl
  split at hl
  · rename_i hcond
    obtain ⟨hle, hd, hdb⟩ := hcond
    cases hl
    have hlen : (s.2.take F.nb ++ ((s.2.drop F.nb).take kb).map (List.map A.own)).length = F.nb + kb := by simp; omega
    have hat : ∀ r (hr : r < F.nb + kb), (s.2.take F.nb ++ ((s.2.drop F.nb).take kb).map (List.map A.own))[r]'(by rw [hlen]; exact hr) = if r < F.nb then s.2[r]'(by omega) else (s.2[r]'(by omega)).map A.own := by
      intro r hr
      by_cases h1 : r < F.nb
      · rw [if_pos h1, List.getElem_append_left (by simp; omega), List.getElem_take]
      · rw [if_neg h1, List.getElem_append_right (by simp; omega)]
        simp only [List.getElem_map, List.getElem_take, List.getElem_drop]
        congr 2
        simp; omega
    have htk := h.box.take hle hdb
    have htl : (s.2.take (F.nb + kb)).length = F.nb + kb := by simp; omega
    refine ⟨lim, μ, own, h.defers, h.size, by rw [hlen]; omega, h.mu0, fun r hr hr' => h.mub r hr (by rw [hlen] at hr'; omega), fun i => ?_, ⟨fun r hr => ?_, fun r hr => ?_, fun r r' hr hr' e => ?_⟩, fun i => ?_, ?_, h.below, h.lim0⟩
    · simp only [keepL_at]
      split
      · rename_i hi
        rw [hlen]
        exact dang_rep (h.env i) (List.all_eq_true.1 hd i hi)
      · exact .any _
    · rw [hlen] at hr
      obtain ⟨cs, t, k1, k2, k3⟩ := htk.row r (by rw [htl]; exact hr)
      rw [List.getElem_take] at k2
      simp only [List.getElem_take] at k3
      have k3 : ∀ o (ho : o < (s.2[r]'(by omega)).length), RepC w lim μ (F.nb + kb) (cs.getD o undef) (s.2[r]'(by omega))[o] := fun o ho => (k3 o ho).mono (.refl _ _) (fun _ _ => rfl) (Nat.le_of_eq htl)
      rw [hlen]
      refine ⟨cs, t, k1, ?_, ?_⟩
      · rw [hat r hr]; split
        · exact k2
        · simpa using k2
      · intro o ho
        simp only [hat r hr] at ho ⊢
        by_cases h1 : r < F.nb
        · simp only [if_pos h1] at ho ⊢; exact k3 o ho
        · simp only [if_neg h1, List.length_map] at ho ⊢
          rw [List.getElem_map]; exact (k3 o ho).own
    · exact h.box.lim0 r (by rw [hlen] at hr; omega)
    · exact h.box.inj r r' (by rw [hlen] at hr; omega) (by rw [hlen] at hr'; omega) e
    · simp only [keepL_at]
      split
      · exact h.flt i
      · exact .of_n2 fun l n e => by cases e
    · intro r o cs t hr hr' hh ho
      rw [hlen] at hr'
      simp only [hat r hr', if_neg (Nat.not_lt.2 hr), List.length_map] at ho ⊢
      rw [List.getElem_map]
      have hf := h.flb r o cs t hr (by omega) hh ho
      intro l n b q c e1 e2 e3
      rcases own_flag e1 with e | e
      · exact hf l n b q c e e2 e3
      · obtain ⟨cs1, t1, k1, k2, k3⟩ := h.box.row r (by omega)
        rw [hh] at k1
        cases k1
        have h3 := k3 o ho
        rw [e, e2] at h3
        have := full_of_one (.r (.c h3))
        omega
  · cases hl

theorem loopIn_inv {F : Fr} {live : List Nat} {kb : Nat} {s s0 : Env × Bx} {a : Act} {w : World} (h : Inv F s a w) (hl : loopIn F.nb live kb s = some s0) : Inv F s0 a w := loopIn0_inv h hl

theorem Inv.cleared {F : Fr} {s : Env × Bx} {a : Act} {w : World} (h : Inv F s a w) (cl : List (Nat × Nat)) : Inv F (clr cl s.1, s.2) a w := by
  obtain ⟨lim, μ, own, h⟩ := h
  refine ⟨lim, μ, own, h.defers, h.size, h.nb, h.mu0, h.mub, fun i => ?_, h.box, fun i => ?_, h.flb, h.below, h.lim0⟩
  · show Rep _ _ _ _ _ (clr cl s.1 i)
    unfold clr
    split
    · exact .any _
    · exact h.env i
  · show FlagOk _ _ _ _ _ _ (clr cl s.1 i)
    unfold clr
    split
    · exact .of_n2 fun _ _ e => by cases e
    · exact h.flt i
theorem step_sound {P : Program} {tab : Nat → Option CFun} {ext : CallF} {ev : Ev} (hev : CodeSound P ev) (hΦ : SoundF P (callOf tab ext ev)) : CodeSound P (stepC tab ext ev) := by
  intro F hn lv k c0 c s out s' hc he a w Q hI hQ
  cases c0 with
  | skip => simp only [comp] at hc; cases hc; cases he; exact wp_skip (hQ _ _ hI)
  | exit id => simp only [comp] at hc; cases hc; cases he; exact wp_exit (hQ _ _ hI)
  | ret => simp only [comp] at hc; cases hc; cases he; exact wp_ret (hQ _ _ hI)
  | label l => simp only [comp] at hc; cases hc; cases he; exact wp_label (hQ _ _ hI)
  | seq x y =>
    simp only [comp] at hc
    split at hc
    · rename_i x' y' hx hy
      cases hc
      simp only [stepC] at he
      refine wp_seq ?_
      cases h1 : ev F.nb x' s with
      | none => simp [h1] at he
      | some q =>
        obtain ⟨o1, s1⟩ := q
        simp only [h1] at he
        cases o1 with
        | nor => exact (hev F hn lv k x x' s .nor s1 hx h1 a w _ hI fun a' w' hI' => (hev F hn lv k y y' s1 out s' hy he a' w' Q hI' hQ).wp).wp
        | ex i => cases he; exact (hev F hn lv k x x' s _ _ hx h1 a w (Exit.then (y.wp P Q) Q) hI fun a' w' hI' => hQ a' w' hI').wp
        | ret => cases he; exact (hev F hn lv k x x' s _ _ hx h1 a w (Exit.then (y.wp P Q) Q) hI fun a' w' hI' => hQ a' w' hI').wp
    · cases hc
  | cond x y z =>
    simp only [comp] at hc
    split at hc
    · rename_i x' y' z' hx hy hz
      split at hc
      · rename_i hok
        cases hc
        simp only [stepC] at he
        split at he
        · rename_i t e1
          have hv : a.eval x = .bool t := by
            obtain ⟨lim, μ, own, h⟩ := hI
            have := eval_rep h hx hok
            rw [e1] at this
            exact this.val.1
          refine wp_cond hv ?_
          cases t with
          | true => exact (hev F hn lv k y y' s out s' hy (by simpa using he) a w Q hI hQ).wp
          | false => exact (hev F hn lv k z z' s out s' hz (by simpa using he) a w Q hI hQ).wp
        · cases he
      · cases hc
    · cases hc
  | scope x =>
    simp only [comp, Option.map_eq_some_iff] at hc
    obtain ⟨x', hx, rfl⟩ := hc
    simp only [stepC] at he
    refine wp_scope_straight ?_
    refine (hev F hn lv k x x' s out s' hx he a w _ hI fun a' w' hI' => ?_).wp
    have := hQ a' w' hI'
    cases out <;> exact this
  | block id x =>
    simp only [comp, Option.map_eq_some_iff] at hc
    obtain ⟨x', hx, rfl⟩ := hc
    simp only [stepC] at he
    refine wp_block ?_
    cases h1 : ev F.nb x' s with
    | none => simp [h1] at he
    | some q =>
      obtain ⟨o1, s1⟩ := q
      simp only [h1] at he
      refine (hev F hn lv id x x' s o1 s1 hx h1 a w _ hI fun a' w' hI' => ?_).wp
      cases o1 with
      | nor => cases he; exact hQ a' w' hI'
      | ret => cases he; exact hQ a' w' hI'
      | ex i =>
        simp only [exitOf, Exit.inBlock]
        cases he
        by_cases hid : i = id
        · rw [if_pos hid]; simp only [hid, if_true] at hQ; exact hQ a' w' hI'
        · rw [if_neg hid]; simp only [hid, if_false] at hQ; exact hQ a' w' hI'
  | loop x =>
    simp only [comp, Option.map_eq_some_iff] at hc
    obtain ⟨x', hx, rfl⟩ := hc
    have hc : comp P F.nt hn lv k (.loop x) = some (.loop (lv k).1 (lv k).2 x') := by simp only [comp, hx, Option.map_some]
    simp only [stepC] at he
    cases hl : loopIn F.nb (lv k).1 (lv k).2 s with
    | none => simp [hl] at he
    | some s0 =>
      simp only [hl] at he
      have hI0 := loopIn_inv hI hl
      refine LoopGoes.unroll ?_
      cases h1 : ev F.nb x' s0 with
      | none => simp [h1] at he
      | some q =>
        obtain ⟨o1, s1⟩ := q
        simp only [h1] at he
        refine (hev F hn lv k x x' s0 o1 s1 hx h1 a w _ hI0 fun a' w' hI' => ?_).wp
        cases o1 with
        | nor => exact hev F hn lv k (.loop x) _ s1 out s' hc he a' w' Q hI' hQ
        | ex i => cases he; exact hQ a' w' hI'
        | ret => cases he; exact hQ a' w' hI'
  | region id ops draw =>
    simp only [comp] at hc
    split at hc
    · rename_i js hjs
      split at hc
      · rename_i hd
        cases hc
        simp only [stepC, Option.map_eq_some_iff] at he
        obtain ⟨s1, h1, h2⟩ := he
        cases h2
        obtain ⟨hlen, hget⟩ := compL_get (F := F) ops.toList js hjs
        have hget' : ∀ i (o : Oper), ops[i]? = some o → compJ P F.nt ops { hn with tk := tkOf ops } o = some (js.getD i default) := fun i o ho => hget i o (by simpa using ho)
        have hlen' : js.length = ops.size := by simpa using hlen
        cases draw with
        | false =>
          refine wp_region ?_
          refine ops_sound (F := F) hΦ hget' _ s _ a w (fun i hi => by simpa using hi) ?_ hI fun a' w' hI' => hQ a' w' hI'
          have : (List.range ops.size).map (fun i => js.getD i default) = js := by
            apply List.ext_getElem
            · simp [hlen']
            · intro i h1 h2; simp [h2]
          rw [this]; exact h1
        | true =>
          refine wp_region_draw fun t => ?_
          obtain ⟨k1, k2⟩ := schedule_sound _ F.nb hlen' (hd.resolve_left (by simp)) t s _ h1
          refine ops_sound (F := F) hΦ hget' _ s _ a _ k1 k2 ?_ fun a' w' hI' => hQ a' w' hI'
          obtain ⟨lim, μ, own, h⟩ := hI
          exact ⟨lim, μ, own, h.step (drew_below w) fun _ _ => rfl⟩
      · rename_i hnd
        split at hc
        · rename_i hd
          cases hc
          simp only [stepC] at he
          split at he
          · rename_i hne
            simp only [Option.map_eq_some_iff] at he
            obtain ⟨s1, h1, h2⟩ := he
            cases h2
            obtain ⟨hlen, hget⟩ := compL_get (F := F) ops.toList js hjs
            have hget' : ∀ i (o : Oper), ops[i]? = some o → compJ P F.nt ops { hn with tk := tkOf ops } o = some (js.getD i default) := fun i o ho => hget i o (by simpa using ho)
            have hlen' : js.length = ops.size := by simpa using hlen
            simp only [dregOk, Bool.and_eq_true] at hd
            cases draw with
            | false => exact absurd (.inl rfl) hnd
            | true =>
              refine wp_region_draw fun t => ?_
              obtain ⟨k1, k2⟩ := schedule_soundI (comm_apart _ F.nb _ _) hlen' (fun j hj => List.all_eq_true.1 hd.1.2 j hj) hd.1.1 t _ _ (KD.start hne hd.2) h1
              refine ops_sound (F := F) hΦ hget' _ _ _ a _ k1 k2 ?_ fun a' w' hI' => hQ a' w' hI'
              obtain ⟨lim, μ, own, h⟩ := hI.cleared (clOf js)
              exact ⟨lim, μ, own, h.step (drew_below w) fun _ _ => rfl⟩
          · cases he
        · cases hc
    · cases hc
  | _ => simp [comp] at hc

/-! ### calls -/
theorem initFrom_at : ∀ (xs : List A) (k i : Nat), initFrom k xs i = if h : k ≤ i ∧ i - k < xs.length then xs[i - k]'h.2 else .any
  | [], k, i => by simp [initFrom, emp]
  | x :: xs, k, i => by
    show put k x (initFrom (k + 1) xs) i = _
    rw [put_at, initFrom_at xs (k + 1) i]
    by_cases h : i = k
    · subst h; simp
    · rw [if_neg h]
      by_cases h2 : k + 1 ≤ i ∧ i - (k + 1) < xs.length
      · rw [dif_pos h2, dif_pos (by simp; omega)]
        have : i - k = (i - (k + 1)) + 1 := by omega
        simp [this]
      · rw [dif_neg h2, dif_neg (by simp; omega)]

theorem results_run {P : Program} {tmps : Array Value} {w : World} (g : ResultVar → Sem Value) (Z : ResultVar → Value → Prop) (hg : ∀ r v, Z r v → (g r).run P w = .ok v w) :
    ∀ (rs : List ResultVar) (vs : List Value), rs.length = vs.length → (∀ i (h : i < rs.length) (h' : i < vs.length), Z rs[i] vs[i]) → (rs.mapM g).run P w = .ok vs w
  | [], [], _, _ => by simp
  | [], v :: vs, h, _ => by simp at h
  | r :: rs, [], h, _ => by simp at h
  | r :: rs, v :: vs, hl, hz => by
    have ih := results_run (tmps := tmps) g Z hg rs vs (by simpa using hl) (fun i h h' => hz (i + 1) (by simpa using h) (by simpa using h'))
    have h0 := hg _ _ (hz 0 (by simp) (by simp))
    simp only [List.getElem_cons_zero] at h0
    rw [List.mapM_cons]
    simp only [Sem.run_bind, Sem.run_pure, Result.andThen_ok, ih, h0]

/-- What a result variable answers. -/
def ResIs (P : Program) (tmps : Array Value) (w : World) : ResultVar → Value → Prop
  | .tmp t, v => v = tmps.getD t undef
  | .cell a t, v => ∃ ad, tmps.getD a undef = .pointer (some ad) ∧ (loadVar t ad).run P w = .ok v w

theorem res_sound {P : Program} {F : Fr} {lim μ : Nat → Nat} {own : Nat → Pl} {s : Env × Bx} {a : Act} {w : World} (h : InvG F lim μ own s a w) : ∀ (rs : List ResultVar) (ts : List RV), resOf P rs = some ts →
    rs.length = ts.length ∧ ∀ i (h1 : i < rs.length) (h2 : i < ts.length) (x : A), resVal s ts[i] = some x → ∃ v, ResIs P a.tmps w rs[i] v ∧ RepR w lim μ s.2.length v x ∧ n2 x
  | [], ts, e => by cases e; exact ⟨rfl, fun i h1 => by simp at h1⟩
  | r :: rs, ts, e => by
    have hd : ∃ t ts', ts = t :: ts' ∧ resOf P rs = some ts' ∧ ∀ x, resVal s t = some x → ∃ v, ResIs P a.tmps w r v ∧ RepR w lim μ s.2.length v x ∧ n2 x := by
      cases r with
      | tmp t =>
        simp only [resOf, Option.map_eq_some_iff] at e
        obtain ⟨ts', e', rfl⟩ := e
        refine ⟨_, ts', rfl, e', fun x hx => ?_⟩
        simp only [resVal] at hx
        split at hx
        · rename_i hr
          cases hx
          exact ⟨_, rfl, ((h.env t).isR hr).cp, n2_cp _⟩
        · cases hx
      | cell ad t =>
        simp only [resOf] at e
        split at e
        · rename_i d i ts' hu hi e'
          split at e
          · rename_i hag
            cases e
            refine ⟨_, ts', rfl, e', fun x hx => ?_⟩
            simp only [resVal] at hx
            split at hx
            · rename_i r hp
              have hpr := h.env ad
              rw [hp] at hpr
              obtain ⟨hv, hr⟩ := hpr.toPtr
              rw [List.getElem?_eq_getElem hr] at hx
              simp only at hx
              split at hx
              · rename_i hsz
                cases hx
                obtain ⟨cs, ct, hh, hs, hc⟩ := h.box.row r hr
                have hrun := load_agg (P := P) (w := w) hu hi hag (b := μ r) (q := 0) (fun j => cs.getD j undef) (fun j hj => by rw [Nat.zero_add]; exact cell_of_row hh (by omega))
                refine ⟨.agg ((List.range i.size).map fun j => cs.getD j undef).toArray, ⟨_, hv, by simpa [Instr.loadAt, Instr.sureAddr] using hrun⟩, .agg _ _ ?_ ?_ ?_, fun _ _ e => by cases e⟩
                · simp [hsz]
                · intro j hj
                  have hj' : j < i.size := by simp at hj; omega
                  rw [getD_range _ _ _ hj', List.getElem_map]
                  exact (hc j (by omega)).cp1
                · intro j hj; rw [List.getElem_map]; exact n2_cp1 _
              · cases hx
            · cases hx
          · cases e
        · cases e
    obtain ⟨t, ts', rfl, e', ht⟩ := hd
    obtain ⟨l1, l2⟩ := res_sound h rs ts' e'
    refine ⟨by simp [l1], fun i h1 h2 x hx => ?_⟩
    cases i with
    | zero => exact ht x hx
    | succ i => exact l2 i (by simpa using h1) (by simpa using h2) x hx

theorem choose_list {Z : Nat → Value → Prop} : ∀ (n : Nat), (∀ i, i < n → ∃ v, Z i v) → ∃ vs : List Value, vs.length = n ∧ ∀ i (h : i < vs.length), Z i vs[i]
  | 0, _ => ⟨[], rfl, fun i h => by simp at h⟩
  | n + 1, h => by
    obtain ⟨vs, h1, h2⟩ := choose_list n fun i hi => h i (by omega)
    obtain ⟨v, hv⟩ := h n (by omega)
    refine ⟨vs ++ [v], by simp [h1], fun i hi => ?_⟩
    by_cases hlt : i < vs.length
    · rw [List.getElem_append_left hlt]; exact h2 i hlt
    · have : i = n := by simp at hi; omega
      subst this
      rw [List.getElem_append_right (by omega)]
      simpa using hv

theorem call_sound {P : Program} {tab : Nat → Option CFun} {ext : CallF} {ev : Ev} (hev : CodeSound P ev) (ht : TabOk P tab) (hx : SoundF P ext) : SoundF P (callOf tab ext ev) := by
  intro f xs bx r bx' hr w lim μ vs hsz hrep hbox
  unfold callOf at hr
  cases hext : ext f xs bx with
  | some q => simp only [hext, Option.some.injEq] at hr; subst hr; exact hx _ _ _ _ _ hext w lim μ vs hsz hrep hbox
  | none =>
  simp only [hext] at hr
  cases hF : tab f with
  | none => simp [hF] at hr
  | some F =>
    simp only [hF] at hr
    obtain ⟨fn, hn, lv, hfn, hcF, hname⟩ := ht f F hF
    unfold compF at hcF
    split at hcF
    · rename_i c hbody
      split at hcF
      · rename_i b rs hcomp hres
        split at hcF
        · rename_i hle
          simp only [Option.some.injEq] at hcF
          have hFb : F.body = b := by rw [← hcF]
          have hFr : F.res = rs := by rw [← hcF]
          have hFnt : F.nt = fn.ntmps := by rw [← hcF]
          have hFnp : F.np = fn.params.size + fn.nfree := by rw [← hcF]
          split at hr
          · rename_i hlen
            -- the answer and its state
            obtain ⟨out, s', hrun, hout, hresult, hbx⟩ : ∃ out s', ev bx.length F.body (initFrom 0 xs, bx) = some (out, s') ∧ (out = .nor ∨ out = .ret) ∧ resultOf F s' = some r ∧ s'.2 = bx' := by
              split at hr
              · rename_i s' e1; simp only [Option.map_eq_some_iff, Prod.mk.injEq] at hr; obtain ⟨v, hv, rfl, rfl⟩ := hr; exact ⟨_, s', e1, .inl rfl, hv, rfl⟩
              · rename_i s' e1; simp only [Option.map_eq_some_iff, Prod.mk.injEq] at hr; obtain ⟨v, hv, rfl, rfl⟩ := hr; exact ⟨_, s', e1, .inr rfl, hv, rfl⟩
              · cases hr
            subst hbx
            -- the answer as a list
            obtain ⟨l, hl, hone⟩ : ∃ l, F.res.mapM (resVal s') = some l ∧ ((F.res.length = 1 ∧ l = [r]) ∨ (F.res.length ≠ 1 ∧ r = .tup l)) := by
              unfold resultOf at hresult
              split at hresult
              · rename_i t e1
                rw [e1]
                refine ⟨[r], ?_, .inl ⟨rfl, rfl⟩⟩
                rw [List.mapM_cons, hresult]; rfl
              · rename_i hne
                simp only [Option.map_eq_some_iff] at hresult
                obtain ⟨l, hl, rfl⟩ := hresult
                refine ⟨l, hl, .inr ⟨fun h1 => ?_, rfl⟩⟩
                obtain ⟨t, ht⟩ := List.length_eq_one_iff.1 h1
                exact hne t ht
            obtain ⟨m1, m2⟩ := mapM_some _ _ _ hl
            refine ⟨fun w => ?_, ?_, ?_⟩
            · have hname' : ¬ (fn.name = "runtime.NumGoroutine") := by simpa using hname
              simp [callFunc, hfn, hname', hbody]
            · rcases hone with ⟨h1, h2⟩ | ⟨h1, rfl⟩
              · have := m2 0 (by omega) (by rw [h2]; simp)
                simp only [h2, List.getElem_cons_zero] at this
                cases hz : F.res[0]'(by omega) with
                | t i =>
                  rw [hz] at this
                  simp only [resVal] at this
                  split at this
                  · cases this; exact n2_cp _
                  · cases this
                | cell i sz =>
                  rw [hz] at this
                  simp only [resVal] at this
                  repeat' split at this
                  all_goals first | (cases this; done) | (cases this; exact fun l n e => by cases e)
              · exact fun l n e => by cases e
            · refine calls_of_wp hfn hbody ?_
              have hI : Inv ⟨w, lim, μ, bx.length, fn.ntmps⟩ (initFrom 0 xs, bx) { tmps := vs ++ Array.replicate (fn.ntmps - vs.size) undef, defers := [] } w := by
                have hat : ∀ i, Rep w lim μ bx.length ((vs ++ Array.replicate (fn.ntmps - vs.size) undef).getD i undef) (initFrom 0 xs i) ∧ n2 (initFrom 0 xs i) := by
                  intro i
                  rw [initFrom_at]
                  by_cases hi : i < xs.length
                  · rw [dif_pos (by simpa using hi)]
                    have := hrep i hi
                    rw [Array.getD_eq_getD_getElem?] at this ⊢
                    rw [Array.getElem?_append_left (by omega)]
                    simpa using this
                  · rw [dif_neg (by simpa using hi)]
                    exact ⟨.any _, fun l n e => by cases e⟩
                refine ⟨lim, μ, fun _ => .t 0, rfl, ?_, Nat.le_refl _, fun _ _ => rfl, fun r hr hr' => ?_, fun i => (hat i).1, hbox, fun i => .of_n2 (hat i).2, ?_, But.refl _ _ _ _, fun _ _ => rfl⟩
                · simp; omega
                · exact absurd hr' (Nat.not_lt.2 hr)
                · intro r o cs t hr hr'; exact absurd hr' (Nat.not_lt.2 hr)
              have hbp : ∀ a' w', Inv ⟨w, lim, μ, bx.length, fn.ntmps⟩ s' a' w' → a'.defers = [] ∧ ∃ v, (results fn a'.tmps).run P w' = .ok v w' ∧
                  ∃ v' lim' μ', Ending.returned v = .returned v' ∧ bx.length ≤ s'.2.length ∧ But w.heap.size μ bx.length w w' ∧ (∀ r, r < bx.length → μ' r = μ r) ∧ (∀ b, b < w.heap.size → lim' b = lim b) ∧
                    (∀ r, bx.length ≤ r → r < s'.2.length → w.heap.size ≤ μ' r) ∧ BoxRep w' lim' μ' s'.2 ∧ Rep w' lim' μ' s'.2.length v' r := by
                rintro a' w' ⟨lim', μ', own', h⟩
                refine ⟨h.defers, ?_⟩
                obtain ⟨l1, l2⟩ := res_sound h fn.results.toList rs hres
                have hex : ∀ i, i < rs.length → ∃ v, ∃ (h1 : i < fn.results.toList.length) (h2 : i < l.length), ResIs P a'.tmps w' fn.results.toList[i] v ∧ RepR w' lim' μ' s'.2.length v l[i] := by
                  intro i hi
                  have hi1 : i < fn.results.toList.length := by omega
                  have hi2 : i < l.length := by rw [m1, hFr]; exact hi
                  have := m2 i (by rw [hFr]; exact hi) hi2
                  simp only [hFr] at this
                  obtain ⟨v, z1, z2, z3⟩ := l2 i hi1 hi l[i] this
                  exact ⟨v, hi1, hi2, z1, z2⟩
                obtain ⟨vl, v1, v2⟩ := choose_list rs.length hex
                have hres' : (results fn a'.tmps).run P w' = .ok (if h : vl.toArray.size = 1 then vl.toArray[0] else .tuple vl.toArray) w' := by
                  unfold results
                  rw [Sem.run_bind, Array.mapM_eq_mapM_toList, Sem.run_map]
                  rw [results_run (tmps := a'.tmps) _ (ResIs P a'.tmps w') (fun r v hz => by
                    cases r with
                    | tmp t => simp only [ResIs] at hz; subst hz; rfl
                    | cell ad t => obtain ⟨ad', z1, z2⟩ := hz; simp only [z1, asAddr, Sem.run_bind, Sem.run_pure, Result.andThen_ok]; exact z2) fn.results.toList vl (by omega) (fun i h1 h2 => by
                    obtain ⟨_, _, z1, _⟩ := v2 i h2; exact z1)]
                  rfl
                refine ⟨_, hres', _, lim', μ', rfl, h.nb, h.below, h.mu0, h.lim0, fun r hr hr' => h.mub r hr hr', h.box, ?_⟩
                have hlr : rs.length = F.res.length := by rw [hFr]
                rcases hone with ⟨h1, h2⟩ | ⟨h1, rfl⟩
                · rw [dif_pos (by simp; omega)]
                  obtain ⟨_, _, _, z2⟩ := v2 0 (by omega)
                  simp only [h2, List.getElem_cons_zero] at z2
                  exact .r (by simpa using z2)
                · rw [dif_neg (by simp; omega)]
                  refine .tup _ _ (by simp; omega) (fun i hi => ?_)
                  obtain ⟨_, _, _, z2⟩ := v2 i (by omega)
                  have e2 : (vl.toArray).getD i undef = vl[i]'(by omega) := by
                    rw [Array.getD_eq_getD_getElem?]; simp [show i < vl.length by omega]
                  rw [e2]; exact z2
              refine (hev ⟨w, lim, μ, bx.length, fn.ntmps⟩ hn lv 0 c b (initFrom 0 xs, bx) out s' hcomp (by rw [← hFb]; exact hrun) _ _ _ hI fun a' w' hI' => ?_).wp
              rcases hout with rfl | rfl
              · exact hbp a' w' hI'
              · exact hbp a' w' hI'
          · cases hr
        · cases hcF
      · cases hcF
    · cases hcF

theorem evK_sound {P : Program} {tab : Nat → Option CFun} {ext : CallF} (ht : TabOk P tab) (hx : SoundF P ext) : ∀ k, CodeSound P (evK tab ext k)
  | 0 => fun F hn lv k c0 c s out s' hc he => by cases he
  | k + 1 => step_sound (evK_sound ht hx k) (call_sound (evK_sound ht hx k) ht hx)

theorem callL_sound {P : Program} {tab : Nat → Option CFun} {ext : CallF} (ht : TabOk P tab) (hx : SoundF P ext) : SoundF P (callL tab ext) := by
  intro f xs bx r bx' hr
  obtain ⟨k, hk⟩ := (callL_iff ..).1 hr
  exact call_sound (evK_sound ht hx k) ht hx f xs bx r bx' hk

/-- No callee but those of the table. -/
def extN : CallF := fun _ _ _ => none
theorem extN_sound (P : Program) : SoundF P extN := fun f xs bx r bx' h => by cases h
end Go.Proofs.YtclebnamhpgdmaaGreatEv
