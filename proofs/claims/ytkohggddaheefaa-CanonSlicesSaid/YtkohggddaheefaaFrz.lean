/- Code cut in two; boxes that are frozen for a while, and written again behind it. -/
import Derived.Test.YtkohggddaheefaaT1
set_option linter.unusedSimpArgs false
set_option linter.unusedVariables false
namespace Go.Proofs.YtkohggddaheefaaEv
open Go Go.RowKit
/-- The first so many pieces of a row of them, and what is left. -/
def C.pre : Nat → C → C
  | 0, .seq a _ => a
  | n + 1, .seq a b => .seq a (C.pre n b)
  | _, c => c
def C.post : Nat → C → C
  | 0, .seq _ b => b
  | n + 1, .seq _ b => C.post n b
  | _, c => c
def C.deep : Nat → C → Bool
  | 0, .seq _ _ => true
  | n + 1, .seq _ b => C.deep n b
  | _, _ => false
def cdPost : Nat → Code → Code
  | 0, .seq _ b => b
  | n + 1, .seq _ b => cdPost n b
  | _, c => c
theorem comp_seq {P : Program} {nt : Nat} {hn : Hn} {lv : Nat → List Nat × Nat} {k : Nat} {c0 : Code} {A B : C} (h : comp P nt hn lv k c0 = some (.seq A B)) :
    ∃ a b, c0 = .seq a b ∧ comp P nt hn lv k a = some A ∧ comp P nt hn lv k b = some B := by
  cases c0 with
  | seq a b =>
    simp only [comp] at h
    split at h
    · rename_i ha hb; cases h; exact ⟨_, _, rfl, ha, hb⟩
    · cases h
  | _ =>
    exfalso
    simp only [comp] at h
    repeat' split at h
    all_goals first | (cases h; done) | (simp at h; done)
theorem comp_post {P : Program} {nt : Nat} {hn : Hn} {lv : Nat → List Nat × Nat} {k : Nat} : ∀ (n : Nat) {c0 : Code} {c : C}, comp P nt hn lv k c0 = some c → C.deep n c = true → comp P nt hn lv k (cdPost n c0) = some (C.post n c)
  | 0, c0, c, h, hd => by
    cases c with
    | seq A B => obtain ⟨a, b, rfl, _, hb⟩ := comp_seq h; exact hb
    | _ => cases hd
  | n + 1, c0, c, h, hd => by
    cases c with
    | seq A B => obtain ⟨a, b, rfl, _, hb⟩ := comp_seq h; exact comp_post n hb hd
    | _ => cases hd
theorem codeL_sound {P : Program} {tab : Nat → Option CFun} {ext : CallF} (ht : TabOk P tab) (hx : SoundF P ext) : CodeSound P (evL tab ext) := by
  intro F hn lv k c0 c s out s' hc he
  obtain ⟨m, hm⟩ := (evL_iff ..).1 he
  exact evK_sound ht hx m F hn lv k c0 c s out s' hc hm
theorem cut_sound {P : Program} {tab : Nat → Option CFun} {ext : CallF} (ht : TabOk P tab) (hx : SoundF P ext) {F : Fr} {hn : Hn} {lv : Nat → List Nat × Nat} {k : Nat} : ∀ (n : Nat) {c0 : Code} {c : C} {s : Env × Bx} {out : Out} {s' : Env × Bx},
    comp P F.nt hn lv k c0 = some c → C.deep n c = true → evL tab ext F.nb (C.pre n c) s = some (out, s') → ∀ {a w Q}, Inv F s a w →
    (out = .nor → ∀ a' w', Inv F s' a' w' → (cdPost n c0).wp P Q a' w') → (out ≠ .nor → ∀ a' w', Inv F s' a' w' → Q (exitOf out) a' w') → c0.wp P Q a w
  | 0, c0, c, s, out, s', h, hd, he, a, w, Q, hI, h1, h2 => by
    cases c with
    | seq A B =>
      obtain ⟨x, y, rfl, hx', hy⟩ := comp_seq h
      refine wp_seq ?_
      refine (codeL_sound ht hx F hn lv k x A s out s' hx' he a w _ hI fun a' w' hI' => ?_).wp
      cases out with
      | nor => exact h1 rfl a' w' hI'
      | ex i => exact h2 (by simp) a' w' hI'
      | ret => exact h2 (by simp) a' w' hI'
    | _ => cases hd
  | n + 1, c0, c, s, out, s', h, hd, he, a, w, Q, hI, h1, h2 => by
    cases c with
    | seq A B =>
      obtain ⟨x, y, rfl, hx', hy⟩ := comp_seq h
      refine wp_seq ?_
      simp only [C.pre] at he
      rw [evL_step] at he
      simp only [stepC] at he
      cases hA : evL tab ext F.nb A s with
      | none => rw [hA] at he; cases he
      | some q =>
        obtain ⟨o1, s1⟩ := q
        rw [hA] at he
        refine (codeL_sound ht hx F hn lv k x A s o1 s1 hx' hA a w _ hI fun a' w' hI' => ?_).wp
        cases o1 with
        | nor => exact cut_sound ht hx n hy hd he hI' h1 h2
        | ex i => cases he; exact h2 (by simp) a' w' hI'
        | ret => cases he; exact h2 (by simp) a' w' hI'
    | _ => cases hd
theorem comp_scope {P : Program} {nt : Nat} {hn : Hn} {lv : Nat → List Nat × Nat} {k : Nat} {c0 : Code} {A : C} (h : comp P nt hn lv k c0 = some (.scope A)) : ∃ a, c0 = .scope a ∧ comp P nt hn lv k a = some A := by
  cases c0 with
  | scope a =>
    simp only [comp, Option.map_eq_some_iff] at h
    obtain ⟨x, hx, e⟩ := h
    cases e
    exact ⟨_, rfl, hx⟩
  | _ =>
    exfalso
    simp only [comp] at h
    repeat' split at h
    all_goals first | (cases h; done) | (simp at h; done)
theorem comp_reg {P : Program} {nt : Nat} {hn : Hn} {lv : Nat → List Nat × Nat} {k : Nat} {c0 : Code} {js : List J} (h : comp P nt hn lv k c0 = some (.reg js)) : ∃ id ops draw, c0 = .region id ops draw ∧ compL P nt ops { hn with tk := tkOf ops } ops.toList = some js := by
  cases c0 with
  | region id ops draw =>
    simp only [comp] at h
    split at h
    · rename_i js' hjs
      repeat' split at h
      all_goals first | (cases h; done) | (cases h; exact ⟨_, _, _, rfl, hjs⟩)
    · cases h
  | _ =>
    exfalso
    simp only [comp] at h
    repeat' split at h
    all_goals first | (cases h; done) | (simp at h; done)
theorem comp_ret {P : Program} {nt : Nat} {hn : Hn} {lv : Nat → List Nat × Nat} {k : Nat} {c0 : Code} (h : comp P nt hn lv k c0 = some .ret) : c0 = .ret := by
  cases c0 with
  | ret => rfl
  | _ =>
    exfalso
    simp only [comp] at h
    repeat' split at h
    all_goals first | (cases h; done) | (simp at h; done)
/-- The first operations of a region, by what is known of them; the others as they come. -/
theorem ops_ahead {P : Program} {F : Fr} {Φ : CallF} {ops : Array Oper} {tk : Hn} (hΦ : SoundF P Φ) {js : List J} (hjs : ∀ i (o : Oper), ops[i]? = some o → compJ P F.nt ops tk o = some (js.getD i default)) {Q : Exit → Act → World → Prop} {τ : List Nat} :
    ∀ (σ : List Nat) (s s' : Env × Bx) (a : Act) (w : World), (∀ i ∈ σ, i < ops.size) → (∀ i ∈ σ, (js.getD i default).g = none) → evJs Φ F.nb (σ.map fun i => js.getD i default) s = some s' → Inv F s a w → (∀ a' w', Inv F s' a' w' → wpOps P ops Q τ a' w') → wpOps P ops Q (σ ++ τ) a w
  | [], s, s', a, w, _, _, hev, hI, hQ => by cases hev; exact hQ _ _ hI
  | i :: σ, s, s', a, w, hlt, hgd, hev, hI, hQ => by
    have hi := hlt i (by simp)
    have hgi := hgd i (by simp)
    have ho : ops[i]? = some ops[i] := Array.getElem?_eq_getElem hi
    rw [List.cons_append]
    simp only [wpOps, ho]
    generalize ops[i] = o at ho
    have hc := hjs i o ho
    simp only [List.map_cons, evJs] at hev
    generalize js.getD i default = j at hc hev hgi
    cases h1 : evJ Φ F.nb j s with
    | none => simp [h1] at hev
    | some s1 =>
      simp only [h1] at hev
      have ih : ∀ a' w', Inv F s1 a' w' → wpOps P ops Q (σ ++ τ) a' w' := fun a' w' hI' => ops_ahead hΦ hjs σ s1 s' a' w' (fun k hk => hlt k (by simp [hk])) (fun k hk => hgd k (by simp [hk])) hev hI' hQ
      unfold compJ at hc
      split at hc
      · rename_i ii hcI
        split at hc
        · rename_i hcond
          obtain ⟨hk, hzz, hd⟩ := hcond
          have hd' : ∀ k, o.dst = some k → k < F.nt := fun k e => by rw [e] at hd; simpa [okD] using hd
          cases hg : o.guard with
          | none =>
            simp only [hg] at hc
            cases hc
            simp only [evJ] at h1
            rw [if_pos (by simp [Region.wanted, hg])]
            refine .inl ?_
            unfold evRun at h1
            simp only at h1
            cases he : evI Φ F.nb ii s.1 s.2 with
            | none => simp [he] at h1
            | some q =>
              obtain ⟨v, ups, bx'⟩ := q
              simp only [he, Option.some.injEq] at h1
              subst h1
              obtain ⟨lim, μ, own, h⟩ := hI
              exact opSound hΦ h hcI hk hzz hd' he ih
          | some p =>
            obtain ⟨kk, b⟩ := p
            simp only [hg] at hc
            split at hc
            · cases hc; cases hgi
            · cases hc
        · cases hc
      · cases hc
section
variable {P : Program} {F : Fr} {lim μ : Nat → Nat} {own : Nat → Pl} {s : Env × Bx} {a : Act} {w : World}
/-- A value as it reads now; a pointer keeps its place. -/
def frzP (μ : Nat → Nat) (bx : Bx) : A → A
  | .ptr r o => match bx[r]? with
    | some cs => match (cs.drop o).mapM (frzC bx 3) with
      | some l => .ipx (μ r) o l
      | none => .any
    | none => .any
  | a => (frzR bx a).getD .any
theorem freeze (h : InvG F lim μ own s a w) : ∃ F2 : Fr, F2.nb = 0 ∧ F2.nt = F.nt ∧ F2.w0 = w ∧ Inv F2 (fun i => frzP μ s.2 (s.1 i), []) a w := by
  refine ⟨⟨w, fun b => if ((List.range s.2.length).any fun r => decide (μ r = b)) = true then rowSz w b else lim b, μ, 0, F.nt, h.glob.none μ⟩, rfl, rfl, rfl, fun b => if ((List.range s.2.length).any fun r => decide (μ r = b)) = true then rowSz w b else lim b, μ, own, ?_⟩
  have he : Ext w lim w (fun b => if ((List.range s.2.length).any fun r => decide (μ r = b)) = true then rowSz w b else lim b) := by
    refine ⟨?_, fun _ => Nat.le_refl _⟩
    intro b o v ho hc
    refine ⟨hc, ?_⟩
    simp only
    split
    · exact lt_rowSz hc
    · exact ho
  have hl : ∀ r (h : r < s.2.length), ∀ o, o < s.2[r].length → o < (fun b => if ((List.range s.2.length).any fun r => decide (μ r = b)) = true then rowSz w b else lim b) (μ r) := by
    intro r hr o ho
    simp only
    rw [if_pos (List.any_eq_true.2 ⟨r, List.mem_range.2 hr, decide_eq_true rfl⟩)]
    exact box_rowSz h.box r hr o ho
  have henv : ∀ i, Rep w (fun b => if ((List.range s.2.length).any fun r => decide (μ r = b)) = true then rowSz w b else lim b) μ 0 (a.tmps.getD i undef) (frzP μ s.2 (s.1 i)) ∧ n2 (frzP μ s.2 (s.1 i)) := by
    intro i
    have hR : ∀ x, s.1 i = x → Rep w (fun b => if ((List.range s.2.length).any fun r => decide (μ r = b)) = true then rowSz w b else lim b) μ 0 (a.tmps.getD i undef) ((frzR s.2 x).getD .any) ∧ n2 ((frzR s.2 x).getD .any) := by
      intro x e
      cases hf : frzR s.2 x with
      | none => exact ⟨.any _, fun _ _ e => by cases e⟩
      | some a' =>
        obtain ⟨k1, k2⟩ := frzR_rep h.box he _ _ _ (by have := h.env i; rwa [e] at this) hf (fun _ => hl) μ
        exact ⟨.r k1, k2⟩
    cases hx : s.1 i with
    | ptr r o =>
      have hp := h.env i
      rw [hx] at hp
      obtain ⟨hv, hr⟩ := hp.toPtr
      simp only [frzP]
      rw [List.getElem?_eq_getElem hr]
      simp only
      cases hm : (s.2[r].drop o).mapM (frzC s.2 3) with
      | none => exact ⟨.any _, fun _ _ e => by cases e⟩
      | some l =>
        obtain ⟨m1, m2⟩ := mapM_some _ _ _ hm
        obtain ⟨cs, t, hh, hs, hc⟩ := h.box.row r hr
        simp only [List.length_drop] at m1
        rw [hv]
        refine ⟨.ipx _ _ l (fun j => cs.getD (o + j) undef) (fun j hj => cell_of_row hh (by omega)) (fun j hj => hl r hr _ (by omega)) (fun j hj => ?_), fun _ _ e => by cases e⟩
        have := m2 j (by simp; omega) hj
        rw [List.getElem_drop] at this
        exact (frzC_rep h.box he 3 _ _ _ (hc (o + j) (by omega)) this fun _ => hl).1
    | _ => exact hR _ hx
  exact ⟨h.defers, h.size, Nat.zero_le _, fun r hr => absurd hr (Nat.not_lt_zero _), fun r _ hr => absurd hr (Nat.not_lt_zero _), fun i => (henv i).1, boxRep_nil _ _ _, fun i => .of_n2 (henv i).2, fun r _ _ _ _ hr => absurd hr (Nat.not_lt_zero _), But.refl _ _ _ _, fun _ _ => rfl⟩
theorem thaw {F2 : Fr} {s2 : Env × Bx} {a2 : Act} {w2 : World} (h : InvG F lim μ own s a w) (h2 : Inv F2 s2 a2 w2) (hw : F2.w0 = w) (h0 : F2.nb = 0) (hnt : F2.nt = F.nt) (e : Env)
    (he : ∀ i, e i = .any ∨ (∃ x, e i = .val x ∧ s2.1 i = .val x) ∨ ∃ r o l, e i = .ptr r o ∧ s2.1 i = .ipx (μ r) o l ∧ r < s.2.length) : InvG F lim μ own (e, s.2) a2 w2 := by
  obtain ⟨lim2, μ2, own2, h2⟩ := h2
  have hb : Below w.heap.size w w2 := by
    have := h2.below
    rw [hw, h0] at this
    exact this.below
  have hs := h.step hb (fun _ _ => rfl)
  refine ⟨h2.defers, by rw [h2.size, hnt], hs.nb, hs.mu0, hs.mub, fun i => ?_, hs.box, fun i => ?_, hs.flb, hs.below, hs.lim0⟩
  · have hr := h2.env i
    rcases he i with e1 | ⟨x, e1, e2⟩ | ⟨r, o, l, e1, e2, hlt⟩
    · simp only [e1]; exact .any _
    · simp only [e1]; rw [e2] at hr; exact (scal_rep hr (by exact rfl) _ _ _ _).1
    · simp only [e1]; rw [e2] at hr; rw [hr.toIpx.1]; exact .ptr r o hlt
  · refine .of_n2 ?_
    rcases he i with e1 | ⟨x, e1, e2⟩ | ⟨r, o, l, e1, e2, hlt⟩ <;> simp only [e1]
    · exact fun _ _ e => by cases e
    · exact n2_val _
    · exact fun _ _ e => by cases e
/-- Boxes that nobody needs any more. -/
theorem forget (h : Inv F s a w) (hnb : F.nb = 0) (e : Env) (he : ∀ i, e i = .any ∨ ∃ x, e i = .val x ∧ s.1 i = .val x) : Inv F (e, []) a w := by
  obtain ⟨lim, μ, own, h⟩ := h
  refine ⟨lim, μ, own, h.defers, h.size, by rw [hnb]; exact Nat.zero_le _, fun r hr => by omega, fun r _ hr => absurd hr (Nat.not_lt_zero _), fun i => ?_, boxRep_nil _ _ _, fun i => ?_, fun r _ _ _ _ hr => absurd hr (Nat.not_lt_zero _), h.below, h.lim0⟩
  · have hr := h.env i
    rcases he i with e1 | ⟨x, e1, e2⟩
    · simp only [e1]; exact .any _
    · simp only [e1]; rw [e2] at hr; exact (scal_rep hr (by exact rfl) _ _ _ _).1
  · refine .of_n2 ?_
    rcases he i with e1 | ⟨x, e1, e2⟩ <;> simp only [e1]
    · exact fun _ _ e => by cases e
    · exact n2_val _
end
end Go.Proofs.YtkohggddaheefaaEv
