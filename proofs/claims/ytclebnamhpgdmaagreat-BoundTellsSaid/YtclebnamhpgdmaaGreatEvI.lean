/- Each operation does what the evaluator says: the last ones, and all together. -/
import Derived.Test.YtclebnamhpgdmaaGreatEvH
import Derived.Laws.MakeOwn
namespace Go.Proofs.YtclebnamhpgdmaaGreatEv
open Go Go.RowKit
set_option linter.unusedSimpArgs false
set_option linter.unusedVariables false

variable {P : Program} {F : Fr} {lim μ : Nat → Nat} {own : Nat → Pl} {s : Env × Bx} {a : Act} {w : World} {o : Oper} {next : Act → World → Prop} {Q : Exit → Act → World → Prop}
  {x : A} {ups : List (Nat × A)} {bx' : Bx} {Φ : CallF}

theorem s_mksl {mu : Bool} {t e : TypeId} {l c : Operand} {y' : O} {i : TypeInfo} {z : List Value} (h : InvG F lim μ own s a w) (hd : ∀ k, o.dst = some k → k < F.nt) (ho : o.op = .makeSlice t l c)
    (hu : P.underlying t = some (.slice e)) (hi : P.info? e = some i) (hz : zeroOf P e = some z) (hpos : 0 < i.size) (hbpos : 0 < i.bytes) (hlc : sameO l c = true) (h1 : toO l = some y') (hk : okO F.nt y' = true)
    (hev : evI Φ F.nb (.mksl i.size i.bytes z y' mu) s.1 s.2 = some (x, ups, bx')) (hn : Goes F o s x ups bx' next) : o.wp P a w next Q := by
  have hy := eval_rep h h1 hk
  have hc : a.eval c = a.eval l := by
    unfold sameO at hlc
    split at hlc
    · rw [beq_iff_eq] at hlc; rw [hlc]
    · rw [beq_iff_eq] at hlc; rw [hlc]
    · cases hlc
  obtain ⟨i', zv, hi', hzero, hzl, hzlen, hzone⟩ := zero_rep hz
  rw [hi] at hi'; cases hi'
  have hzc : zv.cells.size = i.size := by rw [← hzlen, ← hzl]; simp
  simp only [evI] at hev
  split at hev
  · rename_i k e1
    rw [e1] at hy
    obtain ⟨hv, _⟩ := hy.val
    split at hev
    · rename_i hcond
      obtain ⟨h0, hb⟩ := hcond
      obtain ⟨n, rfl⟩ := Int.eq_ofNat_of_zero_le h0
      have hby : n * i.bytes ≤ 70368744177664 := by
        have h2 : ((n * i.bytes : Nat) : Int) ≤ 70368744177664 := by rw [Int.natCast_mul]; exact hb
        omega
      simp only [Int.toNat_natCast] at hev
      obtain ⟨cells, hc1, hc2⟩ : ∃ cells : Array Value, cells.toList = (List.replicate n z).flatten ∧ (Array.range (n * i.size)).map (zv.cells[· % zv.cells.size]!) = cells := by
        refine ⟨_, ?_, rfl⟩
        have hf : ∀ m, (List.replicate m z).flatten = (List.range (m * i.size)).map fun j => z.getD (j % z.length) undef := by
          intro m
          induction m with
          | zero => simp
          | succ m ih =>
            rw [List.replicate_succ', List.flatten_append, ih, Nat.succ_mul, List.range_add, List.map_append]
            congr 1
            simp only [List.flatten_singleton, List.map_map]
            apply List.ext_getElem
            · simp [hzlen]
            · intro j h1 h2
              have hj : j < z.length := h1
              simp only [List.getElem_map, List.getElem_range, Function.comp]
              rw [hzlen] at hj ⊢
              rw [Nat.mul_comm, Nat.mul_add_mod, Nat.mod_eq_of_lt hj]
              simp [h1]
        rw [hf, ← hzl]
        simp only [Array.toList_map, Array.toList_range]
        apply List.map_congr_left
        intro j hj
        have : j % zv.cells.size < zv.cells.size := Nat.mod_lt _ (by omega)
        simp [this]
      have hsize : cells.size = n * i.size := by rw [← hc2]; simp
      have hones : ∀ v ∈ (List.replicate n z).flatten, v.oneCell' = true := by
        intro v hv
        simp only [List.mem_flatten, List.mem_replicate] at hv
        obtain ⟨l, ⟨_, rfl⟩, hv⟩ := hv
        exact hzone v hv
      have hmap : (List.replicate n (z.map cst1)).flatten = ((List.replicate n z).flatten).map cst1 := by
        rw [List.map_flatten, List.map_replicate]
      have hnle : n ≤ n * i.bytes := Nat.le_mul_of_pos_right _ hbpos
      have hrun : (execOp a.eval o).run P w = .ok (.value (.slice (some ⟨w.heap.size, 0, none⟩) n n)) (w.alloc (.cells cells e)) := by
        have hm := run_make (P := P) w t e i zv hu hi hzero .i64 .i64 n n (by omega) (Int.le_refl _) (by rw [Int.mul_comm]; omega) (by omega)
        simp only [Int.toNat_natCast, madeCells, hc2] at hm
        simp [execOp, ho, hc, hv, hm]
      have hcl : ((List.replicate n (z.map cst1)).flatten).length = n * i.size := by
        rw [hmap, List.length_map, ← hc1]; simpa using hsize
      have hcc : ∀ j (hj : j < ((List.replicate n (z.map cst1)).flatten).length), RepV w lim (cells.getD j undef) ((List.replicate n (z.map cst1)).flatten)[j] ∧ n2 ((List.replicate n (z.map cst1)).flatten)[j] := by
        intro j hj
        have := cst_cells (w := w) (lim := lim) hc1 hones j (by rw [← hmap]; exact hj)
        simp only [hmap]
        exact ⟨this.1, this.2.1⟩
      split at hev
      · rename_i hmu
        cases hev
        have key := h.newBox0 (cs := cells) (t := e) (xs := (List.replicate n (z.map cst1)).flatten) (by rw [hcl, hsize]; exact Nat.le_refl _) (fun j hj => .v (hcc j hj).1) (fun j hj => (hcc j hj).2)
        refine wp_value hrun (hn _ _ (key.setO hd ?_ (fun l n b q c e => by cases e)))
        have := RepC.bs (w := w.alloc (.cells cells e)) (lim := limBox w lim) (μ := μBox w μ s.2.length) (m := (s.2 ++ [(List.replicate n (z.map cst1)).flatten]).length) s.2.length n i.size n (by simp) (Nat.le_refl _)
        exact .r (.c (by simpa [μBox] using this))
      · cases hev
        have key := h.newRow (.cells cells e) (n * i.size)
        refine wp_value hrun (hn _ _ (key.setO hd (.rv ?_) (fun l n b q c e => by cases e)))
        have hll : ((List.replicate n (z.map cst1)).flatten.map A.norm1).length = n * i.size := by rw [List.length_map, hcl]
        refine rep_row (by rw [hll, hsize]; exact Nat.le_refl _) (by rw [hll]; exact Nat.le_refl _) (Nat.le_refl _) (fun _ => rfl) (by omega) (fun j hj => ?_)
        rw [List.getElem_map]
        exact (hcc j (by simpa using hj)).1.norm1
    · cases hev
  · cases hev

theorem s_fa {t : TypeId} {p : Operand} {p' : O} {k : Nat} {fs : Array Field} {f : Field} {i : TypeInfo} (h : InvG F lim μ own s a w) (hd : ∀ k, o.dst = some k → k < F.nt) (ho : o.op = .fieldAddr t p k)
    (hu : P.underlying t = some (.struct fs)) (hf : fs[k]? = some f) (hi : P.info? f.type = some i) (hsz : i.size ≠ 0) (h1 : toO p = some p') (hk : okO F.nt p' = true)
    (hev : evI Φ F.nb (.fa f.offset p') s.1 s.2 = some (x, ups, bx')) (hn : Goes F o s x ups bx' next) : o.wp P a w next Q := by
  have hp := eval_rep h h1 hk
  have hrun : ∀ b q, a.eval p = .pointer (some ⟨b, q, none⟩) → (execOp a.eval o).run P w = .ok (.value (.pointer (some ⟨b, q + f.offset, none⟩))) w := by
    intro b q e
    refine run_fa ho ?_
    have hs : (sizeOf f.type).run P w = .ok i.size w := by simp [sizeOf, typeInfo, hi]
    simp [Instr.fieldAt, run_underlying hu, hf, e, Instr.sureAddr, fieldPlace, hs, hsz, Addr.add_lit]
  simp only [evI] at hev
  split at hev
  · rename_i r q e
    rw [e] at hp
    obtain ⟨hvp, hr⟩ := hp.toPtr
    cases hev
    exact pure_sound h hd (hrun _ _ hvp) (.ptr r _ hr) (fun _ _ e => by cases e) hn
  · rename_i l e
    rw [e] at hp
    obtain ⟨b, q, vs, hvp, hc, hl, hr⟩ := hp.toIp
    cases hev
    refine pure_sound h hd (hrun _ _ hvp) (.ip b _ _ (fun j => vs (f.offset + j)) (fun j hj => ?_) (fun j hj => ?_) (fun j hj => ?_)) (fun _ _ e => by cases e) hn
    · rw [Nat.add_assoc]; exact hc _ (by simp at hj; omega)
    · rw [Nat.add_assoc]; exact hl _ (by simp at hj; omega)
    · rw [List.getElem_drop]; exact hr _ (by simp at hj; omega)
  · cases hev

theorem s_ia {t e : TypeId} {p k : Operand} {p' k' : O} {i : TypeInfo} (h : InvG F lim μ own s a w) (hd : ∀ k, o.dst = some k → k < F.nt) (ho : o.op = .indexAddr t p k)
    (hu : P.underlying t = some (.slice e)) (hi : P.info? e = some i) (h1 : toO p = some p') (h2 : toO k = some k') (hk1 : okO F.nt p' = true) (hk2 : okO F.nt k' = true)
    (hev : evI Φ F.nb (.ia i.size p' k') s.1 s.2 = some (x, ups, bx')) (hn : Goes F o s x ups bx' next) : o.wp P a w next Q := by
  have hp := eval_rep h h1 hk1
  have hx := eval_rep h h2 hk2
  simp only [evI] at hev
  split at hev
  · rename_i l n g kd j e1 e2
    rw [e1] at hp
    rw [e2] at hx
    obtain ⟨hxv, _⟩ := hx.val
    split at hev
    · rename_i hcond
      cases hev
      have hs : (sizeOf e).run P w = .ok i.size w := by simp [sizeOf, typeInfo, hi]
      have hp' := hp.toSl
      generalize hvp : a.eval p = vp at hp'
      cases hp' with
      | nil => simp at hcond; omega
      | emp => simp at hcond; omega
      | sl b q n c l g vs hnc hg h3 hc hl hr =>
        have hrun : (execOp a.eval o).run P w = .ok (.value (.pointer (some ⟨b, q + j.toNat * i.size, none⟩))) w := by
          refine run_ia ho ?_
          simp [Instr.indexAt, hxv, asIntOf, run_underlying hu, hvp, hcond, hs, Addr.add_lit]
        refine pure_sound h hd hrun (.ip b _ _ (fun m => vs (j.toNat * i.size + m)) (fun m hm => ?_) (fun m hm => ?_) (fun m hm => ?_)) (fun _ _ e => by cases e) hn
        · rw [Nat.add_assoc]; exact hc _ (by simp at hm; omega)
        · rw [Nat.add_assoc]; exact hl _ (by simp at hm; omega)
        · rw [List.getElem_drop]; exact hr _ (by simp at hm; omega)
    · cases hev
  · rename_i r n z kd j e1 e2
    rw [e1] at hp
    rw [e2] at hx
    obtain ⟨hxv, _⟩ := hx.val
    obtain ⟨c, hvp, hnc, hr⟩ := hp.toBs
    split at hev
    · rename_i hcond
      cases hev
      have hs : (sizeOf e).run P w = .ok i.size w := by simp [sizeOf, typeInfo, hi]
      have hrun : (execOp a.eval o).run P w = .ok (.value (.pointer (some ⟨μ r, j.toNat * i.size, none⟩))) w := by
        refine run_ia ho ?_
        simp [Instr.indexAt, hxv, asIntOf, run_underlying hu, hvp, hcond, hs, Addr.add_lit]
      exact pure_sound h hd hrun (.ptr r _ hr) (fun _ _ e => by cases e) hn
    · cases hev
  · cases hev

theorem s_ix {t : TypeId} {p k : Operand} {p' k' : O} (h : InvG F lim μ own s a w) (hd : ∀ k, o.dst = some k → k < F.nt) (ho : o.op = .index t p k)
    (hu : P.underlying t = some .string) (h1 : toO p = some p') (h2 : toO k = some k') (hk1 : okO F.nt p' = true) (hk2 : okO F.nt k' = true)
    (hev : evI Φ F.nb (.ix p' k') s.1 s.2 = some (x, ups, bx')) (hn : Goes F o s x ups bx' next) : o.wp P a w next Q := by
  have hp := eval_rep h h1 hk1
  have hx := eval_rep h h2 hk2
  simp only [evI] at hev
  split at hev
  · rename_i sv kd j e1 e2
    rw [e1] at hp
    rw [e2] at hx
    obtain ⟨hpv, _⟩ := hp.val
    obtain ⟨hxv, _⟩ := hx.val
    split at hev
    · rename_i hcond
      cases hev
      have hlt : j.toNat < sv.size := by omega
      have hb : sv[j.toNat]? = some sv[j.toNat] := by simp [hlt]
      have he : sv.data.toList.getD j.toNat 0 = sv[j.toNat] := by
        have : j.toNat < sv.data.toList.length := hlt
        rw [List.getD_eq_getElem?_getD, List.getElem?_eq_getElem this]
        rfl
      have hrun : (execOp a.eval o).run P w = .ok (.value (.int .u8 (sv[j.toNat].toNat : Int))) w := by
        refine run_ix ho ?_
        simp [Instr.index, hxv, hpv, asIntOf, run_underlying hu, hcond.1, hb]
      exact pure_sound h hd hrun (by rw [he]; exact rep_int _ _) (n2_val _) hn
    · cases hev
  · cases hev

theorem s_ext {y : Operand} {y' : O} {k : Nat} (h : InvG F lim μ own s a w) (hd : ∀ k, o.dst = some k → k < F.nt) (ho : o.op = .extract y k)
    (h1 : toO y = some y') (hk1 : okO F.nt y' = true) (hev : evI Φ F.nb (.ext y' k) s.1 s.2 = some (x, ups, bx')) (hn : Goes F o s x ups bx' next) : o.wp P a w next Q := by
  have hy := eval_rep h h1 hk1
  simp only [evI] at hev
  split at hev
  · rename_i l e1
    rw [e1] at hy
    obtain ⟨vs, hvy, hs, hr⟩ := hy.toTup
    split at hev
    · rename_i v hv
      cases hev
      have hk : k < l.length := by
        rcases Nat.lt_or_ge k l.length with h' | h'
        · exact h'
        · simp [List.getElem?_eq_none h'] at hv
      rw [List.getElem?_eq_getElem hk] at hv
      cases hv
      have hrun : (execOp a.eval o).run P w = .ok (.value (vs.getD k undef)) w := by
        refine run_ext ho ?_
        have : vs[k]? = some (vs.getD k undef) := by
          have : k < vs.size := by omega
          simp [this]
        rw [hvy]
        simp only [Instr.extract, this]; rfl
      exact pure_sound h hd hrun (.r (hr k hk).cp) (n2_cp _) hn
    · cases hev
  · cases hev

theorem rep_bounds (h : InvG F lim μ own s a w) {y : Option Operand} {y' : Option O} {d : Nat} {k : Int} (h1 : oOpt y = some y') (hk : ∀ z, y' = some z → okO F.nt z = true) (he : optInt s.1 d y' = some k) :
    (y = none ∧ y' = none ∧ k = d) ∨ ∃ z kd, y = some z ∧ y'.isSome = true ∧ a.eval z = .int kd k := by
  cases y with
  | none => cases h1; cases he; exact .inl ⟨rfl, rfl, rfl⟩
  | some z =>
    simp only [oOpt, Option.map_eq_some_iff] at h1
    obtain ⟨z', hz, rfl⟩ := h1
    have hr := eval_rep h hz (hk _ rfl)
    simp only [optInt] at he
    split at he
    · rename_i kd k' e
      cases he
      rw [e] at hr
      exact .inr ⟨z, kd, rfl, rfl, hr.val.1⟩
    · cases he

theorem sliceBound_ok (k : IntKind) (i : Int) (y : Nat) (code) (h0 : 0 ≤ i) (h1 : i ≤ y) : (Instr.sliceBound (.int k i) y code).run P w = .ok i.toNat w := by
  simp [Instr.sliceBound, asIntOf, h0, h1]

theorem s_slc {t e : TypeId} {p : Operand} {lo hi mx : Option Operand} {p' : O} {lo' hi' mx' : Option O} {i : TypeInfo} (h : InvG F lim μ own s a w) (hd : ∀ k, o.dst = some k → k < F.nt) (ho : o.op = .slice t p lo hi mx)
    (hu : P.underlying t = some (.slice e)) (hie : P.info? e = some i) (h1 : toO p = some p') (h2 : oOpt lo = some lo') (h3 : oOpt hi = some hi') (h4 : oOpt mx = some mx') (hx : ¬ (hi'.isNone = true ∧ mx'.isSome = true))
    (hk : (I.slc i.size p' lo' hi' mx').os.all (okO F.nt) = true) (hev : evI Φ F.nb (.slc i.size p' lo' hi' mx') s.1 s.2 = some (x, ups, bx')) (hn : Goes F o s x ups bx' next) : o.wp P a w next Q := by
  simp only [I.os, List.all_cons, List.all_append, Bool.and_eq_true] at hk
  have hp := eval_rep h h1 hk.1
  simp only [evI] at hev
  split at hev
  · rename_i l n g e1
    rw [e1] at hp
    split at hev
    · rename_i ka kb kc q1 q2 q3
      split at hev
      · rename_i hcond
        obtain ⟨c1, c2, c3, c4, c5⟩ := hcond
        cases hev
        have r1 := rep_bounds h h2 (fun z hz => by subst hz; simpa using hk.2.1.1) q1
        have r2 := rep_bounds h h3 (fun z hz => by subst hz; simpa using hk.2.1.2) q2
        have r3 := rep_bounds h h4 (fun z hz => by subst hz; simpa using hk.2.2) q3
        obtain ⟨base, c, cs, ev, hnc, hcl, hcr, hf1, hf2, hor⟩ := sl_cells (P := P) hp.toSl
        have hs : (sizeOf e).run P w = .ok i.size w := by simp [sizeOf, typeInfo, hie]
        have hmc : (if mx'.isSome = true then kc.toNat else c) ≤ c ∧ kb.toNat ≤ (if mx'.isSome = true then kc.toNat else c) := by split <;> omega
        -- the bounds
        have hb : (Instr.sliceBounds true n c (lo.map a.eval) (hi.map a.eval) (mx.map a.eval)).run P w = .ok (ka.toNat, kb.toNat, if mx'.isSome = true then kc.toNat else c) w := by
          have bm : ∀ z, mx = some z → ∃ kd, a.eval z = .int kd kc ∧ mx'.isSome = true := by
            intro z hz
            rcases r3 with ⟨e1, e2, e3⟩ | ⟨z', kd, e1, e2, e3⟩
            · rw [e1] at hz; cases hz
            · rw [e1] at hz; cases hz; exact ⟨kd, e3, e2⟩
          have bh : ∀ z, hi = some z → ∃ kd, a.eval z = .int kd kb ∧ hi'.isSome = true := by
            intro z hz
            rcases r2 with ⟨e1, e2, e3⟩ | ⟨z', kd, e1, e2, e3⟩
            · rw [e1] at hz; cases hz
            · rw [e1] at hz; cases hz; exact ⟨kd, e3, e2⟩
          have bl : ∀ z, lo = some z → ∃ kd, a.eval z = .int kd ka := by
            intro z hz
            rcases r1 with ⟨e1, e2, e3⟩ | ⟨z', kd, e1, e2, e3⟩
            · rw [e1] at hz; cases hz
            · rw [e1] at hz; cases hz; exact ⟨kd, e3⟩
          have nm : mx = none → mx'.isSome = false := by
            intro hz
            rcases r3 with ⟨e1, e2, e3⟩ | ⟨z', kd, e1, e2, e3⟩
            · rw [e2]; rfl
            · rw [e1] at hz; cases hz
          have nh : hi = none → hi' = none ∧ kb = n := by
            intro hz
            rcases r2 with ⟨e1, e2, e3⟩ | ⟨z', kd, e1, e2, e3⟩
            · exact ⟨e2, e3⟩
            · rw [e1] at hz; cases hz
          have nl : lo = none → ka = 0 := by
            intro hz
            rcases r1 with ⟨e1, e2, e3⟩ | ⟨z', kd, e1, e2, e3⟩
            · exact e3
            · rw [e1] at hz; cases hz
          unfold Instr.sliceBounds
          cases mx with
          | none =>
            have hm0 := nm rfl
            cases hi with
            | none =>
              obtain ⟨hh1, rfl⟩ := nh rfl
              cases lo with
              | none => have := nl rfl; subst this; simp [hm0]
              | some zl => obtain ⟨kl, el⟩ := bl zl rfl; simp [hm0, el, sliceBound_ok kl ka n _ c1 c2]
            | some zh =>
              obtain ⟨kh, eh, _⟩ := bh zh rfl
              have s2 := sliceBound_ok (P := P) (w := w) kh kb c .sliceAcap (by omega) (by omega)
              cases lo with
              | none => have := nl rfl; subst this; simp [hm0, eh, s2]
              | some zl =>
                obtain ⟨kl, el⟩ := bl zl rfl
                have s1 := sliceBound_ok (P := P) (w := w) kl ka kb.toNat .sliceB c1 (by omega)
                simp [hm0, eh, s2, el, s1]
          | some zm =>
            obtain ⟨km, em, hm1⟩ := bm zm rfl
            have s3 := sliceBound_ok (P := P) (w := w) km kc c .slice3Acap (by omega) (by omega)
            cases hi with
            | none => exact absurd ⟨by rw [(nh rfl).1]; rfl, hm1⟩ hx
            | some zh =>
              obtain ⟨kh, eh, _⟩ := bh zh rfl
              have s2 := sliceBound_ok (P := P) (w := w) kh kb kc.toNat .slice3B (by omega) (by omega)
              cases lo with
              | none => have := nl rfl; subst this; simp [hm1, em, s3, eh, s2]
              | some zl =>
                obtain ⟨kl, el⟩ := bl zl rfl
                have s1 := sliceBound_ok (P := P) (w := w) kl ka kb.toNat .slice3C c1 (by omega)
                simp [hm1, em, s3, eh, s2, el, s1]
        generalize hm : (if mx'.isSome = true then kc.toNat else c) = m at hb hmc
        have hrun : (execOp a.eval o).run P w = .ok (.value (.slice (if m = ka.toNat then base else base.map (·.add (ka.toNat * i.size))) (kb.toNat - ka.toNat) (m - ka.toNat))) w := by
          refine run_slc ho ?_
          simp [Instr.sliceAt, run_underlying hu, Instr.slice, ev, hb, hs]
        have hlen : ((l.drop (ka.toNat * i.size)).take ((kb - ka).toNat * i.size)).length = (kb - ka).toNat * i.size := by
          have : ka.toNat * i.size + (kb - ka).toNat * i.size ≤ n * i.size := by rw [← Nat.add_mul]; exact Nat.mul_le_mul_right _ (by omega)
          simp [c5]; omega
        have hba : kb.toNat - ka.toNat = (kb - ka).toNat := by omega
        have hfull : (if mx'.isSome = true ∧ kb = kc ∧ 0 < n then 1 else 0) = 1 → m - ka.toNat = kb.toNat - ka.toNat := by
          intro hq
          split at hq
          · rename_i hq'; obtain ⟨z1, z2, z3⟩ := hq'; rw [if_pos z1] at hm; omega
          · cases hq
        have hn2 : n2 (.sl ((l.drop (ka.toNat * i.size)).take ((kb - ka).toNat * i.size)) (kb - ka).toNat (if mx'.isSome = true ∧ kb = kc ∧ 0 < n then 1 else 0)) := by
          intro l' n' e; injection e with _ _ e3; split at e3 <;> omega
        refine pure_sound h hd hrun (.rv ?_) hn2 hn
        rw [hba]
        rcases hor with ⟨rfl, rfl, rfl, hbase⟩ | ⟨b, q, rfl, hg1, hc1, hlim1⟩
        · have z1 : ka.toNat = 0 := by omega
          have z2 : (kb - ka).toNat = 0 := by omega
          have z3 : m = 0 := by omega
          rcases hbase with rfl | ⟨_, _, _, b, q, s, rfl⟩
          · simp [z1, z2, z3]
            exact .nil _ (by omega)
          · simp [z1, z2, z3]
            exact .emp b q s 0 ⟨by omega, by omega, by omega⟩
        · by_cases hmk : m = ka.toNat
          · have z2 : (kb - ka).toNat = 0 := by omega
            rw [if_pos hmk, z2, hmk]
            simp only [Nat.sub_self, Nat.zero_mul, List.take_zero]
            exact .sl b q 0 0 [] _ (fun _ => undef) (Nat.le_refl _) (fun _ => rfl) (by split <;> omega) (fun i hi => by simp at hi) (fun i hi => by simp at hi) (fun i hi => by simp at hi)
          · rw [if_neg hmk]
            simp only [Option.map_some, Addr.add_lit]
            refine .sl b _ _ _ _ _ (fun j => cs.getD (ka.toNat * i.size + j) undef) (by omega) (fun hq => by have := hfull hq; omega) (by split <;> omega) (fun j hj => ?_) (fun j hj => ?_) (fun j hj => ?_)
            · rw [Nat.add_assoc]
              have : ka.toNat * i.size + j < l.length := by simp at hj; omega
              exact hc1 _ this
            · rw [Nat.add_assoc]
              have : ka.toNat * i.size + j < l.length := by simp at hj; omega
              exact hlim1 _ this
            · have : ka.toNat * i.size + j < l.length := by simp at hj; omega
              simp only [List.getElem_take, List.getElem_drop]
              exact hcr _ this
      · cases hev
    · cases hev
  · rename_i r n z e1
    rw [e1] at hp
    obtain ⟨c, hvp, hnc, hr⟩ := hp.toBs
    split at hev
    · rename_i kb q2
      split at hev
      · rename_i hcond
        cases hev
        have hlo : lo = none := by
          cases lo with
          | none => rfl
          | some z => simp only [oOpt, Option.map_eq_some_iff] at h2; obtain ⟨_, _, h⟩ := h2; cases h
        have hmx : mx = none := by
          cases mx with
          | none => rfl
          | some z => simp only [oOpt, Option.map_eq_some_iff] at h4; obtain ⟨_, _, h⟩ := h4; cases h
        subst hlo hmx
        have r2 := rep_bounds h h3 (fun z hz => by subst hz; simpa using hk.2.1.2) q2
        have hs : (sizeOf e).run P w = .ok i.size w := by simp [sizeOf, typeInfo, hie]
        have hb : (Instr.sliceBounds true n c none (hi.map a.eval) none).run P w = .ok (0, kb.toNat, c) w := by
          unfold Instr.sliceBounds
          rcases r2 with ⟨e1, e2, e3⟩ | ⟨zh, kh, e1, e2, eh⟩
          · subst e1 e3; simp
          · subst e1
            have s2 := sliceBound_ok (P := P) (w := w) kh kb c .sliceAcap (by omega) (by omega)
            simp [eh, s2]
        have hrun : (execOp a.eval o).run P w = .ok (.value (.slice (some ⟨μ r, 0, none⟩) kb.toNat c)) w := by
          refine run_slc ho ?_
          simp [Instr.sliceAt, run_underlying hu, Instr.slice, hvp, hb, hs, Addr.add_lit]
        exact pure_sound h hd hrun (.r (.c (.bs r kb.toNat z c hr (by omega)))) (fun _ _ e => by cases e) hn
      · cases hev
    · cases hev
  · cases hev

theorem s_sslc {t : TypeId} {p : Operand} {lo hi : Option Operand} {p' : O} {lo' hi' : Option O} (h : InvG F lim μ own s a w) (hd : ∀ k, o.dst = some k → k < F.nt) (ho : o.op = .slice t p lo hi none)
    (hu : P.underlying t = some .string) (h1 : toO p = some p') (h2 : oOpt lo = some lo') (h3 : oOpt hi = some hi')
    (hk : (I.sslc p' lo' hi').os.all (okO F.nt) = true) (hev : evI Φ F.nb (.sslc p' lo' hi') s.1 s.2 = some (x, ups, bx')) (hn : Goes F o s x ups bx' next) : o.wp P a w next Q := by
  simp only [I.os, List.all_cons, List.all_append, Bool.and_eq_true] at hk
  have hp := eval_rep h h1 hk.1
  simp only [evI] at hev
  split at hev
  · rename_i sv e1
    rw [e1] at hp
    obtain ⟨hpv, _⟩ := hp.val
    split at hev
    · rename_i ka kb q1 q2
      split at hev
      · rename_i hcond
        obtain ⟨c1, c2, c3⟩ := hcond
        cases hev
        have r1 := rep_bounds h h2 (fun z hz => by subst hz; simpa using hk.2.1) q1
        have r2 := rep_bounds h h3 (fun z hz => by subst hz; simpa using hk.2.2) q2
        have hb : (Instr.sliceBounds false sv.size sv.size (lo.map a.eval) (hi.map a.eval) none).run P w = .ok (ka.toNat, kb.toNat, sv.size) w := by
          unfold Instr.sliceBounds
          rcases r2 with ⟨e1, e2, e3⟩ | ⟨zh, kh, e1, e2, eh⟩
          · subst e1 e3
            rcases r1 with ⟨f1, f2, f3⟩ | ⟨zl, kl, f1, f2, el⟩
            · subst f1 f3; simp
            · subst f1; simp [el, sliceBound_ok kl ka sv.size _ c1 c2]
          · subst e1
            have s2 := sliceBound_ok (P := P) (w := w) kh kb sv.size .sliceAlen (by omega) (by omega)
            rcases r1 with ⟨f1, f2, f3⟩ | ⟨zl, kl, f1, f2, el⟩
            · subst f1 f3; simp [eh, s2]
            · subst f1
              have s1 := sliceBound_ok (P := P) (w := w) kl ka kb.toNat .sliceB c1 (by omega)
              simp [eh, s2, el, s1]
        have hrun : (execOp a.eval o).run P w = .ok (.value (.string (sv.extract ka.toNat kb.toNat))) w := by
          refine run_slc ho ?_
          simp [Instr.sliceAt, run_underlying hu, Instr.slice, hpv, hb]
        exact pure_sound h hd hrun (rep_str _) (n2_val _) hn
      · cases hev
    · cases hev
  · cases hev

theorem oList_len : ∀ (ys : List Operand) (xs : List O), oList ys = some xs → ys.length = xs.length
  | [], xs, h => by cases h; rfl
  | y :: ys, xs, h => by
    unfold oList at h
    split at h
    · rename_i e1 e2
      cases h
      simp [oList_len ys _ e2]
    · cases h

theorem oList_rep (h : InvG F lim μ own s a w) : ∀ (ys : List Operand) (xs : List O), oList ys = some xs → xs.all (okO F.nt) = true →
    ∀ i (hi : i < xs.length), Rep w lim μ s.2.length ((ys.map a.eval).getD i undef) (xs[i].ev s.1)
  | [], xs, e, hk, i, hi => by cases e; simp at hi
  | y :: ys, xs, e, hk, i, hi => by
    unfold oList at e
    split at e
    · rename_i x' t e1 e2
      cases e
      simp only [List.all_cons, Bool.and_eq_true] at hk
      cases i with
      | zero => exact eval_rep h e1 hk.1
      | succ i => simpa using oList_rep h ys t e2 hk.2 i (by simpa using hi)
    · cases e

theorem caps_rep (h : InvG F lim μ own s a w) : ∀ (ys : List Operand) (xs : List O) (cs : List (Nat × Nat)), oList ys = some xs → xs.all (okO F.nt) = true → capsOf s.1 xs = some cs →
    (∀ p ∈ cs, p.1 < s.2.length) ∧ ys.map a.eval = cs.map fun p => Value.pointer (some ⟨μ p.1, p.2, none⟩)
  | [], xs, cs, e, hk, hc => by cases e; cases hc; exact ⟨by simp, rfl⟩
  | y :: ys, xs, cs, e, hk, hc => by
    unfold oList at e
    split at e
    · rename_i x' t e1 e2
      cases e
      simp only [List.all_cons, Bool.and_eq_true] at hk
      have hy := eval_rep h e1 hk.1
      simp only [capsOf] at hc
      split at hc
      · rename_i r q e3
        simp only [Option.map_eq_some_iff] at hc
        obtain ⟨cs', hc', rfl⟩ := hc
        obtain ⟨i1, i2⟩ := caps_rep h ys t cs' e2 hk.2 hc'
        rw [e3] at hy
        obtain ⟨hvy, hr⟩ := hy.toPtr
        refine ⟨?_, by simp [hvy, i2]⟩
        intro p hp
        rcases List.mem_cons.1 hp with rfl | hp
        · exact hr
        · exact i1 p hp
      · cases hc
    · cases e

theorem s_mkf {f : Nat} {cs : Array Operand} {cs' : List O} (h : InvG F lim μ own s a w) (hd : ∀ k, o.dst = some k → k < F.nt) (ho : o.op = .makeFunc (.func f) #[] cs)
    (h1 : oList cs.toList = some cs') (hk : cs'.all (okO F.nt) = true) (hev : evI Φ F.nb (.mkf f cs') s.1 s.2 = some (x, ups, bx')) (hn : Goes F o s x ups bx' next) : o.wp P a w next Q := by
  simp only [evI, Option.map_eq_some_iff] at hev
  obtain ⟨c, hc, he⟩ := hev
  cases he
  obtain ⟨g1, g2⟩ := caps_rep h _ _ _ h1 hk hc
  refine pure_sound h hd (run_mkf ho) ?_ (fun _ _ e => by cases e) hn
  have : cs.map a.eval = (c.map fun p => Value.pointer (some ⟨μ p.1, p.2, none⟩)).toArray := by
    rw [← g2]; apply Array.ext'; simp
  rw [this]
  exact .fn f c g1

end Go.Proofs.YtclebnamhpgdmaaGreatEv
