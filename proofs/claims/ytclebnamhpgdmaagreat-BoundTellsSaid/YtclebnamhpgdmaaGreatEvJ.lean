/- All operations together. -/
import Derived.Test.YtclebnamhpgdmaaGreatEvK
import Derived.Laws.BytesArg
namespace Go.Proofs.YtclebnamhpgdmaaGreatEv
open Go Go.RowKit
set_option linter.unusedSimpArgs false
set_option linter.unusedVariables false

variable {P : Program} {F : Fr} {lim μ : Nat → Nat} {own : Nat → Pl} {s : Env × Bx} {a : Act} {w : World} {o : Oper} {next : Act → World → Prop} {Q : Exit → Act → World → Prop}
  {x : A} {ups : List (Nat × A)} {bx' : Bx} {Φ : CallF}

theorem bytesA_eq : ∀ (l : List A) (bs : List UInt8), bytesA l = some bs → ∃ xs : List Int, l = xs.map (fun n => A.val (.int .u8 n)) ∧ bs = xs.map fun n => UInt8.ofNat n.toNat
  | [], bs, h => by cases h; exact ⟨[], rfl, rfl⟩
  | y :: l, bs, h => by
    unfold bytesA at h
    split at h
    · rename_i e; cases e
    · rename_i b r e
      cases e
      simp only [Option.map_eq_some_iff] at h
      obtain ⟨t, ht, rfl⟩ := h
      obtain ⟨xs, rfl, rfl⟩ := bytesA_eq _ t ht
      exact ⟨b :: xs, rfl, rfl⟩
    · cases h

theorem s_bstr {t d e : TypeId} {y : Operand} {y' : O} (h : InvG F lim μ own s a w) (hd : ∀ k, o.dst = some k → k < F.nt) (ho : o.op = .convert t d y)
    (hs : P.underlying t = some (.slice e)) (he : P.underlying e = some (.int .u8)) (hdd : P.underlying d = some .string) (h1 : toO y = some y') (hk : okO F.nt y' = true)
    (hev : evI Φ F.nb (.bstr y') s.1 s.2 = some (x, ups, bx')) (hn : Goes F o s x ups bx' next) : o.wp P a w next Q := by
  have hy := eval_rep h h1 hk
  simp only [evI] at hev
  split at hev
  · rename_i l n g e1
    rw [e1] at hy
    split at hev
    · rename_i hln
      simp only [Option.map_eq_some_iff] at hev
      obtain ⟨bs, hbs, hx⟩ := hev
      cases hx
      obtain ⟨xs, hlx, rfl⟩ := bytesA_eq _ _ hbs
      have hp' := hy.toSl
      generalize hvp : a.eval y = vp at hp'
      cases hp' with
      | nil _ h4 =>
        have hr := run_convert_bytes_nil (P := P) w t e hs he 0 0 d hdd
        have hxs : xs = [] := by
          have := congrArg List.length hlx
          simp at this
          exact List.eq_nil_of_length_eq_zero this.symm
        subst hxs
        exact pure_sound h hd (run_conv ho (by rw [hvp]; exact hr)) (rep_str _) (n2_val _) hn
      | emp b q sp g h3 =>
        have hxs : xs = [] := by
          have := congrArg List.length hlx
          simp at this
          exact List.eq_nil_of_length_eq_zero this.symm
        subst hxs
        refine pure_sound h hd (run_conv ho (v := .string ⟨#[]⟩) ?_) (rep_str _) (n2_val _) hn
        rw [hvp]
        simp [convert, run_underlying hs, run_underlying hdd, run_underlying he]
        have hl0 := run_loadCells_list (P := P) (w := w) ⟨b, q, some sp⟩ [] (fun j v hj => by simp at hj)
        simp only [List.length_nil] at hl0
        simp [Conv.bytesToString, hl0, ByteArray.empty, ByteArray.emptyWithCapacity]
        rfl
      | sl b q n c l g vs hnc hg h3 hc hl hr =>
        subst hlx
        simp only [List.length_map] at hln
        have hcell : ∀ i, i < n → w.cell? ⟨b, q + i, none⟩ = some (.int .u8 (xs.getD i 0)) := by
          intro i hi
          have hi' : i < (xs.map (fun n => A.val (.int .u8 n))).length := by simp; omega
          rw [hc i hi']
          have := hr i hi'
          rw [List.getElem_map] at this
          have hv := (Rep.rv (μ := μ) (m := 0) this).val.1
          rw [hv, List.getD_eq_getElem?_getD, List.getElem?_eq_getElem (by omega)]; rfl
        have hrr := run_convert_bytes_arg (P := P) w t e hs he b q n c xs hln hcell d hdd
        exact pure_sound h hd (run_conv ho (by rw [hvp]; exact hrr)) (rep_str _) (n2_val _) hn
    · cases hev
  · cases hev

theorem s_conv {t d : TypeId} {y : Operand} {y' : O} {k0 k : IntKind} (h : InvG F lim μ own s a w) (hd : ∀ k, o.dst = some k → k < F.nt) (ho : o.op = .convert t d y)
    (hs : P.underlying t = some (.int k0)) (hdd : P.underlying d = some (.int k)) (h1 : toO y = some y') (hk : okO F.nt y' = true)
    (hev : evI Φ F.nb (.conv k y') s.1 s.2 = some (x, ups, bx')) (hn : Goes F o s x ups bx' next) : o.wp P a w next Q := by
  have hy := eval_rep h h1 hk
  simp only [evI] at hev
  split at hev
  · rename_i kk n e1
    rw [e1] at hy
    obtain ⟨hv, _⟩ := hy.val
    cases hev
    refine pure_sound h hd (run_conv ho (v := .int k (k.wrap n)) ?_) (rep_int _ _) (n2_val _) hn
    simp [convert, run_underlying hs, run_underlying hdd, hv, Conv.intToInt]
  · cases hev

theorem s_len {y : Operand} {y' : O} {t : TypeId} {e : TypeId} (h : InvG F lim μ own s a w) (hd : ∀ k, o.dst = some k → k < F.nt) (ho : o.op = .call { callee := .builtin .len, args := #[y], argTypes := #[t] })
    (hs : P.underlying t = some (.slice e)) (h1 : toO y = some y') (hk : okO F.nt y' = true)
    (hev : evI Φ F.nb (.len y') s.1 s.2 = some (x, ups, bx')) (hn : Goes F o s x ups bx' next) : o.wp P a w next Q := by
  have hy := eval_rep h h1 hk
  simp only [evI] at hev
  split at hev
  · rename_i l n g e1
    rw [e1] at hy
    cases hev
    obtain ⟨base, c, cs, ev, _⟩ := sl_cells (P := P) hy.toSl
    refine pure_sound h hd (run_builtin ho fun cs => ?_) (rep_int _ _) (n2_val _) hn
    simp [builtin, Builtin.len_, run_underlying hs, ev, goInt]
  · rename_i r n z e1
    rw [e1] at hy
    cases hev
    obtain ⟨c, ev, _⟩ := hy.toBs
    refine pure_sound h hd (run_builtin ho fun cs => ?_) (rep_int _ _) (n2_val _) hn
    simp [builtin, Builtin.len_, run_underlying hs, ev, goInt]
  · cases hev

theorem s_slen {y : Operand} {y' : O} {t : TypeId} (h : InvG F lim μ own s a w) (hd : ∀ k, o.dst = some k → k < F.nt) (ho : o.op = .call { callee := .builtin .len, args := #[y], argTypes := #[t] })
    (hs : P.underlying t = some .string) (h1 : toO y = some y') (hk : okO F.nt y' = true)
    (hev : evI Φ F.nb (.slen y') s.1 s.2 = some (x, ups, bx')) (hn : Goes F o s x ups bx' next) : o.wp P a w next Q := by
  have hy := eval_rep h h1 hk
  simp only [evI] at hev
  split at hev
  · rename_i sv e1
    rw [e1] at hy
    cases hev
    obtain ⟨hv, _⟩ := hy.val
    refine pure_sound h hd (run_builtin ho fun cs => ?_) (rep_int _ _) (n2_val _) hn
    simp [builtin, Builtin.len_, run_underlying hs, hv, goInt]
  · cases hev

theorem foldM_run (isMax : Bool) : ∀ (l : List A) (vs : List Value) (a0 r : Int), foldM isMax a0 l = some r → vs.length = l.length → (∀ i (hi : i < l.length), ∃ m, Rep w lim μ m (vs.getD i undef) l[i]) →
    (vs.foldlM (if isMax then Builtin.max2 else Builtin.min2) (.int .i64 a0)).run P w = .ok (.int .i64 r) w
  | [], vs, a0, r, h, hl, _ => by
    cases h
    have : vs = [] := List.eq_nil_of_length_eq_zero (by simpa using hl)
    subst this
    simp
  | y :: l, [], a0, r, h, hl, _ => by simp at hl
  | y :: l, v :: vs, a0, r, h, hl, hr => by
    unfold foldM at h
    split at h
    · rename_i e; cases e
    · rename_i a0' b l' e
      cases e
      obtain ⟨m, h0⟩ := hr 0 (by simp)
      have hv : v = .int .i64 b := by simpa using h0.val.1
      subst hv
      have ih := foldM_run isMax _ vs _ r h (by simpa using hl) (fun i hi => hr (i + 1) (by simpa using hi))
      cases isMax with
      | true => simpa [Builtin.max2] using ih
      | false => simpa [Builtin.min2] using ih
    · cases h

theorem s_mxn {xs : Array Operand} {ts : Array TypeId} {xs' : List O} (isMax : Bool) (h : InvG F lim μ own s a w) (hd : ∀ k, o.dst = some k → k < F.nt) (ho : o.op = .call { callee := .builtin (if isMax then .max else .min), args := xs, argTypes := ts })
    (h1 : oList xs.toList = some xs') (hk : xs'.all (okO F.nt) = true) (hev : evI Φ F.nb (.mxn isMax xs') s.1 s.2 = some (x, ups, bx')) (hn : Goes F o s x ups bx' next) : o.wp P a w next Q := by
  have hlen := oList_len _ _ h1
  have hrep := oList_rep h _ _ h1 hk
  simp only [evI] at hev
  split at hev
  · rename_i a0 r e1
    simp only [Option.map_eq_some_iff] at hev
    obtain ⟨v, hv, hx⟩ := hev
    cases hx
    obtain ⟨y', r', rfl⟩ : ∃ y' r', xs' = y' :: r' := by cases xs' with | nil => simp at e1 | cons y' r' => exact ⟨y', r', rfl⟩
    simp only [List.map_cons, List.cons.injEq] at e1
    obtain ⟨e1, rfl⟩ := e1
    obtain ⟨xl⟩ := xs
    obtain ⟨y, rr, rfl⟩ : ∃ y rr, xl = y :: rr := by cases xl with | nil => simp at hlen | cons y rr => exact ⟨y, rr, rfl⟩
    have h0 := hrep 0 (by simp)
    simp only [List.map_cons, List.getElem_cons_zero] at h0
    rw [e1] at h0
    have hv0 : a.eval y = .int .i64 a0 := by simpa using h0.val.1
    have hf := foldM_run (P := P) (w := w) (lim := lim) (μ := μ) isMax _ (rr.map a.eval) a0 v hv (by simpa using hlen) (fun i hi => ⟨_, by
      have := hrep (i + 1) (by simpa using hi)
      simpa using this⟩)
    refine pure_sound h hd (run_builtin ho (v := .int .i64 v) fun cs => ?_) (rep_int _ _) (n2_val _) hn
    cases isMax with
    | true => simp only [if_true, builtin, Builtin.max_] at hf ⊢; simp [hv0, hf]
    | false => simp only [builtin, Builtin.min_] at hf ⊢; simp at hf; simp [hv0, hf]
  · cases hev

theorem s_bin {op : BinOp} {t u : TypeId} {y z : Operand} {y' z' : O} (h : InvG F lim μ own s a w) (hd : ∀ k, o.dst = some k → k < F.nt) (ho : o.op = .binOp op t y z u)
    (h1 : toO y = some y') (h2 : toO z = some z') (hk : (I.bin op y' z').os.all (okO F.nt) = true) (hev : evI Φ F.nb (.bin op y' z') s.1 s.2 = some (x, ups, bx')) (hn : Goes F o s x ups bx' next) : o.wp P a w next Q := by
  simp only [I.os, List.all_cons, List.all_nil, Bool.and_true, Bool.and_eq_true] at hk
  have hy := eval_rep h h1 hk.1
  have hz := eval_rep h h2 hk.2
  simp only [evI, Option.map_eq_some_iff] at hev
  obtain ⟨r, hr, he⟩ := hev
  cases he
  obtain ⟨v, k1, rfl, k3, k4, k5⟩ := bin_run (P := P) (t := t) hy hz hr
  exact pure_sound h hd (run_bin ho (eqGuard_plain k4 k5) k1) (.rv (.val _ k3)) (n2_val _) hn

theorem s_eqs {neg : Bool} {t u : TypeId} {y z : Operand} {y' z' : O} {fs : Array Field} {i : TypeInfo} (h : InvG F lim μ own s a w) (hd : ∀ k, o.dst = some k → k < F.nt) (ho : o.op = .binOp (if neg then .neq else .eql) t y z u)
    (hu : P.underlying t = some (.struct fs)) (hc : P.stoodInHeld t = false ∧ intFields P fs.toList 0 = true ∧ fs.size = i.size)
    (h1 : toO y = some y') (h2 : toO z = some z') (hk : (I.eqs neg i.size y' z').os.all (okO F.nt) = true) (hev : evI Φ F.nb (.eqs neg i.size y' z') s.1 s.2 = some (x, ups, bx')) (hn : Goes F o s x ups bx' next) : o.wp P a w next Q := by
  simp only [I.os, List.all_cons, List.all_nil, Bool.and_true, Bool.and_eq_true] at hk
  have hy := eval_rep h h1 hk.1
  have hz := eval_rep h h2 hk.2
  simp only [evI] at hev
  split at hev
  · rename_i xs ys e1 e2
    rw [e1] at hy
    rw [e2] at hz
    split at hev
    · rename_i hl
      simp only [Option.map_eq_some_iff] at hev
      obtain ⟨r, hr, he⟩ := hev
      cases he
      have hq := eqs_run hu hc.1 hc.2.1 hy hz (by omega) hr
      obtain ⟨vs, e3, _⟩ := hy.toAgg
      obtain ⟨us, e4, _⟩ := hz.toAgg
      rw [e3, e4] at hq
      refine pure_sound h hd (run_bin ho (v := .bool (if neg = true then !r else r)) ?_ ?_) (rep_bool _) (n2_val _) hn
      · rw [e3, e4]; exact eqGuard_agg hu hc.2.1 _ _ _ _
      · rw [e3, e4]
        cases neg <;> simp [binOp, hq]
    · cases hev
  · cases hev

theorem s_eqb {neg : Bool} {t u : TypeId} {y z : Operand} {y' z' : O} (h : InvG F lim μ own s a w) (hd : ∀ k, o.dst = some k → k < F.nt) (ho : o.op = .binOp (if neg then .neq else .eql) t y z u)
    (hu : P.underlying t = some .bool) (h1 : toO y = some y') (h2 : toO z = some z') (hk : (I.eqb neg y' z').os.all (okO F.nt) = true) (hev : evI Φ F.nb (.eqb neg y' z') s.1 s.2 = some (x, ups, bx')) (hn : Goes F o s x ups bx' next) : o.wp P a w next Q := by
  simp only [I.os, List.all_cons, List.all_nil, Bool.and_true, Bool.and_eq_true] at hk
  have hy := eval_rep h h1 hk.1
  have hz := eval_rep h h2 hk.2
  simp only [evI] at hev
  split at hev
  · rename_i p q e1 e2
    rw [e1] at hy
    rw [e2] at hz
    cases hev
    have e3 := hy.val.1
    have e4 := hz.val.1
    refine pure_sound h hd (run_bin ho (v := .bool (if neg = true then !(p == q) else p == q)) ?_ ?_) (rep_bool _) (n2_val _) hn
    · rw [e3]; exact eqGuard_plain (by simp) (by simp)
    · rw [e3, e4]
      cases neg <;> simp [binOp, eqb_run hu]
  · cases hev

theorem s_un {op : UnOp} {t : TypeId} {y : Operand} {y' : O} (h : InvG F lim μ own s a w) (hd : ∀ k, o.dst = some k → k < F.nt) (ho : o.op = .unOp op t y)
    (h1 : toO y = some y') (hk : okO F.nt y' = true) (hev : evI Φ F.nb (.un op y') s.1 s.2 = some (x, ups, bx')) (hn : Goes F o s x ups bx' next) : o.wp P a w next Q := by
  have hy := eval_rep h h1 hk
  simp only [evI, Option.map_eq_some_iff] at hev
  obtain ⟨r, hr, he⟩ := hev
  cases he
  obtain ⟨v, k1, rfl, k3⟩ := un_run (P := P) hy hr
  exact pure_sound h hd (run_un ho k1) (.rv (.val _ k3)) (n2_val _) hn

/-- Each operation does what the evaluator says. -/
theorem opSound (hΦ : SoundF P Φ) (h : InvG F lim μ own s a w) {hh : Hn} {i : I} (hc : compI P hh o.dst o.op = some i) (hk : i.os.all (okO F.nt) = true) (hd : ∀ k, o.dst = some k → k < F.nt)
    (hev : evI Φ F.nb i s.1 s.2 = some (x, ups, bx')) (hn : Goes F o s x ups bx' next) : o.wp P a w next Q := by
  unfold compI at hc
  split at hc
  · rename_i y ho
    simp only [Option.map_eq_some_iff] at hc
    obtain ⟨y', h1, rfl⟩ := hc
    have hk1 : okO F.nt y' = true := by simpa [I.os] using hk
    revert hev
    generalize (isTk hh.tk o.dst) = b
    intro hev
    cases b with
    | true => simp only [evI] at hev; cases hev; exact mv_sound h hd h1 hk1 (run_move ho) hn
    | false => simp only [evI] at hev; cases hev; exact pure_sound h hd (run_move ho) (eval_rep h h1 hk1).cp (n2_cp _) hn
  · rename_i y ho
    simp only [Option.map_eq_some_iff] at hc
    obtain ⟨y', h1, rfl⟩ := hc
    have hk1 : okO F.nt y' = true := by simpa [I.os] using hk
    cases hev; exact mv_sound h hd h1 hk1 (run_assign ho) hn
  · rename_i c u v ho
    split at hc
    · rename_i h1 h2 h3; cases hc; exact s_pick h hd ho h1 h2 h3 hk hev hn
    · cases hc
  · rename_i t ho
    simp only [Option.map_eq_some_iff] at hc
    obtain ⟨z, hz, rfl⟩ := hc
    exact s_alloc h hd ho hz hev hn
  · rename_i t y ho
    simp only [Option.map_eq_some_iff] at hc
    obtain ⟨y', h1, rfl⟩ := hc
    exact s_box h hd ho h1 (by simpa [I.os] using hk) hev hn
  · rename_i t ps ho
    split at hc
    · rename_i fs z hu hz
      split at hc
      · rename_i pl hpl
        simp only [Option.map_eq_some_iff] at hc
        obtain ⟨ps', hp, rfl⟩ := hc
        exact s_build h hd ho hu hz hpl hp hk hev hn
      · cases hc
    · cases hc
  · rename_i t len ps ho
    split at hc
    · rename_i e hu
      split at hc
      · rename_i i' z hi hz
        split at hc
        · rename_i hcond
          simp only [Option.map_eq_some_iff] at hc
          obtain ⟨ps', hp, rfl⟩ := hc
          exact s_bsl h hd ho hu hi hz hcond.1 hcond.2 hp hk hev hn
        · cases hc
      · cases hc
    · cases hc
  · rename_i t y ho
    split at hc
    · rename_i d i' y' hu hi h1
      cases hc
      exact s_load h hd ho hu hi h1 (by simpa [I.os] using hk) hev hn
    · cases hc
  · rename_i t p y ho
    split at hc
    · rename_i i' p' y' hi h1 h2
      cases hc
      simp only [I.os, List.all_cons, List.all_nil, Bool.and_true, Bool.and_eq_true] at hk
      exact s_store h hd ho hi h1 h2 hk.1 hk.2 hev hn
    · cases hc
  · rename_i op t y z u ho
    split at hc
    · rename_i y' z' h1 h2
      split at hc
      · rename_i fs i' hu hi
        split at hc
        · rename_i hcond; cases hc; exact s_eqs (neg := false) h hd ho hu hcond h1 h2 hk hev hn
        · cases hc
      · rename_i fs i' hu hi
        split at hc
        · rename_i hcond; cases hc; exact s_eqs (neg := true) h hd ho hu hcond h1 h2 hk hev hn
        · cases hc
      · rename_i hu; cases hc; exact s_eqb (neg := false) h hd ho hu h1 h2 hk hev hn
      · rename_i hu; cases hc; exact s_eqb (neg := true) h hd ho hu h1 h2 hk hev hn
      rotate_left 4
      · rename_i hu
        split at hc
        · rename_i hnil; cases hc; exact s_isnil (neg := false) h hd ho hu h1 hnil (by simpa [I.os] using hk) hev hn
        · cases hc
      · rename_i hu
        split at hc
        · rename_i hnil; cases hc; exact s_isnil (neg := true) h hd ho hu h1 hnil (by simpa [I.os] using hk) hev hn
        · cases hc
      all_goals first
        | (cases hc; done)
        | (cases hc; exact s_bin h hd ho h1 h2 hk hev hn)
    · cases hc
  · rename_i op t y ho
    simp only [Option.map_eq_some_iff] at hc
    obtain ⟨y', h1, rfl⟩ := hc
    exact s_un h hd ho h1 (by simpa [I.os] using hk) hev hn
  · rename_i t d y ho
    split at hc
    · rename_i hs hdd h1; cases hc; exact s_conv h hd ho hs hdd h1 (by simpa [I.os] using hk) hev hn
    · rename_i hs hdd h1
      split at hc
      · rename_i he; cases hc; exact s_bstr h hd ho hs he hdd h1 (by simpa [I.os] using hk) hev hn
      · cases hc
    · cases hc
  · rename_i xs ts ho
    obtain ⟨xl⟩ := xs
    obtain ⟨tl⟩ := ts
    split at hc
    · rename_i y t e1 e2
      simp only at e1 e2; subst e1 e2
      split at hc
      · rename_i hs h1; cases hc; exact s_len h hd ho hs h1 (by simpa [I.os] using hk) hev hn
      · rename_i hs h1; cases hc; exact s_slen h hd ho hs h1 (by simpa [I.os] using hk) hev hn
      · cases hc
    · cases hc
  · rename_i xs ts ho
    obtain ⟨xl⟩ := xs
    obtain ⟨tl⟩ := ts
    split at hc
    · rename_i y z t u e1 e2
      simp only at e1 e2; subst e1 e2
      split at hc
      · rename_i ht hu h1 h2
        split at hc
        · rename_i hi hz
          split at hc
          · rename_i hcond
            cases hc
            simp only [I.os, List.all_cons, List.all_nil, Bool.and_true, Bool.and_eq_true] at hk
            exact s_app h hd ho ht hu ⟨_, rfl⟩ hi hz hcond.1 hcond.2 h1 h2 hk.1 hk.2 hev hn
          · cases hc
        · cases hc
      · cases hc
    · cases hc
  · rename_i xs ts ho
    simp only [Option.map_eq_some_iff] at hc
    obtain ⟨xs', h1, rfl⟩ := hc
    exact s_mxn true h hd ho h1 hk hev hn
  · rename_i xs ts ho
    simp only [Option.map_eq_some_iff] at hc
    obtain ⟨xs', h1, rfl⟩ := hc
    exact s_mxn false h hd ho h1 hk hev hn
  · rename_i f xs ts ho
    split at hc
    · simp only [Option.map_eq_some_iff] at hc
      obtain ⟨xs', h1, rfl⟩ := hc
      exact s_calli hΦ h hd ho h1 hk hev hn
    · simp only [Option.map_eq_some_iff] at hc
      obtain ⟨xs', h1, rfl⟩ := hc
      exact s_call hΦ h hd ho h1 hk hev hn
  · rename_i t xs ts ho
    simp only [Option.map_eq_some_iff] at hc
    obtain ⟨xs', h1, rfl⟩ := hc
    simp only [I.os, List.all_cons, Bool.and_eq_true] at hk
    exact s_callv hΦ h hd ho h1 hk.2 hev hn
  · rename_i t y lo hi mx ho
    split at hc
    · rename_i y' lo' hi' mx' h1 h2 h3 h4
      split at hc
      · rename_i e hu
        split at hc
        · cases hc
        · rename_i hx
          simp only [Option.map_eq_some_iff] at hc
          obtain ⟨i', hi', rfl⟩ := hc
          exact s_slc h hd ho hu hi' h1 h2 h3 h4 hx hk hev hn
      · rename_i hu
        split at hc
        · rename_i hm
          cases hc
          have hmx : mx = none := by
            cases mx with
            | none => rfl
            | some z => simp only [oOpt, Option.map_eq_some_iff] at h4; obtain ⟨_, _, rfl⟩ := h4; simp at hm
          subst hmx
          exact s_sslc h hd ho hu h1 h2 h3 hk hev hn
        · cases hc
      · cases hc
    · cases hc
  · rename_i t y k ho
    split at hc
    · rename_i fs y' hu h1
      split at hc
      · rename_i f hf
        split at hc
        · rename_i i' hi
          split at hc
          · cases hc
          · rename_i hsz
            cases hc
            exact s_fa h hd ho hu hf hi hsz h1 (by simpa [I.os] using hk) hev hn
        · cases hc
      · cases hc
    · cases hc
  · rename_i t y k ho
    split at hc
    · rename_i e y' k' hu h1 h2
      simp only [Option.map_eq_some_iff] at hc
      obtain ⟨i', hi, rfl⟩ := hc
      simp only [I.os, List.all_cons, List.all_nil, Bool.and_true, Bool.and_eq_true] at hk
      exact s_ia h hd ho hu hi h1 h2 hk.1 hk.2 hev hn
    · cases hc
  · rename_i t y k ho
    split at hc
    · rename_i y' k' hu h1 h2
      cases hc
      simp only [I.os, List.all_cons, List.all_nil, Bool.and_true, Bool.and_eq_true] at hk
      exact s_ix h hd ho hu h1 h2 hk.1 hk.2 hev hn
    · cases hc
  · rename_i y k ho
    simp only [Option.map_eq_some_iff] at hc
    obtain ⟨y', h1, rfl⟩ := hc
    exact s_ext h hd ho h1 (by simpa [I.os] using hk) hev hn
  · rename_i f fs cs ho
    split at hc
    · rename_i he
      simp only [Option.map_eq_some_iff] at hc
      obtain ⟨cs', h1, rfl⟩ := hc
      have hfs : fs = #[] := by simpa using he
      subst hfs
      exact s_mkf h hd ho h1 hk hev hn
    · cases hc
  · rename_i t l c ho
    split at hc
    · rename_i e y' hu h1
      split at hc
      · rename_i i' z hi hz
        split at hc
        · rename_i hcond
          cases hc
          exact s_mksl h hd ho hu hi hz hcond.2.1 hcond.2.2 hcond.1 h1 (by simpa [I.os] using hk) hev hn
        · cases hc
      · cases hc
    · cases hc
  · cases hc
end Go.Proofs.YtclebnamhpgdmaaGreatEv
