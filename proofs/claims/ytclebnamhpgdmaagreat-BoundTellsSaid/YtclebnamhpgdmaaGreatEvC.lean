/- From the program's operations to the compact ones; the operations that leave memory alone. -/
import Derived.Test.YtclebnamhpgdmaaGreatEvB
import Derived.Laws.StructEq
namespace Go.Proofs.YtclebnamhpgdmaaGreatEv
open Go Go.RowKit
set_option linter.unusedSimpArgs false
set_option linter.unusedVariables false

def zeroOf (P : Program) (t : TypeId) : Option (List Value) :=
  match P.info? t with
  | some i => match i.zero with
    | some z => if z.cells.toList.length = i.size ∧ z.cells.toList.all (fun v => v.oneCell') = true then some z.cells.toList else none
    | none => none
  | none => none

def sizesOf (P : Program) : List Field → Option (List (Nat × Nat))
  | [] => some []
  | f :: r => match P.info? f.type, sizesOf P r with
    | some i, some t => some ((f.offset, i.size) :: t)
    | _, _ => none

def partsOf (place : Nat → Option (Nat × Nat)) : List (Nat × Operand) → Option (List (Nat × Nat × O))
  | [] => some []
  | (i, x) :: r => match place i, toO x, partsOf place r with
    | some (off, size), some y, some t => some ((off, size, y) :: t)
    | _, _, _ => none

def oList : List Operand → Option (List O)
  | [] => some []
  | x :: r => match toO x, oList r with
    | some y, some t => some (y :: t)
    | _, _ => none

def oOpt : Option Operand → Option (Option O)
  | none => some none
  | some x => (toO x).map some

def isAggD : TypeDesc → Bool
  | .struct _ => true
  | .array _ _ => true
  | _ => false

def intFields (P : Program) : List Field → Nat → Bool
  | [], _ => true
  | f :: r, k => f.name != "_" && f.offset == k && (match P.underlying f.type with | some (.int _) => true | _ => false) && intFields P r (k + 1)

def sameO : Operand → Operand → Bool
  | .tmp i, .tmp j => i == j
  | .const (.int .i64 a), .const (.int .i64 b) => a == b
  | _, _ => false

def isTk (tk : List Nat) : Option Nat → Bool
  | some d => tk.contains d
  | none => false

/-- Hints: 'tk': the slots whose load or move hands the right to grow on; 'mu': the slots whose slices are made to be written; 'kp': the functions whose answers keep what is known of their room; 'im': the functions that may write boxes. -/
structure Hn where
  tk : List Nat
  mu : List Nat
  kp : List Nat
  im : List Nat
  deriving Inhabited

def refTy (P : Program) (t : TypeId) : Bool :=
  match P.underlying t with
  | some (.pointer _) => true
  | some (.func _ _ _) => true
  | _ => false

def nilO : Operand → Bool
  | .const (.slice none 0 0) => true
  | _ => false

def compI (P : Program) (hn : Hn) (dst : Option Nat) (op : Op) : Option I :=
  match op with
  | .move x => (toO x).map fun y => .mv y (isTk hn.tk dst)
  | .assign x => (toO x).map fun y => .mv y true
  | .pick c a b => match toO c, toO a, toO b with
    | some c, some a, some b => some (.pick c a b)
    | _, _, _ => none
  | .alloc t => (zeroOf P t).map .alloc
  | .box _ x => (toO x).map .box
  | .build t ps => match P.underlying t, zeroOf P t with
    | some (.struct fs), some z => match sizesOf P fs.toList with
      | some pl => (partsOf (fun i => pl[i]?) ps.toList).map (.build z)
      | none => none
    | _, _ => none
  | .buildSlice t len ps => match P.underlying t with
    | some (.slice e) => match P.info? e, zeroOf P e with
      | some i, some z =>
        if len * i.size ≤ 16777216 ∧ 0 < i.size then
          (partsOf (fun k => some (k * i.size, i.size)) ps.toList).map fun ps' => .bsl i.size len ((List.range (len * i.size)).map fun j => z.getD (j % z.length) undef) ps' (isTk hn.mu dst)
        else none
      | _, _ => none
    | _ => none
  | .load t x => match P.underlying t, P.info? t, toO x with
    | some d, some i, some y => some (.load i.size (isAggD d) y (isTk hn.tk dst))
    | _, _, _ => none
  | .store t p x => match P.info? t, toO p, toO x with
    | some i, some q, some y => some (.store i.size q y)
    | _, _, _ => none
  | .binOp op t x y _ => match toO x, toO y with
    | some a, some b => match op, P.underlying t, P.info? t with
      | .eql, some (.struct fs), some i => if P.stoodInHeld t = false ∧ intFields P fs.toList 0 = true ∧ fs.size = i.size then some (.eqs false i.size a b) else none
      | .neq, some (.struct fs), some i => if P.stoodInHeld t = false ∧ intFields P fs.toList 0 = true ∧ fs.size = i.size then some (.eqs true i.size a b) else none
      | .eql, some .bool, _ => some (.eqb false a b)
      | .neq, some .bool, _ => some (.eqb true a b)
      | .eql, some (.int _), _ => some (.bin .eql a b)
      | .neq, some (.int _), _ => some (.bin .neq a b)
      | .eql, some .string, _ => some (.bin .eql a b)
      | .neq, some .string, _ => some (.bin .neq a b)
      | .eql, some (.slice _), _ => if nilO y = true then some (.isnil false a) else none
      | .neq, some (.slice _), _ => if nilO y = true then some (.isnil true a) else none
      | .eql, _, _ => none
      | .neq, _, _ => none
      | op, _, _ => some (.bin op a b)
    | _, _ => none
  | .unOp op _ x => (toO x).map (.un op)
  | .convert s d x => match P.underlying s, P.underlying d, toO x with
    | some (.int _), some (.int k), some y => some (.conv k y)
    | some (.slice e), some .string, some y => match P.underlying e with
      | some (.int .u8) => some (.bstr y)
      | _ => none
    | _, _, _ => none
  | .call { callee := .builtin .len, args := xs, argTypes := ts } => match xs.toList, ts.toList with
    | [x], [t] => match P.underlying t, toO x with
      | some (.slice _), some y => some (.len y)
      | some .string, some y => some (.slen y)
      | _, _ => none
    | _, _ => none
  | .call { callee := .builtin .append, args := xs, argTypes := ts } => match xs.toList, ts.toList with
    | [x, y], [t, u] => match P.underlying t, P.underlying u, toO x, toO y with
      | some (.slice e), some (.slice _), some x, some y => match P.info? e, zeroOf P e with
        | some i, some _ => if 0 < i.size ∧ 0 < i.bytes then some (.app i.size i.bytes x y (isTk hn.mu dst)) else none
        | _, _ => none
      | _, _, _, _ => none
    | _, _ => none
  | .call { callee := .builtin .max, args := xs, .. } => (oList xs.toList).map (.mxn true)
  | .call { callee := .builtin .min, args := xs, .. } => (oList xs.toList).map (.mxn false)
  | .call { callee := .value (.func f), args := xs, argTypes := ts } => if (hn.im.contains f || ts.toList.any (refTy P)) = true then (oList xs.toList).map (.calli f) else (oList xs.toList).map fun ys => .call f ys (hn.kp.contains f)
  | .call { callee := .value (.tmp t), args := xs, .. } => (oList xs.toList).map (.callv (.t t))
  | .slice t x lo hi mx => match toO x, oOpt lo, oOpt hi, oOpt mx with
    | some x, some lo, some hi, some mx => match P.underlying t with
      | some (.slice e) => if hi.isNone ∧ mx.isSome then none else (P.info? e).map fun i => .slc i.size x lo hi mx
      | some .string => if mx.isNone then some (.sslc x lo hi) else none
      | _ => none
    | _, _, _, _ => none
  | .fieldAddr t x k => match P.underlying t, toO x with
    | some (.struct fs), some y => match fs[k]? with
      | some f => match P.info? f.type with
        | some i => if i.size = 0 then none else some (.fa f.offset y)
        | none => none
      | none => none
    | _, _ => none
  | .indexAddr t x i => match P.underlying t, toO x, toO i with
    | some (.slice e), some x, some i => (P.info? e).map fun n => .ia n.size x i
    | _, _, _ => none
  | .index t x i => match P.underlying t, toO x, toO i with
    | some .string, some x, some i => some (.ix x i)
    | _, _, _ => none
  | .extract x k => (toO x).map fun y => .ext y k
  | .makeFunc (.func f) fs cs => if fs.toList.isEmpty then (oList cs.toList).map (.mkf f) else none
  | .makeSlice t l c => match P.underlying t, toO l with
    | some (.slice e), some y => match P.info? e, zeroOf P e with
      | some i, some z => if sameO l c = true ∧ 0 < i.size ∧ 0 < i.bytes then some (.mksl i.size i.bytes z y (isTk hn.mu dst)) else none
      | _, _ => none
    | _, _ => none
  | _ => none

def I.os : I → List O
  | .mv x _ => [x]
  | .pick c a b => [c, a, b]
  | .alloc _ => []
  | .box x => [x]
  | .build _ ps => ps.map (·.2.2)
  | .bsl _ _ _ ps _ => ps.map (·.2.2)
  | .load _ _ x _ => [x]
  | .store _ p x => [p, x]
  | .bin _ x y => [x, y]
  | .un _ x => [x]
  | .conv _ x => [x]
  | .bstr x => [x]
  | .eqs _ _ x y => [x, y]
  | .eqb _ x y => [x, y]
  | .len x => [x]
  | .slen x => [x]
  | .mxn _ xs => xs
  | .app _ _ x y _ => [x, y]
  | .isnil _ x => [x]
  | .slc _ x lo hi mx => x :: (lo.toList ++ hi.toList ++ mx.toList)
  | .sslc x lo hi => x :: (lo.toList ++ hi.toList)
  | .fa _ p => [p]
  | .ia _ x i => [x, i]
  | .ix x i => [x, i]
  | .ext x _ => [x]
  | .mkf _ caps => caps
  | .mksl _ _ _ n _ => [n]
  | .call _ xs _ => xs
  | .calli _ xs => xs
  | .callv x xs => x :: xs

theorem wp_value {P : Program} {o : Oper} {a : Act} {w w' : World} {v : Value} {next Q} (h : (execOp a.eval o).run P w = .ok (.value v) w') (hn : next (a.put o.dst v) w') : o.wp P a w next Q := by
  unfold Oper.wp; rw [h]; exact hn
theorem wp_skipR {P : Program} {o : Oper} {a : Act} {w w' : World} {next Q} (h : (execOp a.eval o).run P w = .ok .skip w') (hn : next (a.put o.dst undef) w') : o.wp P a w next Q := by
  unfold Oper.wp; rw [h]; exact hn

variable {P : Program} {F : Fr} {lim μ : Nat → Nat} {own : Nat → Pl} {s : Env × Bx} {a : Act} {w : World} {o : Oper} {next : Act → World → Prop} {Q : Exit → Act → World → Prop}

/-- An operation that leaves memory alone and gives a value without a right. -/
theorem pure_sound (h : InvG F lim μ own s a w) (hd : ∀ k, o.dst = some k → k < F.nt) {v : Value} {x : A} (hrun : (execOp a.eval o).run P w = .ok (.value v) w)
    (hr : Rep w lim μ s.2.length v x) (h2 : n2 x) (hn : ∀ a' w', Inv F (putO o.dst x s.1, s.2) a' w' → next a' w') : o.wp P a w next Q :=
  wp_value hrun (hn _ _ (h.setO hd hr fun l n b o c e => absurd e (h2 _ _)))

theorem n2_cp (a : A) : n2 a.cp := by
  intro l n h
  cases a <;> simp [A.cp, A.cp1] at h
  split at h <;> omega
theorem n2_norm (a : A) : n2 a.norm := by
  intro l n h
  cases a <;> simp [A.norm, A.norm1] at h
theorem n2_val (v : Value) : n2 (.val v) := fun _ _ h => by cases h

theorem rep_int {w lim μ m} (k : IntKind) (n : Int) : Rep w lim μ m (.int k n) (.val (.int k n)) := .rv (.val _ rfl)
theorem rep_bool {w lim μ m} (b : Bool) : Rep w lim μ m (.bool b) (.val (.bool b)) := .rv (.val _ rfl)
theorem rep_str {w lim μ m} (b : ByteArray) : Rep w lim μ m (.string b) (.val (.string b)) := .rv (.val _ rfl)

/-- A move with its right. -/
theorem own_flag {x : A} {l n} (h : x.own = .sl l n 2) : x = .sl l n 2 ∨ x = .sl l n 1 := by
  cases x <;> simp [A.own] at h
  rename_i l' n' g
  obtain ⟨rfl, rfl, hg⟩ := h
  by_cases e : g = 1
  · subst e; exact .inr rfl
  · have := hg e; subst this; exact .inl rfl

theorem full_of_one {w lim μ m b o n c l} (h : Rep w lim μ m (.slice (some ⟨b, o, none⟩) n c) (.sl l n 1)) : c = n := by
  have := h.toSl
  cases this with
  | sl _ _ _ _ _ _ vs hn hg h3 => exact hg rfl

theorem mv_sound (h : InvG F lim μ own s a w) (hd : ∀ k, o.dst = some k → k < F.nt) {y : Operand} {x : O} (hx : toO y = some x) (hk : okO F.nt x = true)
    (hrun : (execOp a.eval o).run P w = .ok (.value (a.eval y)) w)
    (hn : ∀ a' w', Inv F (putO o.dst (x.ev s.1).own (puts (takeU x s.1) s.1), s.2) a' w' → next a' w') : o.wp P a w next Q := by
  have hr := eval_rep h hx hk
  obtain ⟨hI, hF⟩ := h.take x
  refine wp_value hrun (hn _ _ (hI.setO hd hr.own ?_))
  intro l n b q c e1 e2 e3
  rcases own_flag e1 with e | e
  · cases x with
    | t i =>
      cases y <;> simp [toO] at hx
      subst hx
      exact hF _ l n b q c rfl e e2 e3
    | c v =>
      exfalso
      simp only [O.ev, cst] at e
      split at e
      · cases e
      · exact n2_cst1 _ _ _ e
    | f k => cases e
  · rw [e] at hr
    rw [e2] at hr
    have := full_of_one hr
    omega

section
attribute [local simp] execOp Result.andThen
theorem run_move {y : Operand} (ho : o.op = .move y) : (execOp a.eval o).run P w = .ok (.value (a.eval y)) w := by simp [ho]
theorem run_assign {y : Operand} (ho : o.op = .assign y) : (execOp a.eval o).run P w = .ok (.value (a.eval y)) w := by simp [ho]
theorem run_pick {c x y : Operand} {t : Bool} (ho : o.op = .pick c x y) (hc : a.eval c = .bool t) : (execOp a.eval o).run P w = .ok (.value (if t then a.eval x else a.eval y)) w := by
  cases t <;> simp [ho, hc, asBool]
theorem run_un {op t y} {v : Value} (ho : o.op = .unOp op t y) (hv : (Op.unary op (a.eval y)).run P w = .ok v w) : (execOp a.eval o).run P w = .ok (.value v) w := by simp [ho, hv]
theorem run_conv {t d y} {v : Value} (ho : o.op = .convert t d y) (hv : (convert t d (a.eval y)).run P w = .ok v w) : (execOp a.eval o).run P w = .ok (.value v) w := by simp [ho, hv]
theorem run_ext {y k} {v : Value} (ho : o.op = .extract y k) (hv : (Instr.extract (a.eval y) k).run P w = .ok v w) : (execOp a.eval o).run P w = .ok (.value v) w := by simp [ho, hv]
theorem run_fa {t y k} {v : Value} (ho : o.op = .fieldAddr t y k) (hv : (Instr.fieldAt t (a.eval y) k).run P w = .ok v w) : (execOp a.eval o).run P w = .ok (.value v) w := by simp [ho, hv]
theorem run_ia {t y k} {v : Value} (ho : o.op = .indexAddr t y k) (hv : (Instr.indexAt t (a.eval y) (a.eval k)).run P w = .ok v w) : (execOp a.eval o).run P w = .ok (.value v) w := by simp [ho, hv]
theorem run_ix {t y k} {v : Value} (ho : o.op = .index t y k) (hv : (Instr.index t (a.eval y) (a.eval k)).run P w = .ok v w) : (execOp a.eval o).run P w = .ok (.value v) w := by simp [ho, hv]
theorem run_bin {op t x y u} {v : Value} (ho : o.op = .binOp op t x y u) (hg : (eqGuard op t x y (a.eval x) (a.eval y)).run P w = .ok () w) (hv : (binOp op t (a.eval x) (a.eval y)).run P w = .ok v w) :
    (execOp a.eval o).run P w = .ok (.value v) w := by simp [ho, hv, hg]
theorem run_load' {t y} {v : Value} (ho : o.op = .load t y) (hv : (Instr.loadAt t (a.eval y)).run P w = .ok v w) : (execOp a.eval o).run P w = .ok (.value v) w := by simp [ho, hv]
theorem run_slc {t y lo hi mx} {v : Value} (ho : o.op = .slice t y lo hi mx) (hv : (Instr.sliceAt t (a.eval y) (lo.map a.eval) (hi.map a.eval) (mx.map a.eval)).run P w = .ok v w) : (execOp a.eval o).run P w = .ok (.value v) w := by simp [ho, hv]
theorem run_builtin {b xs ts} {v : Value} {w' : World} (ho : o.op = .call { callee := .builtin b, args := xs, argTypes := ts })
    (hv : ∀ cs, (builtin b ts o.type cs (xs.map a.eval)).run P w = .ok (.value v) w') : (execOp a.eval o).run P w = .ok (.value v) w' := by
  simp [ho, resolve, invoke, hv]
theorem run_callf {f xs ts} (ho : o.op = .call { callee := .value (.func f), args := xs, argTypes := ts })
    (hv : (callFunc f (xs.map a.eval)).run P w = .ok (.enter f (xs.map a.eval)) w) : (execOp a.eval o).run P w = .ok (.enter f (xs.map a.eval)) w := by
  simp [ho, resolve, invoke, Act.eval, Deferred.ofValue, hv]
theorem run_callv {t xs ts f caps} (ho : o.op = .call { callee := .value (.tmp t), args := xs, argTypes := ts }) (hf : a.eval (.tmp t) = .func (.func f) #[] caps)
    (hv : (callFunc f (xs.map a.eval ++ caps)).run P w = .ok (.enter f (xs.map a.eval ++ caps)) w) : (execOp a.eval o).run P w = .ok (.enter f (xs.map a.eval ++ caps)) w := by
  simp [ho, resolve, invoke, hf, Deferred.ofValue, hv]
theorem run_mkf {f cs} (ho : o.op = .makeFunc (.func f) #[] cs) : (execOp a.eval o).run P w = .ok (.value (.func (.func f) #[] (cs.map a.eval))) w := by
  simp [ho, Instr.makeFunc]
end

/-! ### the plain ones -/
theorem bin_run {op : BinOp} {t : TypeId} {x y r : A} {vx vy : Value} {m} (hx : Rep w lim μ m vx x) (hy : Rep w lim μ m vy y) (h : evBin op x y = some r) :
    ∃ v, (binOp op t vx vy).run P w = .ok v w ∧ r = .val v ∧ v.oneCell' = true ∧ (∀ cs, vx ≠ .agg cs) ∧ vx ≠ .nilIface := by
  unfold evBin at h
  split at h
  · rename_i k a' k' b'
    obtain ⟨rfl, _⟩ := hx.val
    obtain ⟨rfl, _⟩ := hy.val
    split at h
    · rename_i hk
      subst hk
      cases op <;> simp at h
      all_goals first | (obtain ⟨hb, rfl⟩ := h) | subst h
      all_goals refine ⟨_, ?_, rfl, rfl, by simp, by simp⟩
      all_goals first
        | (simp [binOp, Op.intArith, Op.intCmp]; done)
        | (simp [binOp, Op.intCmp]; rw [Bool.eq_iff_iff]; simp; done)
        | (simp [binOp, Op.intDiv, hb]; done)
        | (simp [binOp, Op.intBits]; done)
        | (have hb' : ¬ b' < 0 := by omega
           simp only [binOp]; unfold Op.shift; rw [if_neg hb']; rfl)
    · cases h
  · rename_i a' b'
    obtain ⟨rfl, _⟩ := hx.val
    obtain ⟨rfl, _⟩ := hy.val
    cases op <;> simp at h
    all_goals first | (obtain ⟨hb, rfl⟩ := h) | subst h
    all_goals refine ⟨_, ?_, rfl, rfl, by simp, by simp⟩
    all_goals first
      | (simp [binOp, Op.stringOp]; done)
      | (simp [binOp, Op.stringOp]; omega)
  · cases h

theorem un_run {op : UnOp} {x r : A} {vx : Value} {m} (hx : Rep w lim μ m vx x) (h : evUn op x = some r) :
    ∃ v, (Op.unary op vx).run P w = .ok v w ∧ r = .val v ∧ v.oneCell' = true := by
  unfold evUn at h
  split at h
  · obtain ⟨rfl, _⟩ := hx.val
    cases op <;> simp at h
    subst h
    exact ⟨_, by simp [Op.unary], rfl, rfl⟩
  · obtain ⟨rfl, _⟩ := hx.val
    cases op <;> simp at h
    subst h
    exact ⟨_, by simp [Op.unary, Op.intArith], rfl, rfl⟩
  · cases h

theorem part_int {e : TypeId} {k : IntKind} (he : P.underlying e = some (.int k)) {xs : Array Value} {off : Nat} {v : Value} (hv : xs[off]? = some v) :
    (part e xs off).run P w = .ok v w := by
  simp [part, isAgg, run_underlying he, hv]

theorem eqIn_int {e : TypeId} {k : IntKind} (he : P.underlying e = some (.int k)) (d : Nat) (kk : IntKind) (x y : Int) :
    (Op.equalIn (d + 1) e (.int kk x) (.int kk y)).run P w = .ok (x == y) w := by
  unfold Op.equalIn
  simp [run_underlying he]

theorem eqCells_cons {x : A} {xs ys : List A} {r : Bool} (h : eqCells (x :: xs) ys = some r) :
    ∃ k a b q ys', x = .val (.int k a) ∧ ys = .val (.int k b) :: ys' ∧ eqCells xs ys' = some q ∧ r = (decide (a = b) && q) := by
  cases ys with
  | nil => cases x <;> simp [eqCells] at h
  | cons y ys =>
    cases x with
    | val v =>
      cases y with
      | val u =>
        cases v with
        | int k a =>
          cases u with
          | int k' b =>
            simp only [eqCells] at h
            split at h
            · rename_i hk; subst hk
              simp only [Option.map_eq_some_iff] at h
              obtain ⟨q, hq, rfl⟩ := h
              exact ⟨_, _, _, q, _, rfl, rfl, hq, rfl⟩
            · cases h
          | _ => simp [eqCells] at h
        | _ => simp [eqCells] at h
      | _ => simp [eqCells] at h
    | _ => simp [eqCells] at h

theorem eqFields_run {m : Nat} (d : Nat) (xs ys : Array Value) : ∀ (fs : List Field) (k : Nat) (as bs : List A) (r : Bool), intFields P fs k = true → as.length = fs.length →
    eqCells as bs = some r → (∀ i (h : i < as.length), RepC w lim μ m (xs.getD (k + i) undef) as[i]) → (∀ i (h : i < bs.length), RepC w lim μ m (ys.getD (k + i) undef) bs[i]) →
    (Op.eqFields (d + 1) xs ys fs).run P w = .ok r w
  | [], k, as, bs, r, _, hl, he, _, _ => by
    have : as = [] := by simpa using hl
    subst this
    cases bs with
    | nil => simp [eqCells] at he; subst he; simp [Op.eqFields]
    | cons => simp [eqCells] at he
  | f :: fs, k, [], bs, r, _, hl, _, _, _ => by simp at hl
  | f :: fs, k, x :: as, bs, r, hi, hl, he, hx, hy => by
    simp only [intFields, Bool.and_eq_true, bne_iff_ne, ne_eq, beq_iff_eq] at hi
    obtain ⟨⟨⟨h1, h2⟩, h3⟩, h4⟩ := hi
    obtain ⟨kk, a, b, q, bs', rfl, rfl, hq, rfl⟩ := eqCells_cons he
    have ih := eqFields_run d xs ys fs (k + 1) as bs' q h4 (by simpa using hl) hq
      (fun i h => by have := hx (i + 1) (by simpa using h); rw [show k + (i + 1) = k + 1 + i by omega] at this; simpa using this)
      (fun i h => by have := hy (i + 1) (by simpa using h); rw [show k + (i + 1) = k + 1 + i by omega] at this; simpa using this)
    have gx := hx 0 (by simp)
    have gy := hy 0 (by simp)
    simp only [Nat.add_zero, List.getElem_cons_zero] at gx gy
    have at_of : ∀ (zs : Array Value) (n : Int), RepC w lim μ m (zs.getD k undef) (.val (.int kk n)) → zs[k]? = some (.int kk n) := by
      intro zs n h
      have h' := (Rep.r (.c h)).val.1
      rw [Array.getD_eq_getD_getElem?] at h'
      cases hz : zs[k]? with
      | none => rw [hz] at h'; simp [undef] at h'
      | some v => rw [hz] at h'; simp at h'; rw [h']
    have ex := at_of xs a gx
    have ey := at_of ys b gy
    cases hu : P.underlying f.type with
    | none => simp [hu] at h3
    | some dsc =>
      cases dsc <;> simp [hu] at h3
      rename_i k0
      rw [← h2] at ex ey
      rw [Op.eqFields, if_pos h1]
      simp only [Sem.run_bind, part_int hu ex, part_int hu ey, eqIn_int hu, Result.andThen_ok]
      by_cases hab : a = b
      · subst hab; simpa using ih
      · have : (a == b) = false := by simpa using hab
        simp [this, hab]

theorem eqs_run {t : TypeId} {fs : Array Field} (hu : P.underlying t = some (.struct fs)) (hp : P.stoodInHeld t = false) (hi : intFields P fs.toList 0 = true) {vx vy : Value} {xs ys : List A} {m} {r : Bool}
    (hx : Rep w lim μ m vx (.agg xs)) (hy : Rep w lim μ m vy (.agg ys)) (hl : xs.length = fs.size) (he : eqCells xs ys = some r) : (Op.equal t vx vy).run P w = .ok r w := by
  obtain ⟨vs, rfl, hs, hr, _⟩ := hx.toAgg
  obtain ⟨us, rfl, hs', hr', _⟩ := hy.toAgg
  have hf : P.fieldsOf t = fs := by simp [Program.fieldsOf, hu]
  show (Op.equalIn (9998 + 1 + 1) t (.agg vs) (.agg us)).run P w = .ok r w
  rw [run_equalIn_struct (P := P) w (9998 + 1) t vs us (by rw [hf]; exact hu) hp, hf]
  exact eqFields_run 9998 vs us fs.toList 0 xs ys r hi (by simpa using hl) he (fun i h => by simpa using hr i h) (fun i h => by simpa using hr' i h)

theorem eqGuard_intFields : ∀ (fs : List Field) (k d : Nat), intFields P fs k = true → fs.any (fun f => f.name != "_" && P.eqGuardType (d + 1) f.type) = false
  | [], _, _, _ => rfl
  | f :: fs, k, d, h => by
    simp only [intFields, Bool.and_eq_true] at h
    obtain ⟨⟨⟨h1, h2⟩, h3⟩, h4⟩ := h
    have ih := eqGuard_intFields fs (k + 1) d h4
    simp only [List.any_cons, ih, Bool.or_false]
    cases hu : P.underlying f.type with
    | none => simp [hu] at h3
    | some dsc => cases dsc <;> simp [hu] at h3; simp [Program.eqGuardType, hu]

theorem eqGuard_agg {op : BinOp} {t : TypeId} {fs : Array Field} (hu : P.underlying t = some (.struct fs)) (hi : intFields P fs.toList 0 = true) (x y : Operand) (vs us : Array Value) :
    (eqGuard op t x y (.agg vs) (.agg us)).run P w = .ok () w := by
  have hd : P.depth = (2 * (P.types.size + Made.depth)) + 1 + 1 := rfl
  have hg : P.eqGuardType P.depth t = false := by
    rw [hd]
    unfold Program.eqGuardType
    simp only [hu]
    have := eqGuard_intFields (P := P) fs.toList 0 (2 * (P.types.size + Made.depth)) hi
    rw [← Array.any_toList]
    exact this
  unfold eqGuard
  cases op <;> simp [hg]

theorem eqGuard_plain {op : BinOp} {t : TypeId} {x y : Operand} {vx vy : Value} (h1 : ∀ cs, vx ≠ .agg cs) (h2 : vx ≠ .nilIface) : (eqGuard op t x y vx vy).run P w = .ok () w := by
  unfold eqGuard
  cases vx <;> first | (exact absurd rfl h2) | (exact absurd rfl (h1 _)) | (cases op <;> simp)

theorem eqb_run {t : TypeId} (hu : P.underlying t = some .bool) (x y : Bool) : (Op.equal t (.bool x) (.bool y)).run P w = .ok (x == y) w := by
  show (Op.equalIn (9999 + 1) t (.bool x) (.bool y)).run P w = .ok (x == y) w
  unfold Op.equalIn
  simp [run_underlying hu]

theorem isnil_run {t e : TypeId} (hu : P.underlying t = some (.slice e)) (b : Option Addr) (n c : Nat) :
    (Op.equal t (.slice b n c) (.slice none 0 0)).run P w = .ok b.isNone w := by
  show (Op.equalIn (9999 + 1) t (.slice b n c) (.slice none 0 0)).run P w = .ok b.isNone w
  unfold Op.equalIn
  cases b <;> simp [run_underlying hu]
end Go.Proofs.YtclebnamhpgdmaaGreatEv
