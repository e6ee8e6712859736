/- How compact code is run step by step: equations for simp. -/
import Derived.Test.YtclebnamhpgdmaaGreatEvQ
namespace Go.Proofs.YtclebnamhpgdmaaGreatEv
open Go
abbrev vi (n : Int) : A := .val (.int .i64 n)
abbrev vb (b : Bool) : A := .val (.bool b)
abbrev vs (s : ByteArray) : A := .val (.string s)
variable {tab : Nat → Option CFun} {ext : CallF} {Φ : CallF} {nb : Nat} {s : Env × Bx}
def seqK (f : Env × Bx → Option (Out × Env × Bx)) : Out × Env × Bx → Option (Out × Env × Bx)
  | (.nor, s) => f s
  | (.ex i, s) => some (.ex i, s)
  | (.ret, s) => some (.ret, s)
def blkK (id : Nat) : Out × Env × Bx → Option (Out × Env × Bx)
  | (.nor, s) => some (.nor, s)
  | (.ex i, s) => some (if i = id then .nor else .ex i, s)
  | (.ret, s) => some (.ret, s)
def resK (F : CFun) : Out × Env × Bx → Option (A × Bx)
  | (.nor, s) => (resultOf F s).bind fun v => some (v, s.2)
  | (.ret, s) => (resultOf F s).bind fun v => some (v, s.2)
  | (.ex _, _) => none
@[simp] theorem seqK_nor (f) (e : Env) (bx : Bx) : seqK f (.nor, e, bx) = f (e, bx) := rfl
@[simp] theorem seqK_ex (f i) (e : Env) (bx : Bx) : seqK f (.ex i, e, bx) = some (.ex i, e, bx) := rfl
@[simp] theorem seqK_ret (f) (e : Env) (bx : Bx) : seqK f (.ret, e, bx) = some (.ret, e, bx) := rfl
@[simp] theorem blkK_nor (k) (e : Env) (bx : Bx) : blkK k (.nor, e, bx) = some (.nor, e, bx) := rfl
@[simp] theorem blkK_ex (k i) (e : Env) (bx : Bx) : blkK k (.ex i, e, bx) = some (if i = k then .nor else .ex i, e, bx) := rfl
@[simp] theorem blkK_ret (k) (e : Env) (bx : Bx) : blkK k (.ret, e, bx) = some (.ret, e, bx) := rfl
@[simp] theorem resK_nor (F) (e : Env) (bx : Bx) : resK F (.nor, e, bx) = (resultOf F (e, bx)).bind fun v => some (v, bx) := rfl
@[simp] theorem resK_ret (F) (e : Env) (bx : Bx) : resK F (.ret, e, bx) = (resultOf F (e, bx)).bind fun v => some (v, bx) := rfl
noncomputable def seqG (tab : Nat → Option CFun) (ext : CallF) (nb : Nat) (b : C) (r : Out × Env × Bx) : Option (Out × Env × Bx) := seqK (fun s1 => evL tab ext nb b s1) r
theorem seqG_nor (b) (e : Env) (bx : Bx) : seqG tab ext nb b (.nor, e, bx) = evL tab ext nb b (e, bx) := rfl
theorem seqG_ex (b i) (e : Env) (bx : Bx) : seqG tab ext nb b (.ex i, e, bx) = some (.ex i, e, bx) := rfl
theorem seqG_ret (b) (e : Env) (bx : Bx) : seqG tab ext nb b (.ret, e, bx) = some (.ret, e, bx) := rfl
theorem eL_seq (a b) : evL tab ext nb (.seq a b) s = (evL tab ext nb a s).bind (seqG tab ext nb b) := by
  rw [evL_step]
  show (match evL tab ext nb a s with | some (.nor, s1) => evL tab ext nb b s1 | r => r) = _
  rcases evL tab ext nb a s with _ | ⟨o, s1⟩
  · rfl
  · cases o <;> rfl
theorem eL_skip : evL tab ext nb .skip s = some (.nor, s) := by rw [evL_step]; rfl
theorem eL_ret : evL tab ext nb .ret s = some (.ret, s) := by rw [evL_step]; rfl
theorem eL_exit (i) : evL tab ext nb (.exit i) s = some (.ex i, s) := by rw [evL_step]; rfl
theorem eL_scope (a) : evL tab ext nb (.scope a) s = evL tab ext nb a s := by rw [evL_step]; rfl
def condK (x : A) (p q : Option (Out × Env × Bx)) : Option (Out × Env × Bx) := match x with
    | .val (.bool t) => if t = true then p else q
    | _ => none
@[simp] theorem condK_vb (t p q) : condK (.val (.bool t)) p q = if t = true then p else q := rfl
theorem eL_cond (x a b) : evL tab ext nb (.cond x a b) s = condK (x.ev s.1) (evL tab ext nb a s) (evL tab ext nb b s) := by rw [evL_step]; rfl
theorem eL_block (id a) : evL tab ext nb (.block id a) s = (evL tab ext nb a s).bind (blkK id) := by
  rw [evL_step]
  show (match evL tab ext nb a s with | some (.ex i, s1) => some (if i = id then Out.nor else Out.ex i, s1) | r => r) = _
  rcases evL tab ext nb a s with _ | ⟨o, s1⟩
  · rfl
  · cases o <;> rfl
theorem eL_loop (live kb a) : evL tab ext nb (.loop live kb a) s = (loopIn nb live kb s).bind fun s0 => (evL tab ext nb a s0).bind (seqG tab ext nb (.loop live kb a)) := by
  rw [evL_step]
  show (match loopIn nb live kb s with | some s0 => (match evL tab ext nb a s0 with | some (.nor, s1) => evL tab ext nb (.loop live kb a) s1 | r => r) | none => none) = _
  rcases loopIn nb live kb s with _ | s0
  · rfl
  · show (match evL tab ext nb a s0 with | some (.nor, s1) => evL tab ext nb (.loop live kb a) s1 | r => r) = (evL tab ext nb a s0).bind (seqG tab ext nb (.loop live kb a))
    rcases evL tab ext nb a s0 with _ | ⟨o, s1⟩
    · rfl
    · cases o <;> rfl
/-- A list of steps, and what comes behind it. -/
def goJs (Φ : CallF) (nb : Nat) (l : List J) (s : Env × Bx) : Option (Out × Env × Bx) := (evJs Φ nb l s).bind fun s' => some (.nor, s')
theorem eL_reg (l) : evL tab ext nb (.reg l) s = goJs (callL tab ext) nb l s := by
  rw [evL_step]
  show (evJs (callL tab ext) nb l s).map _ = _
  unfold goJs
  cases evJs (callL tab ext) nb l s <;> rfl
theorem eL_dreg (cl ne l) (e : Env) (bx : Bx) : evL tab ext nb (.dreg cl ne l) (e, bx) = if neOk ne e = true then goJs (callL tab ext) nb l (clr cl e, bx) else none := by
  rw [evL_step]
  show (if neOk ne e = true then (evJs (callL tab ext) nb l (clr cl e, bx)).map _ else none) = _
  unfold goJs
  cases evJs (callL tab ext) nb l (clr cl e, bx) <;> rfl
theorem clr_nil (e : Env) : clr [] e = e := rfl
theorem clr_cons (p cl) (e : Env) : clr (p :: cl) e = clr cl (put p.1 .any e) := by
  funext i
  unfold clr
  rw [List.any_cons, put_at]
  by_cases h : p.1 = i
  · subst h; simp
  · have h1 : (p.1 == i) = false := by simpa using h
    have h2 : ¬ i = p.1 := fun e => h e.symm
    simp only [h1, Bool.false_or, if_neg h2]
theorem neOk_nil (e : Env) : neOk [] e = true := rfl
def neK : A → A → Bool
  | .ptr r _, .ptr r' _ => !(r == r')
  | _, _ => false
theorem neK_ptr (r o r' o') : neK (.ptr r o) (.ptr r' o') = !(r == r') := rfl
theorem neOk_cons (p ne) (e : Env) : neOk (p :: ne) e = (neK (e p.1) (e p.2) && neOk ne e) := rfl
def runK (d : Option Nat) (e : Env) (k : Env × Bx → Option (Out × Env × Bx)) : A × List (Nat × A) × Bx → Option (Out × Env × Bx)
  | (v, ups, bx') => k (putO d v (puts ups e), bx')
@[simp] theorem runK_some (d e k v ups bx') : runK (some d) e k (v, ups, bx') = k (put d v (puts ups e), bx') := rfl
@[simp] theorem runK_none (e k v ups bx') : runK none e k (v, ups, bx') = k (puts ups e, bx') := rfl
theorem puts_nil (e) : puts [] e = e := rfl
theorem puts_cons (d v r e) : puts ((d, v) :: r) e = puts r (put d v e) := rfl
def runG (d : Option Nat) (e : Env) (Φ : CallF) (nb : Nat) (r : List J) (x : A × List (Nat × A) × Bx) : Option (Out × Env × Bx) := runK d e (goJs Φ nb r) x
theorem runG_some (d e r v ups bx') : runG (some d) e Φ nb r (v, ups, bx') = goJs Φ nb r (put d v (puts ups e), bx') := rfl
theorem runG_none (e r v ups bx') : runG none e Φ nb r (v, ups, bx') = goJs Φ nb r (puts ups e, bx') := rfl
/-- A guarded step's way. -/
inductive Gd where
  | no
  | bad
  | yes (v : A) (ups : List (Nat × A)) (bx : Bx)
def gdOf : Option (A × List (Nat × A) × Bx) → Gd
  | some (v, ups, bx) => .yes v ups bx
  | none => .bad
theorem gdOf_some (v ups bx) : gdOf (some (v, ups, bx)) = .yes v ups bx := by cases v <;> rfl
def guardX (x : A) (b : Bool) (y : Gd) : Gd := match x with
  | .val (.bool b') => if b' = b then y else .no
  | .und => .no
  | _ => .bad
theorem guardX_t (t y) : guardX (.val (.bool t)) true y = if t = true then y else .no := rfl
theorem guardX_f (t y) : guardX (.val (.bool t)) false y = if t = true then .no else y := by cases t <;> rfl
theorem guardX_u (t y) : guardX .und t y = .no := rfl
theorem guardX_ite {c : Prop} [Decidable c] (a a' b y) : guardX (if c then a else a') b y = if c then guardX a b y else guardX a' b y := by split <;> rfl
theorem gd_ite {c : Prop} [Decidable c] (p : Prop) [Decidable p] (y : Gd) : (if c then (if p then y else .no) else .no) = if c ∧ p then y else .no := by
  by_cases hc : c <;> by_cases hp : p <;> simp [hc, hp]
theorem gd_ite' {c : Prop} [Decidable c] (p : Prop) [Decidable p] (y : Gd) : (if c then (if p then .no else y) else .no) = if c ∧ ¬ p then y else .no := by
  by_cases hc : c <;> by_cases hp : p <;> simp [hc, hp]
theorem gd_ite2 {c : Prop} [Decidable c] (p : Prop) [Decidable p] (y : Gd) : (if c then .no else (if p then y else .no)) = if ¬ c ∧ p then y else .no := by
  by_cases hc : c <;> by_cases hp : p <;> simp [hc, hp]
theorem gd_ite2' {c : Prop} [Decidable c] (p : Prop) [Decidable p] (y : Gd) : (if c then .no else (if p then .no else y)) = if ¬ c ∧ ¬ p then y else .no := by
  by_cases hc : c <;> by_cases hp : p <;> simp [hc, hp]
def mrg (y : Gd) (d : Option Nat) (e : Env) (bx : Bx) (Φ : CallF) (nb : Nat) (r : List J) : Option (Out × Env × Bx) := match y with
  | .no => goJs Φ nb r (putO d .und e, bx)
  | .yes v ups bx' => goJs Φ nb r (putO d v (puts ups e), bx')
  | .bad => none
theorem mrg_no (d e bx r) : mrg .no d e bx Φ nb r = goJs Φ nb r (putO d .und e, bx) := rfl
theorem mrg_yes (d e bx r v ups bx') : mrg (.yes v ups bx') d e bx Φ nb r = goJs Φ nb r (putO d v (puts ups e), bx') := rfl
theorem mrg_ite {c : Prop} [Decidable c] (d e bx r v) : mrg (if c then .yes v [] bx else .no) (some d) e bx Φ nb r = goJs Φ nb r (put d (if c then v else .und) e, bx) := by split <;> rfl
theorem mrg_ite' {c : Prop} [Decidable c] (d e bx r v) : mrg (if c then .no else .yes v [] bx) (some d) e bx Φ nb r = goJs Φ nb r (put d (if c then .und else v) e, bx) := by split <;> rfl
theorem gJ_nil (e : Env) (bx : Bx) : goJs Φ nb [] (e, bx) = some (.nor, e, bx) := rfl
theorem gJ_n (d i r) (e : Env) (bx : Bx) : goJs Φ nb (⟨d, i, none⟩ :: r) (e, bx) = (evI Φ nb i e bx).bind (runG d e Φ nb r) := by
  show (evJs Φ nb (⟨d, i, none⟩ :: r) (e, bx)).bind _ = _
  unfold evJs evJ evRun
  dsimp only
  rcases evI Φ nb i e bx with _ | ⟨v, ups, bx'⟩ <;> rfl
theorem gJ_g (d i t b r) (e : Env) (bx : Bx) : goJs Φ nb (⟨d, i, some (t, b)⟩ :: r) (e, bx) = mrg (guardX (e t) b (gdOf (evI Φ nb i e bx))) d e bx Φ nb r := by
  show (evJs Φ nb (⟨d, i, some (t, b)⟩ :: r) (e, bx)).bind _ = _
  unfold evJs evJ evRun guardX
  dsimp only
  cases e t with
  | val v =>
    cases v with
    | bool b' =>
      dsimp only
      by_cases h : b' = b
      · simp only [h, if_true]
        rcases evI Φ nb i e bx with _ | ⟨v, ups, bx'⟩ <;> rfl
      · simp only [h, if_false]
        rfl
    | _ => rfl
  | _ => rfl
/-- Two numbers are one (kept closed while code is run). -/
def eqz (a b : Int) : Bool := decide (a = b)
theorem eqz_self (a : Int) : eqz a a = true := by simp [eqz]
theorem evBin_eql (k : IntKind) (a b : Int) : evBin .eql (.val (.int k a)) (.val (.int k b)) = some (vb (eqz a b)) := by simp [evBin, eqz]
theorem evBin_neq (k : IntKind) (a b : Int) : evBin .neq (.val (.int k a)) (.val (.int k b)) = some (vb (!eqz a b)) := by simp [evBin, eqz]
theorem evBin_add (k : IntKind) (a b : Int) : evBin .add (.val (.int k a)) (.val (.int k b)) = some (A.val <| .int k (k.wrap (a + b))) := by simp [evBin]
theorem evBin_sub (k : IntKind) (a b : Int) : evBin .sub (.val (.int k a)) (.val (.int k b)) = some (A.val <| .int k (k.wrap (a - b))) := by simp [evBin]
theorem evBin_mul (k : IntKind) (a b : Int) : evBin .mul (.val (.int k a)) (.val (.int k b)) = some (A.val <| .int k (k.wrap (a * b))) := by simp [evBin]
theorem evBin_lss (k : IntKind) (a b : Int) : evBin .lss (.val (.int k a)) (.val (.int k b)) = some (vb (decide (a < b))) := by simp [evBin]
theorem evBin_leq (k : IntKind) (a b : Int) : evBin .leq (.val (.int k a)) (.val (.int k b)) = some (vb (decide (a ≤ b))) := by simp [evBin]
theorem evBin_gtr (k : IntKind) (a b : Int) : evBin .gtr (.val (.int k a)) (.val (.int k b)) = some (vb (decide (b < a))) := by simp [evBin]
theorem evBin_geq (k : IntKind) (a b : Int) : evBin .geq (.val (.int k a)) (.val (.int k b)) = some (vb (decide (b ≤ a))) := by simp [evBin]
theorem evBin_quo (k : IntKind) (a b : Int) : evBin .quo (.val (.int k a)) (.val (.int k b)) = if b = 0 then none else some (A.val (.int k (k.wrap (a.tdiv b)))) := by simp [evBin]
theorem evBin_rem (k : IntKind) (a b : Int) : evBin .rem (.val (.int k a)) (.val (.int k b)) = if b = 0 then none else some (A.val (.int k (a.tmod b))) := by simp [evBin]
def shrK (k : IntKind) (a b : Int) : Int := a.fdiv (2 ^ min b.toNat k.bits)
theorem evBin_shr (k : IntKind) (a b : Int) : evBin .shr (.val (.int k a)) (.val (.int k b)) = if b < 0 then none else some (A.val (.int k (shrK k a b))) := by simp [evBin, shrK]
theorem evBin_shl (k : IntKind) (a b : Int) : evBin .shl (.val (.int k a)) (.val (.int k b)) = if b < 0 then none else some (A.val (.int k (k.wrap (a * 2 ^ min b.toNat k.bits)))) := by simp [evBin]
/-- Bits (kept closed while code is run). -/
def andK (k : IntKind) (a b : Int) : Int := k.wrap (BitVec.ofInt k.bits a &&& BitVec.ofInt k.bits b).toNat
def orK (k : IntKind) (a b : Int) : Int := k.wrap (BitVec.ofInt k.bits a ||| BitVec.ofInt k.bits b).toNat
def xorK (k : IntKind) (a b : Int) : Int := k.wrap (BitVec.ofInt k.bits a ^^^ BitVec.ofInt k.bits b).toNat
theorem evBin_and (k : IntKind) (a b : Int) : evBin .and (.val (.int k a)) (.val (.int k b)) = some (A.val (.int k (andK k a b))) := by simp [evBin, andK]
theorem evBin_or (k : IntKind) (a b : Int) : evBin .or (.val (.int k a)) (.val (.int k b)) = some (A.val (.int k (orK k a b))) := by simp [evBin, orK]
theorem evBin_xor (k : IntKind) (a b : Int) : evBin .xor (.val (.int k a)) (.val (.int k b)) = some (A.val (.int k (xorK k a b))) := by simp [evBin, xorK]
theorem evBin_seql (a b : ByteArray) : evBin .eql (.val (.string a)) (.val (.string b)) = some (vb (a.toList == b.toList)) := rfl
theorem evBin_sneq (a b : ByteArray) : evBin .neq (.val (.string a)) (.val (.string b)) = some (vb (!(a.toList == b.toList))) := rfl
theorem evBin_sadd (a b : ByteArray) : evBin .add (.val (.string a)) (.val (.string b)) = if a.size + b.size ≤ 70368744177664 then some (A.val (.string (a ++ b))) else none := rfl
/-! ### lists of operands, one by one -/
def fzL (e : Env) (bx : Bx) : List O → Option (List A)
  | [] => some []
  | x :: r => (frzR bx (x.ev e)).bind fun a => (fzL e bx r).bind fun l => some (a :: l)
def nmL (e : Env) : List O → List A
  | [] => []
  | x :: r => (x.ev e).norm :: nmL e r
def mpL (e : Env) : List O → List A
  | [] => []
  | x :: r => x.ev e :: mpL e r
def anyB (e : Env) : List O → Bool
  | [] => false
  | x :: r => (x.ev e).hasB || anyB e r
theorem fzL_nil (e bx) : fzL e bx [] = some [] := rfl
theorem fzL_cons (e bx x r) : fzL e bx (x :: r) = (frzR bx (x.ev e)).bind fun a => (fzL e bx r).bind fun l => some (a :: l) := rfl
theorem nmL_nil (e) : nmL e [] = [] := rfl
theorem nmL_cons (e x r) : nmL e (x :: r) = (x.ev e).norm :: nmL e r := rfl
theorem mpL_nil (e) : mpL e [] = [] := rfl
theorem mpL_cons (e x r) : mpL e (x :: r) = x.ev e :: mpL e r := rfl
theorem anyB_nil (e) : anyB e [] = false := rfl
theorem anyB_cons (e x r) : anyB e (x :: r) = ((x.ev e).hasB || anyB e r) := rfl
theorem fzL_eq (e bx) : ∀ xs, args0 e bx xs = fzL e bx xs
  | [] => rfl
  | x :: r => by
    have := fzL_eq e bx r
    unfold args0 at this ⊢
    rw [List.mapM_cons, this]; rfl
theorem nmL_eq (e) : ∀ xs : List O, (xs.map fun x => (x.ev e).norm) = nmL e xs
  | [] => rfl
  | x :: r => by rw [List.map_cons, nmL_eq e r]; rfl
theorem mpL_eq (e) : ∀ xs : List O, xs.map (O.ev e) = mpL e xs
  | [] => rfl
  | x :: r => by rw [List.map_cons, mpL_eq e r]; rfl
theorem anyB_eq (e) : ∀ xs : List O, (xs.any fun x => (x.ev e).hasB) = anyB e xs
  | [] => rfl
  | x :: r => by rw [List.any_cons, anyB_eq e r]; rfl
theorem evI_call (f xs keep) (e : Env) (bx : Bx) : evI Φ nb (.call f xs keep) e bx = (fzL e bx xs).bind fun as => (pureOf Φ keep f as).bind fun v => if anyB e xs = true ∧ v.scal = false then none else some (v, [], bx) := by
  show (match args0 e bx xs with | some as => (match pureOf Φ keep f as with | some v => if (xs.any fun x => (x.ev e).hasB) = true ∧ v.scal = false then none else some (v, [], bx) | none => none) | none => none) = _
  rw [fzL_eq, anyB_eq]
  cases fzL e bx xs with
  | none => rfl
  | some as => show (match pureOf Φ keep f as with | some v => _ | none => _) = (pureOf Φ keep f as).bind _
               cases pureOf Φ keep f as <;> rfl
theorem evI_calli (f xs) (e : Env) (bx : Bx) : evI Φ nb (.calli f xs) e bx = (Φ f (nmL e xs) bx).map (aft bx.length) := by
  rw [← nmL_eq]; rfl
def callvK (Φ : CallF) (as : List A) (bx : Bx) : A → Option (A × List (Nat × A) × Bx)
  | .fn f caps => (Φ f (as ++ caps.map fun p => .ptr p.1 p.2) bx).map (aft bx.length)
  | _ => none
theorem callvK_fn (as bx f caps) : callvK Φ as bx (.fn f caps) = (Φ f (as ++ caps.map fun p => .ptr p.1 p.2) bx).map (aft bx.length) := rfl
theorem evI_callv (x xs) (e : Env) (bx : Bx) : evI Φ nb (.callv x xs) e bx = callvK Φ (nmL e xs) bx (x.ev e) := by
  rw [← nmL_eq]; unfold callvK; simp only [evI]; cases x.ev e <;> rfl
def mxnK (isMax : Bool) (bx : Bx) : List A → Option (A × List (Nat × A) × Bx)
  | .val (.int .i64 a) :: r => (foldM isMax a r).map fun v => (.val (.int .i64 v), [], bx)
  | _ => none
theorem mxnK_cons (isMax bx a r) : mxnK isMax bx (vi a :: r) = (foldM isMax a r).map fun v => (.val (.int .i64 v), [], bx) := rfl
theorem evI_mxn (m xs) (e : Env) (bx : Bx) : evI Φ nb (.mxn m xs) e bx = mxnK m bx (mpL e xs) := by
  rw [← mpL_eq]; rfl
theorem ob_ite {α β} {c : Prop} [Decidable c] (a b : Option α) (f : α → Option β) : (if c then a else b).bind f = if c then a.bind f else b.bind f := by split <;> rfl
theorem ob_none {α β} (f : α → Option β) : (none : Option α).bind f = none := rfl
theorem ob_some {α β} (a : α) (f : α → Option β) : (some a).bind f = f a := rfl
theorem om_some {α β} (a : α) (f : α → β) : (some a).map f = some (f a) := rfl
theorem om_ite {α β} {c : Prop} [Decidable c] (a b : Option α) (f : α → β) : (if c then a else b).map f = if c then a.map f else b.map f := by split <;> rfl
theorem om_none {α β} (f : α → β) : (none : Option α).map f = none := rfl
theorem ite_vb {c : Prop} [Decidable c] (x y : Bool) : (if c then vb x else vb y) = vb (if c then x else y) := by split <;> rfl
theorem ite_vi {c : Prop} [Decidable c] (x y : Int) : (if c then vi x else vi y) = vi (if c then x else y) := by split <;> rfl
theorem callL_tab {f : Nat} {F : CFun} (args : List A) (bx : Bx) (hx : ext f args bx = none) (ht : tab f = some F) (hl : args.length = F.np) :
    callL tab ext f args bx = (evL tab ext bx.length F.body (initFrom 0 args, bx)).bind (resK F) := by
  unfold callL callOf; rw [hx]; simp only [ht, if_pos hl]
  show (match evL tab ext bx.length F.body (initFrom 0 args, bx) with | some (.nor, s) => (resultOf F s).map (fun v => (v, s.2)) | some (.ret, s) => (resultOf F s).map (fun v => (v, s.2)) | _ => none) = _
  rcases evL tab ext bx.length F.body (initFrom 0 args, bx) with _ | ⟨o, s1⟩
  · rfl
  · cases o <;> simp only [Option.bind, resK] <;> cases resultOf F s1 <;> rfl
/-- A call of which only the answer counts. -/
theorem pureOf_eq {keep f args r bx v} (h : Φ f args [] = some (r, bx)) (hz : frz keep bx r = some v) : pureOf Φ keep f args = some v := by
  unfold pureOf; rw [h]; exact hz
/-! what runs code step by step, as one set -/
attribute [push_cast] Option.bind_assoc eL_seq eL_reg eL_dreg clr_nil clr_cons neOk_nil neOk_cons neK_ptr eL_ret eL_skip eL_exit eL_scope eL_cond eL_block gJ_nil gJ_n gJ_g ob_ite ob_none ob_some om_some om_none om_ite seqG_nor seqG_ex seqG_ret blkK_nor blkK_ex blkK_ret resK_nor resK_ret condK_vb runG_some runG_none puts_nil puts_cons gdOf_some guardX_t guardX_f guardX_u guardX_ite gd_ite gd_ite' gd_ite2 gd_ite2' mrg_no mrg_yes mrg_ite mrg_ite' ite_vb ite_vi fzL_nil fzL_cons nmL_nil nmL_cons mpL_nil mpL_cons anyB_nil anyB_cons callvK_fn mxnK_cons evI eqz_self evBin_eql evBin_neq initFrom putO put_at O.ev evBin_add evBin_sub evBin_mul evBin_lss evBin_leq evBin_gtr evBin_geq evBin_quo evBin_rem evBin_shr evBin_shl evBin_and evBin_or evBin_xor evBin_seql evBin_sneq evBin_sadd evUn A.cp A.cp1 A.own A.norm A.norm1 cst cst1 takeU resultOf resVal A.isR A.isC A.isV A.cells Value.oneCell' frz frzR frzC A.hasB A.scal A.isVal optInt okCell fillA capsOf
end Go.Proofs.YtclebnamhpgdmaaGreatEv
