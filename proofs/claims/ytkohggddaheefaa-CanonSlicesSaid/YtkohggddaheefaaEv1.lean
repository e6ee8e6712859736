/- A compact code and its evaluator over abstract values: slices are lists of cells, boxed variables are numbered. -/
import Derived.Below
import Derived.LoopN
import Derived.ArgAppend
import Derived.Calls
import Derived.Laws.StructEq
set_option linter.unusedSimpArgs false
set_option linter.unusedVariables false
namespace Go.Proofs.YtkohggddaheefaaEv
open Go

inductive A where
  | any
  | und
  | val (v : Value)
  | sl (l : List A) (n : Nat) (g : Nat)
  | bs (r n z : Nat)
  | agg (l : List A)
  | tup (l : List A)
  | ptr (r o : Nat)
  | ip (l : List A)
  | ipx (b o : Nat) (l : List A)
  | fn (f : Nat) (caps : List (Nat × Nat))
  deriving Inhabited

namespace A
/-- A copy: the right to grow stays where it was. -/
def cp1 : A → A
  | .sl l n g => .sl l n (if g = 2 then 0 else g)
  | a => a
def cp : A → A
  | .agg l => .agg (l.map cp1)
  | a => cp1 a
def norm1 : A → A
  | .sl l n _ => .sl l n 0
  | a => a
def norm : A → A
  | .agg l => .agg (l.map norm1)
  | a => norm1 a
def own : A → A
  | .sl l n g => .sl l n (if g = 1 then 2 else g)
  | a => a
def cells : A → List A
  | .agg l => l
  | a => [a]
/-- A clean cell. -/
def isV : A → Bool
  | .val v => v.oneCell'
  | .sl _ _ _ => true
  | _ => false
/-- A cell. -/
def isC : A → Bool
  | .bs _ _ _ => true
  | a => isV a
def isR : A → Bool
  | .agg _ => true
  | a => isC a
def resOk : A → Bool
  | .tup _ => true
  | a => isR a
def isVal : A → Bool
  | .val _ => true
  | _ => false
/-- Numbers, truths, texts alone. -/
def scal : A → Bool
  | .tup l => l.all isVal
  | a => isVal a
def dangC (m : Nat) : A → Bool
  | .bs r _ _ => decide (r < m)
  | _ => true
def dang (m : Nat) : A → Bool
  | .ptr r _ => decide (r < m)
  | .bs r _ _ => decide (r < m)
  | .agg l => l.all (dangC m)
  | .tup l => l.all fun a => match a with | .agg l => l.all (dangC m) | a => dangC m a
  | .fn _ caps => caps.all fun p => decide (p.1 < m)
  | _ => true
def hasB : A → Bool
  | .bs _ _ _ => true
  | .agg l => l.any fun a => match a with | .bs _ _ _ => true | _ => false
  | _ => false
end A

/-- The abstract value of a constant. -/
def cst1 : Value → A
  | .slice none 0 0 => .sl [] 0 1
  | v => .val v
def cst : Value → A
  | .agg cs => .agg (cs.toList.map cst1)
  | v => cst1 v

inductive O where
  | t (i : Nat)
  | c (v : Value)
  | f (k : Nat)
  deriving Inhabited

abbrev Bx := List (List A)

/-- A cell as it reads now, for good. -/
def frzC (bx : Bx) : Nat → A → Option A
  | _, .val v => some (.val v)
  | _, .sl l n _ => some (.sl l n 0)
  | d + 1, .bs r n z => match bx[r]? with
    | some cs => if n * z ≤ cs.length then ((cs.take (n * z)).mapM (frzC bx d)).map fun l => .sl l n 0 else none
    | none => none
  | _, _ => none
def frzR (bx : Bx) : A → Option A
  | .agg l => (l.mapM (frzC bx 3)).map .agg
  | a => frzC bx 3 a
/-- What a call answers to who knows nothing of its boxes. -/
def frz (keep : Bool) (bx : Bx) : A → Option A
  | .tup l => (l.mapM (frzR bx)).map .tup
  | .agg l => if keep = true ∧ l.all A.isV = true then some (.agg (l.map A.cp1)) else frzR bx (.agg l)
  | a => frzR bx a

abbrev Env := Nat → A
def emp : Env := fun _ => .any
def put (d : Nat) (v : A) (e : Env) : Env := fun i => if i = d then v else e i
theorem put_at (d : Nat) (v : A) (e : Env) (i : Nat) : put d v e i = if i = d then v else e i := rfl
def puts : List (Nat × A) → Env → Env
  | [], e => e
  | (d, v) :: r, e => puts r (put d v e)

def O.ev (e : Env) : O → A
  | .t i => e i
  | .c v => cst v
  | .f k => .fn k []

inductive I where
  | mv (x : O) (take : Bool)
  | pick (c a b : O)
  | alloc (z : List Value)
  | box (x : O)
  | build (z : List Value) (ps : List (Nat × Nat × O))
  | bsl (sz len : Nat) (z : List Value) (ps : List (Nat × Nat × O)) (mu : Bool)
  | load (sz : Nat) (ag : Bool) (x : O) (take : Bool)
  | store (sz : Nat) (p x : O)
  | bin (op : BinOp) (x y : O)
  | un (op : UnOp) (x : O)
  | conv (k : IntKind) (x : O)
  | bstr (x : O)
  | eqs (neg : Bool) (n : Nat) (x y : O)
  | eqb (neg : Bool) (x y : O)
  | len (x : O)
  | slen (x : O)
  | mxn (isMax : Bool) (xs : List O)
  | app (sz bytes : Nat) (x y : O) (mu : Bool)
  | isnil (neg : Bool) (x : O)
  | slc (sz : Nat) (x : O) (lo hi mx : Option O)
  | sslc (x : O) (lo hi : Option O)
  | fa (off : Nat) (p : O)
  | ia (sz : Nat) (x i : O)
  | ix (x i : O)
  | ext (x : O) (k : Nat)
  | mkf (f : Nat) (caps : List O)
  | mksl (sz bytes : Nat) (z : List Value) (n : O) (mu : Bool)
  | call (f : Nat) (xs : List O) (keep : Bool)
  | calli (f : Nat) (xs : List O)
  | calln (f : Nat) (xs : List O)
  | callz (nt f : Nat) (xs : List O)
  | callv (x : O) (xs : List O)
  deriving Inhabited

structure J where
  d : Option Nat
  i : I
  g : Option (Nat × Bool)
  deriving Inhabited

inductive C where
  | skip
  | seq (a b : C)
  | cond (x : O) (a b : C)
  | block (id : Nat) (a : C)
  | loop (live : List Nat) (kb : Nat) (a : C)
  | exit (id : Nat)
  | scope (a : C)
  | ret
  | reg (l : List J)
  | dreg (cl ne : List (Nat × Nat)) (l : List J)
  deriving Inhabited

/-- What the holder of a right to grow loses when its value is handed on. -/
def takeU (x : O) (e : Env) : List (Nat × A) :=
  match x with
  | .t i => match e i with
    | .sl l n g => if g = 2 then [(i, .sl l n 0)] else []
    | _ => []
  | _ => []


def eqCells : List A → List A → Option Bool
  | [], [] => some true
  | .val (.int k a) :: xs, .val (.int k' b) :: ys => if k = k' then (eqCells xs ys).map fun r => decide (a = b) && r else none
  | _, _ => none

def evBin (op : BinOp) (x y : A) : Option A :=
  match x, y with
  | .val (.int k a), .val (.int k' b) =>
    if k = k' then
      match op with
      | .add => some (.val (.int k (k.wrap (a + b))))
      | .sub => some (.val (.int k (k.wrap (a - b))))
      | .mul => some (.val (.int k (k.wrap (a * b))))
      | .quo => if b = 0 then none else some (.val (.int k (k.wrap (a.tdiv b))))
      | .rem => if b = 0 then none else some (.val (.int k (a.tmod b)))
      | .eql => some (.val (.bool (decide (a = b))))
      | .neq => some (.val (.bool (!decide (a = b))))
      | .lss => some (.val (.bool (decide (a < b))))
      | .leq => some (.val (.bool (decide (a ≤ b))))
      | .gtr => some (.val (.bool (decide (b < a))))
      | .geq => some (.val (.bool (decide (b ≤ a))))
      | .shr => if b < 0 then none else some (.val (.int k (a.fdiv (2 ^ min b.toNat k.bits))))
      | .shl => if b < 0 then none else some (.val (.int k (k.wrap (a * 2 ^ min b.toNat k.bits))))
      | .and => some (.val (.int k (k.wrap (BitVec.ofInt k.bits a &&& BitVec.ofInt k.bits b).toNat)))
      | .or => some (.val (.int k (k.wrap (BitVec.ofInt k.bits a ||| BitVec.ofInt k.bits b).toNat)))
      | .xor => some (.val (.int k (k.wrap (BitVec.ofInt k.bits a ^^^ BitVec.ofInt k.bits b).toNat)))
      | _ => none
    else none
  | .val (.string a), .val (.string b) =>
    match op with
    | .eql => some (.val (.bool (a.toList == b.toList)))
    | .neq => some (.val (.bool (!(a.toList == b.toList))))
    | .add => if a.size + b.size ≤ 70368744177664 then some (.val (.string (a ++ b))) else none
    | _ => none
  | _, _ => none

def evUn (op : UnOp) (x : A) : Option A :=
  match x with
  | .val (.bool b) => match op with
    | .not => some (.val (.bool (!b)))
    | _ => none
  | .val (.int k a) => match op with
    | .neg => some (.val (.int k (k.wrap (-a))))
    | _ => none
  | _ => none

def okCell (nrm : Bool) (a : A) : Bool := if nrm then a.isV else a.isC

def fillA (e : Env) (nrm : Bool) : List A → List (Nat × Nat × O) → Option (List A)
  | cs, [] => some cs
  | cs, (off, size, x) :: r =>
    let c := (if nrm then (x.ev e).norm else (x.ev e).cp).cells
    if c.length = size ∧ off + size ≤ cs.length ∧ c.all (okCell nrm) = true then fillA e nrm (cs.take off ++ c ++ cs.drop (off + size)) r else none

def bytesA : List A → Option (List UInt8)
  | [] => some []
  | .val (.int .u8 b) :: r => (bytesA r).map fun t => b.toNat.toUInt8 :: t
  | _ => none

def foldM (isMax : Bool) : Int → List A → Option Int
  | a, [] => some a
  | a, .val (.int .i64 b) :: r => foldM isMax (if isMax then (if b > a then b else a) else (if b < a then b else a)) r
  | _, _ => none

def capsOf (e : Env) : List O → Option (List (Nat × Nat))
  | [] => some []
  | x :: r => match x.ev e with
    | .ptr q o => (capsOf e r).map fun t => (q, o) :: t
    | _ => none

def optInt (e : Env) (d : Nat) : Option O → Option Int
  | none => some d
  | some x => match x.ev e with
    | .val (.int _ k) => some k
    | _ => none

abbrev CallF := Nat → List A → Bx → Option (A × Bx)

/-- A call of which only the answer counts. -/
def pureOf (Φ : CallF) (keep : Bool) (f : Nat) (args : List A) : Option A :=
  match Φ f args [] with
  | some (v, bx) => frz keep bx v
  | none => none

def strip (bx : Bx) : Bx := bx.map (List.map A.cp1)

/-- Behind a call that may write boxes. -/
def aft (n : Nat) (p : A × Bx) : A × List (Nat × A) × Bx :=
  (p.1, [], if p.1.scal = true ∧ (((strip p.2).take n).all fun cs => cs.all (A.dangC n)) = true then (strip p.2).take n else strip p.2)

def args0 (e : Env) (bx : Bx) (xs : List O) : Option (List A) := (xs.mapM fun x => frzR bx (x.ev e))

/-- All that is known of the slots, frozen: behind it the boxes are gone. -/
def frzE (nt : Nat) (e : Env) (bx : Bx) : List (Nat × A) := (List.range nt).map fun i => (i, (frzR bx (e i)).getD .any)

def asList (bx : Bx) : A → Option (List A × Nat)
  | .sl l n _ => some (l, n)
  | .bs r n z => match bx[r]? with
    | some cs => if n * z ≤ cs.length ∧ (cs.take (n * z)).all A.isV = true then some ((cs.take (n * z)).map A.norm1, n) else none
    | none => none
  | _ => none

/-- New boxes beside the old ones, which are as they were (but for the rights to grow). -/
noncomputable def preQ (bx : Bx) (q : A × List (Nat × A) × Bx) : Option (A × List (Nat × A) × Bx) := @ite _ (∃ n, q.2.2 = strip bx ++ n) (Classical.propDecidable _) (some q) none
theorem preQ_some {bx : Bx} {q r : A × List (Nat × A) × Bx} (h : preQ bx q = some r) : q = r ∧ ∃ n, q.2.2 = strip bx ++ n := by
  unfold preQ at h
  split at h
  · rename_i hc; cases h; exact ⟨rfl, hc⟩
  · cases h
theorem preQ_is {bx : Bx} {q : A × List (Nat × A) × Bx} (n : Bx) (h : q.2.2 = strip bx ++ n) : preQ bx q = some q := by
  unfold preQ; rw [if_pos ⟨n, h⟩]

noncomputable def evI (Φ : CallF) (nb : Nat) (i : I) (e : Env) (bx : Bx) : Option (A × List (Nat × A) × Bx) :=
  match i with
  | .mv x true => some ((x.ev e).own, takeU x e, bx)
  | .mv x false => some ((x.ev e).cp, [], bx)
  | .pick c a b => match c.ev e with
    | .val (.bool t) => some (if t then (a.ev e).cp else (b.ev e).cp, [], bx)
    | _ => none
  | .alloc z => some (.ptr bx.length 0, [], bx ++ [z.map cst1])
  | .box x =>
    if (x.ev e).cells.all A.isC = true then some (.ptr bx.length 0, takeU x e, bx ++ [(x.ev e).cells]) else none
  | .build z ps => (fillA e false (z.map cst1) ps).map fun cs => (.agg cs, [], bx)
  | .bsl sz len z ps mu => match fillA e true (z.map cst1) ps with
    | some cs => if mu = true ∧ 0 < len then some (.bs bx.length len sz, [], bx ++ [cs]) else some (.sl (cs.map A.norm1) len 1, [], bx)
    | none => none
  | .load sz ag x take => match x.ev e with
    | .ptr r o => match bx[r]? with
      | some cs =>
        if ag then (if o + sz ≤ cs.length then some (.agg (((cs.drop o).take sz).map A.cp1), [], bx) else none)
        else match cs[o]? with
          | some c => if take then (if nb ≤ r then some (c, [], bx.set r (cs.set o c.cp1)) else none) else some (c.cp1, [], bx)
          | none => none
      | none => none
    | .ip l =>
      if ag then (if sz ≤ l.length then some (.agg ((l.take sz).map A.norm1), [], bx) else none)
      else match l with
        | c :: _ => some (c.norm1, [], bx)
        | [] => none
    | .ipx _ _ l =>
      if ag then (if sz ≤ l.length then some (.agg ((l.take sz).map A.norm1), [], bx) else none)
      else match l with
        | c :: _ => some (c.norm1, [], bx)
        | [] => none
    | _ => none
  | .store sz p x => match p.ev e with
    | .ptr r o => match bx[r]? with
      | some cs =>
        let c := (x.ev e).cells
        if c.length = sz ∧ o + sz ≤ cs.length ∧ c.all A.isC = true ∧ (nb ≤ r ∨ c.all A.isV = true) then
          some (.und, takeU x e, bx.set r (cs.take o ++ (if nb ≤ r then c else c.map A.norm1) ++ cs.drop (o + sz)))
        else none
      | none => none
    | _ => none
  | .bin op x y => (evBin op (x.ev e) (y.ev e)).map fun v => (v, [], bx)
  | .un op x => (evUn op (x.ev e)).map fun v => (v, [], bx)
  | .conv k x => match x.ev e with
    | .val (.int _ n) => some (.val (.int k (k.wrap n)), [], bx)
    | _ => none
  | .bstr x => match x.ev e with
    | .sl l n _ => if l.length = n then (bytesA l).map fun b => (.val (.string ⟨b.toArray⟩), [], bx) else none
    | _ => none
  | .len x => match x.ev e with
    | .sl _ n _ => some (.val (.int .i64 n), [], bx)
    | .bs _ n _ => some (.val (.int .i64 n), [], bx)
    | _ => none
  | .isnil neg x => match x.ev e with
    | .sl _ n g =>
      if g = 3 then some (.val (.bool (!neg)), [], bx)
      else if 0 < n ∨ g = 4 then some (.val (.bool neg), [], bx)
      else none
    | _ => none
  | .eqs neg n x y => match x.ev e, y.ev e with
    | .agg xs, .agg ys => if xs.length = n ∧ ys.length = n then (eqCells xs ys).map fun r => (.val (.bool (if neg then !r else r)), [], bx) else none
    | _, _ => none
  | .eqb neg x y => match x.ev e, y.ev e with
    | .val (.bool a), .val (.bool b) => some (.val (.bool (if neg then !(a == b) else a == b)), [], bx)
    | _, _ => none
  | .slen x => match x.ev e with
    | .val (.string s) => some (.val (.int .i64 s.size), [], bx)
    | _ => none
  | .mxn isMax xs => match xs.map (O.ev e) with
    | .val (.int .i64 a) :: r => (foldM isMax a r).map fun v => (.val (.int .i64 v), [], bx)
    | _ => none
  | .app sz bytes x y mu => match x.ev e, asList bx (y.ev e) with
    | .sl l n g, some (l2, n2) =>
      if (g = 1 ∨ g = 2) ∧ l.length = n * sz ∧ l2.length = n2 * sz ∧ (n + n2) * bytes ≤ 70368744177664 then
        if mu = true ∧ (n = 0 ∨ g = 1) ∧ 0 < n2 then some (.bs bx.length (n + n2) sz, takeU x e, bx ++ [(l ++ l2).map A.norm1])
        else some (.sl (l ++ l2) (n + n2) 2, takeU x e, bx)
      else none
    | _, _ => none
  | .slc sz x lo hi mx => match x.ev e with
    | .sl l n _ => match optInt e 0 lo, optInt e n hi, optInt e n mx with
      | some a, some b, some c =>
        if 0 ≤ a ∧ a ≤ b ∧ b ≤ c ∧ c ≤ n ∧ l.length = n * sz then
          some (.sl ((l.drop (a.toNat * sz)).take ((b - a).toNat * sz)) (b - a).toNat (if mx.isSome ∧ b = c ∧ 0 < n then 1 else 0), [], bx)
        else none
      | _, _, _ => none
    | .bs r n z => match lo, mx, optInt e n hi with
      | none, none, some b => if 0 ≤ b ∧ b ≤ n then some (.bs r b.toNat z, [], bx) else none
      | _, _, _ => none
    | _ => none
  | .sslc x lo hi => match x.ev e with
    | .val (.string s) => match optInt e 0 lo, optInt e s.size hi with
      | some a, some b => if 0 ≤ a ∧ a ≤ b ∧ b ≤ s.size then some (.val (.string (s.extract a.toNat b.toNat)), [], bx) else none
      | _, _ => none
    | _ => none
  | .fa off p => match p.ev e with
    | .ptr r o => some (.ptr r (o + off), [], bx)
    | .ip l => some (.ip (l.drop off), [], bx)
    | .ipx _ _ l => some (.ip (l.drop off), [], bx)
    | _ => none
  | .ia sz x i => match x.ev e, i.ev e with
    | .sl l n _, .val (.int _ k) => if 0 ≤ k ∧ k < n then some (.ip (l.drop (k.toNat * sz)), [], bx) else none
    | .bs r n _, .val (.int _ k) => if 0 ≤ k ∧ k < n then some (.ptr r (k.toNat * sz), [], bx) else none
    | _, _ => none
  | .ix x i => match x.ev e, i.ev e with
    | .val (.string s), .val (.int _ k) => if 0 ≤ k ∧ k < s.size then some (.val (.int .u8 ((s.data.toList.getD k.toNat 0).toNat : Int)), [], bx) else none
    | _, _ => none
  | .ext x k => match x.ev e with
    | .tup l => match l[k]? with
      | some v => some (v.cp, [], bx)
      | none => none
    | _ => none
  | .mkf f caps => (capsOf e caps).map fun cs => (.fn f cs, [], bx)
  | .mksl sz bytes z n mu => match n.ev e with
    | .val (.int .i64 k) =>
      if 0 ≤ k ∧ k * bytes ≤ 70368744177664 then
        if mu = true ∧ 0 < k then some (.bs bx.length k.toNat sz, [], bx ++ [(List.replicate k.toNat (z.map cst1)).flatten])
        else some (.sl ((List.replicate k.toNat (z.map cst1)).flatten.map A.norm1) k.toNat 1, [], bx)
      else none
    | _ => none
  | .call f xs keep => match args0 e bx xs with
    | some as => match pureOf Φ keep f as with
      | some v => if (xs.any fun x => (x.ev e).hasB) = true ∧ v.scal = false then none else some (v, [], bx)
      | none => none
    | none => none
  | .calli f xs => (Φ f (xs.map fun x => (x.ev e).norm) bx).map (aft bx.length)
  | .calln f xs => ((Φ f (xs.map fun x => (x.ev e).norm) bx).map (aft bx.length)).bind (preQ bx)
  | .callz nt f xs => if nb = 0 then (match args0 e bx xs with
    | some as => match pureOf Φ false f as with
      | some v => some (v, frzE nt e bx, [])
      | none => none
    | none => none) else none
  | .callv x xs => match x.ev e with
    | .fn f caps => (Φ f ((xs.map fun x => (x.ev e).norm) ++ caps.map fun p => .ptr p.1 p.2) bx).map (aft bx.length)
    | _ => none

def putO : Option Nat → A → Env → Env
  | some d, v, e => put d v e
  | none, _, e => e

noncomputable def evRun (Φ : CallF) (nb : Nat) (j : J) (s : Env × Bx) : Option (Env × Bx) :=
  match evI Φ nb j.i s.1 s.2 with
  | some (v, ups, bx') => some (putO j.d v (puts ups s.1), bx')
  | none => none

noncomputable def evJ (Φ : CallF) (nb : Nat) (j : J) (s : Env × Bx) : Option (Env × Bx) :=
  match j.g with
  | none => evRun Φ nb j s
  | some (t, b) => match s.1 t with
    | .val (.bool b') => if b' = b then evRun Φ nb j s else some (putO j.d .und s.1, s.2)
    | .und => some (putO j.d .und s.1, s.2)
    | _ => none

noncomputable def evJs (Φ : CallF) (nb : Nat) : List J → Env × Bx → Option (Env × Bx)
  | [], s => some s
  | j :: r, s => match evJ Φ nb j s with
    | some s' => evJs Φ nb r s'
    | none => none

inductive Out where
  | nor
  | ex (id : Nat)
  | ret
  deriving DecidableEq, Inhabited

/-- A result: a slot, or the variable (of so many cells) that a slot points to. -/
inductive RV where
  | t (i : Nat)
  | cell (i sz : Nat)
  deriving Inhabited

structure CFun where
  nt : Nat
  np : Nat
  body : C
  res : List RV
  deriving Inhabited

abbrev Ev := Nat → C → Env × Bx → Option (Out × Env × Bx)

def initFrom : Nat → List A → Env
  | _, [] => emp
  | k, a :: r => put k a (initFrom (k + 1) r)

def resVal (s : Env × Bx) : RV → Option A
  | .t i => if (s.1 i).isR then some (s.1 i).cp else none
  | .cell i sz => match s.1 i with
    | .ptr r 0 => match s.2[r]? with
      | some cs => if cs.length = sz then some (.agg (cs.map A.cp1)) else none
      | none => none
    | _ => none

def resultOf (F : CFun) (s : Env × Bx) : Option A :=
  match F.res with
  | [t] => resVal s t
  | ts => (ts.mapM (resVal s)).map .tup

def callOf (tab : Nat → Option CFun) (ext : CallF) (ev : Ev) : CallF := fun f args bx =>
  match ext f args bx with
  | some r => some r
  | none =>
  match tab f with
  | none => none
  | some F =>
    if args.length = F.np then
      match ev bx.length F.body (initFrom 0 args, bx) with
      | some (.nor, s) => (resultOf F s).map fun v => (v, s.2)
      | some (.ret, s) => (resultOf F s).map fun v => (v, s.2)
      | _ => none
    else none

def keepL (live : List Nat) (e : Env) : Env := live.foldr (fun i e' => put i (e i) e') emp

def loopIn0 (nb : Nat) (live : List Nat) (kb : Nat) (s : Env × Bx) : Option (Env × Bx) :=
  if nb + kb ≤ s.2.length ∧ (live.all fun i => (s.1 i).dang (nb + kb)) = true ∧ ((s.2.take (nb + kb)).all fun cs => cs.all (A.dangC (nb + kb))) = true then some (keepL live s.1, s.2.take nb ++ ((s.2.drop nb).take kb).map (List.map A.own)) else none

/-- As many boxes are kept as there are, and no more than so many. -/
def loopIn (nb : Nat) (live : List Nat) (kb : Nat) (s : Env × Bx) : Option (Env × Bx) := loopIn0 nb live (min kb (s.2.length - nb)) s

/-- These slots are forgotten. -/
def clr (cl : List (Nat × Nat)) (e : Env) : Env := fun i => if (cl.any fun p => p.1 == i) = true then .any else e i
/-- These point into different boxes. -/
def neOk (ne : List (Nat × Nat)) (e : Env) : Bool := ne.all fun p => match e p.1, e p.2 with
  | .ptr r _, .ptr r' _ => !(r == r')
  | _, _ => false

noncomputable def stepC (tab : Nat → Option CFun) (ext : CallF) (ev : Ev) : Ev := fun nb c s =>
  match c with
  | .skip => some (.nor, s)
  | .seq a b => match ev nb a s with
    | some (.nor, s1) => ev nb b s1
    | r => r
  | .cond x a b => match x.ev s.1 with
    | .val (.bool t) => if t then ev nb a s else ev nb b s
    | _ => none
  | .block id a => match ev nb a s with
    | some (.ex i, s1) => some (if i = id then .nor else .ex i, s1)
    | r => r
  | .loop live kb a => match loopIn nb live kb s with
    | some s0 => match ev nb a s0 with
      | some (.nor, s1) => ev nb (.loop live kb a) s1
      | r => r
    | none => none
  | .exit id => some (.ex id, s)
  | .scope a => ev nb a s
  | .ret => some (.ret, s)
  | .reg l => (evJs (callOf tab ext ev) nb l s).map fun s' => (.nor, s')
  | .dreg cl ne l => if neOk ne s.1 = true then (evJs (callOf tab ext ev) nb l (clr cl s.1, s.2)).map fun s' => (.nor, s') else none

noncomputable def evK (tab : Nat → Option CFun) (ext : CallF) : Nat → Ev
  | 0 => fun _ _ _ => none
  | k + 1 => stepC tab ext (evK tab ext k)

/-! ### more fuel, the same answer -/
def LeE (f g : Ev) : Prop := ∀ nb c s r, f nb c s = some r → g nb c s = some r
def LeF (f g : CallF) : Prop := ∀ n a b r, f n a b = some r → g n a b = some r

theorem callOf_mono {tab : Nat → Option CFun} {ext : CallF} {f g : Ev} (h : LeE f g) : LeF (callOf tab ext f) (callOf tab ext g) := by
  intro n a b r hr
  unfold callOf at hr ⊢
  cases hx : ext n a b with
  | some q => rw [hx] at hr; exact hr
  | none =>
    simp only [hx] at hr ⊢
    cases hF : tab n with
    | none => simp [hF] at hr
    | some F =>
      simp only [hF] at hr ⊢
      by_cases hl : a.length = F.np
      · rw [if_pos hl] at hr ⊢
        cases he : f b.length F.body (initFrom 0 a, b) with
        | none => simp [he] at hr
        | some q => rw [h _ _ _ _ he]; rw [he] at hr; exact hr
      · rw [if_neg hl] at hr; cases hr

theorem pureOf_mono {f g : CallF} (h : LeF f g) (keep : Bool) (n : Nat) (a : List A) (r : A) (hr : pureOf f keep n a = some r) : pureOf g keep n a = some r := by
  unfold pureOf at hr ⊢
  cases hx : f n a [] with
  | none => simp [hx] at hr
  | some q => rw [h _ _ _ _ hx]; rw [hx] at hr; exact hr

theorem evI_mono {f g : CallF} (h : LeF f g) (nb : Nat) (i : I) (e : Env) (bx : Bx) (r) (hr : evI f nb i e bx = some r) : evI g nb i e bx = some r := by
  cases i with
  | call n xs keep =>
    simp only [evI] at hr ⊢
    split at hr
    · cases hx : pureOf f keep n ‹_› with
      | none => simp [hx] at hr
      | some v => rw [pureOf_mono h _ _ _ _ hx]; rw [hx] at hr; exact hr
    · cases hr
  | calli n xs =>
    simp only [evI, Option.map_eq_some_iff] at hr ⊢
    obtain ⟨a, h1, h2⟩ := hr
    exact ⟨a, h _ _ _ _ h1, h2⟩
  | calln n xs =>
    simp only [evI, Option.bind_eq_some_iff, Option.map_eq_some_iff] at hr ⊢
    obtain ⟨q, ⟨a, h1, h2⟩, h3⟩ := hr
    exact ⟨q, ⟨a, h _ _ _ _ h1, h2⟩, h3⟩
  | callz nt n xs =>
    simp only [evI] at hr ⊢
    split at hr
    · rename_i hnb
      rw [if_pos hnb]
      split at hr
      · cases hx : pureOf f false n ‹_› with
        | none => simp [hx] at hr
        | some v => rw [pureOf_mono h _ _ _ _ hx]; rw [hx] at hr; exact hr
      · cases hr
    · cases hr
  | callv x xs =>
    simp only [evI] at hr ⊢
    split at hr
    · simp only [Option.map_eq_some_iff] at hr ⊢
      obtain ⟨a, h1, h2⟩ := hr
      exact ⟨a, h _ _ _ _ h1, h2⟩
    · cases hr
  | mv x t => cases t <;> exact hr
  | _ => exact hr

theorem evJ_mono {f g : CallF} (h : LeF f g) (nb : Nat) (j : J) (s) (r) (hr : evJ f nb j s = some r) : evJ g nb j s = some r := by
  have hrun : ∀ r, evRun f nb j s = some r → evRun g nb j s = some r := by
    intro r hr
    unfold evRun at hr ⊢
    cases he : evI f nb j.i s.1 s.2 with
    | none => simp [he] at hr
    | some q => rw [evI_mono h _ _ _ _ _ he]; rw [he] at hr; exact hr
  unfold evJ at hr ⊢
  split at hr
  · exact hrun _ hr
  · split at hr
    · split at hr
      · rename_i hb; simp only [if_pos hb]; exact hrun _ hr
      · rename_i hb; simp only [if_neg hb]; exact hr
    · exact hr
    · cases hr

theorem evJs_mono {f g : CallF} (h : LeF f g) (nb : Nat) : ∀ (l : List J) (s) (r), evJs f nb l s = some r → evJs g nb l s = some r
  | [], _, _, hr => hr
  | j :: l, s, r, hr => by
    unfold evJs at hr ⊢
    cases he : evJ f nb j s with
    | none => simp [he] at hr
    | some q => rw [evJ_mono h _ _ _ _ he]; rw [he] at hr; exact evJs_mono h nb l q r hr

theorem stepC_mono {tab : Nat → Option CFun} {ext : CallF} {f g : Ev} (h : LeE f g) : LeE (stepC tab ext f) (stepC tab ext g) := by
  intro nb c s r hr
  cases c with
  | skip => exact hr
  | exit id => exact hr
  | ret => exact hr
  | scope a => exact h _ _ _ _ hr
  | seq a b =>
    simp only [stepC] at hr ⊢
    cases he : f nb a s with
    | none => simp [he] at hr
    | some q =>
      obtain ⟨o, s1⟩ := q
      rw [h _ _ _ _ he]; rw [he] at hr
      cases o with
      | nor => exact h _ _ _ _ hr
      | ex i => exact hr
      | ret => exact hr
  | cond x a b =>
    simp only [stepC] at hr ⊢
    split at hr
    · split at hr
      · rename_i ht; simp only [ht, if_true]; exact h _ _ _ _ hr
      · rename_i ht; simp only [ht]; exact h _ _ _ _ hr
    · cases hr
  | block id a =>
    simp only [stepC] at hr ⊢
    cases he : f nb a s with
    | none => simp [he] at hr
    | some q => rw [h _ _ _ _ he]; rw [he] at hr; exact hr
  | loop live kb a =>
    simp only [stepC] at hr ⊢
    cases hl : loopIn nb live kb s with
    | none => simp [hl] at hr
    | some s0 =>
      simp only [hl] at hr ⊢
      cases he : f nb a s0 with
      | none => simp [he] at hr
      | some q =>
        obtain ⟨o, s1⟩ := q
        rw [h _ _ _ _ he]; rw [he] at hr
        cases o with
        | nor => exact h _ _ _ _ hr
        | ex i => exact hr
        | ret => exact hr
  | reg l =>
    simp only [stepC, Option.map_eq_some_iff] at hr ⊢
    obtain ⟨a, h1, h2⟩ := hr
    exact ⟨a, evJs_mono (callOf_mono h) _ _ _ _ h1, h2⟩
  | dreg cl ne l =>
    simp only [stepC] at hr ⊢
    split at hr
    · rename_i hne
      simp only [hne, if_true, Option.map_eq_some_iff] at hr ⊢
      obtain ⟨a, h1, h2⟩ := hr
      exact ⟨a, evJs_mono (callOf_mono h) _ _ _ _ h1, h2⟩
    · cases hr

theorem evK_succ (tab : Nat → Option CFun) (ext : CallF) : ∀ k, LeE (evK tab ext k) (evK tab ext (k + 1))
  | 0 => fun _ _ _ _ h => by cases h
  | k + 1 => stepC_mono (evK_succ tab ext k)

theorem evK_le (tab : Nat → Option CFun) (ext : CallF) {k m : Nat} (h : k ≤ m) : LeE (evK tab ext k) (evK tab ext m) := by
  induction h with
  | refl => exact fun _ _ _ _ h => h
  | step _ ih => exact fun _ _ _ _ h => evK_succ tab ext _ _ _ _ _ (ih _ _ _ _ h)

/-! ### the evaluator without fuel -/
open Classical in
noncomputable def evL (tab : Nat → Option CFun) (ext : CallF) : Ev := fun nb c s =>
  if h : ∃ r, ∃ k, evK tab ext k nb c s = some r then some (Classical.choose h) else none

theorem evL_iff (tab : Nat → Option CFun) (ext : CallF) (nb c s r) : evL tab ext nb c s = some r ↔ ∃ k, evK tab ext k nb c s = some r := by
  constructor
  · intro h
    unfold evL at h
    split at h
    · rename_i hx
      cases h
      exact Classical.choose_spec hx
    · cases h
  · rintro ⟨k, hk⟩
    have hx : ∃ r, ∃ k, evK tab ext k nb c s = some r := ⟨r, k, hk⟩
    unfold evL
    rw [dif_pos hx]
    obtain ⟨k', hk'⟩ := Classical.choose_spec hx
    have a := evK_le tab ext (Nat.le_max_left k k') _ _ _ _ hk
    have b := evK_le tab ext (Nat.le_max_right k k') _ _ _ _ hk'
    rw [a] at b
    exact b.symm

theorem evK_leL (tab : Nat → Option CFun) (ext : CallF) (k : Nat) : LeE (evK tab ext k) (evL tab ext) := fun _ _ _ _ h => (evL_iff ..).2 ⟨k, h⟩

noncomputable def callL (tab : Nat → Option CFun) (ext : CallF) : CallF := callOf tab ext (evL tab ext)

theorem callL_iff (tab : Nat → Option CFun) (ext : CallF) (f a b r) : callL tab ext f a b = some r ↔ ∃ k, callOf tab ext (evK tab ext k) f a b = some r := by
  constructor
  · intro h
    unfold callL callOf at h
    cases hx : ext f a b with
    | some q =>
      simp only [hx] at h
      exact ⟨0, by unfold callOf; simp only [hx]; exact h⟩
    | none =>
      simp only [hx] at h
      cases hF : tab f with
      | none => simp [hF] at h
      | some F =>
        simp only [hF] at h
        by_cases hl : a.length = F.np
        · rw [if_pos hl] at h
          cases he : evL tab ext b.length F.body (initFrom 0 a, b) with
          | none => simp [he] at h
          | some q =>
            obtain ⟨k, hk⟩ := (evL_iff ..).1 he
            rw [he] at h
            refine ⟨k, ?_⟩
            unfold callOf
            simp only [hx, hF, if_pos hl, hk]
            exact h
        · rw [if_neg hl] at h; cases h
  · rintro ⟨k, hk⟩
    exact callOf_mono (evK_leL tab ext k) _ _ _ _ hk

theorem evI_cont (tab : Nat → Option CFun) (ext : CallF) (nb i e bx r) (h : evI (callL tab ext) nb i e bx = some r) : ∃ k, evI (callOf tab ext (evK tab ext k)) nb i e bx = some r := by
  cases i with
  | call n xs keep =>
    simp only [evI] at h ⊢
    split at h
    · rename_i as _
      cases hx : pureOf (callL tab ext) keep n as with
      | none => simp [hx] at h
      | some v =>
        have hx' := hx
        unfold pureOf at hx'
        cases hc : callL tab ext n as [] with
        | none => simp [hc] at hx'
        | some q =>
          obtain ⟨k, hk⟩ := (callL_iff ..).1 hc
          refine ⟨k, ?_⟩
          have : pureOf (callOf tab ext (evK tab ext k)) keep n as = some v := by
            unfold pureOf; rw [hk]; rw [hc] at hx'; exact hx'
          rw [this]; rw [hx] at h; exact h
    · cases h
  | callz nt n xs =>
    simp only [evI] at h ⊢
    split at h
    · rename_i hnb
      simp only [if_pos hnb]
      split at h
      · rename_i as _
        cases hx : pureOf (callL tab ext) false n as with
        | none => simp [hx] at h
        | some v =>
          have hx' := hx
          unfold pureOf at hx'
          cases hc : callL tab ext n as [] with
          | none => simp [hc] at hx'
          | some q =>
            obtain ⟨k, hk⟩ := (callL_iff ..).1 hc
            refine ⟨k, ?_⟩
            have : pureOf (callOf tab ext (evK tab ext k)) false n as = some v := by
              unfold pureOf; rw [hk]; rw [hc] at hx'; exact hx'
            rw [this]; rw [hx] at h; exact h
      · cases h
    · cases h
  | calln n xs =>
    simp only [evI, Option.bind_eq_some_iff, Option.map_eq_some_iff] at h ⊢
    obtain ⟨q, ⟨a, h1, h2⟩, h3⟩ := h
    obtain ⟨k, hk⟩ := (callL_iff ..).1 h1
    exact ⟨k, q, ⟨a, hk, h2⟩, h3⟩
  | calli n xs =>
    simp only [evI, Option.map_eq_some_iff] at h ⊢
    obtain ⟨a, h1, h2⟩ := h
    obtain ⟨k, hk⟩ := (callL_iff ..).1 h1
    exact ⟨k, a, hk, h2⟩
  | callv x xs =>
    simp only [evI] at h ⊢
    split at h
    · simp only [Option.map_eq_some_iff] at h ⊢
      obtain ⟨a, h1, h2⟩ := h
      obtain ⟨k, hk⟩ := (callL_iff ..).1 h1
      exact ⟨k, a, hk, h2⟩
    · cases h
  | mv x t => cases t <;> exact ⟨0, h⟩
  | _ => exact ⟨0, h⟩

theorem evRun_cont (tab : Nat → Option CFun) (ext : CallF) (nb j s r) (h : evRun (callL tab ext) nb j s = some r) : ∃ k, evRun (callOf tab ext (evK tab ext k)) nb j s = some r := by
  unfold evRun at h
  cases he : evI (callL tab ext) nb j.i s.1 s.2 with
  | none => simp [he] at h
  | some q =>
    obtain ⟨k, hk⟩ := evI_cont tab ext _ _ _ _ _ he
    rw [he] at h
    refine ⟨k, ?_⟩
    unfold evRun
    rw [hk]
    exact h

theorem evJ_cont (tab : Nat → Option CFun) (ext : CallF) (nb j s r) (h : evJ (callL tab ext) nb j s = some r) : ∃ k, evJ (callOf tab ext (evK tab ext k)) nb j s = some r := by
  unfold evJ at h ⊢
  split at h
  · exact evRun_cont _ _ _ _ _ _ h
  · split at h
    · split at h
      · rename_i hb; simp only [if_pos hb]; exact evRun_cont _ _ _ _ _ _ h
      · rename_i hb; simp only [if_neg hb]; exact ⟨0, h⟩
    · exact ⟨0, h⟩
    · cases h

theorem evJs_cont (tab : Nat → Option CFun) (ext : CallF) (nb) : ∀ (l s r), evJs (callL tab ext) nb l s = some r → ∃ k, evJs (callOf tab ext (evK tab ext k)) nb l s = some r
  | [], _, _, h => ⟨0, h⟩
  | j :: l, s, r, h => by
    unfold evJs at h
    cases he : evJ (callL tab ext) nb j s with
    | none => simp [he] at h
    | some q =>
      simp only [he] at h
      obtain ⟨k, hk⟩ := evJ_cont tab ext _ _ _ _ he
      obtain ⟨m, hm⟩ := evJs_cont tab ext nb l q r h
      refine ⟨max k m, ?_⟩
      unfold evJs
      rw [evJ_mono (callOf_mono (evK_le tab ext (Nat.le_max_left k m))) _ _ _ _ hk]
      exact evJs_mono (callOf_mono (evK_le tab ext (Nat.le_max_right k m))) _ _ _ _ hm

theorem evL_step (tab : Nat → Option CFun) (ext : CallF) (nb c s) : evL tab ext nb c s = stepC tab ext (evL tab ext) nb c s := by
  apply Option.ext
  intro r
  constructor
  · intro h
    obtain ⟨k, hk⟩ := (evL_iff ..).1 h
    cases k with
    | zero => cases hk
    | succ k => exact stepC_mono (evK_leL tab ext k) _ _ _ _ hk
  · intro h
    rw [evL_iff]
    cases c with
    | skip => exact ⟨1, h⟩
    | exit id => exact ⟨1, h⟩
    | ret => exact ⟨1, h⟩
    | scope a => obtain ⟨k, hk⟩ := (evL_iff ..).1 h; exact ⟨k + 1, hk⟩
    | seq a b =>
      simp only [stepC] at h
      cases he : evL tab ext nb a s with
      | none => simp [he] at h
      | some q =>
        obtain ⟨o, s1⟩ := q
        obtain ⟨k, hk⟩ := (evL_iff ..).1 he
        simp only [he] at h
        cases o with
        | nor =>
          obtain ⟨m, hm⟩ := (evL_iff ..).1 h
          refine ⟨max k m + 1, ?_⟩
          simp only [evK, stepC]
          rw [evK_le tab ext (Nat.le_max_left k m) _ _ _ _ hk]
          exact evK_le tab ext (Nat.le_max_right k m) _ _ _ _ hm
        | ex i => exact ⟨k + 1, by simp only [evK, stepC]; rw [hk]; exact h⟩
        | ret => exact ⟨k + 1, by simp only [evK, stepC]; rw [hk]; exact h⟩
    | cond x a b =>
      simp only [stepC] at h
      split at h
      · rename_i t hx
        cases t with
        | true => obtain ⟨k, hk⟩ := (evL_iff ..).1 (by simpa using h); exact ⟨k + 1, by simp only [evK, stepC, hx]; simpa using hk⟩
        | false => obtain ⟨k, hk⟩ := (evL_iff ..).1 (by simpa using h); exact ⟨k + 1, by simp only [evK, stepC, hx]; simpa using hk⟩
      · cases h
    | block id a =>
      simp only [stepC] at h
      cases he : evL tab ext nb a s with
      | none => simp [he] at h
      | some q =>
        obtain ⟨k, hk⟩ := (evL_iff ..).1 he
        exact ⟨k + 1, by simp only [evK, stepC]; rw [hk]; rw [he] at h; exact h⟩
    | loop live kb a =>
      simp only [stepC] at h
      cases hl : loopIn nb live kb s with
      | none => simp [hl] at h
      | some s0 =>
        simp only [hl] at h
        cases he : evL tab ext nb a s0 with
        | none => simp [he] at h
        | some q =>
          obtain ⟨o, s1⟩ := q
          obtain ⟨k, hk⟩ := (evL_iff ..).1 he
          simp only [he] at h
          cases o with
          | nor =>
            obtain ⟨m, hm⟩ := (evL_iff ..).1 h
            refine ⟨max k m + 1, ?_⟩
            simp only [evK, stepC, hl]
            rw [evK_le tab ext (Nat.le_max_left k m) _ _ _ _ hk]
            exact evK_le tab ext (Nat.le_max_right k m) _ _ _ _ hm
          | ex i => exact ⟨k + 1, by simp only [evK, stepC, hl]; rw [hk]; exact h⟩
          | ret => exact ⟨k + 1, by simp only [evK, stepC, hl]; rw [hk]; exact h⟩
    | reg l =>
      simp only [stepC, Option.map_eq_some_iff] at h
      obtain ⟨a, h1, h2⟩ := h
      obtain ⟨k, hk⟩ := evJs_cont tab ext nb l s a h1
      exact ⟨k + 1, by simp only [evK, stepC, Option.map_eq_some_iff]; exact ⟨a, hk, h2⟩⟩
    | dreg cl ne l =>
      simp only [stepC] at h
      split at h
      · rename_i hne
        simp only [Option.map_eq_some_iff] at h
        obtain ⟨a, h1, h2⟩ := h
        obtain ⟨k, hk⟩ := evJs_cont tab ext nb l _ a h1
        exact ⟨k + 1, by simp only [evK, stepC, hne, if_true, Option.map_eq_some_iff]; exact ⟨a, hk, h2⟩⟩
      · cases h
end Go.Proofs.YtkohggddaheefaaEv
/- What an abstract value stands for in memory, and what a step keeps of it. -/
namespace Go.Proofs.YtkohggddaheefaaEv
open Go Go.RowKit

/-- A clean cell. -/
inductive RepV (w : World) (lim : Nat → Nat) : Value → A → Prop
  | val (v : Value) (h1 : v.oneCell' = true) : RepV w lim v (.val v)
  | nil (g : Nat) (h4 : g ≠ 4) : RepV w lim (.slice none 0 0) (.sl [] 0 g)
  | emp (b o s g : Nat) (h3 : g ≠ 1 ∧ g ≠ 2 ∧ g ≠ 3) : RepV w lim (.slice (some ⟨b, o, some s⟩) 0 0) (.sl [] 0 g)
  | sl (b o n c : Nat) (l : List A) (g : Nat) (vs : Nat → Value) (hn : n ≤ c) (hg : g = 1 → c = n) (h3 : g ≠ 3)
      (hc : ∀ i, i < l.length → w.cell? ⟨b, o + i, none⟩ = some (vs i)) (hl : ∀ i, i < l.length → o + i < lim b)
      (hr : ∀ i (h : i < l.length), RepV w lim (vs i) l[i]) : RepV w lim (.slice (some ⟨b, o, none⟩) n c) (.sl l n g)

def n2 (a : A) : Prop := ∀ l n, a ≠ .sl l n 2

/-- How far a row reaches. -/
def rowSz (w : World) (b : Nat) : Nat := match w.heap[b]? with
  | some (.cells cs _ _) => cs.size
  | _ => 0
theorem rowSz_of {w : World} {b : Nat} {cs t g} (h : w.heap[b]? = some (.cells cs t g)) : rowSz w b = cs.size := by unfold rowSz; rw [h]
theorem rowSz_eq {w w' : World} {b : Nat} (h : w'.heap[b]? = w.heap[b]?) : rowSz w' b = rowSz w b := by unfold rowSz; rw [h]
theorem rowSz_no {w : World} {b : Nat} (h : w.heap.size ≤ b) : rowSz w b = 0 := by unfold rowSz; rw [Array.getElem?_eq_none h]

/-- A cell. -/
inductive RepC (w : World) (lim : Nat → Nat) (μ : Nat → Nat) (m : Nat) : Value → A → Prop
  | v {v : Value} {a : A} (h : RepV w lim v a) : RepC w lim μ m v a
  | bs (r n z c : Nat) (h : r < m) (hn : n ≤ c) (hz : c * z ≤ rowSz w (μ r)) : RepC w lim μ m (.slice (some ⟨μ r, 0, none⟩) n c) (.bs r n z)

inductive RepR (w : World) (lim : Nat → Nat) (μ : Nat → Nat) (m : Nat) : Value → A → Prop
  | c {v : Value} {a : A} (h : RepC w lim μ m v a) : RepR w lim μ m v a
  | agg (vs : Array Value) (l : List A) (hs : vs.size = l.length) (hr : ∀ i (h : i < l.length), RepC w lim μ m (vs.getD i undef) l[i]) (h2 : ∀ i (h : i < l.length), n2 l[i]) :
      RepR w lim μ m (.agg vs) (.agg l)

inductive Rep (w : World) (lim : Nat → Nat) (μ : Nat → Nat) (m : Nat) : Value → A → Prop
  | any (v : Value) : Rep w lim μ m v .any
  | und : Rep w lim μ m undef .und
  | r {v : Value} {a : A} (h : RepR w lim μ m v a) : Rep w lim μ m v a
  | tup (vs : Array Value) (l : List A) (hs : vs.size = l.length) (hr : ∀ i (h : i < l.length), RepR w lim μ m (vs.getD i undef) l[i]) : Rep w lim μ m (.tuple vs) (.tup l)
  | ptr (r o : Nat) (h : r < m) : Rep w lim μ m (.pointer (some ⟨μ r, o, none⟩)) (.ptr r o)
  | ip (b o : Nat) (l : List A) (vs : Nat → Value) (hc : ∀ i, i < l.length → w.cell? ⟨b, o + i, none⟩ = some (vs i)) (hl : ∀ i, i < l.length → o + i < lim b)
      (hr : ∀ i (h : i < l.length), RepV w lim (vs i) l[i]) : Rep w lim μ m (.pointer (some ⟨b, o, none⟩)) (.ip l)
  | ipx (b o : Nat) (l : List A) (vs : Nat → Value) (hc : ∀ i, i < l.length → w.cell? ⟨b, o + i, none⟩ = some (vs i)) (hl : ∀ i, i < l.length → o + i < lim b)
      (hr : ∀ i (h : i < l.length), RepV w lim (vs i) l[i]) : Rep w lim μ m (.pointer (some ⟨b, o, none⟩)) (.ipx b o l)
  | fn (f : Nat) (caps : List (Nat × Nat)) (h : ∀ p ∈ caps, p.1 < m) :
      Rep w lim μ m (.func (.func f) #[] (caps.map fun p => Value.pointer (some ⟨μ p.1, p.2, none⟩)).toArray) (.fn f caps)

theorem RepV.one {w lim v a} (h : RepV w lim v a) : v.oneCell' = true := by cases h <;> first | assumption | rfl
theorem RepC.one {w lim μ m v a} (h : RepC w lim μ m v a) : v.oneCell' = true := by
  cases h with
  | v h => exact h.one
  | bs => rfl
/-- A slice, a number: known of itself. -/
theorem Rep.rv {w lim μ m v a} (h : RepV w lim v a) : Rep w lim μ m v a := .r (.c (.v h))

/-- What a step must keep: the cells that slices read. -/
def Ext (w : World) (lim : Nat → Nat) (w' : World) (lim' : Nat → Nat) : Prop :=
  (∀ b o v, o < lim b → w.cell? ⟨b, o, none⟩ = some v → w'.cell? ⟨b, o, none⟩ = some v ∧ o < lim' b) ∧ ∀ b, rowSz w b ≤ rowSz w' b

theorem Ext.refl (w lim) : Ext w lim w lim := ⟨fun _ _ _ h hc => ⟨hc, h⟩, fun _ => Nat.le_refl _⟩

theorem RepV.mono {w lim w' lim' v a} (h : RepV w lim v a) (he : Ext w lim w' lim') : RepV w' lim' v a := by
  induction h with
  | val v h1 => exact .val v h1
  | nil g h4 => exact .nil g h4
  | emp b o s g h3 => exact .emp b o s g h3
  | sl b o n c l g vs hn hg h3 hc hl hr ih =>
    exact .sl b o n c l g vs hn hg h3 (fun i hi => (he.1 _ _ _ (hl i hi) (hc i hi)).1) (fun i hi => (he.1 _ _ _ (hl i hi) (hc i hi)).2) ih

theorem RepC.mono {w lim w' lim' μ μ' m m' v a} (h : RepC w lim μ m v a) (he : Ext w lim w' lim') (hμ : ∀ r, r < m → μ' r = μ r) (hm : m ≤ m') : RepC w' lim' μ' m' v a := by
  cases h with
  | v h => exact .v (h.mono he)
  | bs r n z c h hn hz => rw [← hμ r h]; exact .bs r n z c (Nat.lt_of_lt_of_le h hm) hn (by rw [hμ r h]; exact Nat.le_trans hz (he.2 _))

theorem RepR.mono {w lim w' lim' μ μ' m m' v a} (h : RepR w lim μ m v a) (he : Ext w lim w' lim') (hμ : ∀ r, r < m → μ' r = μ r) (hm : m ≤ m') : RepR w' lim' μ' m' v a := by
  cases h with
  | c h => exact .c (h.mono he hμ hm)
  | agg vs l hs hr h2 => exact .agg vs l hs (fun i hi => (hr i hi).mono he hμ hm) h2

theorem Rep.mono {w lim w' lim' μ μ' m m' v a} (h : Rep w lim μ m v a) (he : Ext w lim w' lim') (hμ : ∀ r, r < m → μ' r = μ r) (hm : m ≤ m') : Rep w' lim' μ' m' v a := by
  cases h with
  | any => exact .any _
  | und => exact .und
  | r h => exact .r (h.mono he hμ hm)
  | tup vs l hs hr => exact .tup vs l hs (fun i hi => (hr i hi).mono he hμ hm)
  | ptr r o h => rw [← hμ r h]; exact .ptr r o (Nat.lt_of_lt_of_le h hm)
  | ip b o l vs hc hl hr =>
    exact .ip b o l vs (fun i hi => (he.1 _ _ _ (hl i hi) (hc i hi)).1) (fun i hi => (he.1 _ _ _ (hl i hi) (hc i hi)).2) (fun i hi => (hr i hi).mono he)
  | ipx b o l vs hc hl hr =>
    exact .ipx b o l vs (fun i hi => (he.1 _ _ _ (hl i hi) (hc i hi)).1) (fun i hi => (he.1 _ _ _ (hl i hi) (hc i hi)).2) (fun i hi => (hr i hi).mono he)
  | fn f caps h =>
    have : (caps.map fun p => Value.pointer (some ⟨μ p.1, p.2, none⟩)) = caps.map fun p => Value.pointer (some ⟨μ' p.1, p.2, none⟩) :=
      List.map_congr_left fun p hp => by rw [hμ _ (h p hp)]
    rw [this]
    exact .fn f caps fun p hp => Nat.lt_of_lt_of_le (h p hp) hm

/-- A slice with another flag. -/
theorem RepV.flag {w lim v l n g} (h : RepV w lim v (.sl l n g)) (g' : Nat) (h1 : g' = 1 → g = 1) (h3 : g' = 3 → g = 3) (h4 : g' = 4 → g = 4) (h2 : g' = 2 → g = 1 ∨ g = 2) : RepV w lim v (.sl l n g') := by
  cases h with
  | nil g h => exact .nil g' (fun e => h (h4 e))
  | emp b o s g h3' => exact .emp b o s g' ⟨fun e => h3'.1 (h1 e), fun e => by rcases h2 e with h | h <;> simp [h] at h3', fun e => h3'.2.2 (h3 e)⟩
  | sl b o n c l g vs hn hg h3' hc hl hr => exact .sl b o n c l g' vs hn (fun e => hg (h1 e)) (fun e => h3' (h3 e)) hc hl hr

theorem RepV.cp1 {w lim v a} (h : RepV w lim v a) : RepV w lim v a.cp1 := by
  cases a with
  | sl l n g => exact h.flag _ (fun e => by split at e <;> first | omega | exact e) (fun e => by split at e <;> first | omega | exact e) (fun e => by split at e <;> first | omega | exact e) (fun e => by split at e <;> first | omega | (left; assumption) | (right; exact e))
  | _ => exact h
theorem RepV.norm1 {w lim v a} (h : RepV w lim v a) : RepV w lim v a.norm1 := by
  cases a with
  | sl l n g => exact h.flag 0 (fun e => by cases e) (fun e => by cases e) (fun e => by cases e) (fun e => by cases e)
  | _ => exact h
theorem RepV.own {w lim v a} (h : RepV w lim v a) : RepV w lim v a.own := by
  cases a with
  | sl l n g => exact h.flag _ (fun e => by split at e <;> first | omega | exact e) (fun e => by split at e <;> first | omega | exact e) (fun e => by split at e <;> first | omega | exact e) (fun e => by split at e <;> first | omega | (left; assumption) | (right; exact e))
  | _ => exact h
theorem RepV.zero {w lim v l n g} (h : RepV w lim v (.sl l n g)) : RepV w lim v (.sl l n 0) := h.norm1
theorem RepC.cp1 {w lim μ m v a} (h : RepC w lim μ m v a) : RepC w lim μ m v a.cp1 := by
  cases h with
  | v h => exact .v h.cp1
  | bs r n z c h hn hz => exact .bs r n z c h hn hz
theorem RepC.norm1 {w lim μ m v a} (h : RepC w lim μ m v a) : RepC w lim μ m v a.norm1 := by
  cases h with
  | v h => exact .v h.norm1
  | bs r n z c h hn hz => exact .bs r n z c h hn hz
theorem RepC.own {w lim μ m v a} (h : RepC w lim μ m v a) : RepC w lim μ m v a.own := by
  cases h with
  | v h => exact .v h.own
  | bs r n z c h hn hz => exact .bs r n z c h hn hz

theorem n2_cp1 (a : A) : n2 a.cp1 := by
  intro l n h
  cases a <;> simp [A.cp1] at h
  split at h <;> omega
theorem n2_norm1 (a : A) : n2 a.norm1 := by
  intro l n h
  cases a <;> simp [A.norm1] at h

theorem cp_cell (a : A) (h : ∀ l, a ≠ .agg l) : a.cp = a.cp1 := by
  cases a <;> first | rfl | exact absurd rfl (h _)
theorem norm_cell (a : A) (h : ∀ l, a ≠ .agg l) : a.norm = a.norm1 := by
  cases a <;> first | rfl | exact absurd rfl (h _)
theorem RepC.noagg {w lim μ m v a} (h : RepC w lim μ m v a) : ∀ l, a ≠ .agg l := by
  rintro l rfl
  cases h with
  | v h => cases h

theorem RepR.cp {w lim μ m v a} (h : RepR w lim μ m v a) : RepR w lim μ m v a.cp := by
  cases h with
  | c h => rw [cp_cell a h.noagg]; exact .c h.cp1
  | agg vs l hs hr h2 => exact .agg vs _ (by simpa using hs) (fun i hi => by simp only [List.getElem_map]; exact (hr i (by simpa using hi)).cp1) (fun i hi => by simp only [List.getElem_map]; exact n2_cp1 _)
theorem RepR.norm {w lim μ m v a} (h : RepR w lim μ m v a) : RepR w lim μ m v a.norm := by
  cases h with
  | c h => rw [norm_cell a h.noagg]; exact .c h.norm1
  | agg vs l hs hr h2 => exact .agg vs _ (by simpa using hs) (fun i hi => by simp only [List.getElem_map]; exact (hr i (by simpa using hi)).norm1) (fun i hi => by simp only [List.getElem_map]; exact n2_norm1 _)
theorem RepR.own {w lim μ m v a} (h : RepR w lim μ m v a) : RepR w lim μ m v a.own := by
  cases h with
  | c h => exact .c h.own
  | agg vs l hs hr h2 => exact .agg vs l hs hr h2

theorem Rep.cp {w lim μ m v a} (h : Rep w lim μ m v a) : Rep w lim μ m v a.cp := by
  cases h with
  | r h => exact .r h.cp
  | any => exact .any _
  | und => exact .und
  | tup vs l hs hr => exact .tup vs l hs hr
  | ptr r o h => exact .ptr r o h
  | ip b o l vs hc hl hr => exact .ip b o l vs hc hl hr
  | ipx b o l vs hc hl hr => exact .ipx b o l vs hc hl hr
  | fn f caps h => exact .fn f caps h
theorem Rep.norm {w lim μ m v a} (h : Rep w lim μ m v a) : Rep w lim μ m v a.norm := by
  cases h with
  | r h => exact .r h.norm
  | any => exact .any _
  | und => exact .und
  | tup vs l hs hr => exact .tup vs l hs hr
  | ptr r o h => exact .ptr r o h
  | ip b o l vs hc hl hr => exact .ip b o l vs hc hl hr
  | ipx b o l vs hc hl hr => exact .ipx b o l vs hc hl hr
  | fn f caps h => exact .fn f caps h
theorem Rep.own {w lim μ m v a} (h : Rep w lim μ m v a) : Rep w lim μ m v a.own := by
  cases h with
  | r h => exact .r h.own
  | any => exact .any _
  | und => exact .und
  | tup vs l hs hr => exact .tup vs l hs hr
  | ptr r o h => exact .ptr r o h
  | ip b o l vs hc hl hr => exact .ip b o l vs hc hl hr
  | ipx b o l vs hc hl hr => exact .ipx b o l vs hc hl hr
  | fn f caps h => exact .fn f caps h

theorem Rep.isC {w lim μ m v a} (h : Rep w lim μ m v a) (hv : a.isC = true) : RepC w lim μ m v a := by
  cases h with
  | r h => cases h with
    | c h => exact h
    | agg => simp [A.isC, A.isV] at hv
  | _ => simp [A.isC, A.isV] at hv
theorem RepC.isV {w lim μ m v a} (h : RepC w lim μ m v a) (hv : a.isV = true) : RepV w lim v a := by
  cases h with
  | v h => exact h
  | bs => simp [A.isV] at hv
theorem isC_of_isV {a : A} (h : a.isV = true) : a.isC = true := by cases a <;> first | exact h | rfl
theorem Rep.isV {w lim μ m v a} (h : Rep w lim μ m v a) (hv : a.isV = true) : RepV w lim v a := (h.isC (isC_of_isV hv)).isV hv
theorem Rep.isR {w lim μ m v a} (h : Rep w lim μ m v a) (hv : a.isR = true) : RepR w lim μ m v a := by
  cases h with
  | r h => exact h
  | _ => simp [A.isR, A.isC, A.isV] at hv
theorem Rep.val {w lim μ m v x} (h : Rep w lim μ m v (.val x)) : v = x ∧ x.oneCell' = true := by
  cases h with
  | r h => cases h with
    | c h => cases h with
      | v h => cases h with
        | val v h1 => exact ⟨rfl, h1⟩
theorem Rep.toSl {w lim μ m v l n g} (h : Rep w lim μ m v (.sl l n g)) : RepV w lim v (.sl l n g) := by
  cases h with
  | r h => cases h with
    | c h => cases h with
      | v h => exact h
theorem Rep.toBs {w lim μ m v r n z} (h : Rep w lim μ m v (.bs r n z)) : ∃ c, v = .slice (some ⟨μ r, 0, none⟩) n c ∧ n ≤ c ∧ r < m := by
  cases h with
  | r h => cases h with
    | c h => cases h with
      | v h => cases h
      | bs r n z c h hn hz => exact ⟨c, rfl, hn, h⟩
theorem Rep.toBsz {w lim μ m v r n z} (h : Rep w lim μ m v (.bs r n z)) : ∃ c, v = .slice (some ⟨μ r, 0, none⟩) n c ∧ n ≤ c ∧ r < m ∧ c * z ≤ rowSz w (μ r) := by
  cases h with
  | r h => cases h with
    | c h => cases h with
      | v h => cases h
      | bs r n z c h hn hz => exact ⟨c, rfl, hn, h, hz⟩
theorem Rep.toAgg {w lim μ m v l} (h : Rep w lim μ m v (.agg l)) : ∃ vs : Array Value, v = .agg vs ∧ vs.size = l.length ∧ (∀ i (h : i < l.length), RepC w lim μ m (vs.getD i undef) l[i]) ∧ (∀ i (h : i < l.length), n2 l[i]) := by
  cases h with
  | r h => cases h with
    | c h => cases h with
      | v h => cases h
    | agg vs l hs hr h2 => exact ⟨vs, rfl, hs, hr, h2⟩
theorem Rep.toPtr {w lim μ m v r o} (h : Rep w lim μ m v (.ptr r o)) : v = .pointer (some ⟨μ r, o, none⟩) ∧ r < m := by
  cases h with
  | r h => cases h with
    | c h => cases h with
      | v h => cases h
  | ptr _ _ h => exact ⟨rfl, h⟩
theorem Rep.toIp {w lim μ m v l} (h : Rep w lim μ m v (.ip l)) : ∃ (b o : Nat) (vs : Nat → Value), v = .pointer (some ⟨b, o, none⟩) ∧ (∀ i, i < l.length → w.cell? ⟨b, o + i, none⟩ = some (vs i)) ∧ (∀ i, i < l.length → o + i < lim b) ∧ (∀ i (h : i < l.length), RepV w lim (vs i) l[i]) := by
  cases h with
  | r h => cases h with
    | c h => cases h with
      | v h => cases h
  | ip b o l vs hc hl hr => exact ⟨b, o, vs, rfl, hc, hl, hr⟩
theorem Rep.toIpx {w lim μ m v b o l} (h : Rep w lim μ m v (.ipx b o l)) : v = .pointer (some ⟨b, o, none⟩) ∧ Rep w lim μ m v (.ip l) := by
  cases h with
  | r h => cases h with
    | c h => cases h with
      | v h => cases h
  | ipx b o l vs hc hl hr => exact ⟨rfl, .ip b o l vs hc hl hr⟩
theorem Rep.toFn {w lim μ m v f caps} (h : Rep w lim μ m v (.fn f caps)) : v = .func (.func f) #[] (caps.map fun p => Value.pointer (some ⟨μ p.1, p.2, none⟩)).toArray ∧ ∀ p ∈ caps, p.1 < m := by
  cases h with
  | r h => cases h with
    | c h => cases h with
      | v h => cases h
  | fn _ _ h => exact ⟨rfl, h⟩
theorem Rep.toTup {w lim μ m v l} (h : Rep w lim μ m v (.tup l)) : ∃ vs : Array Value, v = .tuple vs ∧ vs.size = l.length ∧ ∀ i (h : i < l.length), RepR w lim μ m (vs.getD i undef) l[i] := by
  cases h with
  | r h => cases h with
    | c h => cases h with
      | v h => cases h
  | tup vs l hs hr => exact ⟨vs, rfl, hs, hr⟩

theorem cells_one {v : Value} (h1 : v.oneCell' = true) : v.cells = #[v] := by cases v <;> first | rfl | (simp [Value.oneCell'] at h1)

/-- The cells of a value: what is stored where it is boxed. -/
theorem Rep.cells {w lim μ m v a} (h : Rep w lim μ m v a) (hv : a.cells.all A.isC = true) :
    v.cells.size = a.cells.length ∧ ∀ i (h : i < a.cells.length), RepC w lim μ m (v.cells.getD i undef) a.cells[i] := by
  by_cases ha : ∃ l, a = .agg l
  · obtain ⟨l, rfl⟩ := ha
    obtain ⟨vs, rfl, hs, hr, h2⟩ := h.toAgg
    exact ⟨hs, hr⟩
  · have hc : a.cells = [a] := by cases a <;> first | rfl | exact absurd ⟨_, rfl⟩ ha
    rw [hc] at hv
    have hh := h.isC (by simpa using hv)
    rw [cells_one hh.one]
    simp only [hc]
    exact ⟨rfl, fun i hi => by simp at hi; subst hi; exact hh⟩

inductive Pl where
  | t (i : Nat)
  | b (r o : Nat)
  deriving DecidableEq

/-- A slice with a right to grow: its row is its own beyond its end. -/
def Flagged (w : World) (lim : Nat → Nat) (base b o n c : Nat) (l : List A) : Prop :=
  base ≤ b ∧ lim b = o + l.length ∧ 0 < l.length ∧ ∃ cs t sz, w.heap[b]? = some (.cells cs t (0, 0)) ∧ l.length = n * sz ∧ cs.size = o + c * sz

def FlagOk (w : World) (lim : Nat → Nat) (own : Nat → Pl) (base : Nat) (p : Pl) (v : Value) (a : A) : Prop :=
  ∀ l n b o c, a = .sl l n 2 → v = .slice (some ⟨b, o, none⟩) n c → n < c → own b = p ∧ Flagged w lim base b o n c l

theorem FlagOk.of_n2 {w lim own base p v a} (h : n2 a) : FlagOk w lim own base p v a := fun _ _ _ _ _ e => absurd e (h _ _)

structure BoxRep (w : World) (lim μ : Nat → Nat) (bx : Bx) : Prop where
  row : ∀ r (h : r < bx.length), ∃ cs t, w.heap[μ r]? = some (.cells cs t (0, 0)) ∧ bx[r].length ≤ cs.size ∧ ∀ o (ho : o < bx[r].length), RepC w lim μ bx.length (cs.getD o undef) bx[r][o]
  lim0 : ∀ r, r < bx.length → lim (μ r) = 0
  inj : ∀ r r', r < bx.length → r' < bx.length → μ r = μ r' → r = r'

/-- What was there is as it was, but for these boxes. -/
structure But (B : Nat) (μ : Nat → Nat) (nb : Nat) (w w' : World) : Prop where
  os : w'.os = w.os
  tape : w'.tape = w.tape
  output : w'.output = w.output
  size : w.heap.size ≤ w'.heap.size
  block : ∀ k, k < B → (∀ r, r < nb → μ r ≠ k) → w'.heap[k]? = w.heap[k]?
  rows : ∀ b, rowSz w b ≤ rowSz w' b

theorem But.refl (B μ nb w) : But B μ nb w w := ⟨rfl, rfl, rfl, Nat.le_refl _, fun _ _ _ => rfl, fun _ => Nat.le_refl _⟩
theorem But.trans {B μ nb a b c} (h : But B μ nb a b) (k : But B μ nb b c) : But B μ nb a c :=
  ⟨k.os.trans h.os, k.tape.trans h.tape, k.output.trans h.output, Nat.le_trans h.size k.size, fun i hi hr => (k.block i hi hr).trans (h.block i hi hr), fun b => Nat.le_trans (h.rows b) (k.rows b)⟩
theorem rows_below {w w' : World} (h : Below w.heap.size w w') (b : Nat) : rowSz w b ≤ rowSz w' b := by
  rcases Nat.lt_or_ge b w.heap.size with hb | hb
  · rw [rowSz_eq (h.block b hb)]; exact Nat.le_refl _
  · rw [rowSz_no hb]; exact Nat.zero_le _
theorem But.of_below {B μ nb w w'} (h0 : Below w.heap.size w w') (hB : B ≤ w.heap.size) : But B μ nb w w' :=
  have h := h0.mono hB
  ⟨h.os, h.tape, h.output, h.size, fun k hk _ => h.block k hk, rows_below h0⟩
theorem But.below {B μ w w'} (h : But B μ 0 w w') : Below B w w' := ⟨h.os, h.tape, h.output, h.size, fun k hk => h.block k hk fun r hr => absurd hr (Nat.not_lt_zero _)⟩

/-- The program's own variables that are read, and what they hold for good. -/
def globs : List (Nat × Array Value) := []
/-- They hold it, and are no boxes. -/
def GlobOk (w : World) (μ : Nat → Nat) (nb : Nat) : Prop := ∀ p ∈ globs, (∃ t z, w.heap[p.1]? = some (.cells p.2 t z)) ∧ ∀ r, r < nb → μ r ≠ p.1

/-- The frame of one call: where its blocks begin, the world and the boxes at its start. -/
structure Fr where
  w0 : World
  lim0 : Nat → Nat
  μ0 : Nat → Nat
  nb : Nat
  nt : Nat
  gl : GlobOk w0 μ0 nb

structure InvG (F : Fr) (lim μ : Nat → Nat) (own : Nat → Pl) (s : Env × Bx) (a : Act) (w : World) : Prop where
  defers : a.defers = []
  size : a.tmps.size = F.nt
  nb : F.nb ≤ s.2.length
  mu0 : ∀ r, r < F.nb → μ r = F.μ0 r
  mub : ∀ r, F.nb ≤ r → r < s.2.length → F.w0.heap.size ≤ μ r
  env : ∀ i, Rep w lim μ s.2.length (a.tmps.getD i undef) (s.1 i)
  box : BoxRep w lim μ s.2
  flt : ∀ i, FlagOk w lim own F.w0.heap.size (.t i) (a.tmps.getD i undef) (s.1 i)
  flb : ∀ r o cs t, F.nb ≤ r → (h : r < s.2.length) → w.heap[μ r]? = some (.cells cs t (0, 0)) → (ho : o < s.2[r].length) → FlagOk w lim own F.w0.heap.size (.b r o) (cs.getD o undef) s.2[r][o]
  below : But F.w0.heap.size F.μ0 F.nb F.w0 w
  lim0 : ∀ b, b < F.w0.heap.size → lim b = F.lim0 b

theorem InvG.glob {F : Fr} {lim μ : Nat → Nat} {own : Nat → Pl} {s : Env × Bx} {a : Act} {w : World} (h : InvG F lim μ own s a w) : GlobOk w μ s.2.length := by
  intro p hp
  obtain ⟨⟨t, z, h1⟩, h2⟩ := F.gl p hp
  have hlt : p.1 < F.w0.heap.size := by
    rcases Nat.lt_or_ge p.1 F.w0.heap.size with h' | h'
    · exact h'
    · rw [Array.getElem?_eq_none h'] at h1; cases h1
  refine ⟨⟨t, z, (h.below.block p.1 hlt h2).trans h1⟩, fun r hr => ?_⟩
  by_cases hn : r < F.nb
  · rw [h.mu0 r hn]; exact h2 r hn
  · have := h.mub r (by omega) hr
    omega
theorem GlobOk.none {w : World} {μ : Nat → Nat} {n : Nat} (h : GlobOk w μ n) (μ' : Nat → Nat) : GlobOk w μ' 0 := fun p hp => ⟨(h p hp).1, fun r hr => absurd hr (Nat.not_lt_zero _)⟩
def Inv (F : Fr) (s : Env × Bx) (a : Act) (w : World) : Prop := ∃ lim μ own, InvG F lim μ own s a w

theorem cell?_of_heap {w w' : World} {b : Nat} (h : w'.heap[b]? = w.heap[b]?) (o : Nat) : w'.cell? ⟨b, o, none⟩ = w.cell? ⟨b, o, none⟩ := by
  unfold World.cell?; rw [h]

theorem lt_of_cell {w : World} {b o : Nat} {v : Value} (h : w.cell? ⟨b, o, none⟩ = some v) : b < w.heap.size := by
  unfold World.cell? at h
  rcases Nat.lt_or_ge b w.heap.size with h' | h'
  · exact h'
  · simp [Array.getElem?_eq_none h'] at h

theorem lt_of_heap {w : World} {b : Nat} {x : Obj} (h : w.heap[b]? = some x) : b < w.heap.size := by
  rcases Nat.lt_or_ge b w.heap.size with h' | h'
  · exact h'
  · simp [Array.getElem?_eq_none h'] at h

theorem Ext.of_below {w w' : World} {lim lim' : Nat → Nat} (h : Below w.heap.size w w') (hl : ∀ b, b < w.heap.size → lim' b = lim b) : Ext w lim w' lim' := by
  refine ⟨?_, rows_below h⟩
  intro b o v ho hc
  have hb := lt_of_cell hc
  exact ⟨(cell?_of_heap (h.block b hb) o).trans hc, by rw [hl b hb]; exact ho⟩

theorem Ext.trans {w lim w1 lim1 w2 lim2} (h : Ext w lim w1 lim1) (k : Ext w1 lim1 w2 lim2) : Ext w lim w2 lim2 := by
  refine ⟨?_, fun b => Nat.le_trans (h.2 b) (k.2 b)⟩
  intro b o v ho hc
  obtain ⟨h1, h2⟩ := h.1 b o v ho hc
  exact k.1 b o v h2 h1

theorem BoxRep.lt {w lim μ bx} (h : BoxRep w lim μ bx) {r : Nat} (hr : r < bx.length) : μ r < w.heap.size := by
  obtain ⟨cs, t, hh, _⟩ := h.row r hr
  exact lt_of_heap hh

theorem BoxRep.mono {w lim μ bx w' lim'} (h : BoxRep w lim μ bx) (hb : Below w.heap.size w w') (hl : ∀ b, b < w.heap.size → lim' b = lim b) : BoxRep w' lim' μ bx := by
  refine ⟨fun r hr => ?_, fun r hr => ?_, h.inj⟩
  · obtain ⟨cs, t, hh, hs, hc⟩ := h.row r hr
    exact ⟨cs, t, (hb.block _ (lt_of_heap hh)).trans hh, hs, fun o ho => (hc o ho).mono (.of_below hb hl) (fun _ _ => rfl) (Nat.le_refl _)⟩
  · rw [hl _ (h.lt hr)]; exact h.lim0 r hr

theorem FlagOk.mono {w lim own base p v a w' lim'} (h : FlagOk w lim own base p v a) (hb : Below w.heap.size w w') (hl : ∀ b, b < w.heap.size → lim' b = lim b) : FlagOk w' lim' own base p v a := by
  intro l n b o c ha hv hc
  obtain ⟨h1, h2, h3, h4, cs, t, sz, h5, h6, h7⟩ := h l n b o c ha hv hc
  have := lt_of_heap h5
  exact ⟨h1, h2, by rw [hl b this]; exact h3, h4, cs, t, sz, (hb.block _ this).trans h5, h6, h7⟩

/-- New blocks, and what a call does: what was there is as it was. -/
theorem InvG.step {F lim μ own s a w w' lim'} (h : InvG F lim μ own s a w) (hb : Below w.heap.size w w') (hl : ∀ b, b < w.heap.size → lim' b = lim b) : InvG F lim' μ own s a w' := by
  have hs := h.below.size
  refine ⟨h.defers, h.size, h.nb, h.mu0, h.mub, fun i => (h.env i).mono (.of_below hb hl) (fun _ _ => rfl) (Nat.le_refl _), h.box.mono hb hl, fun i => (h.flt i).mono hb hl, ?_, h.below.trans (.of_below hb hs), fun b hbb => (hl b (by omega)).trans (h.lim0 b hbb)⟩
  intro r o cs t hr hr' hh ho
  refine (h.flb r o cs t hr hr' ?_ ho).mono hb hl
  rw [← hb.block _ (h.box.lt hr')]; exact hh

/-- No place holds a right to grow at this block. -/
def FreeB (F : Fr) (μ : Nat → Nat) (s : Env × Bx) (a : Act) (w : World) (b : Nat) : Prop :=
  (∀ i l n o c, s.1 i = .sl l n 2 → a.tmps.getD i undef = .slice (some ⟨b, o, none⟩) n c → ¬ n < c) ∧
  (∀ r o cs t l n o' c, F.nb ≤ r → (h : r < s.2.length) → w.heap[μ r]? = some (.cells cs t (0, 0)) → (ho : o < s.2[r].length) → s.2[r][o] = .sl l n 2 → cs.getD o undef = .slice (some ⟨b, o', none⟩) n c → ¬ n < c)

theorem freeB_new {F lim μ own s a w} (h : InvG F lim μ own s a w) {b : Nat} (hb : w.heap.size ≤ b) : FreeB F μ s a w b := by
  refine ⟨fun i l n o c h1 h2 h3 => ?_, fun r o cs t l n o' c hr hr' hh ho h1 h2 h3 => ?_⟩
  · obtain ⟨_, _, _, _, cs, t, sz, h5, _⟩ := h.flt i l n b o c h1 h2 h3
    have := lt_of_heap h5; omega
  · obtain ⟨_, _, _, _, cs, t, sz, h5, _⟩ := h.flb r o cs t hr hr' hh ho l n b o' c h1 h2 h3
    have := lt_of_heap h5; omega

def ownAt (own : Nat → Pl) (b : Nat) (p : Pl) : Nat → Pl := fun x => if x = b then p else own x

theorem InvG.reown {F lim μ own s a w} (h : InvG F lim μ own s a w) {b : Nat} (hf : FreeB F μ s a w b) (p : Pl) : InvG F lim μ (ownAt own b p) s a w := by
  refine { h with flt := ?_, flb := ?_ }
  · intro i l n b' o c h1 h2 h3
    have := h.flt i l n b' o c h1 h2 h3
    refine ⟨?_, this.2⟩
    unfold ownAt
    rw [if_neg]
    · exact this.1
    · rintro rfl; exact hf.1 i l n o c h1 h2 h3
  · intro r o cs t hr hr' hh ho l n b' o' c h1 h2 h3
    have := h.flb r o cs t hr hr' hh ho l n b' o' c h1 h2 h3
    refine ⟨?_, this.2⟩
    unfold ownAt
    rw [if_neg]
    · exact this.1
    · rintro rfl; exact hf.2 r o cs t l n o' c hr hr' hh ho h1 h2 h3

theorem getD_set (ts : Array Value) (d : Nat) (v : Value) (i : Nat) (hd : d < ts.size) : (ts.setIfInBounds d v).getD i undef = if i = d then v else ts.getD i undef := by
  simp only [Array.getD_eq_getD_getElem?, Array.getElem?_setIfInBounds]
  by_cases h : d = i
  · subst h; simp [hd]
  · have : ¬ i = d := fun e => h e.symm
    simp [h, this]

/-- A value without a right to grow is put into a slot. -/
theorem InvG.setT {F lim μ own s a w d v x} (h : InvG F lim μ own s a w) (hd : d < F.nt) (hr : Rep w lim μ s.2.length v x)
    (hf : FlagOk w lim own F.w0.heap.size (.t d) v x) : InvG F lim μ own (put d x s.1, s.2) (a.put (some d) v) w := by
  have hg : ∀ i, (a.put (some d) v).tmps.getD i undef = if i = d then v else a.tmps.getD i undef := fun i => getD_set _ _ _ _ (by rw [h.size]; exact hd)
  refine { h with size := ?_, env := ?_, flt := ?_, defers := h.defers }
  · show (a.tmps.setIfInBounds d v).size = F.nt
    simpa using h.size
  · intro i
    rw [hg i]
    simp only [put_at]
    split
    · exact hr
    · exact h.env i
  · intro i
    rw [hg i]
    simp only [put_at]
    split
    · rename_i e; subst e; exact hf
    · exact h.flt i

/-- A value, with whatever right. -/
theorem InvG.setF {F lim μ own s a w d v x} (h : InvG F lim μ own s a w) (hd : d < F.nt) (hr : Rep w lim μ s.2.length v x)
    (hf : ∀ l n b o c, x = .sl l n 2 → v = .slice (some ⟨b, o, none⟩) n c → n < c → FreeB F μ s a w b ∧ Flagged w lim F.w0.heap.size b o n c l) :
    Inv F (put d x s.1, s.2) (a.put (some d) v) w := by
  by_cases hx : ∃ l n b o c, x = .sl l n 2 ∧ v = .slice (some ⟨b, o, none⟩) n c ∧ n < c
  · obtain ⟨l, n, b, o, c, rfl, rfl, hc⟩ := hx
    obtain ⟨hfree, hfl⟩ := hf l n b o c rfl rfl hc
    refine ⟨lim, μ, _, (h.reown hfree (.t d)).setT hd hr ?_⟩
    intro l' n' b' o' c' e1 e2 _
    cases e1
    cases e2
    exact ⟨by simp [ownAt], hfl⟩
  · exact ⟨lim, μ, own, h.setT hd hr fun l n b o c e1 e2 e3 => absurd ⟨l, n, b, o, c, e1, e2, e3⟩ hx⟩

theorem InvG.setO {F lim μ own s a w d v x} (h : InvG F lim μ own s a w) (hd : ∀ k, d = some k → k < F.nt) (hr : Rep w lim μ s.2.length v x)
    (hf : ∀ l n b o c, x = .sl l n 2 → v = .slice (some ⟨b, o, none⟩) n c → n < c → FreeB F μ s a w b ∧ Flagged w lim F.w0.heap.size b o n c l) :
    Inv F (putO d x s.1, s.2) (a.put d v) w := by
  cases d with
  | none => exact ⟨lim, μ, own, h⟩
  | some k => exact h.setF (hd k rfl) hr hf

/-- The holder of a right loses it. -/
theorem InvG.take {F lim μ own s a w} (h : InvG F lim μ own s a w) (x : O) :
    InvG F lim μ own (puts (takeU x s.1) s.1, s.2) a w ∧
    (∀ i l n b o c, x = .t i → s.1 i = .sl l n 2 → a.tmps.getD i undef = .slice (some ⟨b, o, none⟩) n c → n < c → FreeB F μ (puts (takeU x s.1) s.1, s.2) a w b ∧ Flagged w lim F.w0.heap.size b o n c l) := by
  cases x with
  | c v => exact ⟨h, fun _ _ _ _ _ _ e => by cases e⟩
  | f k => exact ⟨h, fun _ _ _ _ _ _ e => by cases e⟩
  | t j =>
    by_cases hj : ∃ l n, s.1 j = .sl l n 2
    · obtain ⟨l0, n0, e0⟩ := hj
      have et : takeU (.t j) s.1 = [(j, .sl l0 n0 0)] := by simp [takeU, e0]
      rw [et]
      have hat : ∀ i, puts [(j, A.sl l0 n0 0)] s.1 i = if i = j then .sl l0 n0 0 else s.1 i := fun i => rfl
      have hI : InvG F lim μ own (puts [(j, .sl l0 n0 0)] s.1, s.2) a w := by
        refine { h with env := ?_, flt := ?_ }
        · intro i
          simp only [hat]
          split
          · rename_i e; subst e
            have := (h.env i)
            rw [e0] at this
            exact .rv this.toSl.zero
          · exact h.env i
        · intro i
          simp only [hat]
          split
          · exact .of_n2 fun l n e => by cases e
          · exact h.flt i
      refine ⟨hI, ?_⟩
      intro i l n b o c ei e1 e2 e3
      cases ei
      obtain ⟨hown, hfl⟩ := h.flt j l n b o c e1 e2 e3
      refine ⟨⟨?_, ?_⟩, hfl⟩
      · intro i' l' n' o' c' f1 f2 f3
        simp only [hat] at f1
        split at f1
        · cases f1
        · rename_i hne
          have := (h.flt i' l' n' b o' c' f1 f2 f3).1
          rw [hown] at this
          cases this
          exact hne rfl
      · intro r q cs t l' n' o' c' hr hr' hh hq f1 f2 f3
        have := (h.flb r q cs t hr hr' hh hq l' n' b o' c' f1 f2 f3).1
        rw [hown] at this
        cases this
    · have et : takeU (.t j) s.1 = [] := by
        unfold takeU
        cases e : s.1 j with
        | sl l n g =>
          simp only [e]
          rw [if_neg]
          intro eg; subst eg
          exact hj ⟨l, n, e⟩
        | _ => simp only [e]
      rw [et]
      exact ⟨h, fun i l n b o c ei e1 => by cases ei; exact absurd ⟨l, n, e1⟩ hj⟩

theorem rep_undef {w lim μ m} : Rep w lim μ m undef .und := .und

theorem rep_cst1 {w lim} (v : Value) (h : v.oneCell' = true) : RepV w lim v (cst1 v) := by
  unfold cst1
  split
  · exact .nil 1 (by omega)
  · exact .val _ h

theorem n2_cst1 (v : Value) : n2 (cst1 v) := by
  intro l n h
  unfold cst1 at h
  split at h <;> cases h

def okConst : Value → Bool
  | .agg cs => cs.toList.all fun v => v.oneCell'
  | v => v.oneCell'

theorem rep_cst {w lim μ m} (v : Value) (h : okConst v = true) : Rep w lim μ m v (cst v) := by
  unfold cst
  split
  · rename_i cs
    simp only [okConst, List.all_eq_true] at h
    refine .r (.agg cs _ (by simp) (fun i hi => .v ?_) (fun i hi => ?_))
    · simp only [List.getElem_map]
      have hi' : i < cs.size := by simpa using hi
      have : cs.getD i undef = cs.toList[i]'(by simpa using hi') := by simp [Array.getD, hi']
      rw [this]
      exact rep_cst1 _ (h _ (List.getElem_mem _))
    · simp only [List.getElem_map]; exact n2_cst1 _
  · rename_i hne
    have : v.oneCell' = true := by
      unfold okConst at h
      split at h
      · rename_i cs; exact absurd rfl (hne cs)
      · exact h
    exact .rv (rep_cst1 v this)

/-- An operand. -/
def okO (nt : Nat) : O → Bool
  | .t i => decide (i < nt)
  | .c v => okConst v
  | .f _ => true

def toO : Operand → Option O
  | .tmp t => some (.t t)
  | .const v => some (.c v)
  | .func f => some (.f f)
  | .global _ => none

theorem eval_rep {F lim μ own s a w} (h : InvG F lim μ own s a w) {y : Operand} {x : O} (hx : toO y = some x) (hk : okO F.nt x = true) :
    Rep w lim μ s.2.length (a.eval y) (x.ev s.1) := by
  cases y with
  | tmp t => cases hx; exact h.env t
  | const v => cases hx; exact rep_cst v hk
  | global g => cases hx
  | func f => cases hx; exact .fn f [] (by simp)
end Go.Proofs.YtkohggddaheefaaEv
/- From the program's operations to the compact ones; the operations that leave memory alone. -/
namespace Go.Proofs.YtkohggddaheefaaEv
open Go Go.RowKit

def zeroOf (P : Program) (t : TypeId) : Option (List Value) :=
  match P.info? t with
  | some i => match i.zero with
    | some z => if z.cells.toList.length = i.size ∧ z.cells.toList.all (fun v => v.oneCell') = true then some z.cells.toList else none
    | none => none
  | none => none

def sizesOf (P : Program) : List Field → Option (List (Nat × Nat))
  | [] => some []
  | f :: r => match P.info? f.type, sizesOf P r with
    | some i, some t => some ((f.offset, i.size) :: t)
    | _, _ => none

def partsOf (place : Nat → Option (Nat × Nat)) : List (Nat × Operand) → Option (List (Nat × Nat × O))
  | [] => some []
  | (i, x) :: r => match place i, toO x, partsOf place r with
    | some (off, size), some y, some t => some ((off, size, y) :: t)
    | _, _, _ => none

def oList : List Operand → Option (List O)
  | [] => some []
  | x :: r => match toO x, oList r with
    | some y, some t => some (y :: t)
    | _, _ => none

def oOpt : Option Operand → Option (Option O)
  | none => some none
  | some x => (toO x).map some

def isAggD : TypeDesc → Bool
  | .struct _ => true
  | .array _ _ => true
  | _ => false

def intFields (P : Program) : List Field → Nat → Bool
  | [], _ => true
  | f :: r, k => f.name != "_" && f.offset == k && (match P.underlying f.type with | some (.int _) => true | _ => false) && intFields P r (k + 1)

def sameO : Operand → Operand → Bool
  | .tmp i, .tmp j => i == j
  | .const (.int .i64 a), .const (.int .i64 b) => a == b
  | _, _ => false

def isTk (tk : List Nat) : Option Nat → Bool
  | some d => tk.contains d
  | none => false

/-- Hints: 'tk': the slots whose load or move hands the right to grow on; 'mu': the slots whose slices are made to be written; 'kp': the functions whose answers keep what is known of their room; 'im': the functions that may write boxes. -/
structure Hn where
  tk : List Nat
  mu : List Nat
  kp : List Nat
  im : List Nat
  deriving Inhabited

/-- How many slots a function has, told by a hint. -/
def ntOf (l : List Nat) : Nat := (l.find? fun k => decide (2000000 ≤ k)).getD 2000000 - 2000000

def refTy (P : Program) (t : TypeId) : Bool :=
  match P.underlying t with
  | some (.pointer _) => true
  | some (.func _ _ _) => true
  | _ => false

def nilO : Operand → Bool
  | .const (.slice none 0 0) => true
  | _ => false

def compI (P : Program) (hn : Hn) (dst : Option Nat) (op : Op) : Option I :=
  match op with
  | .move x => (toO x).map fun y => .mv y (isTk hn.tk dst)
  | .assign x => (toO x).map fun y => .mv y true
  | .pick c a b => match toO c, toO a, toO b with
    | some c, some a, some b => some (.pick c a b)
    | _, _, _ => none
  | .alloc t => (zeroOf P t).map .alloc
  | .box _ x => (toO x).map .box
  | .build t ps => match P.underlying t, zeroOf P t with
    | some (.struct fs), some z => match sizesOf P fs.toList with
      | some pl => (partsOf (fun i => pl[i]?) ps.toList).map (.build z)
      | none => none
    | _, _ => none
  | .buildSlice t len ps => match P.underlying t with
    | some (.slice e) => match P.info? e, zeroOf P e with
      | some i, some z =>
        if len * i.size ≤ 16777216 ∧ 0 < i.size then
          (partsOf (fun k => some (k * i.size, i.size)) ps.toList).map fun ps' => .bsl i.size len ((List.range (len * i.size)).map fun j => z.getD (j % z.length) undef) ps' (isTk hn.mu dst)
        else none
      | _, _ => none
    | _ => none
  | .load t x => match P.underlying t, P.info? t, toO x with
    | some d, some i, some y => some (.load i.size (isAggD d) y (isTk hn.tk dst))
    | _, _, _ => none
  | .store t p x => match P.info? t, toO p, toO x with
    | some i, some q, some y => some (.store i.size q y)
    | _, _, _ => none
  | .binOp op t x y _ => match toO x, toO y with
    | some a, some b => match op, P.underlying t, P.info? t with
      | .eql, some (.struct fs), some i => if P.stoodInHeld t = false ∧ intFields P fs.toList 0 = true ∧ fs.size = i.size then some (.eqs false i.size a b) else none
      | .neq, some (.struct fs), some i => if P.stoodInHeld t = false ∧ intFields P fs.toList 0 = true ∧ fs.size = i.size then some (.eqs true i.size a b) else none
      | .eql, some .bool, _ => some (.eqb false a b)
      | .neq, some .bool, _ => some (.eqb true a b)
      | .eql, some (.int _), _ => some (.bin .eql a b)
      | .neq, some (.int _), _ => some (.bin .neq a b)
      | .eql, some .string, _ => some (.bin .eql a b)
      | .neq, some .string, _ => some (.bin .neq a b)
      | .eql, some (.slice _), _ => if nilO y = true then some (.isnil false a) else none
      | .neq, some (.slice _), _ => if nilO y = true then some (.isnil true a) else none
      | .eql, _, _ => none
      | .neq, _, _ => none
      | op, _, _ => some (.bin op a b)
    | _, _ => none
  | .unOp op _ x => (toO x).map (.un op)
  | .convert s d x => match P.underlying s, P.underlying d, toO x with
    | some (.int _), some (.int k), some y => some (.conv k y)
    | some (.slice e), some .string, some y => match P.underlying e with
      | some (.int .u8) => some (.bstr y)
      | _ => none
    | _, _, _ => none
  | .call { callee := .builtin .len, args := xs, argTypes := ts } => match xs.toList, ts.toList with
    | [x], [t] => match P.underlying t, toO x with
      | some (.slice _), some y => some (.len y)
      | some .string, some y => some (.slen y)
      | _, _ => none
    | _, _ => none
  | .call { callee := .builtin .append, args := xs, argTypes := ts } => match xs.toList, ts.toList with
    | [x, y], [t, u] => match P.underlying t, P.underlying u, toO x, toO y with
      | some (.slice e), some (.slice _), some x, some y => match P.info? e, zeroOf P e with
        | some i, some _ => if 0 < i.size ∧ 0 < i.bytes then some (.app i.size i.bytes x y (isTk hn.mu dst)) else none
        | _, _ => none
      | _, _, _, _ => none
    | _, _ => none
  | .call { callee := .builtin .max, args := xs, .. } => (oList xs.toList).map (.mxn true)
  | .call { callee := .builtin .min, args := xs, .. } => (oList xs.toList).map (.mxn false)
  | .call { callee := .value (.func f), args := xs, argTypes := ts } => if (hn.im.contains f || ts.toList.any (refTy P)) = true then (if hn.kp.contains (3000000 + f) = true then (oList xs.toList).map (.calln f) else (oList xs.toList).map (.calli f)) else if hn.kp.contains (1000000 + f) = true then (oList xs.toList).map (.callz (ntOf hn.kp) f) else (oList xs.toList).map fun ys => .call f ys (hn.kp.contains f)
  | .call { callee := .value (.tmp t), args := xs, .. } => (oList xs.toList).map (.callv (.t t))
  | .slice t x lo hi mx => match toO x, oOpt lo, oOpt hi, oOpt mx with
    | some x, some lo, some hi, some mx => match P.underlying t with
      | some (.slice e) => if hi.isNone ∧ mx.isSome then none else (P.info? e).map fun i => .slc i.size x lo hi mx
      | some .string => if mx.isNone then some (.sslc x lo hi) else none
      | _ => none
    | _, _, _, _ => none
  | .fieldAddr t x k => match P.underlying t, toO x with
    | some (.struct fs), some y => match fs[k]? with
      | some f => match P.info? f.type with
        | some i => if i.size = 0 then none else some (.fa f.offset y)
        | none => none
      | none => none
    | _, _ => none
  | .indexAddr t x i => match P.underlying t, toO x, toO i with
    | some (.slice e), some x, some i => (P.info? e).map fun n => .ia n.size x i
    | _, _, _ => none
  | .index t x i => match P.underlying t, toO x, toO i with
    | some .string, some x, some i => some (.ix x i)
    | _, _, _ => none
  | .extract x k => (toO x).map fun y => .ext y k
  | .makeFunc (.func f) fs cs => if fs.toList.isEmpty then (oList cs.toList).map (.mkf f) else none
  | .makeSlice t l c => match P.underlying t, toO l with
    | some (.slice e), some y => match P.info? e, zeroOf P e with
      | some i, some z => if sameO l c = true ∧ 0 < i.size ∧ 0 < i.bytes then some (.mksl i.size i.bytes z y (isTk hn.mu dst)) else none
      | _, _ => none
    | _, _ => none
  | _ => none

def I.os : I → List O
  | .mv x _ => [x]
  | .pick c a b => [c, a, b]
  | .alloc _ => []
  | .box x => [x]
  | .build _ ps => ps.map (·.2.2)
  | .bsl _ _ _ ps _ => ps.map (·.2.2)
  | .load _ _ x _ => [x]
  | .store _ p x => [p, x]
  | .bin _ x y => [x, y]
  | .un _ x => [x]
  | .conv _ x => [x]
  | .bstr x => [x]
  | .eqs _ _ x y => [x, y]
  | .eqb _ x y => [x, y]
  | .len x => [x]
  | .slen x => [x]
  | .mxn _ xs => xs
  | .app _ _ x y _ => [x, y]
  | .isnil _ x => [x]
  | .slc _ x lo hi mx => x :: (lo.toList ++ hi.toList ++ mx.toList)
  | .sslc x lo hi => x :: (lo.toList ++ hi.toList)
  | .fa _ p => [p]
  | .ia _ x i => [x, i]
  | .ix x i => [x, i]
  | .ext x _ => [x]
  | .mkf _ caps => caps
  | .mksl _ _ _ n _ => [n]
  | .call _ xs _ => xs
  | .calli _ xs => xs
  | .calln _ xs => xs
  | .callz nt _ xs => xs ++ (List.range nt).map O.t
  | .callv x xs => x :: xs

theorem wp_value {P : Program} {o : Oper} {a : Act} {w w' : World} {v : Value} {next Q} (h : (execOp a.eval o).run P w = .ok (.value v) w') (hn : next (a.put o.dst v) w') : o.wp P a w next Q := by
  unfold Oper.wp; rw [h]; exact hn
theorem wp_skipR {P : Program} {o : Oper} {a : Act} {w w' : World} {next Q} (h : (execOp a.eval o).run P w = .ok .skip w') (hn : next (a.put o.dst undef) w') : o.wp P a w next Q := by
  unfold Oper.wp; rw [h]; exact hn

variable {P : Program} {F : Fr} {lim μ : Nat → Nat} {own : Nat → Pl} {s : Env × Bx} {a : Act} {w : World} {o : Oper} {next : Act → World → Prop} {Q : Exit → Act → World → Prop}

/-- An operation that leaves memory alone and gives a value without a right. -/
theorem pure_sound (h : InvG F lim μ own s a w) (hd : ∀ k, o.dst = some k → k < F.nt) {v : Value} {x : A} (hrun : (execOp a.eval o).run P w = .ok (.value v) w)
    (hr : Rep w lim μ s.2.length v x) (h2 : n2 x) (hn : ∀ a' w', Inv F (putO o.dst x s.1, s.2) a' w' → next a' w') : o.wp P a w next Q :=
  wp_value hrun (hn _ _ (h.setO hd hr fun l n b o c e => absurd e (h2 _ _)))

theorem n2_cp (a : A) : n2 a.cp := by
  intro l n h
  cases a <;> simp [A.cp, A.cp1] at h
  split at h <;> omega
theorem n2_norm (a : A) : n2 a.norm := by
  intro l n h
  cases a <;> simp [A.norm, A.norm1] at h
theorem n2_val (v : Value) : n2 (.val v) := fun _ _ h => by cases h

theorem rep_int {w lim μ m} (k : IntKind) (n : Int) : Rep w lim μ m (.int k n) (.val (.int k n)) := .rv (.val _ rfl)
theorem rep_bool {w lim μ m} (b : Bool) : Rep w lim μ m (.bool b) (.val (.bool b)) := .rv (.val _ rfl)
theorem rep_str {w lim μ m} (b : ByteArray) : Rep w lim μ m (.string b) (.val (.string b)) := .rv (.val _ rfl)

/-- A move with its right. -/
theorem own_flag {x : A} {l n} (h : x.own = .sl l n 2) : x = .sl l n 2 ∨ x = .sl l n 1 := by
  cases x <;> simp [A.own] at h
  rename_i l' n' g
  obtain ⟨rfl, rfl, hg⟩ := h
  by_cases e : g = 1
  · subst e; exact .inr rfl
  · have := hg e; subst this; exact .inl rfl

theorem full_of_one {w lim μ m b o n c l} (h : Rep w lim μ m (.slice (some ⟨b, o, none⟩) n c) (.sl l n 1)) : c = n := by
  have := h.toSl
  cases this with
  | sl _ _ _ _ _ _ vs hn hg h3 => exact hg rfl

theorem mv_sound (h : InvG F lim μ own s a w) (hd : ∀ k, o.dst = some k → k < F.nt) {y : Operand} {x : O} (hx : toO y = some x) (hk : okO F.nt x = true)
    (hrun : (execOp a.eval o).run P w = .ok (.value (a.eval y)) w)
    (hn : ∀ a' w', Inv F (putO o.dst (x.ev s.1).own (puts (takeU x s.1) s.1), s.2) a' w' → next a' w') : o.wp P a w next Q := by
  have hr := eval_rep h hx hk
  obtain ⟨hI, hF⟩ := h.take x
  refine wp_value hrun (hn _ _ (hI.setO hd hr.own ?_))
  intro l n b q c e1 e2 e3
  rcases own_flag e1 with e | e
  · cases x with
    | t i =>
      cases y <;> simp [toO] at hx
      subst hx
      exact hF _ l n b q c rfl e e2 e3
    | c v =>
      exfalso
      simp only [O.ev, cst] at e
      split at e
      · cases e
      · exact n2_cst1 _ _ _ e
    | f k => cases e
  · rw [e] at hr
    rw [e2] at hr
    have := full_of_one hr
    omega

section
attribute [local simp] execOp Result.andThen
theorem run_move {y : Operand} (ho : o.op = .move y) : (execOp a.eval o).run P w = .ok (.value (a.eval y)) w := by simp [ho]
theorem run_assign {y : Operand} (ho : o.op = .assign y) : (execOp a.eval o).run P w = .ok (.value (a.eval y)) w := by simp [ho]
theorem run_pick {c x y : Operand} {t : Bool} (ho : o.op = .pick c x y) (hc : a.eval c = .bool t) : (execOp a.eval o).run P w = .ok (.value (if t then a.eval x else a.eval y)) w := by
  cases t <;> simp [ho, hc, asBool]
theorem run_un {op t y} {v : Value} (ho : o.op = .unOp op t y) (hv : (Op.unary op (a.eval y)).run P w = .ok v w) : (execOp a.eval o).run P w = .ok (.value v) w := by simp [ho, hv]
theorem run_conv {t d y} {v : Value} (ho : o.op = .convert t d y) (hv : (convert t d (a.eval y)).run P w = .ok v w) : (execOp a.eval o).run P w = .ok (.value v) w := by simp [ho, hv]
theorem run_ext {y k} {v : Value} (ho : o.op = .extract y k) (hv : (Instr.extract (a.eval y) k).run P w = .ok v w) : (execOp a.eval o).run P w = .ok (.value v) w := by simp [ho, hv]
theorem run_fa {t y k} {v : Value} (ho : o.op = .fieldAddr t y k) (hv : (Instr.fieldAt t (a.eval y) k).run P w = .ok v w) : (execOp a.eval o).run P w = .ok (.value v) w := by simp [ho, hv]
theorem run_ia {t y k} {v : Value} (ho : o.op = .indexAddr t y k) (hv : (Instr.indexAt t (a.eval y) (a.eval k)).run P w = .ok v w) : (execOp a.eval o).run P w = .ok (.value v) w := by simp [ho, hv]
theorem run_ix {t y k} {v : Value} (ho : o.op = .index t y k) (hv : (Instr.index t (a.eval y) (a.eval k)).run P w = .ok v w) : (execOp a.eval o).run P w = .ok (.value v) w := by simp [ho, hv]
theorem run_bin {op t x y u} {v : Value} (ho : o.op = .binOp op t x y u) (hg : (eqGuard op t x y (a.eval x) (a.eval y)).run P w = .ok () w) (hv : (binOp op t (a.eval x) (a.eval y)).run P w = .ok v w) :
    (execOp a.eval o).run P w = .ok (.value v) w := by simp [ho, hv, hg]
theorem run_load' {t y} {v : Value} (ho : o.op = .load t y) (hv : (Instr.loadAt t (a.eval y)).run P w = .ok v w) : (execOp a.eval o).run P w = .ok (.value v) w := by simp [ho, hv]
theorem run_slc {t y lo hi mx} {v : Value} (ho : o.op = .slice t y lo hi mx) (hv : (Instr.sliceAt t (a.eval y) (lo.map a.eval) (hi.map a.eval) (mx.map a.eval)).run P w = .ok v w) : (execOp a.eval o).run P w = .ok (.value v) w := by simp [ho, hv]
theorem run_builtin {b xs ts} {v : Value} {w' : World} (ho : o.op = .call { callee := .builtin b, args := xs, argTypes := ts })
    (hv : ∀ cs, (builtin b ts o.type cs (xs.map a.eval)).run P w = .ok (.value v) w') : (execOp a.eval o).run P w = .ok (.value v) w' := by
  simp [ho, resolve, invoke, hv]
theorem run_callf {f xs ts} (ho : o.op = .call { callee := .value (.func f), args := xs, argTypes := ts })
    (hv : (callFunc f (xs.map a.eval)).run P w = .ok (.enter f (xs.map a.eval)) w) : (execOp a.eval o).run P w = .ok (.enter f (xs.map a.eval)) w := by
  simp [ho, resolve, invoke, Act.eval, Deferred.ofValue, hv]
theorem run_callv {t xs ts f caps} (ho : o.op = .call { callee := .value (.tmp t), args := xs, argTypes := ts }) (hf : a.eval (.tmp t) = .func (.func f) #[] caps)
    (hv : (callFunc f (xs.map a.eval ++ caps)).run P w = .ok (.enter f (xs.map a.eval ++ caps)) w) : (execOp a.eval o).run P w = .ok (.enter f (xs.map a.eval ++ caps)) w := by
  simp [ho, resolve, invoke, hf, Deferred.ofValue, hv]
theorem run_mkf {f cs} (ho : o.op = .makeFunc (.func f) #[] cs) : (execOp a.eval o).run P w = .ok (.value (.func (.func f) #[] (cs.map a.eval))) w := by
  simp [ho, Instr.makeFunc]
end

/-! ### the plain ones -/
theorem bin_run {op : BinOp} {t : TypeId} {x y r : A} {vx vy : Value} {m} (hx : Rep w lim μ m vx x) (hy : Rep w lim μ m vy y) (h : evBin op x y = some r) :
    ∃ v, (binOp op t vx vy).run P w = .ok v w ∧ r = .val v ∧ v.oneCell' = true ∧ (∀ cs, vx ≠ .agg cs) ∧ vx ≠ .nilIface := by
  unfold evBin at h
  split at h
  · rename_i k a' k' b'
    obtain ⟨rfl, _⟩ := hx.val
    obtain ⟨rfl, _⟩ := hy.val
    split at h
    · rename_i hk
      subst hk
      cases op <;> simp at h
      all_goals first | (obtain ⟨hb, rfl⟩ := h) | subst h
      all_goals refine ⟨_, ?_, rfl, rfl, by simp, by simp⟩
      all_goals first
        | (simp [binOp, Op.intArith, Op.intCmp]; done)
        | (simp [binOp, Op.intCmp]; rw [Bool.eq_iff_iff]; simp; done)
        | (simp [binOp, Op.intDiv, hb]; done)
        | (simp [binOp, Op.intBits]; done)
        | (have hb' : ¬ b' < 0 := by omega
           simp only [binOp]; unfold Op.shift; rw [if_neg hb']; rfl)
    · cases h
  · rename_i a' b'
    obtain ⟨rfl, _⟩ := hx.val
    obtain ⟨rfl, _⟩ := hy.val
    cases op <;> simp at h
    all_goals first | (obtain ⟨hb, rfl⟩ := h) | subst h
    all_goals refine ⟨_, ?_, rfl, rfl, by simp, by simp⟩
    all_goals first
      | (simp [binOp, Op.stringOp]; done)
      | (simp [binOp, Op.stringOp]; omega)
  · cases h

theorem un_run {op : UnOp} {x r : A} {vx : Value} {m} (hx : Rep w lim μ m vx x) (h : evUn op x = some r) :
    ∃ v, (Op.unary op vx).run P w = .ok v w ∧ r = .val v ∧ v.oneCell' = true := by
  unfold evUn at h
  split at h
  · obtain ⟨rfl, _⟩ := hx.val
    cases op <;> simp at h
    subst h
    exact ⟨_, by simp [Op.unary], rfl, rfl⟩
  · obtain ⟨rfl, _⟩ := hx.val
    cases op <;> simp at h
    subst h
    exact ⟨_, by simp [Op.unary, Op.intArith], rfl, rfl⟩
  · cases h

theorem part_int {e : TypeId} {k : IntKind} (he : P.underlying e = some (.int k)) {xs : Array Value} {off : Nat} {v : Value} (hv : xs[off]? = some v) :
    (part e xs off).run P w = .ok v w := by
  simp [part, isAgg, run_underlying he, hv]

theorem eqIn_int {e : TypeId} {k : IntKind} (he : P.underlying e = some (.int k)) (d : Nat) (kk : IntKind) (x y : Int) :
    (Op.equalIn (d + 1) e (.int kk x) (.int kk y)).run P w = .ok (x == y) w := by
  unfold Op.equalIn
  simp [run_underlying he]

theorem eqCells_cons {x : A} {xs ys : List A} {r : Bool} (h : eqCells (x :: xs) ys = some r) :
    ∃ k a b q ys', x = .val (.int k a) ∧ ys = .val (.int k b) :: ys' ∧ eqCells xs ys' = some q ∧ r = (decide (a = b) && q) := by
  cases ys with
  | nil => cases x <;> simp [eqCells] at h
  | cons y ys =>
    cases x with
    | val v =>
      cases y with
      | val u =>
        cases v with
        | int k a =>
          cases u with
          | int k' b =>
            simp only [eqCells] at h
            split at h
            · rename_i hk; subst hk
              simp only [Option.map_eq_some_iff] at h
              obtain ⟨q, hq, rfl⟩ := h
              exact ⟨_, _, _, q, _, rfl, rfl, hq, rfl⟩
            · cases h
          | _ => simp [eqCells] at h
        | _ => simp [eqCells] at h
      | _ => simp [eqCells] at h
    | _ => simp [eqCells] at h

theorem eqFields_run {m : Nat} (d : Nat) (xs ys : Array Value) : ∀ (fs : List Field) (k : Nat) (as bs : List A) (r : Bool), intFields P fs k = true → as.length = fs.length →
    eqCells as bs = some r → (∀ i (h : i < as.length), RepC w lim μ m (xs.getD (k + i) undef) as[i]) → (∀ i (h : i < bs.length), RepC w lim μ m (ys.getD (k + i) undef) bs[i]) →
    (Op.eqFields (d + 1) xs ys fs).run P w = .ok r w
  | [], k, as, bs, r, _, hl, he, _, _ => by
    have : as = [] := by simpa using hl
    subst this
    cases bs with
    | nil => simp [eqCells] at he; subst he; simp [Op.eqFields]
    | cons => simp [eqCells] at he
  | f :: fs, k, [], bs, r, _, hl, _, _, _ => by simp at hl
  | f :: fs, k, x :: as, bs, r, hi, hl, he, hx, hy => by
    simp only [intFields, Bool.and_eq_true, bne_iff_ne, ne_eq, beq_iff_eq] at hi
    obtain ⟨⟨⟨h1, h2⟩, h3⟩, h4⟩ := hi
    obtain ⟨kk, a, b, q, bs', rfl, rfl, hq, rfl⟩ := eqCells_cons he
    have ih := eqFields_run d xs ys fs (k + 1) as bs' q h4 (by simpa using hl) hq
      (fun i h => by have := hx (i + 1) (by simpa using h); rw [show k + (i + 1) = k + 1 + i by omega] at this; simpa using this)
      (fun i h => by have := hy (i + 1) (by simpa using h); rw [show k + (i + 1) = k + 1 + i by omega] at this; simpa using this)
    have gx := hx 0 (by simp)
    have gy := hy 0 (by simp)
    simp only [Nat.add_zero, List.getElem_cons_zero] at gx gy
    have at_of : ∀ (zs : Array Value) (n : Int), RepC w lim μ m (zs.getD k undef) (.val (.int kk n)) → zs[k]? = some (.int kk n) := by
      intro zs n h
      have h' := (Rep.r (.c h)).val.1
      rw [Array.getD_eq_getD_getElem?] at h'
      cases hz : zs[k]? with
      | none => rw [hz] at h'; simp [undef] at h'
      | some v => rw [hz] at h'; simp at h'; rw [h']
    have ex := at_of xs a gx
    have ey := at_of ys b gy
    cases hu : P.underlying f.type with
    | none => simp [hu] at h3
    | some dsc =>
      cases dsc <;> simp [hu] at h3
      rename_i k0
      rw [← h2] at ex ey
      rw [Op.eqFields, if_pos h1]
      simp only [Sem.run_bind, part_int hu ex, part_int hu ey, eqIn_int hu, Result.andThen_ok]
      by_cases hab : a = b
      · subst hab; simpa using ih
      · have : (a == b) = false := by simpa using hab
        simp [this, hab]

theorem eqs_run {t : TypeId} {fs : Array Field} (hu : P.underlying t = some (.struct fs)) (hp : P.stoodInHeld t = false) (hi : intFields P fs.toList 0 = true) {vx vy : Value} {xs ys : List A} {m} {r : Bool}
    (hx : Rep w lim μ m vx (.agg xs)) (hy : Rep w lim μ m vy (.agg ys)) (hl : xs.length = fs.size) (he : eqCells xs ys = some r) : (Op.equal t vx vy).run P w = .ok r w := by
  obtain ⟨vs, rfl, hs, hr, _⟩ := hx.toAgg
  obtain ⟨us, rfl, hs', hr', _⟩ := hy.toAgg
  have hf : P.fieldsOf t = fs := by simp [Program.fieldsOf, hu]
  show (Op.equalIn (9998 + 1 + 1) t (.agg vs) (.agg us)).run P w = .ok r w
  rw [run_equalIn_struct (P := P) w (9998 + 1) t vs us (by rw [hf]; exact hu) hp, hf]
  exact eqFields_run 9998 vs us fs.toList 0 xs ys r hi (by simpa using hl) he (fun i h => by simpa using hr i h) (fun i h => by simpa using hr' i h)

theorem eqGuard_intFields : ∀ (fs : List Field) (k d : Nat), intFields P fs k = true → fs.any (fun f => f.name != "_" && P.eqGuardType (d + 1) f.type) = false
  | [], _, _, _ => rfl
  | f :: fs, k, d, h => by
    simp only [intFields, Bool.and_eq_true] at h
    obtain ⟨⟨⟨h1, h2⟩, h3⟩, h4⟩ := h
    have ih := eqGuard_intFields fs (k + 1) d h4
    simp only [List.any_cons, ih, Bool.or_false]
    cases hu : P.underlying f.type with
    | none => simp [hu] at h3
    | some dsc => cases dsc <;> simp [hu] at h3; simp [Program.eqGuardType, hu]

theorem eqGuard_agg {op : BinOp} {t : TypeId} {fs : Array Field} (hu : P.underlying t = some (.struct fs)) (hi : intFields P fs.toList 0 = true) (x y : Operand) (vs us : Array Value) :
    (eqGuard op t x y (.agg vs) (.agg us)).run P w = .ok () w := by
  have hd : P.depth = (2 * (P.types.size + Made.depth)) + 1 + 1 := rfl
  have hg : P.eqGuardType P.depth t = false := by
    rw [hd]
    unfold Program.eqGuardType
    simp only [hu]
    have := eqGuard_intFields (P := P) fs.toList 0 (2 * (P.types.size + Made.depth)) hi
    rw [← Array.any_toList]
    exact this
  unfold eqGuard
  cases op <;> simp [hg]

theorem eqGuard_plain {op : BinOp} {t : TypeId} {x y : Operand} {vx vy : Value} (h1 : ∀ cs, vx ≠ .agg cs) (h2 : vx ≠ .nilIface) : (eqGuard op t x y vx vy).run P w = .ok () w := by
  unfold eqGuard
  cases vx <;> first | (exact absurd rfl h2) | (exact absurd rfl (h1 _)) | (cases op <;> simp)

theorem eqb_run {t : TypeId} (hu : P.underlying t = some .bool) (x y : Bool) : (Op.equal t (.bool x) (.bool y)).run P w = .ok (x == y) w := by
  show (Op.equalIn (9999 + 1) t (.bool x) (.bool y)).run P w = .ok (x == y) w
  unfold Op.equalIn
  simp [run_underlying hu]

theorem isnil_run {t e : TypeId} (hu : P.underlying t = some (.slice e)) (b : Option Addr) (n c : Nat) :
    (Op.equal t (.slice b n c) (.slice none 0 0)).run P w = .ok b.isNone w := by
  show (Op.equalIn (9999 + 1) t (.slice b n c) (.slice none 0 0)).run P w = .ok b.isNone w
  unfold Op.equalIn
  cases b <;> simp [run_underlying hu]
end Go.Proofs.YtkohggddaheefaaEv
/- The operations that read or write memory. -/
namespace Go.Proofs.YtkohggddaheefaaEv
open Go Go.RowKit

variable {P : Program} {F : Fr} {lim μ : Nat → Nat} {own : Nat → Pl} {s : Env × Bx} {a : Act} {w : World} {o : Oper} {next : Act → World → Prop} {Q : Exit → Act → World → Prop}

/-! ### reading -/
theorem load_agg {t : TypeId} {d : TypeDesc} {i : TypeInfo} (hu : P.underlying t = some d) (hi : P.info? t = some i) (hd : isAggD d = true) {b q : Nat} (vs : Nat → Value)
    (hc : ∀ j, j < i.size → w.cell? ⟨b, q + j, none⟩ = some (vs j)) :
    (Instr.loadAt t (.pointer (some ⟨b, q, none⟩))).run P w = .ok (.agg ((List.range i.size).map vs).toArray) w := by
  have h := run_loadCells (P := P) w ⟨b, q, none⟩ i.size vs (fun j hj => by rw [Addr.add_lit]; exact hc j hj)
  have hs : (sizeOf t).run P w = .ok i.size w := by simp [sizeOf, typeInfo, hi]
  cases d <;> simp [isAggD] at hd <;> simp [Instr.loadAt, Instr.sureAddr, loadVar, isAgg, run_underlying hu, hs, h]

theorem load_one {t : TypeId} {d : TypeDesc} (hu : P.underlying t = some d) (hd : isAggD d = false) {b q : Nat} {v : Value}
    (hc : w.cell? ⟨b, q, none⟩ = some v) : (Instr.loadAt t (.pointer (some ⟨b, q, none⟩))).run P w = .ok v w := by
  cases d <;> simp [isAggD] at hd <;> simp [Instr.loadAt, Instr.sureAddr, loadVar, isAgg, run_underlying hu, hc]

theorem cell_of_row {cs : Array Value} {t fr b} (h : w.heap[b]? = some (.cells cs t fr)) {j : Nat} (hj : j < cs.size) : w.cell? ⟨b, j, none⟩ = some (cs.getD j undef) := by
  unfold World.cell?
  simp [h, hj]

theorem getD_range (n : Nat) (vs : Nat → Value) (j : Nat) (hj : j < n) : (((List.range n).map vs).toArray).getD j undef = vs j := by
  simp [Array.getD_eq_getD_getElem?, hj]

/-! ### writing a row -/
theorem setCell_heap {cs : Array Value} {t fr} {b q : Nat} (v : Value) (h : w.heap[b]? = some (.cells cs t fr)) :
    (w.setCell ⟨b, q, none⟩ v).heap[b]? = some (.cells (cs.setIfInBounds q v) t fr) := by
  simp [World.setCell, Array.getElem?_modify, h]

theorem setCells_heap : ∀ (vs : List Value) (w : World) (cs : Array Value) (t : TypeId) (fr : Nat × Nat) (b q : Nat), w.heap[b]? = some (.cells cs t fr) →
    ∃ cs', (w.setCells b q vs).heap[b]? = some (.cells cs' t fr) ∧ cs'.size = cs.size ∧ ∀ j, j < cs.size → cs'.getD j undef = if q ≤ j ∧ j < q + vs.length then vs.getD (j - q) undef else cs.getD j undef
  | [], w, cs, t, fr, b, q, h => ⟨cs, h, rfl, fun j hj => by rw [if_neg (by simp)]⟩
  | v :: vs, w, cs, t, fr, b, q, h => by
    obtain ⟨cs', h1, h2, h3⟩ := setCells_heap vs _ _ t fr b (q + 1) (setCell_heap (q := q) v h)
    refine ⟨cs', h1, by simpa using h2, fun j hj => ?_⟩
    rw [h3 j (by simpa using hj)]
    have hg : (cs.setIfInBounds q v).getD j undef = if j = q then v else cs.getD j undef := by
      simp only [Array.getD_eq_getD_getElem?, Array.getElem?_setIfInBounds]
      by_cases e : q = j
      · subst e; simp [hj]
      · have : ¬ j = q := fun x => e x.symm
        simp [e, this]
    by_cases e : j = q
    · subst e
      rw [if_neg (by omega), hg, if_pos rfl, if_pos (by simp)]
      simp
    · rw [hg, if_neg e]
      by_cases hr : q + 1 ≤ j ∧ j < q + 1 + vs.length
      · rw [if_pos hr, if_pos (by simp; omega)]
        rw [show j - q = (j - (q + 1)) + 1 by omega]
        simp
      · rw [if_neg hr, if_neg (by simp; omega)]

theorem setCells_other : ∀ (vs : List Value) (w : World) (b q k : Nat), k ≠ b → (w.setCells b q vs).heap[k]? = w.heap[k]?
  | [], _, _, _, _, _ => rfl
  | v :: vs, w, b, q, k, h => by
    rw [World.setCells, setCells_other vs _ b (q + 1) k h, Below.heap_setCell _ _ _ _ h]

theorem setCell_rows (w : World) (b q : Nat) (v : Value) (k : Nat) : rowSz (w.setCell ⟨b, q, none⟩ v) k = rowSz w k := by
  by_cases e : k = b
  · subst e
    unfold rowSz
    simp only [World.setCell, Array.getElem?_modify, if_true]
    cases w.heap[k]? with
    | none => rfl
    | some x => cases x <;> simp
  · exact rowSz_eq (Below.heap_setCell _ _ _ _ e)
theorem setCells_rows : ∀ (vs : List Value) (w : World) (b q k : Nat), rowSz (w.setCells b q vs) k = rowSz w k
  | [], _, _, _, _ => rfl
  | v :: vs, w, b, q, k => by rw [World.setCells, setCells_rows vs _ b (q + 1) k, setCell_rows]
theorem setCells_below : ∀ (vs : List Value) (w : World) (b q B : Nat), B ≤ b → Below B w (w.setCells b q vs)
  | [], w, _, _, _, _ => Below.refl _ _
  | v :: vs, w, b, q, B, h => by
    rw [World.setCells]
    exact ((Below.refl B w).setCell (p := ⟨b, q, none⟩) h v).trans (setCells_below vs _ b (q + 1) B h)

/-- A store into a box. -/
theorem InvG.store (h : InvG F lim μ own s a w) {r q : Nat} {vs : List Value} {xs : List A} (hr : r < s.2.length) (hq : q + xs.length ≤ s.2[r].length) (hl : vs.length = xs.length)
    (hrep : ∀ i (hi : i < xs.length), RepC w lim μ s.2.length (vs.getD i undef) xs[i]) {own' : Nat → Pl}
    (hflt : ∀ i, FlagOk w lim own' F.w0.heap.size (.t i) (a.tmps.getD i undef) (s.1 i))
    (hflb : ∀ r o cs t, F.nb ≤ r → (h : r < s.2.length) → w.heap[μ r]? = some (.cells cs t (0, 0)) → (ho : o < s.2[r].length) → FlagOk w lim own' F.w0.heap.size (.b r o) (cs.getD o undef) s.2[r][o])
    (hnew : F.nb ≤ r → ∀ i (hi : i < xs.length), FlagOk w lim own' F.w0.heap.size (.b r (q + i)) (vs.getD i undef) xs[i]) :
    InvG F lim μ own' (s.1, s.2.set r (s.2[r].take q ++ xs ++ s.2[r].drop (q + xs.length))) a (w.setCells (μ r) q vs) := by
  have hrows := fun b => Nat.le_of_eq (setCells_rows vs w (μ r) q b).symm
  obtain ⟨cs, t, hh, hs, hc⟩ := h.box.row r hr
  obtain ⟨cs', hh', hs', hg'⟩ := setCells_heap vs w cs t (0, 0) (μ r) q hh
  have hlim := h.box.lim0 r hr
  have hext : Ext w lim (w.setCells (μ r) q vs) lim := by
    refine ⟨?_, hrows⟩
    intro b o v ho hc
    refine ⟨?_, ho⟩
    by_cases e : b = μ r
    · subst e; omega
    · rw [cell?_of_heap (setCells_other vs w (μ r) q b e)]; exact hc
  have hnlen : (s.2[r].take q ++ xs ++ s.2[r].drop (q + xs.length)).length = s.2[r].length := by simp; omega
  have hget : ∀ o (ho : o < s.2[r].length), (s.2[r].take q ++ xs ++ s.2[r].drop (q + xs.length))[o]'(by rw [hnlen]; exact ho) =
      if h : q ≤ o ∧ o < q + xs.length then xs[o - q]'(by omega) else s.2[r][o] := by
    intro o ho
    by_cases h1 : o < q
    · rw [dif_neg (by omega)]
      rw [List.getElem_append_left (by simp; omega), List.getElem_append_left (by simp; omega)]
      simp
    · by_cases h2 : o < q + xs.length
      · rw [dif_pos (by omega)]
        rw [List.getElem_append_left (by simp; omega), List.getElem_append_right (by simp; omega)]
        congr 1
        simp; omega
      · rw [dif_neg (by omega)]
        rw [List.getElem_append_right (by simp; omega)]
        rw [List.getElem_drop]
        congr 1
        simp; omega
  have hfm : ∀ own p v x, FlagOk w lim own F.w0.heap.size p v x → FlagOk (w.setCells (μ r) q vs) lim own F.w0.heap.size p v x := by
    intro own p v x hf l n b o c e1 e2 e3
    obtain ⟨g1, g2, g3, g4, cs1, t1, sz, g5, g6, g7⟩ := hf l n b o c e1 e2 e3
    have : b ≠ μ r := by rintro rfl; omega
    exact ⟨g1, g2, g3, g4, cs1, t1, sz, (setCells_other vs w (μ r) q b this).trans g5, g6, g7⟩
  have hsl : (s.2.set r (s.2[r].take q ++ xs ++ s.2[r].drop (q + xs.length))).length = s.2.length := by simp
  refine ⟨h.defers, h.size, by simpa using h.nb, h.mu0, fun k hk hk' => h.mub k hk (by simpa using hk'), fun i => ?_, ⟨?_, ?_, ?_⟩, fun i => hfm _ _ _ _ (hflt i), ?_, ?_, h.lim0⟩
  · have := (h.env i).mono (μ' := μ) (m' := s.2.length) hext (fun _ _ => rfl) (Nat.le_refl _)
    simpa using this
  · intro k hk
    have hk' : k < s.2.length := by simpa using hk
    rw [hsl]
    by_cases e : r = k
    · subst e
      refine ⟨cs', t, hh', ?_, ?_⟩
      · simp only [List.getElem_set_self, hnlen, hs']; exact hs
      · intro o ho
        simp only [List.getElem_set_self, hnlen] at ho
        simp only [List.getElem_set_self]
        rw [hget o ho, hg' o (by omega)]
        rw [hl]
        by_cases hin : q ≤ o ∧ o < q + xs.length
        · rw [dif_pos hin, if_pos hin]; exact (hrep (o - q) (by omega)).mono hext (fun _ _ => rfl) (Nat.le_refl _)
        · rw [dif_neg hin, if_neg hin]; exact (hc o ho).mono hext (fun _ _ => rfl) (Nat.le_refl _)
    · obtain ⟨cs1, t1, k1, k2, k3⟩ := h.box.row k hk'
      have hne : μ k ≠ μ r := fun e' => e (h.box.inj _ _ hk' hr e').symm
      refine ⟨cs1, t1, (setCells_other vs w (μ r) q _ hne).trans k1, ?_, ?_⟩
      · rw [List.getElem_set_ne e]; exact k2
      · intro o ho
        rw [List.getElem_set_ne e] at ho
        have : (s.2.set r (s.2[r].take q ++ xs ++ s.2[r].drop (q + xs.length)))[k] = s.2[k] := List.getElem_set_ne e _
        simp only [this]
        exact (k3 o ho).mono hext (fun _ _ => rfl) (Nat.le_refl _)
  · intro k hk; exact h.box.lim0 k (by simpa using hk)
  · intro k k' hk hk' e; exact h.box.inj k k' (by simpa using hk) (by simpa using hk') e
  · intro k o cs1 t1 hk hk' hheap ho
    have hk2 : k < s.2.length := by simpa using hk'
    by_cases e : r = k
    · subst e
      rw [hh'] at hheap
      cases hheap
      simp only [List.getElem_set_self, hnlen] at ho
      simp only [List.getElem_set_self]
      rw [hget o ho, hg' o (by omega), hl]
      by_cases hin : q ≤ o ∧ o < q + xs.length
      · rw [dif_pos hin, if_pos hin]
        have := hnew hk (o - q) (by omega)
        rw [show q + (o - q) = o by omega] at this
        exact hfm _ _ _ _ this
      · rw [dif_neg hin, if_neg hin]; exact hfm _ _ _ _ (hflb r o cs t hk hk2 hh ho)
    · have hne : μ k ≠ μ r := fun e' => e (h.box.inj _ _ hk2 hr e').symm
      rw [setCells_other vs w (μ r) q _ hne] at hheap
      have : (s.2.set r (s.2[r].take q ++ xs ++ s.2[r].drop (q + xs.length)))[k] = s.2[k] := List.getElem_set_ne e _
      simp only [this] at ho ⊢
      exact hfm _ _ _ _ (hflb k o cs1 t1 hk hk2 hheap ho)
  · refine h.below.trans ?_
    have hb := setCells_below vs w (μ r) q (μ r) (Nat.le_refl _)
    refine ⟨hb.os, hb.tape, hb.output, hb.size, fun k hk hne => setCells_other vs w (μ r) q k ?_, hrows⟩
    rintro rfl
    rcases Nat.lt_or_ge r F.nb with h1 | h1
    · exact hne r h1 (h.mu0 r h1).symm
    · have := h.mub r h1 hr; omega

theorem alloc_below (w : World) (x : Obj) : Below w.heap.size w (w.alloc x) := (Below.refl _ _).alloc (Nat.le_refl _) x

def μBox (w : World) (μ : Nat → Nat) (m : Nat) : Nat → Nat := fun r => if r = m then w.heap.size else μ r
def limBox (w : World) (lim : Nat → Nat) : Nat → Nat := fun b => if b = w.heap.size then 0 else lim b

/-- A new box. -/
theorem InvG.newBox (h : InvG F lim μ own s a w) {cs : Array Value} {t : TypeId} {xs : List A} (hs : xs.length ≤ cs.size) (hrep : ∀ i (hi : i < xs.length), RepC w lim μ s.2.length (cs.getD i undef) xs[i]) {own' : Nat → Pl}
    (hflt : ∀ i, FlagOk w lim own' F.w0.heap.size (.t i) (a.tmps.getD i undef) (s.1 i))
    (hflb : ∀ r o cs t, F.nb ≤ r → (h : r < s.2.length) → w.heap[μ r]? = some (.cells cs t (0, 0)) → (ho : o < s.2[r].length) → FlagOk w lim own' F.w0.heap.size (.b r o) (cs.getD o undef) s.2[r][o])
    (hnew : ∀ i (hi : i < xs.length), FlagOk w lim own' F.w0.heap.size (.b s.2.length i) (cs.getD i undef) xs[i]) :
    InvG F (limBox w lim) (μBox w μ s.2.length) own' (s.1, s.2 ++ [xs]) a (w.alloc (.cells cs t)) := by
  have hb := alloc_below w (.cells cs t)
  have hl : ∀ b, b < w.heap.size → limBox w lim b = lim b := fun b hb => by unfold limBox; rw [if_neg (by omega)]
  have hsz := h.below.size
  have hext := Ext.of_below (lim := lim) hb hl
  have hμ : ∀ r, r < s.2.length → μBox w μ s.2.length r = μ r := fun r hr => by unfold μBox; rw [if_neg (by omega)]
  have hm : s.2.length ≤ (s.2 ++ [xs]).length := by simp
  refine ⟨h.defers, h.size, by simp; have := h.nb; omega, fun r hr => ?_, fun r hr hr' => ?_, fun i => (h.env i).mono hext hμ hm, ⟨?_, ?_, ?_⟩, fun i => (hflt i).mono hb hl, ?_, h.below.trans (.of_below hb hsz), fun b hbb => (hl b (by omega)).trans (h.lim0 b hbb)⟩
  · have := h.nb
    rw [hμ r (by omega)]; exact h.mu0 r hr
  · unfold μBox
    split
    · exact hsz
    · simp at hr'; exact h.mub r hr (by omega)
  · intro r hr
    by_cases e : r = s.2.length
    · subst e
      refine ⟨cs, t, ?_, ?_, ?_⟩
      · unfold μBox; rw [if_pos rfl]; exact heap_alloc_new w _
      · simpa using hs
      · intro o ho
        simp only [List.getElem_concat_length] at ho ⊢
        exact (hrep o ho).mono hext hμ hm
    · have hr' : r < s.2.length := by simp at hr; omega
      obtain ⟨cs1, t1, k1, k2, k3⟩ := h.box.row r hr'
      refine ⟨cs1, t1, ?_, ?_, ?_⟩
      · rw [hμ r hr']; exact (hb.block _ (lt_of_heap k1)).trans k1
      · rw [List.getElem_append_left hr']; exact k2
      · intro o ho
        simp only [List.getElem_append_left hr'] at ho ⊢
        exact (k3 o ho).mono hext hμ hm
  · intro r hr
    by_cases e : r = s.2.length
    · unfold limBox μBox; rw [if_pos e, if_pos rfl]
    · have hr' : r < s.2.length := by simp at hr; omega
      have := h.box.lt hr'
      rw [hμ r hr', hl _ this]; exact h.box.lim0 r hr'
  · intro r r' hr hr' e
    unfold μBox at e
    by_cases e1 : r = s.2.length <;> by_cases e2 : r' = s.2.length
    · omega
    · rw [if_pos e1, if_neg e2] at e
      have := h.box.lt (show r' < s.2.length by simp at hr'; omega)
      omega
    · rw [if_neg e1, if_pos e2] at e
      have := h.box.lt (show r < s.2.length by simp at hr; omega)
      omega
    · rw [if_neg e1, if_neg e2] at e
      exact h.box.inj r r' (by simp at hr; omega) (by simp at hr'; omega) e
  · intro r o cs1 t1 hr hr' hh ho
    by_cases e : r = s.2.length
    · subst e
      unfold μBox at hh
      rw [if_pos rfl, heap_alloc_new w (.cells cs t)] at hh
      cases hh
      simp only [List.getElem_concat_length] at ho ⊢
      exact (hnew o ho).mono hb hl
    · have hr2 : r < s.2.length := by simp at hr'; omega
      rw [hμ r hr2, hb.block _ (h.box.lt hr2)] at hh
      simp only [List.getElem_append_left hr2] at ho ⊢
      exact (hflb r o cs1 t1 hr hr2 hh ho).mono hb hl

/-- A new box whose cells hold no right. -/
theorem InvG.newBox0 (h : InvG F lim μ own s a w) {cs : Array Value} {t : TypeId} {xs : List A} (hs : xs.length ≤ cs.size) (hrep : ∀ i (hi : i < xs.length), RepC w lim μ s.2.length (cs.getD i undef) xs[i]) (h2 : ∀ i (hi : i < xs.length), n2 xs[i]) :
    InvG F (limBox w lim) (μBox w μ s.2.length) own (s.1, s.2 ++ [xs]) a (w.alloc (.cells cs t)) :=
  h.newBox hs hrep h.flt h.flb fun i hi => .of_n2 (h2 i hi)

/-- A new row that slices read. -/
theorem InvG.newRow (h : InvG F lim μ own s a w) (x : Obj) (L : Nat) :
    InvG F (fun b => if b = w.heap.size then L else lim b) μ own s a (w.alloc x) :=
  h.step (alloc_below w x) fun b hb => by simp; omega

theorem drew_below (w : World) : Below w.heap.size w w.drew := (Below.refl _ _).drew

theorem rep_row {cs : Array Value} {t : TypeId} {l : List A} {n c g L : Nat} (hs : l.length ≤ cs.size) (hL : l.length ≤ L) (hn : n ≤ c) (hg : g = 1 → c = n) (h3 : g ≠ 3) (hrep : ∀ i (hi : i < l.length), RepV w lim (cs.getD i undef) l[i]) :
    RepV (w.alloc (.cells cs t)) (fun b => if b = w.heap.size then L else lim b) (.slice (some ⟨w.heap.size, 0, none⟩) n c) (.sl l n g) := by
  have hext : Ext w lim (w.alloc (.cells cs t)) (fun b => if b = w.heap.size then L else lim b) := .of_below (alloc_below w _) fun b hb => by simp; omega
  refine .sl _ _ _ _ _ _ (fun i => cs.getD i undef) hn hg h3 (fun i hi => ?_) (fun i hi => ?_) (fun i hi => (hrep i hi).mono hext)
  · rw [Nat.zero_add]; exact cell_of_row (heap_alloc_new w _) (by omega)
  · simp; omega
end Go.Proofs.YtkohggddaheefaaEv
