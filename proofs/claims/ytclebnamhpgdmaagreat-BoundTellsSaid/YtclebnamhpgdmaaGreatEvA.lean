/- A compact code and its evaluator over abstract values: slices are lists of cells, boxed variables are numbered. -/
import Derived.Below
import Derived.LoopN
import Derived.ArgAppend
import Derived.Calls
namespace Go.Proofs.YtclebnamhpgdmaaGreatEv
open Go

inductive A where
  | any
  | und
  | val (v : Value)
  | sl (l : List A) (n : Nat) (g : Nat)
  | bs (r n z : Nat)
  | agg (l : List A)
  | tup (l : List A)
  | ptr (r o : Nat)
  | ip (l : List A)
  | fn (f : Nat) (caps : List (Nat × Nat))
  deriving Inhabited

namespace A
/-- A copy: the right to grow stays where it was. -/
def cp1 : A → A
  | .sl l n g => .sl l n (if g = 2 then 0 else g)
  | a => a
def cp : A → A
  | .agg l => .agg (l.map cp1)
  | a => cp1 a
def norm1 : A → A
  | .sl l n _ => .sl l n 0
  | a => a
def norm : A → A
  | .agg l => .agg (l.map norm1)
  | a => norm1 a
def own : A → A
  | .sl l n g => .sl l n (if g = 1 then 2 else g)
  | a => a
def cells : A → List A
  | .agg l => l
  | a => [a]
/-- A clean cell. -/
def isV : A → Bool
  | .val v => v.oneCell'
  | .sl _ _ _ => true
  | _ => false
/-- A cell. -/
def isC : A → Bool
  | .bs _ _ _ => true
  | a => isV a
def isR : A → Bool
  | .agg _ => true
  | a => isC a
def resOk : A → Bool
  | .tup _ => true
  | a => isR a
def isVal : A → Bool
  | .val _ => true
  | _ => false
/-- Numbers, truths, texts alone. -/
def scal : A → Bool
  | .tup l => l.all isVal
  | a => isVal a
def dangC (m : Nat) : A → Bool
  | .bs r _ _ => decide (r < m)
  | _ => true
def dang (m : Nat) : A → Bool
  | .ptr r _ => decide (r < m)
  | .bs r _ _ => decide (r < m)
  | .agg l => l.all (dangC m)
  | .tup l => l.all fun a => match a with | .agg l => l.all (dangC m) | a => dangC m a
  | .fn _ caps => caps.all fun p => decide (p.1 < m)
  | _ => true
def hasB : A → Bool
  | .bs _ _ _ => true
  | .agg l => l.any fun a => match a with | .bs _ _ _ => true | _ => false
  | _ => false
end A

/-- The abstract value of a constant. -/
def cst1 : Value → A
  | .slice none 0 0 => .sl [] 0 1
  | v => .val v
def cst : Value → A
  | .agg cs => .agg (cs.toList.map cst1)
  | v => cst1 v

inductive O where
  | t (i : Nat)
  | c (v : Value)
  | f (k : Nat)
  deriving Inhabited

abbrev Bx := List (List A)

/-- A cell as it reads now, for good. -/
def frzC (bx : Bx) : Nat → A → Option A
  | _, .val v => some (.val v)
  | _, .sl l n _ => some (.sl l n 0)
  | d + 1, .bs r n z => match bx[r]? with
    | some cs => if n * z ≤ cs.length then ((cs.take (n * z)).mapM (frzC bx d)).map fun l => .sl l n 0 else none
    | none => none
  | _, _ => none
def frzR (bx : Bx) : A → Option A
  | .agg l => (l.mapM (frzC bx 3)).map .agg
  | a => frzC bx 3 a
/-- What a call answers to who knows nothing of its boxes. -/
def frz (keep : Bool) (bx : Bx) : A → Option A
  | .tup l => (l.mapM (frzR bx)).map .tup
  | .agg l => if keep = true ∧ l.all A.isV = true then some (.agg (l.map A.cp1)) else frzR bx (.agg l)
  | a => frzR bx a

abbrev Env := Nat → A
def emp : Env := fun _ => .any
def put (d : Nat) (v : A) (e : Env) : Env := fun i => if i = d then v else e i
theorem put_at (d : Nat) (v : A) (e : Env) (i : Nat) : put d v e i = if i = d then v else e i := rfl
def puts : List (Nat × A) → Env → Env
  | [], e => e
  | (d, v) :: r, e => puts r (put d v e)

def O.ev (e : Env) : O → A
  | .t i => e i
  | .c v => cst v
  | .f k => .fn k []

inductive I where
  | mv (x : O) (take : Bool)
  | pick (c a b : O)
  | alloc (z : List Value)
  | box (x : O)
  | build (z : List Value) (ps : List (Nat × Nat × O))
  | bsl (sz len : Nat) (z : List Value) (ps : List (Nat × Nat × O)) (mu : Bool)
  | load (sz : Nat) (ag : Bool) (x : O) (take : Bool)
  | store (sz : Nat) (p x : O)
  | bin (op : BinOp) (x y : O)
  | un (op : UnOp) (x : O)
  | conv (k : IntKind) (x : O)
  | bstr (x : O)
  | eqs (neg : Bool) (n : Nat) (x y : O)
  | eqb (neg : Bool) (x y : O)
  | len (x : O)
  | slen (x : O)
  | mxn (isMax : Bool) (xs : List O)
  | app (sz bytes : Nat) (x y : O) (mu : Bool)
  | isnil (neg : Bool) (x : O)
  | slc (sz : Nat) (x : O) (lo hi mx : Option O)
  | sslc (x : O) (lo hi : Option O)
  | fa (off : Nat) (p : O)
  | ia (sz : Nat) (x i : O)
  | ix (x i : O)
  | ext (x : O) (k : Nat)
  | mkf (f : Nat) (caps : List O)
  | mksl (sz bytes : Nat) (z : List Value) (n : O) (mu : Bool)
  | call (f : Nat) (xs : List O) (keep : Bool)
  | calli (f : Nat) (xs : List O)
  | callv (x : O) (xs : List O)
  deriving Inhabited

structure J where
  d : Option Nat
  i : I
  g : Option (Nat × Bool)
  deriving Inhabited

inductive C where
  | skip
  | seq (a b : C)
  | cond (x : O) (a b : C)
  | block (id : Nat) (a : C)
  | loop (live : List Nat) (kb : Nat) (a : C)
  | exit (id : Nat)
  | scope (a : C)
  | ret
  | reg (l : List J)
  | dreg (cl ne : List (Nat × Nat)) (l : List J)
  deriving Inhabited

/-- What the holder of a right to grow loses when its value is handed on. -/
def takeU (x : O) (e : Env) : List (Nat × A) :=
  match x with
  | .t i => match e i with
    | .sl l n g => if g = 2 then [(i, .sl l n 0)] else []
    | _ => []
  | _ => []


def eqCells : List A → List A → Option Bool
  | [], [] => some true
  | .val (.int k a) :: xs, .val (.int k' b) :: ys => if k = k' then (eqCells xs ys).map fun r => decide (a = b) && r else none
  | _, _ => none

def evBin (op : BinOp) (x y : A) : Option A :=
  match x, y with
  | .val (.int k a), .val (.int k' b) =>
    if k = k' then
      match op with
      | .add => some (.val (.int k (k.wrap (a + b))))
      | .sub => some (.val (.int k (k.wrap (a - b))))
      | .mul => some (.val (.int k (k.wrap (a * b))))
      | .quo => if b = 0 then none else some (.val (.int k (k.wrap (a.tdiv b))))
      | .rem => if b = 0 then none else some (.val (.int k (a.tmod b)))
      | .eql => some (.val (.bool (decide (a = b))))
      | .neq => some (.val (.bool (!decide (a = b))))
      | .lss => some (.val (.bool (decide (a < b))))
      | .leq => some (.val (.bool (decide (a ≤ b))))
      | .gtr => some (.val (.bool (decide (b < a))))
      | .geq => some (.val (.bool (decide (b ≤ a))))
      | .shr => if b < 0 then none else some (.val (.int k (a.fdiv (2 ^ min b.toNat k.bits))))
      | .shl => if b < 0 then none else some (.val (.int k (k.wrap (a * 2 ^ min b.toNat k.bits))))
      | .and => some (.val (.int k (k.wrap (BitVec.ofInt k.bits a &&& BitVec.ofInt k.bits b).toNat)))
      | .or => some (.val (.int k (k.wrap (BitVec.ofInt k.bits a ||| BitVec.ofInt k.bits b).toNat)))
      | .xor => some (.val (.int k (k.wrap (BitVec.ofInt k.bits a ^^^ BitVec.ofInt k.bits b).toNat)))
      | _ => none
    else none
  | .val (.string a), .val (.string b) =>
    match op with
    | .eql => some (.val (.bool (a.toList == b.toList)))
    | .neq => some (.val (.bool (!(a.toList == b.toList))))
    | .add => if a.size + b.size ≤ 70368744177664 then some (.val (.string (a ++ b))) else none
    | _ => none
  | _, _ => none

def evUn (op : UnOp) (x : A) : Option A :=
  match x with
  | .val (.bool b) => match op with
    | .not => some (.val (.bool (!b)))
    | _ => none
  | .val (.int k a) => match op with
    | .neg => some (.val (.int k (k.wrap (-a))))
    | _ => none
  | _ => none

def okCell (nrm : Bool) (a : A) : Bool := if nrm then a.isV else a.isC

def fillA (e : Env) (nrm : Bool) : List A → List (Nat × Nat × O) → Option (List A)
  | cs, [] => some cs
  | cs, (off, size, x) :: r =>
    let c := (if nrm then (x.ev e).norm else (x.ev e).cp).cells
    if c.length = size ∧ off + size ≤ cs.length ∧ c.all (okCell nrm) = true then fillA e nrm (cs.take off ++ c ++ cs.drop (off + size)) r else none

def bytesA : List A → Option (List UInt8)
  | [] => some []
  | .val (.int .u8 b) :: r => (bytesA r).map fun t => b.toNat.toUInt8 :: t
  | _ => none

def foldM (isMax : Bool) : Int → List A → Option Int
  | a, [] => some a
  | a, .val (.int .i64 b) :: r => foldM isMax (if isMax then (if b > a then b else a) else (if b < a then b else a)) r
  | _, _ => none

def capsOf (e : Env) : List O → Option (List (Nat × Nat))
  | [] => some []
  | x :: r => match x.ev e with
    | .ptr q o => (capsOf e r).map fun t => (q, o) :: t
    | _ => none

def optInt (e : Env) (d : Nat) : Option O → Option Int
  | none => some d
  | some x => match x.ev e with
    | .val (.int _ k) => some k
    | _ => none

abbrev CallF := Nat → List A → Bx → Option (A × Bx)

/-- A call of which only the answer counts. -/
def pureOf (Φ : CallF) (keep : Bool) (f : Nat) (args : List A) : Option A :=
  match Φ f args [] with
  | some (v, bx) => frz keep bx v
  | none => none

def strip (bx : Bx) : Bx := bx.map (List.map A.cp1)

/-- Behind a call that may write boxes. -/
def aft (n : Nat) (p : A × Bx) : A × List (Nat × A) × Bx :=
  (p.1, [], if p.1.scal = true ∧ (((strip p.2).take n).all fun cs => cs.all (A.dangC n)) = true then (strip p.2).take n else strip p.2)

def args0 (e : Env) (bx : Bx) (xs : List O) : Option (List A) := (xs.mapM fun x => frzR bx (x.ev e))

def asList (bx : Bx) : A → Option (List A × Nat)
  | .sl l n _ => some (l, n)
  | .bs r n z => match bx[r]? with
    | some cs => if n * z ≤ cs.length ∧ (cs.take (n * z)).all A.isV = true then some ((cs.take (n * z)).map A.norm1, n) else none
    | none => none
  | _ => none

def evI (Φ : CallF) (nb : Nat) (i : I) (e : Env) (bx : Bx) : Option (A × List (Nat × A) × Bx) :=
  match i with
  | .mv x true => some ((x.ev e).own, takeU x e, bx)
  | .mv x false => some ((x.ev e).cp, [], bx)
  | .pick c a b => match c.ev e with
    | .val (.bool t) => some (if t then (a.ev e).cp else (b.ev e).cp, [], bx)
    | _ => none
  | .alloc z => some (.ptr bx.length 0, [], bx ++ [z.map cst1])
  | .box x =>
    if (x.ev e).cells.all A.isC = true then some (.ptr bx.length 0, takeU x e, bx ++ [(x.ev e).cells]) else none
  | .build z ps => (fillA e false (z.map cst1) ps).map fun cs => (.agg cs, [], bx)
  | .bsl sz len z ps mu => match fillA e true (z.map cst1) ps with
    | some cs => if mu = true ∧ 0 < len then some (.bs bx.length len sz, [], bx ++ [cs]) else some (.sl (cs.map A.norm1) len 1, [], bx)
    | none => none
  | .load sz ag x take => match x.ev e with
    | .ptr r o => match bx[r]? with
      | some cs =>
        if ag then (if o + sz ≤ cs.length then some (.agg (((cs.drop o).take sz).map A.cp1), [], bx) else none)
        else match cs[o]? with
          | some c => if take then (if nb ≤ r then some (c, [], bx.set r (cs.set o c.cp1)) else none) else some (c.cp1, [], bx)
          | none => none
      | none => none
    | .ip l =>
      if ag then (if sz ≤ l.length then some (.agg ((l.take sz).map A.norm1), [], bx) else none)
      else match l with
        | c :: _ => some (c.norm1, [], bx)
        | [] => none
    | _ => none
  | .store sz p x => match p.ev e with
    | .ptr r o => match bx[r]? with
      | some cs =>
        let c := (x.ev e).cells
        if c.length = sz ∧ o + sz ≤ cs.length ∧ c.all A.isC = true ∧ (nb ≤ r ∨ c.all A.isV = true) then
          some (.und, takeU x e, bx.set r (cs.take o ++ (if nb ≤ r then c else c.map A.norm1) ++ cs.drop (o + sz)))
        else none
      | none => none
    | _ => none
  | .bin op x y => (evBin op (x.ev e) (y.ev e)).map fun v => (v, [], bx)
  | .un op x => (evUn op (x.ev e)).map fun v => (v, [], bx)
  | .conv k x => match x.ev e with
    | .val (.int _ n) => some (.val (.int k (k.wrap n)), [], bx)
    | _ => none
  | .bstr x => match x.ev e with
    | .sl l n _ => if l.length = n then (bytesA l).map fun b => (.val (.string ⟨b.toArray⟩), [], bx) else none
    | _ => none
  | .len x => match x.ev e with
    | .sl _ n _ => some (.val (.int .i64 n), [], bx)
    | .bs _ n _ => some (.val (.int .i64 n), [], bx)
    | _ => none
  | .isnil neg x => match x.ev e with
    | .sl _ n g =>
      if g = 3 then some (.val (.bool (!neg)), [], bx)
      else if 0 < n ∨ g = 4 then some (.val (.bool neg), [], bx)
      else none
    | _ => none
  | .eqs neg n x y => match x.ev e, y.ev e with
    | .agg xs, .agg ys => if xs.length = n ∧ ys.length = n then (eqCells xs ys).map fun r => (.val (.bool (if neg then !r else r)), [], bx) else none
    | _, _ => none
  | .eqb neg x y => match x.ev e, y.ev e with
    | .val (.bool a), .val (.bool b) => some (.val (.bool (if neg then !(a == b) else a == b)), [], bx)
    | _, _ => none
  | .slen x => match x.ev e with
    | .val (.string s) => some (.val (.int .i64 s.size), [], bx)
    | _ => none
  | .mxn isMax xs => match xs.map (O.ev e) with
    | .val (.int .i64 a) :: r => (foldM isMax a r).map fun v => (.val (.int .i64 v), [], bx)
    | _ => none
  | .app sz bytes x y mu => match x.ev e, asList bx (y.ev e) with
    | .sl l n g, some (l2, n2) =>
      if (g = 1 ∨ g = 2) ∧ l.length = n * sz ∧ l2.length = n2 * sz ∧ (n + n2) * bytes ≤ 70368744177664 then
        if mu = true ∧ n = 0 ∧ 0 < n2 then some (.bs bx.length n2 sz, takeU x e, bx ++ [l2.map A.norm1])
        else some (.sl (l ++ l2) (n + n2) 2, takeU x e, bx)
      else none
    | _, _ => none
  | .slc sz x lo hi mx => match x.ev e with
    | .sl l n _ => match optInt e 0 lo, optInt e n hi, optInt e n mx with
      | some a, some b, some c =>
        if 0 ≤ a ∧ a ≤ b ∧ b ≤ c ∧ c ≤ n ∧ l.length = n * sz then
          some (.sl ((l.drop (a.toNat * sz)).take ((b - a).toNat * sz)) (b - a).toNat (if mx.isSome ∧ b = c ∧ 0 < n then 1 else 0), [], bx)
        else none
      | _, _, _ => none
    | .bs r n z => match lo, mx, optInt e n hi with
      | none, none, some b => if 0 ≤ b ∧ b ≤ n then some (.bs r b.toNat z, [], bx) else none
      | _, _, _ => none
    | _ => none
  | .sslc x lo hi => match x.ev e with
    | .val (.string s) => match optInt e 0 lo, optInt e s.size hi with
      | some a, some b => if 0 ≤ a ∧ a ≤ b ∧ b ≤ s.size then some (.val (.string (s.extract a.toNat b.toNat)), [], bx) else none
      | _, _ => none
    | _ => none
  | .fa off p => match p.ev e with
    | .ptr r o => some (.ptr r (o + off), [], bx)
    | .ip l => some (.ip (l.drop off), [], bx)
    | _ => none
  | .ia sz x i => match x.ev e, i.ev e with
    | .sl l n _, .val (.int _ k) => if 0 ≤ k ∧ k < n then some (.ip (l.drop (k.toNat * sz)), [], bx) else none
    | .bs r n _, .val (.int _ k) => if 0 ≤ k ∧ k < n then some (.ptr r (k.toNat * sz), [], bx) else none
    | _, _ => none
  | .ix x i => match x.ev e, i.ev e with
    | .val (.string s), .val (.int _ k) => if 0 ≤ k ∧ k < s.size then some (.val (.int .u8 ((s.data.toList.getD k.toNat 0).toNat : Int)), [], bx) else none
    | _, _ => none
  | .ext x k => match x.ev e with
    | .tup l => match l[k]? with
      | some v => some (v.cp, [], bx)
      | none => none
    | _ => none
  | .mkf f caps => (capsOf e caps).map fun cs => (.fn f cs, [], bx)
  | .mksl sz bytes z n mu => match n.ev e with
    | .val (.int .i64 k) =>
      if 0 ≤ k ∧ k * bytes ≤ 70368744177664 then
        if mu = true ∧ 0 < k then some (.bs bx.length k.toNat sz, [], bx ++ [(List.replicate k.toNat (z.map cst1)).flatten])
        else some (.sl ((List.replicate k.toNat (z.map cst1)).flatten.map A.norm1) k.toNat 1, [], bx)
      else none
    | _ => none
  | .call f xs keep => match args0 e bx xs with
    | some as => match pureOf Φ keep f as with
      | some v => if (xs.any fun x => (x.ev e).hasB) = true ∧ v.scal = false then none else some (v, [], bx)
      | none => none
    | none => none
  | .calli f xs => (Φ f (xs.map fun x => (x.ev e).norm) bx).map (aft bx.length)
  | .callv x xs => match x.ev e with
    | .fn f caps => (Φ f ((xs.map fun x => (x.ev e).norm) ++ caps.map fun p => .ptr p.1 p.2) bx).map (aft bx.length)
    | _ => none

def putO : Option Nat → A → Env → Env
  | some d, v, e => put d v e
  | none, _, e => e

def evRun (Φ : CallF) (nb : Nat) (j : J) (s : Env × Bx) : Option (Env × Bx) :=
  match evI Φ nb j.i s.1 s.2 with
  | some (v, ups, bx') => some (putO j.d v (puts ups s.1), bx')
  | none => none

def evJ (Φ : CallF) (nb : Nat) (j : J) (s : Env × Bx) : Option (Env × Bx) :=
  match j.g with
  | none => evRun Φ nb j s
  | some (t, b) => match s.1 t with
    | .val (.bool b') => if b' = b then evRun Φ nb j s else some (putO j.d .und s.1, s.2)
    | .und => some (putO j.d .und s.1, s.2)
    | _ => none

def evJs (Φ : CallF) (nb : Nat) : List J → Env × Bx → Option (Env × Bx)
  | [], s => some s
  | j :: r, s => match evJ Φ nb j s with
    | some s' => evJs Φ nb r s'
    | none => none

inductive Out where
  | nor
  | ex (id : Nat)
  | ret
  deriving DecidableEq, Inhabited

/-- A result: a slot, or the variable (of so many cells) that a slot points to. -/
inductive RV where
  | t (i : Nat)
  | cell (i sz : Nat)
  deriving Inhabited

structure CFun where
  nt : Nat
  np : Nat
  body : C
  res : List RV
  deriving Inhabited

abbrev Ev := Nat → C → Env × Bx → Option (Out × Env × Bx)

def initFrom : Nat → List A → Env
  | _, [] => emp
  | k, a :: r => put k a (initFrom (k + 1) r)

def resVal (s : Env × Bx) : RV → Option A
  | .t i => if (s.1 i).isR then some (s.1 i).cp else none
  | .cell i sz => match s.1 i with
    | .ptr r 0 => match s.2[r]? with
      | some cs => if cs.length = sz then some (.agg (cs.map A.cp1)) else none
      | none => none
    | _ => none

def resultOf (F : CFun) (s : Env × Bx) : Option A :=
  match F.res with
  | [t] => resVal s t
  | ts => (ts.mapM (resVal s)).map .tup

def callOf (tab : Nat → Option CFun) (ext : CallF) (ev : Ev) : CallF := fun f args bx =>
  match ext f args bx with
  | some r => some r
  | none =>
  match tab f with
  | none => none
  | some F =>
    if args.length = F.np then
      match ev bx.length F.body (initFrom 0 args, bx) with
      | some (.nor, s) => (resultOf F s).map fun v => (v, s.2)
      | some (.ret, s) => (resultOf F s).map fun v => (v, s.2)
      | _ => none
    else none

def keepL (live : List Nat) (e : Env) : Env := live.foldr (fun i e' => put i (e i) e') emp

def loopIn0 (nb : Nat) (live : List Nat) (kb : Nat) (s : Env × Bx) : Option (Env × Bx) :=
  if nb + kb ≤ s.2.length ∧ (live.all fun i => (s.1 i).dang (nb + kb)) = true ∧ ((s.2.take (nb + kb)).all fun cs => cs.all (A.dangC (nb + kb))) = true then some (keepL live s.1, s.2.take nb ++ ((s.2.drop nb).take kb).map (List.map A.own)) else none

/-- As many boxes are kept as there are, and no more than so many. -/
def loopIn (nb : Nat) (live : List Nat) (kb : Nat) (s : Env × Bx) : Option (Env × Bx) := loopIn0 nb live (min kb (s.2.length - nb)) s

/-- These slots are forgotten. -/
def clr (cl : List (Nat × Nat)) (e : Env) : Env := fun i => if (cl.any fun p => p.1 == i) = true then .any else e i
/-- These point into different boxes. -/
def neOk (ne : List (Nat × Nat)) (e : Env) : Bool := ne.all fun p => match e p.1, e p.2 with
  | .ptr r _, .ptr r' _ => !(r == r')
  | _, _ => false

def stepC (tab : Nat → Option CFun) (ext : CallF) (ev : Ev) : Ev := fun nb c s =>
  match c with
  | .skip => some (.nor, s)
  | .seq a b => match ev nb a s with
    | some (.nor, s1) => ev nb b s1
    | r => r
  | .cond x a b => match x.ev s.1 with
    | .val (.bool t) => if t then ev nb a s else ev nb b s
    | _ => none
  | .block id a => match ev nb a s with
    | some (.ex i, s1) => some (if i = id then .nor else .ex i, s1)
    | r => r
  | .loop live kb a => match loopIn nb live kb s with
    | some s0 => match ev nb a s0 with
      | some (.nor, s1) => ev nb (.loop live kb a) s1
      | r => r
    | none => none
  | .exit id => some (.ex id, s)
  | .scope a => ev nb a s
  | .ret => some (.ret, s)
  | .reg l => (evJs (callOf tab ext ev) nb l s).map fun s' => (.nor, s')
  | .dreg cl ne l => if neOk ne s.1 = true then (evJs (callOf tab ext ev) nb l (clr cl s.1, s.2)).map fun s' => (.nor, s') else none

def evK (tab : Nat → Option CFun) (ext : CallF) : Nat → Ev
  | 0 => fun _ _ _ => none
  | k + 1 => stepC tab ext (evK tab ext k)

/-! ### more fuel, the same answer -/
def LeE (f g : Ev) : Prop := ∀ nb c s r, f nb c s = some r → g nb c s = some r
def LeF (f g : CallF) : Prop := ∀ n a b r, f n a b = some r → g n a b = some r

theorem callOf_mono {tab : Nat → Option CFun} {ext : CallF} {f g : Ev} (h : LeE f g) : LeF (callOf tab ext f) (callOf tab ext g) := by
  intro n a b r hr
  unfold callOf at hr ⊢
  cases hx : ext n a b with
  | some q => rw [hx] at hr; exact hr
  | none =>
    simp only [hx] at hr ⊢
    cases hF : tab n with
    | none => simp [hF] at hr
    | some F =>
      simp only [hF] at hr ⊢
      by_cases hl : a.length = F.np
      · rw [if_pos hl] at hr ⊢
        cases he : f b.length F.body (initFrom 0 a, b) with
        | none => simp [he] at hr
        | some q => rw [h _ _ _ _ he]; rw [he] at hr; exact hr
      · rw [if_neg hl] at hr; cases hr

theorem pureOf_mono {f g : CallF} (h : LeF f g) (keep : Bool) (n : Nat) (a : List A) (r : A) (hr : pureOf f keep n a = some r) : pureOf g keep n a = some r := by
  unfold pureOf at hr ⊢
  cases hx : f n a [] with
  | none => simp [hx] at hr
  | some q => rw [h _ _ _ _ hx]; rw [hx] at hr; exact hr

theorem evI_mono {f g : CallF} (h : LeF f g) (nb : Nat) (i : I) (e : Env) (bx : Bx) (r) (hr : evI f nb i e bx = some r) : evI g nb i e bx = some r := by
  cases i with
  | call n xs keep =>
    simp only [evI] at hr ⊢
    split at hr
    · cases hx : pureOf f keep n ‹_› with
      | none => simp [hx] at hr
      | some v => rw [pureOf_mono h _ _ _ _ hx]; rw [hx] at hr; exact hr
    · cases hr
  | calli n xs =>
    simp only [evI, Option.map_eq_some_iff] at hr ⊢
    obtain ⟨a, h1, h2⟩ := hr
    exact ⟨a, h _ _ _ _ h1, h2⟩
  | callv x xs =>
    simp only [evI] at hr ⊢
    split at hr
    · simp only [Option.map_eq_some_iff] at hr ⊢
      obtain ⟨a, h1, h2⟩ := hr
      exact ⟨a, h _ _ _ _ h1, h2⟩
    · cases hr
  | mv x t => cases t <;> exact hr
  | _ => exact hr

theorem evJ_mono {f g : CallF} (h : LeF f g) (nb : Nat) (j : J) (s) (r) (hr : evJ f nb j s = some r) : evJ g nb j s = some r := by
  have hrun : ∀ r, evRun f nb j s = some r → evRun g nb j s = some r := by
    intro r hr
    unfold evRun at hr ⊢
    cases he : evI f nb j.i s.1 s.2 with
    | none => simp [he] at hr
    | some q => rw [evI_mono h _ _ _ _ _ he]; rw [he] at hr; exact hr
  unfold evJ at hr ⊢
  split at hr
  · exact hrun _ hr
  · split at hr
    · split at hr
      · rename_i hb; simp only [if_pos hb]; exact hrun _ hr
      · rename_i hb; simp only [if_neg hb]; exact hr
    · exact hr
    · cases hr

theorem evJs_mono {f g : CallF} (h : LeF f g) (nb : Nat) : ∀ (l : List J) (s) (r), evJs f nb l s = some r → evJs g nb l s = some r
  | [], _, _, hr => hr
  | j :: l, s, r, hr => by
    unfold evJs at hr ⊢
    cases he : evJ f nb j s with
    | none => simp [he] at hr
    | some q => rw [evJ_mono h _ _ _ _ he]; rw [he] at hr; exact evJs_mono h nb l q r hr

theorem stepC_mono {tab : Nat → Option CFun} {ext : CallF} {f g : Ev} (h : LeE f g) : LeE (stepC tab ext f) (stepC tab ext g) := by
  intro nb c s r hr
  cases c with
  | skip => exact hr
  | exit id => exact hr
  | ret => exact hr
  | scope a => exact h _ _ _ _ hr
  | seq a b =>
    simp only [stepC] at hr ⊢
    cases he : f nb a s with
    | none => simp [he] at hr
    | some q =>
      obtain ⟨o, s1⟩ := q
      rw [h _ _ _ _ he]; rw [he] at hr
      cases o with
      | nor => exact h _ _ _ _ hr
      | ex i => exact hr
      | ret => exact hr
  | cond x a b =>
    simp only [stepC] at hr ⊢
    split at hr
    · split at hr
      · rename_i ht; simp only [ht, if_true]; exact h _ _ _ _ hr
      · rename_i ht; simp only [ht]; exact h _ _ _ _ hr
    · cases hr
  | block id a =>
    simp only [stepC] at hr ⊢
    cases he : f nb a s with
    | none => simp [he] at hr
    | some q => rw [h _ _ _ _ he]; rw [he] at hr; exact hr
  | loop live kb a =>
    simp only [stepC] at hr ⊢
    cases hl : loopIn nb live kb s with
    | none => simp [hl] at hr
    | some s0 =>
      simp only [hl] at hr ⊢
      cases he : f nb a s0 with
      | none => simp [he] at hr
      | some q =>
        obtain ⟨o, s1⟩ := q
        rw [h _ _ _ _ he]; rw [he] at hr
        cases o with
        | nor => exact h _ _ _ _ hr
        | ex i => exact hr
        | ret => exact hr
  | reg l =>
    simp only [stepC, Option.map_eq_some_iff] at hr ⊢
    obtain ⟨a, h1, h2⟩ := hr
    exact ⟨a, evJs_mono (callOf_mono h) _ _ _ _ h1, h2⟩
  | dreg cl ne l =>
    simp only [stepC] at hr ⊢
    split at hr
    · rename_i hne
      simp only [hne, if_true, Option.map_eq_some_iff] at hr ⊢
      obtain ⟨a, h1, h2⟩ := hr
      exact ⟨a, evJs_mono (callOf_mono h) _ _ _ _ h1, h2⟩
    · cases hr

theorem evK_succ (tab : Nat → Option CFun) (ext : CallF) : ∀ k, LeE (evK tab ext k) (evK tab ext (k + 1))
  | 0 => fun _ _ _ _ h => by cases h
  | k + 1 => stepC_mono (evK_succ tab ext k)

theorem evK_le (tab : Nat → Option CFun) (ext : CallF) {k m : Nat} (h : k ≤ m) : LeE (evK tab ext k) (evK tab ext m) := by
  induction h with
  | refl => exact fun _ _ _ _ h => h
  | step _ ih => exact fun _ _ _ _ h => evK_succ tab ext _ _ _ _ _ (ih _ _ _ _ h)

/-! ### the evaluator without fuel -/
open Classical in
noncomputable def evL (tab : Nat → Option CFun) (ext : CallF) : Ev := fun nb c s =>
  if h : ∃ r, ∃ k, evK tab ext k nb c s = some r then some (Classical.choose h) else none

theorem evL_iff (tab : Nat → Option CFun) (ext : CallF) (nb c s r) : evL tab ext nb c s = some r ↔ ∃ k, evK tab ext k nb c s = some r := by
  constructor
  · intro h
    unfold evL at h
    split at h
    · rename_i hx
      cases h
      exact Classical.choose_spec hx
    · cases h
  · rintro ⟨k, hk⟩
    have hx : ∃ r, ∃ k, evK tab ext k nb c s = some r := ⟨r, k, hk⟩
    unfold evL
    rw [dif_pos hx]
    obtain ⟨k', hk'⟩ := Classical.choose_spec hx
    have a := evK_le tab ext (Nat.le_max_left k k') _ _ _ _ hk
    have b := evK_le tab ext (Nat.le_max_right k k') _ _ _ _ hk'
    rw [a] at b
    exact b.symm

theorem evK_leL (tab : Nat → Option CFun) (ext : CallF) (k : Nat) : LeE (evK tab ext k) (evL tab ext) := fun _ _ _ _ h => (evL_iff ..).2 ⟨k, h⟩

noncomputable def callL (tab : Nat → Option CFun) (ext : CallF) : CallF := callOf tab ext (evL tab ext)

theorem callL_iff (tab : Nat → Option CFun) (ext : CallF) (f a b r) : callL tab ext f a b = some r ↔ ∃ k, callOf tab ext (evK tab ext k) f a b = some r := by
  constructor
  · intro h
    unfold callL callOf at h
    cases hx : ext f a b with
    | some q =>
      simp only [hx] at h
      exact ⟨0, by unfold callOf; simp only [hx]; exact h⟩
    | none =>
      simp only [hx] at h
      cases hF : tab f with
      | none => simp [hF] at h
      | some F =>
        simp only [hF] at h
        by_cases hl : a.length = F.np
        · rw [if_pos hl] at h
          cases he : evL tab ext b.length F.body (initFrom 0 a, b) with
          | none => simp [he] at h
          | some q =>
            obtain ⟨k, hk⟩ := (evL_iff ..).1 he
            rw [he] at h
            refine ⟨k, ?_⟩
            unfold callOf
            simp only [hx, hF, if_pos hl, hk]
            exact h
        · rw [if_neg hl] at h; cases h
  · rintro ⟨k, hk⟩
    exact callOf_mono (evK_leL tab ext k) _ _ _ _ hk

theorem evI_cont (tab : Nat → Option CFun) (ext : CallF) (nb i e bx r) (h : evI (callL tab ext) nb i e bx = some r) : ∃ k, evI (callOf tab ext (evK tab ext k)) nb i e bx = some r := by
  cases i with
  | call n xs keep =>
    simp only [evI] at h ⊢
    split at h
    · rename_i as _
      cases hx : pureOf (callL tab ext) keep n as with
      | none => simp [hx] at h
      | some v =>
        have hx' := hx
        unfold pureOf at hx'
        cases hc : callL tab ext n as [] with
        | none => simp [hc] at hx'
        | some q =>
          obtain ⟨k, hk⟩ := (callL_iff ..).1 hc
          refine ⟨k, ?_⟩
          have : pureOf (callOf tab ext (evK tab ext k)) keep n as = some v := by
            unfold pureOf; rw [hk]; rw [hc] at hx'; exact hx'
          rw [this]; rw [hx] at h; exact h
    · cases h
  | calli n xs =>
    simp only [evI, Option.map_eq_some_iff] at h ⊢
    obtain ⟨a, h1, h2⟩ := h
    obtain ⟨k, hk⟩ := (callL_iff ..).1 h1
    exact ⟨k, a, hk, h2⟩
  | callv x xs =>
    simp only [evI] at h ⊢
    split at h
    · simp only [Option.map_eq_some_iff] at h ⊢
      obtain ⟨a, h1, h2⟩ := h
      obtain ⟨k, hk⟩ := (callL_iff ..).1 h1
      exact ⟨k, a, hk, h2⟩
    · cases h
  | mv x t => cases t <;> exact ⟨0, h⟩
  | _ => exact ⟨0, h⟩

theorem evRun_cont (tab : Nat → Option CFun) (ext : CallF) (nb j s r) (h : evRun (callL tab ext) nb j s = some r) : ∃ k, evRun (callOf tab ext (evK tab ext k)) nb j s = some r := by
  unfold evRun at h
  cases he : evI (callL tab ext) nb j.i s.1 s.2 with
  | none => simp [he] at h
  | some q =>
    obtain ⟨k, hk⟩ := evI_cont tab ext _ _ _ _ _ he
    rw [he] at h
    refine ⟨k, ?_⟩
    unfold evRun
    rw [hk]
    exact h

theorem evJ_cont (tab : Nat → Option CFun) (ext : CallF) (nb j s r) (h : evJ (callL tab ext) nb j s = some r) : ∃ k, evJ (callOf tab ext (evK tab ext k)) nb j s = some r := by
  unfold evJ at h ⊢
  split at h
  · exact evRun_cont _ _ _ _ _ _ h
  · split at h
    · split at h
      · rename_i hb; simp only [if_pos hb]; exact evRun_cont _ _ _ _ _ _ h
      · rename_i hb; simp only [if_neg hb]; exact ⟨0, h⟩
    · exact ⟨0, h⟩
    · cases h

theorem evJs_cont (tab : Nat → Option CFun) (ext : CallF) (nb) : ∀ (l s r), evJs (callL tab ext) nb l s = some r → ∃ k, evJs (callOf tab ext (evK tab ext k)) nb l s = some r
  | [], _, _, h => ⟨0, h⟩
  | j :: l, s, r, h => by
    unfold evJs at h
    cases he : evJ (callL tab ext) nb j s with
    | none => simp [he] at h
    | some q =>
      simp only [he] at h
      obtain ⟨k, hk⟩ := evJ_cont tab ext _ _ _ _ he
      obtain ⟨m, hm⟩ := evJs_cont tab ext nb l q r h
      refine ⟨max k m, ?_⟩
      unfold evJs
      rw [evJ_mono (callOf_mono (evK_le tab ext (Nat.le_max_left k m))) _ _ _ _ hk]
      exact evJs_mono (callOf_mono (evK_le tab ext (Nat.le_max_right k m))) _ _ _ _ hm

theorem evL_step (tab : Nat → Option CFun) (ext : CallF) (nb c s) : evL tab ext nb c s = stepC tab ext (evL tab ext) nb c s := by
  apply Option.ext
  intro r
  constructor
  · intro h
    obtain ⟨k, hk⟩ := (evL_iff ..).1 h
    cases k with
    | zero => cases hk
    | succ k => exact stepC_mono (evK_leL tab ext k) _ _ _ _ hk
  · intro h
    rw [evL_iff]
    cases c with
    | skip => exact ⟨1, h⟩
    | exit id => exact ⟨1, h⟩
    | ret => exact ⟨1, h⟩
    | scope a => obtain ⟨k, hk⟩ := (evL_iff ..).1 h; exact ⟨k + 1, hk⟩
    | seq a b =>
      simp only [stepC] at h
      cases he : evL tab ext nb a s with
      | none => simp [he] at h
      | some q =>
        obtain ⟨o, s1⟩ := q
        obtain ⟨k, hk⟩ := (evL_iff ..).1 he
        simp only [he] at h
        cases o with
        | nor =>
          obtain ⟨m, hm⟩ := (evL_iff ..).1 h
          refine ⟨max k m + 1, ?_⟩
          simp only [evK, stepC]
          rw [evK_le tab ext (Nat.le_max_left k m) _ _ _ _ hk]
          exact evK_le tab ext (Nat.le_max_right k m) _ _ _ _ hm
        | ex i => exact ⟨k + 1, by simp only [evK, stepC]; rw [hk]; exact h⟩
        | ret => exact ⟨k + 1, by simp only [evK, stepC]; rw [hk]; exact h⟩
    | cond x a b =>
      simp only [stepC] at h
      split at h
      · rename_i t hx
        cases t with
        | true => obtain ⟨k, hk⟩ := (evL_iff ..).1 (by simpa using h); exact ⟨k + 1, by simp only [evK, stepC, hx]; simpa using hk⟩
        | false => obtain ⟨k, hk⟩ := (evL_iff ..).1 (by simpa using h); exact ⟨k + 1, by simp only [evK, stepC, hx]; simpa using hk⟩
      · cases h
    | block id a =>
      simp only [stepC] at h
      cases he : evL tab ext nb a s with
      | none => simp [he] at h
      | some q =>
        obtain ⟨k, hk⟩ := (evL_iff ..).1 he
        exact ⟨k + 1, by simp only [evK, stepC]; rw [hk]; rw [he] at h; exact h⟩
    | loop live kb a =>
      simp only [stepC] at h
      cases hl : loopIn nb live kb s with
      | none => simp [hl] at h
      | some s0 =>
        simp only [hl] at h
        cases he : evL tab ext nb a s0 with
        | none => simp [he] at h
        | some q =>
          obtain ⟨o, s1⟩ := q
          obtain ⟨k, hk⟩ := (evL_iff ..).1 he
          simp only [he] at h
          cases o with
          | nor =>
            obtain ⟨m, hm⟩ := (evL_iff ..).1 h
            refine ⟨max k m + 1, ?_⟩
            simp only [evK, stepC, hl]
            rw [evK_le tab ext (Nat.le_max_left k m) _ _ _ _ hk]
            exact evK_le tab ext (Nat.le_max_right k m) _ _ _ _ hm
          | ex i => exact ⟨k + 1, by simp only [evK, stepC, hl]; rw [hk]; exact h⟩
          | ret => exact ⟨k + 1, by simp only [evK, stepC, hl]; rw [hk]; exact h⟩
    | reg l =>
      simp only [stepC, Option.map_eq_some_iff] at h
      obtain ⟨a, h1, h2⟩ := h
      obtain ⟨k, hk⟩ := evJs_cont tab ext nb l s a h1
      exact ⟨k + 1, by simp only [evK, stepC, Option.map_eq_some_iff]; exact ⟨a, hk, h2⟩⟩
    | dreg cl ne l =>
      simp only [stepC] at h
      split at h
      · rename_i hne
        simp only [Option.map_eq_some_iff] at h
        obtain ⟨a, h1, h2⟩ := h
        obtain ⟨k, hk⟩ := evJs_cont tab ext nb l _ a h1
        exact ⟨k + 1, by simp only [evK, stepC, hne, if_true, Option.map_eq_some_iff]; exact ⟨a, hk, h2⟩⟩
      · cases h
end Go.Proofs.YtclebnamhpgdmaaGreatEv
