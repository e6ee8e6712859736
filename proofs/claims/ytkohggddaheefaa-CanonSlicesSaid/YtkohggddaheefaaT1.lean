/- Parts, tasks, sets as the laws know them, and how they lie in cells. -/
import Derived.Test.YtkohggddaheefaaEv4
set_option linter.unusedSimpArgs false
set_option linter.unusedVariables false
namespace Go.Proofs.YtkohggddaheefaaEv
open Go
structure Pt where
  kind : Int
  len : Int
  res : Int
  deriving DecidableEq, Inhabited
structure Tk where
  name : ByteArray
  period : Int
  deadline : Int
  prio : Int
  cluster : Int
  parts : List Pt
  deriving Inhabited
structure St where
  proto : Int
  cores : List Int
  homes : List Int
  tasks : List Tk
  deriving Inhabited
/-- A list of records of so many cells. -/
def slF {α : Type} (f : α → List A) (l : List α) : A := .sl (l.flatMap f) l.length 0
def Pt.c (p : Pt) : List A := [vi p.kind, vi p.len, vi p.res]
def slI (l : List Int) : A := .sl (l.map vi) l.length 0
def slP (l : List Pt) : A := .sl (l.flatMap Pt.c) l.length 0
def Tk.c (t : Tk) : List A := [vs t.name, vi t.period, vi t.deadline, vi t.prio, vi t.cluster, slP t.parts]
def slT (l : List Tk) : A := .sl (l.flatMap Tk.c) l.length 0
def St.c (s : St) : List A := [vi s.proto, slI s.cores, slI s.homes, slT s.tasks]
/-- What lies from a record on. -/
theorem drop_flat {α : Type} (f : α → List A) (z : Nat) (hz : ∀ a, (f a).length = z) : ∀ (l : List α) (i : Nat) (h : i < l.length), (l.flatMap f).drop (i * z) = f l[i] ++ (l.drop (i + 1)).flatMap f
  | a :: l, 0, _ => by simp
  | a :: l, i + 1, h => by
    have := drop_flat f z hz l i (by simpa using h)
    rw [List.flatMap_cons, Nat.add_mul, Nat.one_mul, Nat.add_comm (i * z) z, ← List.drop_drop]
    rw [show (f a ++ l.flatMap f).drop z = l.flatMap f by rw [← hz a]; exact List.drop_left]
    simpa using this
theorem take_flat {α : Type} (f : α → List A) (z : Nat) (hz : ∀ a, (f a).length = z) : ∀ (l : List α) (i : Nat), i ≤ l.length → (l.flatMap f).take (i * z) = (l.take i).flatMap f
  | l, 0, _ => by simp
  | a :: l, i + 1, h => by
    have := take_flat f z hz l i (by simpa using h)
    rw [List.flatMap_cons, Nat.add_mul, Nat.one_mul, Nat.add_comm (i * z) z, List.take_add]
    rw [show (f a ++ l.flatMap f).drop z = l.flatMap f by rw [← hz a]; exact List.drop_left, show (f a ++ l.flatMap f).take z = f a by rw [← hz a]; exact List.take_left]
    simp [this]
theorem len_flat {α : Type} (f : α → List A) (z : Nat) (hz : ∀ a, (f a).length = z) (l : List α) : (l.flatMap f).length = l.length * z := by
  induction l with
  | nil => simp
  | cons a l ih => simp [hz, ih, Nat.add_mul]; omega
theorem sumC {α : Type} (l : List α) (c : Nat) : (l.map fun _ => c).sum = l.length * c := by
  induction l with
  | nil => simp
  | cons a l ih => simp [ih, Nat.add_mul]; omega
theorem drop_int (l : List Int) (i : Nat) (h : i < l.length) : (l.map vi).drop i = vi l[i] :: (l.drop (i + 1)).map vi := by
  rw [← List.map_drop, List.drop_eq_getElem_cons h]; rfl
theorem drop_pt (l : List Pt) (i : Nat) (h : i < l.length) : (l.flatMap Pt.c).drop (i * 3) = Pt.c l[i] ++ (l.drop (i + 1)).flatMap Pt.c := drop_flat _ 3 (fun _ => rfl) l i h
theorem drop_tk (l : List Tk) (i : Nat) (h : i < l.length) : (l.flatMap Tk.c).drop (i * 6) = Tk.c l[i] ++ (l.drop (i + 1)).flatMap Tk.c := drop_flat _ 6 (fun _ => rfl) l i h
theorem len_pt (l : List Pt) : (l.flatMap Pt.c).length = l.length * 3 := len_flat _ 3 (fun _ => rfl) l
theorem len_tk (l : List Tk) : (l.flatMap Tk.c).length = l.length * 6 := len_flat _ 6 (fun _ => rfl) l
theorem take_pt (l : List Pt) (i : Nat) (h : i ≤ l.length) : (l.flatMap Pt.c).take (i * 3) = (l.take i).flatMap Pt.c := take_flat _ 3 (fun _ => rfl) l i h
theorem take_tk (l : List Tk) (i : Nat) (h : i ≤ l.length) : (l.flatMap Tk.c).take (i * 6) = (l.take i).flatMap Tk.c := take_flat _ 6 (fun _ => rfl) l i h
/-- No right to grow, no dangling slice. -/
def Clean (bx : Bx) : Prop := strip bx = bx ∧ (bx.all fun cs => cs.all (A.dangC bx.length)) = true
theorem clean_nil : Clean [] := ⟨rfl, rfl⟩
theorem aft_clean {bx : Bx} (h : Clean bx) {v : A} (hv : v.scal = true) : aft bx.length (v, bx) = (v, [], bx) := by
  unfold aft
  simp only [h.1, List.take_length, hv, h.2, and_self, if_true]
theorem aft_clean' {bx : Bx} (h : Clean bx) {v : A} (hv : v.scal = true) (junk : Bx) : aft bx.length (v, bx ++ junk) = (v, [], bx) := by
  unfold aft strip
  have h1 : List.map (List.map A.cp1) bx = bx := h.1
  rw [List.map_append, h1, List.take_left' (by rfl)]
  simp only [hv, h.2, and_self, if_true]
theorem aft_vb {bx : Bx} (h : Clean bx) (b : Bool) : aft bx.length (vb b, bx) = (vb b, [], bx) := aft_clean h rfl
theorem aft_vi {bx : Bx} (h : Clean bx) (b : Int) : aft bx.length (vi b, bx) = (vi b, [], bx) := aft_clean h rfl
theorem aft_vb' {bx : Bx} (h : Clean bx) (b : Bool) (junk : Bx) : aft bx.length (vb b, bx ++ junk) = (vb b, [], bx) := aft_clean' h rfl _
theorem aft_vi' {bx : Bx} (h : Clean bx) (b : Int) (junk : Bx) : aft bx.length (vi b, bx ++ junk) = (vi b, [], bx) := aft_clean' h rfl _
theorem wrap_in (n : Int) (h1 : -4611686018427387904 ≤ n) (h2 : n ≤ 4611686018427387904) : IntKind.wrap .i64 n = n := by
  rw [IntKind.wrap_i64]; omega
/-- A loop, and what comes behind it. -/
theorem behind {α β : Type} {x : Option α} {K : α → Option β} {r : Option β} {Q : α → Prop} (h : ∃ a, x = some a ∧ Q a) (hk : ∀ a, Q a → K a = r) : x.bind K = r := by
  obtain ⟨a, rfl, q⟩ := h
  exact hk a q
theorem behindP {α β : Type} {x : Option α} {K : α → Option β} {Q : α → Prop} {P : Option β → Prop} (h : ∃ a, x = some a ∧ Q a) (hk : ∀ a, Q a → P (K a)) : P (x.bind K) := by
  obtain ⟨a, rfl, q⟩ := h
  exact hk a q
theorem Pt.eq_iff (a b : Pt) : a = b ↔ a.kind = b.kind ∧ a.len = b.len ∧ a.res = b.res := by
  cases a; cases b; simp
theorem eqCells_pt (a b : Pt) : eqCells [vi a.kind, vi a.len, vi a.res] [vi b.kind, vi b.len, vi b.res] = some (decide (a = b)) := by
  simp [eqCells, Pt.eq_iff, Bool.and_assoc]
theorem bal_loop (bs : ByteArray) : ∀ (d i : Nat) (r : List UInt8), bs.size - i = d → ByteArray.toList.loop bs i r = r.reverse ++ bs.data.toList.drop i := by
  intro d
  induction d with
  | zero =>
    intro i r h
    unfold ByteArray.toList.loop
    have hs : bs.data.toList.length = bs.size := rfl
    rw [if_neg (by omega), List.drop_of_length_le (by omega), List.append_nil]
  | succ d ih =>
    intro i r h
    unfold ByteArray.toList.loop
    have hs : bs.data.toList.length = bs.size := rfl
    have hi : i < bs.data.toList.length := by omega
    rw [if_pos (by omega), ih (i + 1) _ (by omega), List.reverse_cons, List.append_assoc, List.drop_eq_getElem_cons hi]
    have : bs.get! i = bs.data.toList[i] := by
      rcases bs with ⟨l⟩
      show l[i]! = _
      have hi' : i < l.size := by simpa using hi
      simp [getElem!_pos l i hi']
    rw [this]; rfl
theorem bal_eq (bs : ByteArray) : bs.toList = bs.data.toList := by
  unfold ByteArray.toList
  rw [bal_loop bs _ 0 [] rfl]; rfl
theorem ba_empty (s : ByteArray) : (s = ByteArray.empty) = ((s.size : Int) = 0) := by
  apply propext
  rcases s with ⟨⟨l⟩⟩
  cases l with
  | nil => exact ⟨fun _ => rfl, fun _ => rfl⟩
  | cons a l => exact ⟨fun h => by have := congrArg ByteArray.size h; have h2 : l.length + 1 = 0 := this; omega, fun h => by have : ((l.length + 1 : Nat) : Int) = 0 := h; omega⟩
theorem bal_nil (s : ByteArray) : (s.toList = []) = ((s.size : Int) = 0) := by
  rw [bal_eq]; rcases s with ⟨⟨l⟩⟩
  apply propext
  show l = [] ↔ ((l.length : Nat) : Int) = 0
  rw [← List.length_eq_zero_iff]; omega
theorem get_0 (bx : Bx) (a) (r : Bx) : (bx ++ a :: r)[bx.length]? = some a := by simp
theorem get_1 (bx : Bx) (a b) (r : Bx) : (bx ++ a :: b :: r)[bx.length + 1]? = some b := by simp
theorem get_2 (bx : Bx) (a b c) (r : Bx) : (bx ++ a :: b :: c :: r)[bx.length + 2]? = some c := by simp
theorem set_0 (bx : Bx) (a x) (r : Bx) : (bx ++ a :: r).set bx.length x = bx ++ x :: r := by simp
theorem set_1 (bx : Bx) (a b x) (r : Bx) : (bx ++ a :: b :: r).set (bx.length + 1) x = bx ++ a :: x :: r := by simp
theorem set_2 (bx : Bx) (a b c x) (r : Bx) : (bx ++ a :: b :: c :: r).set (bx.length + 2) x = bx ++ a :: b :: x :: r := by simp
theorem bx_len (bx r : Bx) : (bx ++ r).length = bx.length + r.length := List.length_append
/-- A loop over places. -/
theorem loop_ind {X : Type} {go : X → Option (Out × Env × Bx)} {St : Nat → X → Prop} {Q : Nat → Out × Env × Bx → Prop} {n : Nat}
    (hend : ∀ s, St n s → ∃ a, go s = some a ∧ Q n a)
    (hstep : ∀ i s, i < n → St i s → (∃ a, go s = some a ∧ Q i a) ∨ ∃ s', go s = go s' ∧ St (i + 1) s' ∧ ∀ a, Q (i + 1) a → Q i a) :
    ∀ d i s, i + d = n → St i s → ∃ a, go s = some a ∧ Q i a := by
  intro d
  induction d with
  | zero => intro i s h hs; obtain rfl : i = n := by omega
            exact hend s hs
  | succ d ih =>
    intro i s h hs
    rcases hstep i s (by omega) hs with h1 | ⟨s', h1, h2, h3⟩
    · exact h1
    · obtain ⟨a, ha, hq⟩ := ih (i + 1) s' (by omega) h2
      exact ⟨a, h1.trans ha, h3 a hq⟩
/-- The first place told. -/
def fstP (p : Nat → Bool) : Nat → Nat → Option Nat
  | _, 0 => none
  | i, d + 1 => if p i then some i else fstP p (i + 1) d
theorem fstP_congr {p q : Nat → Bool} : ∀ (d i : Nat), (∀ k, i ≤ k → k < i + d → p k = q k) → fstP p i d = fstP q i d
  | 0, _, _ => rfl
  | d + 1, i, h => by
    unfold fstP
    rw [h i (Nat.le_refl _) (by omega), fstP_congr d (i + 1) fun k h1 h2 => h k (by omega) (by omega)]
theorem fstP_none {p : Nat → Bool} : ∀ (d i : Nat), fstP p i d = none ↔ ∀ k, i ≤ k → k < i + d → p k = false
  | 0, i => ⟨fun _ k _ _ => by omega, fun _ => rfl⟩
  | d + 1, i => by
    unfold fstP
    cases hp : p i with
    | true => simp; exact ⟨i, Nat.le_refl _, by omega, hp⟩
    | false =>
      simp only [Bool.false_eq_true, if_false]
      rw [fstP_none d (i + 1)]
      constructor
      · intro h k h1 h2
        by_cases hk : k = i
        · rw [hk]; exact hp
        · exact h k (by omega) (by omega)
      · intro h k h1 h2; exact h k (by omega) (by omega)
theorem fstP_some {p : Nat → Bool} : ∀ (d i k : Nat), fstP p i d = some k → i ≤ k ∧ k < i + d ∧ p k = true
  | 0, _, _, h => by cases h
  | d + 1, i, k, h => by
    unfold fstP at h
    cases hp : p i with
    | true => rw [hp] at h; cases h; exact ⟨Nat.le_refl _, by omega, hp⟩
    | false =>
      rw [hp] at h
      obtain ⟨h1, h2, h3⟩ := fstP_some d (i + 1) k h
      exact ⟨by omega, by omega, h3⟩
def FQ (p : Nat → Bool) (bx : Bx) (x : Nat) (RET : Nat → Env → Prop) (EX : Env → Prop) (i d : Nat) (a : Out × Env × Bx) : Prop := match fstP p i d with
  | none => ∃ e', a = (.ex x, e', bx) ∧ EX e'
  | some k => ∃ e' junk, a = (.ret, e', bx ++ junk) ∧ RET k e'
theorem FQ.never {bx : Bx} {x : Nat} {RET : Nat → Env → Prop} {EX : Env → Prop} {i d : Nat} {a : Out × Env × Bx} (h : FQ (fun _ => false) bx x RET EX i d a) : ∃ e', a = (.ex x, e', bx) ∧ EX e' := by
  unfold FQ at h
  split at h
  · exact h
  · rename_i k hk
    obtain ⟨_, _, hf⟩ := fstP_some _ _ _ hk
    cases hf
def frzK (k : Bool) (p : A × Bx) : Option A := frz k p.2 p.1
theorem pureOf_b (Φ : CallF) (k : Bool) (f : Nat) (args : List A) : pureOf Φ k f args = (Φ f args []).bind (frzK k) := by
  unfold pureOf
  cases Φ f args [] <;> rfl
/-- A round: it ends here, as is told; or it goes on. -/
def Step (p : Bool) (bx : Bx) (RET : Env → Prop) (go : Env → Option (Out × Env × Bx)) (St' : Env → Prop) (r : Option (Out × Env × Bx)) : Prop :=
  (p = true ∧ ∃ e' junk, r = some (.ret, e', bx ++ junk) ∧ RET e') ∨ (p = false ∧ ∃ e', r = go e' ∧ St' e')
theorem Step.ret {p bx RET go St'} {e' : Env} (junk : Bx) (h : p = true) (hr : RET e') : Step p bx RET go St' (some (.ret, e', bx ++ junk)) := .inl ⟨h, e', junk, rfl, hr⟩
theorem Step.ret0 {p bx RET go St'} {e' : Env} (h : p = true) (hr : RET e') : Step p bx RET go St' (some (.ret, e', bx)) := .inl ⟨h, e', [], by rw [List.append_nil], hr⟩
theorem Step.go {p bx RET St'} {go : Env → Option (Out × Env × Bx)} {e' : Env} (h : p = false) (hr : St' e') : Step p bx RET go St' (go e') := .inr ⟨h, e', rfl, hr⟩
/-- A loop forgets what its round has made. -/
theorem loop_junk {tab : Nat → Option CFun} {ext : CallF} {nb kb : Nat} {live : List Nat} {b : C} {bx : Bx} (junk : Bx) (hn : nb + kb ≤ bx.length) (e : Env) :
    evL tab ext nb (.loop live kb b) (e, bx ++ junk) = evL tab ext nb (.loop live kb b) (e, bx) := by
  rw [eL_loop, eL_loop]
  congr 1
  unfold loopIn loopIn0
  have h1 : min kb ((bx ++ junk).length - nb) = kb := by rw [List.length_append]; omega
  have h2 : min kb (bx.length - nb) = kb := by omega
  have h3 : nb + kb ≤ (bx ++ junk).length := by rw [List.length_append]; omega
  dsimp only
  rw [h1, h2, List.take_append_of_le_length hn, List.take_append_of_le_length (by omega : nb ≤ bx.length), List.drop_append_of_le_length (by omega : nb ≤ bx.length),
    List.take_append_of_le_length (by rw [List.length_drop]; omega)]
  simp only [hn, h3, true_and]
theorem keepL_congr {live : List Nat} {e e' : Env} (h : ∀ i ∈ live, e i = e' i) : keepL live e = keepL live e' := by
  induction live with
  | nil => rfl
  | cons a l ih =>
    have h1 := h a (List.mem_cons_self ..)
    have h2 := ih fun i hi => h i (List.mem_cons_of_mem _ hi)
    unfold keepL at h2 ⊢
    rw [List.foldr_cons, List.foldr_cons, h2, h1]
/-- A loop knows of its variables alone. -/
theorem loop_env {tab : Nat → Option CFun} {ext : CallF} {nb kb : Nat} {live : List Nat} {b : C} {bx : Bx} {e e' : Env} (h : ∀ i ∈ live, e i = e' i) :
    evL tab ext nb (.loop live kb b) (e, bx) = evL tab ext nb (.loop live kb b) (e', bx) := by
  rw [eL_loop, eL_loop]
  congr 1
  unfold loopIn loopIn0
  dsimp only
  rw [keepL_congr h]
  have : (live.all fun i => (e i).dang (nb + min kb (bx.length - nb))) = (live.all fun i => (e' i).dang (nb + min kb (bx.length - nb))) := by
    rw [Bool.eq_iff_iff, List.all_eq_true, List.all_eq_true]
    constructor
    · intro hh i hi; rw [← h i hi]; exact hh i hi
    · intro hh i hi; rw [h i hi]; exact hh i hi
  rw [this]
/-- What a loop leaves, by running it. -/
theorem loop_run {tab : Nat → Option CFun} {ext : CallF} {nb : Nat} {L : C} {s : Env × Bx} {α : Type} {f : Out × Env × Bx → α} {r : α} (k : Nat) (h : (evK tab ext k nb L s).map f = some r) :
    ∃ a, evL tab ext nb L s = some a ∧ f a = r := by
  cases hx : evK tab ext k nb L s with
  | none => rw [hx] at h; cases h
  | some a => rw [hx] at h; exact ⟨a, (evL_iff ..).2 ⟨k, hx⟩, by simpa using h⟩
theorem Step.goJ {p : Bool} {bx : Bx} {RET St' : Env → Prop} {e' : Env} {tab : Nat → Option CFun} {ext : CallF} {nb kb : Nat} {live : List Nat} {b : C} (junk : Bx) (hn : nb + kb ≤ bx.length) (h : p = false) (hr : St' e') :
    Step p bx RET (fun e => evL tab ext nb (.loop live kb b) (e, bx)) St' (evL tab ext nb (.loop live kb b) (e', bx ++ junk)) := .inr ⟨h, e', loop_junk junk hn e', hr⟩
theorem Step.split {p : Bool} {bx RET go St'} {c : Prop} [Decidable c] {x y} (h : c → Step p bx RET go St' x) (h' : ¬ c → Step p bx RET go St' y) : Step p bx RET go St' (if c then x else y) := by
  split
  · exact h ‹_›
  · exact h' ‹_›
theorem fq_loop {go : Env → Option (Out × Env × Bx)} {St : Nat → Env → Prop} {n : Nat} (p : Nat → Bool) (bx : Bx) (x : Nat) (RET : Nat → Env → Prop) (EX : Env → Prop)
    (hend : ∀ e, St n e → ∃ e', go e = some (.ex x, e', bx) ∧ EX e')
    (hstep : ∀ i e, i < n → St i e → Step (p i) bx (RET i) go (St (i + 1)) (go e)) :
    ∀ d i e, i + d = n → St i e → ∃ a, go e = some a ∧ FQ p bx x RET EX i d a := by
  intro d
  induction d with
  | zero => intro i e h hs; obtain rfl : i = n := by omega
            obtain ⟨e', h, hx⟩ := hend e hs
            exact ⟨_, h, e', rfl, hx⟩
  | succ d ih =>
    intro i e h hs
    rcases hstep i e (by omega) hs with ⟨h1, e', junk, h2, h3⟩ | ⟨h1, e', h2, h3⟩
    · exact ⟨_, h2, by unfold FQ fstP; rw [h1]; exact ⟨e', junk, rfl, h3⟩⟩
    · obtain ⟨a, ha, hq⟩ := ih (i + 1) e' (by omega) h3
      exact ⟨a, h2.trans ha, by unfold FQ fstP; rw [h1]; exact hq⟩
/-- An answer. -/
def Ans (v : A) (bx : Bx) (r : Option (A × Bx)) : Prop := ∃ junk, r = some (v, bx ++ junk)
theorem Ans.mk {v v' : A} {bx : Bx} (junk : Bx) (h : v' = v) : Ans v bx (some (v', bx ++ junk)) := ⟨junk, by rw [h]⟩
theorem Ans.mk0 {v v' : A} {bx : Bx} (h : v' = v) : Ans v bx (some (v', bx)) := ⟨[], by rw [h, List.append_nil]⟩
theorem Ans.nil {v v' : A} {b : Bx} (h : v' = v) : Ans v [] (some (v', b)) := ⟨b, by rw [h]; rfl⟩
theorem Ans.split {v : A} {bx : Bx} {c : Prop} [Decidable c] {x y} (h : c → Ans v bx x) (h' : ¬ c → Ans v bx y) : Ans v bx (if c then x else y) := by
  split
  · exact h ‹_›
  · exact h' ‹_›
theorem pure_vb {Φ : CallF} {k f args b} (h : Ans (vb b) [] (Φ f args [])) : pureOf Φ k f args = some (vb b) := by
  obtain ⟨j, h⟩ := h
  exact pureOf_eq h rfl
theorem pure_vi {Φ : CallF} {k f args b} (h : Ans (vi b) [] (Φ f args [])) : pureOf Φ k f args = some (vi b) := by
  obtain ⟨j, h⟩ := h
  exact pureOf_eq h rfl
theorem pure_tup2 {Φ : CallF} {k f args a b} (h : Ans (.tup [vi a, vi b]) [] (Φ f args [])) : pureOf Φ k f args = some (.tup [vi a, vi b]) := by
  obtain ⟨j, h⟩ := h
  exact pureOf_eq h rfl
theorem clean_St (p : Int) (c h : List Int) (t : List Tk) : Clean [[vi p, slI c, slI h, slT t]] := ⟨by simp [strip, A.cp1, slI, slT], by simp [A.dangC, slI, slT]⟩
/-- Alike, place by place. -/
def eqF {α : Type} (f : α → α → Bool) : List α → List α → Bool
  | [], [] => true
  | a :: l, b :: m => f a b && eqF f l m
  | _, _ => false
theorem eqF_len {α : Type} (f : α → α → Bool) : ∀ (l m : List α), l.length ≠ m.length → eqF f l m = false
  | [], [], h => by simp at h
  | [], _ :: _, _ => rfl
  | _ :: _, [], _ => rfl
  | a :: l, b :: m, h => by simp [eqF, eqF_len f l m (by simpa using h)]
theorem eqF_drop {α : Type} (f : α → α → Bool) (l m : List α) (i : Nat) (h : i < l.length) (h' : i < m.length) : eqF f (l.drop i) (m.drop i) = (f l[i] m[i] && eqF f (l.drop (i + 1)) (m.drop (i + 1))) := by
  rw [List.drop_eq_getElem_cons h, List.drop_eq_getElem_cons h']; rfl
theorem eqF_eq {α : Type} [DecidableEq α] : ∀ (l m : List α), eqF (fun a b => decide (a = b)) l m = decide (l = m)
  | [], [] => rfl
  | [], _ :: _ => rfl
  | _ :: _, [] => rfl
  | a :: l, b :: m => by simp [eqF, eqF_eq l m]
/-- Behind a loop that compares: all alike, or one told that it isn't. -/
def EqQ {α : Type} (f : α → α → Bool) (l m : List α) (bx : Bx) (R : Nat) (i : Nat) (a : Out × Env × Bx) : Prop :=
  ∃ e' junk, (eqF f (l.drop i) (m.drop i) = true ∧ a = (.ex 0, e', bx)) ∨ (eqF f (l.drop i) (m.drop i) = false ∧ a = (.ret, e', bx ++ junk) ∧ e' R = vb false)
theorem EqQ.step {α : Type} {f : α → α → Bool} {l m : List α} {bx : Bx} {R i : Nat} (h : i < l.length) (h' : i < m.length) (hp : f l[i] m[i] = true) (a) (hq : EqQ f l m bx R (i + 1) a) : EqQ f l m bx R i a := by
  unfold EqQ
  rw [eqF_drop f l m i h h', hp]
  exact hq
theorem dangC_vi (m : Nat) (n : Int) : A.dangC m (vi n) = true := rfl
end Go.Proofs.YtkohggddaheefaaEv
/- A function one region of which is run in two orders that aren't one to who looks at the boxes: both are asked, and both must answer the same. -/
namespace Go.Proofs.YtkohggddaheefaaEv
open Go Go.RowKit

/-- q never stands ahead of p. -/
def NB (σ : List Nat) (p q : Nat) : Prop := σ.Pairwise fun a b => ¬ (a = q ∧ b = p)
theorem NB.of_not1 {p q : Nat} : ∀ {l : List Nat}, q ∉ l → NB l p q
  | [], _ => List.Pairwise.nil
  | a :: l, h => List.Pairwise.cons (fun b _ e => h (by rw [← e.1]; simp)) (NB.of_not1 fun hm => h (by simp [hm]))
theorem NB.of_not2 {p q : Nat} : ∀ {l : List Nat}, p ∉ l → NB l p q
  | [], _ => List.Pairwise.nil
  | a :: l, h => List.Pairwise.cons (fun b hb e => h (by rw [← e.2]; simp [hb])) (NB.of_not2 fun hm => h (by simp [hm]))
theorem nb_or {σ : List Nat} (hn : σ.Nodup) {a b : Nat} (hab : a ≠ b) (hb : b ∈ σ) : NB σ a b ∨ NB σ b a := by
  obtain ⟨A, B, rfl⟩ := List.append_of_mem hb
  rw [List.nodup_append] at hn
  obtain ⟨n1, n2, n3⟩ := hn
  rw [List.nodup_cons] at n2
  by_cases ha : a ∈ A
  · left
    have haB : a ∉ b :: B := fun h => n3 a ha a h rfl
    unfold NB
    rw [List.pairwise_append]
    exact ⟨NB.of_not1 (fun h => n3 b h b (by simp) rfl), NB.of_not2 haB, fun u hu v hv e => haB (by rw [← e.2]; exact hv)⟩
  · right
    unfold NB
    rw [List.pairwise_append]
    refine ⟨NB.of_not1 ha, List.Pairwise.cons (fun v hv e => hab e.1.symm) (NB.of_not2 n2.1), fun u hu v hv e => ha (by rw [← e.1]; exact hu)⟩
/-- Any order in which what touches each other stands as it does here. -/
theorem perm_soundN {Φ : CallF} {nb : Nat} {K : Env × Bx → Prop} {ind : J → J → Bool} {S : J → Prop} (hC : Comm Φ nb K ind S) (js : Nat → J) : ∀ (I : List Nat) (σ : List Nat) (s s2), (∀ x ∈ I, S (js x)) → K s → I.Nodup → I.Pairwise (fun p q => ind (js p) (js q) = true ∨ NB σ p q) → σ.Nodup → (∀ x, x ∈ I ↔ x ∈ σ) →
    evJs Φ nb (I.map js) s = some s2 → evJs Φ nb (σ.map js) s = some s2
  | [], σ, s, s2, _, _, _, _, _, hm, h => by
    have : σ = [] := by
      cases σ with
      | nil => rfl
      | cons x σ => exact absurd ((hm x).2 (by simp)) (by simp)
    subst this
    exact h
  | p :: I, σ, s, s2, hS, hK, hIn, hI, hn, hm, h => by
    obtain ⟨σ1, σ2, rfl⟩ := List.append_of_mem ((hm p).1 (by simp))
    rw [List.pairwise_cons] at hI
    rw [List.nodup_cons] at hIn
    have hn' := hn
    rw [List.nodup_append] at hn'
    obtain ⟨n1, n2, n3⟩ := hn'
    rw [List.nodup_cons] at n2
    have hind : ∀ q ∈ σ1, S (js q) ∧ ind (js p) (js q) = true := by
      intro q hq
      have hqI : q ∈ p :: I := (hm q).2 (by simp [hq])
      refine ⟨hS q hqI, ?_⟩
      have hne : q ≠ p := fun e => n3 q hq p (by simp) e
      rcases hI.1 q ((List.mem_cons.1 hqI).resolve_left hne) with h1 | h1
      · exact h1
      · unfold NB at h1
        rw [List.pairwise_append] at h1
        exact absurd ⟨rfl, rfl⟩ (h1.2.2 q hq p (by simp))
    simp only [List.map_cons, evJs] at h
    cases h1 : evJ Φ nb (js p) s with
    | none => simp [h1] at h
    | some s1 =>
      simp only [h1] at h
      have ih := perm_soundN hC js I (σ1 ++ σ2) s1 s2 (fun x hx => hS x (by simp [hx])) (hC.keep _ (hS p (by simp)) _ _ hK h1) hIn.2
        (hI.2.imp fun {x y} hh => hh.imp id fun hh => List.Pairwise.sublist (List.Sublist.append (List.Sublist.refl _) (List.sublist_cons_self _ _)) hh)
        (by rw [List.nodup_append]; exact ⟨n1, n2.2, fun a ha b hb => n3 a ha b (by simp [hb])⟩)
        (by
          intro x
          constructor
          · intro hx
            have := (hm x).1 (by simp [hx])
            have hne : x ≠ p := by rintro rfl; exact hIn.1 hx
            simp only [List.mem_append, List.mem_cons] at this ⊢
            rcases this with h | h | h
            · exact .inl h
            · exact absurd h hne
            · exact .inr h
          · intro hx
            have hx' : x ∈ σ1 ++ p :: σ2 := by
              simp only [List.mem_append, List.mem_cons] at hx ⊢
              rcases hx with h | h
              · exact .inl h
              · exact .inr (.inr h)
            have hne : x ≠ p := by
              rintro rfl
              rcases List.mem_append.1 hx with h | h
              · exact n3 x h x (by simp) rfl
              · exact n2.1 h
            exact (List.mem_cons.1 ((hm x).2 hx')).resolve_left hne) h
      rw [List.map_append, evJs_append] at ih
      rw [List.map_append, List.map_cons, show σ1.map js ++ js p :: σ2.map js = (σ1.map js ++ [js p]) ++ σ2.map js by simp, evJs_append]
      cases hm1 : evJs Φ nb (σ1.map js) s1 with
      | none => simp [hm1] at ih
      | some s3 =>
        rw [move_back hC (js p) (hS p (by simp)) (σ1.map js) s s3 (by simpa using hind) hK (by simp only [evJs, h1]; exact hm1)]
        rw [hm1] at ih
        exact ih

def pairsT (ind : J → J → Bool) (js : List J) (b : List Nat) (x y : Nat) : List Nat → Bool
  | [] => true
  | p :: r => (r.all fun q => ind (js.getD p default) (js.getD q default) || (b.getD q 0).testBit p || (p == x && q == y)) && pairsT ind js b x y r
theorem pairsT_spec {ind : J → J → Bool} {js : List J} {b : List Nat} {x y : Nat} : ∀ {τ : List Nat}, pairsT ind js b x y τ = true → τ.Pairwise fun p q => ind (js.getD p default) (js.getD q default) = true ∨ (b.getD q 0).testBit p = true ∨ (p = x ∧ q = y)
  | [], _ => List.Pairwise.nil
  | p :: r, h => by
    simp only [pairsT, Bool.and_eq_true, List.all_eq_true, Bool.or_eq_true, beq_iff_eq] at h
    refine List.Pairwise.cons (fun q hq => ?_) (pairsT_spec h.2)
    rcases h.1 q hq with (h1 | h1) | h1
    · exact .inl h1
    · exact .inr (.inl h1)
    · exact .inr (.inr h1)
/-- An order of all, in which what touches each other stands as it must, and the one ahead of the other. -/
def baseOk (ind : J → J → Bool) (ops : Array Oper) (js : List J) (x y : Nat) (τ : List Nat) : Bool :=
  decide τ.Nodup && (List.range ops.size).all (τ.contains ·) && τ.all (decide <| · < ops.size) && pairsT ind js (befs [] ops.toList) x y τ
theorem order_sound {Φ : CallF} {nb : Nat} {K : Env × Bx → Prop} {ind : J → J → Bool} {S : J → Prop} (hC : Comm Φ nb K ind S) {ops : Array Oper} {js : List J} (hlen : js.length = ops.size) (hS : ∀ j ∈ js, S j) {x y : Nat} {τ σ : List Nat} {m : Region.Mode} (hok : baseOk ind ops js x y τ = true)
    (hL : Listed m ops σ) (hall : ∀ i, i < ops.size → i ∈ σ) (hxy : NB σ x y) {s s2} (hK : K s) (h : evJs Φ nb (τ.map fun i => js.getD i default) s = some s2) : evJs Φ nb (σ.map fun i => js.getD i default) s = some s2 := by
  simp only [baseOk, Bool.and_eq_true, decide_eq_true_eq, List.all_eq_true, List.mem_range, List.contains_eq_mem] at hok
  obtain ⟨⟨⟨t1, t2⟩, t3⟩, t4⟩ := hok
  refine perm_soundN hC (fun i => js.getD i default) τ σ s s2 (fun x hx => ?_) hK t1 ?_ hL.nodup (fun x => ⟨fun hx => hall x (t3 x hx), fun hx => t2 x (hL.lt x hx)⟩) h
  · have hx : x < js.length := by rw [hlen]; exact t3 x hx
    simp only [List.getD_eq_getElem?_getD, List.getElem?_eq_getElem hx, Option.getD_some]
    exact hS _ (List.getElem_mem hx)
  · refine (pairsT_spec t4).imp fun {p q} hh => ?_
    rcases hh with h1 | h1 | ⟨rfl, rfl⟩
    · exact .inl h1
    · right
      have hanc := befs_spec ops ops.toList [] (by simp) (fun k hk => by simp) (fun q p h => by simp at h) q p h1
      refine pairwise_of _ fun A q' B e p' hpB => ?_
      rintro ⟨rfl, rfl⟩
      have hpA := hL.anc hanc A B e
      have hn := hL.nodup
      rw [e, List.nodup_append] at hn
      exact hn.2.2 _ hpA _ (by simp [hpB]) rfl
    · exact .inr hxy
/-- A listing that a schedule is. -/
theorem sched_listed {mixed : Bool} {ops : Array Oper} (hany : topoOk .any ops (List.range ops.size) = true) (hmode : (mixed || !Region.departs ops || (topoOk .text ops (List.range ops.size) && topoOk .gc ops (Region.linearise .gc ops 0))) = true) (t : Nat) :
    ∃ m, Listed m ops (Region.schedule mixed ops t) ∧ ∀ i, i < ops.size → i ∈ Region.schedule mixed ops t := by
  simp only [Bool.and_eq_true, Bool.or_eq_true, Bool.not_eq_true'] at hmode
  unfold Region.schedule
  split
  · obtain ⟨a, b⟩ := lin_spec .any ops _ hany t; exact ⟨_, a, b⟩
  · rename_i hc
    simp only [Bool.or_eq_true, Bool.not_eq_true', not_or] at hc
    rcases hmode with (hm | hm) | hm
    · exact absurd hm hc.1
    · exact absurd hm hc.2
    · split
      · obtain ⟨a, b⟩ := lin_spec .text ops _ hm.1 (t / 2); exact ⟨_, a, b⟩
      · obtain ⟨a, b⟩ := lin_spec .gc ops _ hm.2 (t / 2); exact ⟨_, a, b⟩

/-! ### a code in two orders -/
structure Two where
  kn : Bool
  x : Nat
  y : Nat
  t1 : List Nat
  t2 : List Nat
def modeOk (mixed : Bool) (ops : Array Oper) : Bool := mixed || !Region.departs ops || (topoOk .text ops (List.range ops.size) && topoOk .gc ops (Region.linearise .gc ops 0))
def twoOk (mixed : Bool) (ops : Array Oper) (js : List J) (h : Two) : Bool :=
  topoOk .any ops (List.range ops.size) && modeOk mixed ops && (h.x != h.y) && decide (h.y < ops.size) &&
  if h.kn = true then js.all (okN (nwOf js) (nuOf js)) && baseOk (indepN (nwOf js) (nuOf js)) ops js h.x h.y h.t1 && baseOk (indepN (nwOf js) (nuOf js)) ops js h.y h.x h.t2 else baseOk indep ops js h.x h.y h.t1 && baseOk indep ops js h.y h.x h.t2
def twoC (h : Two) (js : List J) (τ : List Nat) : C := .dreg (if h.kn = true then (nwOf js).map fun x => (x, 0) else []) [] (τ.map fun i => js.getD i default)
def comp2 (P : Program) (nt : Nat) (hn : Hn) (lv : Nat → List Nat × Nat) (tw : Option Two) : Nat → Code → Option (C × C)
  | _, .region _ ops draw => match compL P nt ops { hn with tk := tkOf ops } ops.toList, tw with
    | some js, some h => if draw = true ∧ twoOk (P.follows .mixedOrders) ops js h = true then some (twoC h js h.t1, twoC h js h.t2) else none
    | _, _ => none
  | k, .seq a b => match comp P nt hn lv k a, comp2 P nt hn lv tw k b with
    | some a', some p => some (.seq a' p.1, .seq a' p.2)
    | _, _ => match comp2 P nt hn lv tw k a, comp P nt hn lv k b with
      | some p, some b' => some (.seq p.1 b', .seq p.2 b')
      | _, _ => none
  | _, .block id a => (comp2 P nt hn lv tw id a).map fun p => (.block id p.1, .block id p.2)
  | k, .scope a => (comp2 P nt hn lv tw k a).map fun p => (.scope p.1, .scope p.2)
  | k, .cond c a b => match toO c with
    | some x => if okO nt x = true then
        match comp P nt hn lv k a, comp2 P nt hn lv tw k b with
        | some a', some p => some (.cond x a' p.1, .cond x a' p.2)
        | _, _ => match comp2 P nt hn lv tw k a, comp P nt hn lv k b with
          | some p, some b' => some (.cond x p.1 b', .cond x p.2 b')
          | _, _ => none
      else none
    | none => none
  | _, _ => none

theorem code2_sound {P : Program} {tab : Nat → Option CFun} {ext : CallF} (hcs : CodeSound P (evL tab ext)) (hΦ : SoundF P (callL tab ext)) (F : Fr) (hn : Hn) (lv : Nat → List Nat × Nat) (tw : Option Two) (c0 : Code) :
    ∀ (k : Nat) (c1 c2 : C) (s : Env × Bx) (o1 : Out) (s1 : Env × Bx) (o2 : Out) (s2 : Env × Bx), comp2 P F.nt hn lv tw k c0 = some (c1, c2) → evL tab ext F.nb c1 s = some (o1, s1) → evL tab ext F.nb c2 s = some (o2, s2) →
    ∀ a w Q, Inv F s a w → (∀ a' w', Inv F s1 a' w' → Q (exitOf o1) a' w') → (∀ a' w', Inv F s2 a' w' → Q (exitOf o2) a' w') → c0.wp P Q a w := by
  induction c0 with
  | region id ops draw =>
    intro k c1 c2 s o1 s1 o2 s2 hc h1 h2 a w Q hI hQ1 hQ2
    simp only [comp2] at hc
    split at hc
    · rename_i js h hjs
      split at hc
      · rename_i hok
        simp only [Option.some.injEq, Prod.mk.injEq] at hc
        obtain ⟨rfl, rfl⟩ := hc
        obtain ⟨hd, hok⟩ := hok
        subst hd
        have un : ∀ {τ : List Nat} {o : Out} {s' : Env × Bx}, evL tab ext F.nb (twoC h js τ) s = some (o, s') → o = .nor ∧ evJs (callL tab ext) F.nb (τ.map fun i => js.getD i default) (clr (if h.kn = true then (nwOf js).map fun x => (x, 0) else []) s.1, s.2) = some s' := by
          intro τ o s' he
          rw [evL_step] at he
          unfold twoC at he
          simp only [stepC, neOk, List.all_nil, if_true, Option.map_eq_some_iff] at he
          obtain ⟨s1, h1, h2⟩ := he
          cases h2
          exact ⟨rfl, h1⟩
        obtain ⟨rfl, q1⟩ := un h1
        obtain ⟨rfl, q2⟩ := un h2
        obtain ⟨hlen, hget⟩ := compL_get (F := F) ops.toList js hjs
        have hget' : ∀ i (o : Oper), ops[i]? = some o → compJ P F.nt ops { hn with tk := tkOf ops } o = some (js.getD i default) := fun i o ho => hget i o (by simpa using ho)
        have hlen' : js.length = ops.size := by simpa using hlen
        simp only [twoOk, Bool.and_eq_true, bne_iff_ne, ne_eq, decide_eq_true_eq] at hok
        obtain ⟨⟨⟨⟨k1, k2⟩, k3⟩, k4⟩, k5⟩ := hok
        refine wp_region_draw fun t => ?_
        obtain ⟨m, hL, hall⟩ := sched_listed k1 k2 t
        have fin : ∀ {τ : List Nat} {x y : Nat} {s' : Env × Bx} {Q' : Prop}, (if h.kn = true then js.all (okN (nwOf js) (nuOf js)) = true ∧ baseOk (indepN (nwOf js) (nuOf js)) ops js x y τ = true else baseOk indep ops js x y τ = true) → NB (Region.schedule (P.follows .mixedOrders) ops t) x y →
            evJs (callL tab ext) F.nb (τ.map fun i => js.getD i default) (clr (if h.kn = true then (nwOf js).map fun x => (x, 0) else []) s.1, s.2) = some s' → evJs (callL tab ext) F.nb ((Region.schedule (P.follows .mixedOrders) ops t).map fun i => js.getD i default) (clr (if h.kn = true then (nwOf js).map fun x => (x, 0) else []) s.1, s.2) = some s' := by
          intro τ x y s' _ hk hN he
          by_cases hkn : h.kn = true
          · rw [if_pos hkn] at hk he ⊢
            exact order_sound (comm_new _ F.nb _ _ _) hlen' (fun j hj => List.all_eq_true.1 hk.1 j hj) hk.2 hL hall hN (KN.start hI _ _) he
          · rw [if_neg hkn] at hk he ⊢
            exact order_sound (comm_plain _ F.nb) hlen' (fun _ _ => trivial) hk hL hall hN trivial he
        have c5 : (if h.kn = true then js.all (okN (nwOf js) (nuOf js)) = true ∧ baseOk (indepN (nwOf js) (nuOf js)) ops js h.x h.y h.t1 = true else baseOk indep ops js h.x h.y h.t1 = true) ∧ (if h.kn = true then js.all (okN (nwOf js) (nuOf js)) = true ∧ baseOk (indepN (nwOf js) (nuOf js)) ops js h.y h.x h.t2 = true else baseOk indep ops js h.y h.x h.t2 = true) := by
          by_cases hkn : h.kn = true
          · simp only [hkn, if_true, Bool.and_eq_true] at k5 ⊢
            exact ⟨⟨k5.1.1, k5.1.2⟩, k5.1.1, k5.2⟩
          · simp only [hkn] at k5 ⊢
            simpa using k5
        rcases nb_or hL.nodup k3 (hall _ k4) with hN | hN
        · refine ops_sound (F := F) hΦ hget' _ _ _ a _ hL.lt (fin (Q' := True) c5.1 hN q1) ?_ fun a' w' hI' => hQ1 a' w' hI'
          obtain ⟨lim, μ, own, h⟩ := hI.cleared _
          exact ⟨lim, μ, own, h.step (drew_below w) fun _ _ => rfl⟩
        · refine ops_sound (F := F) hΦ hget' _ _ _ a _ hL.lt (fin (Q' := True) c5.2 hN q2) ?_ fun a' w' hI' => hQ2 a' w' hI'
          obtain ⟨lim, μ, own, h⟩ := hI.cleared _
          exact ⟨lim, μ, own, h.step (drew_below w) fun _ _ => rfl⟩
      · cases hc
    · cases hc
  | seq x y ihx ihy =>
    intro k c1 c2 s o1 s1 o2 s2 hc h1 h2 a w Q hI hQ1 hQ2
    simp only [comp2] at hc
    split at hc
    · rename_i x' p hx hy
      obtain ⟨y1, y2⟩ := p
      simp only [Option.some.injEq, Prod.mk.injEq] at hc
      obtain ⟨rfl, rfl⟩ := hc
      rw [evL_step] at h1 h2
      simp only [stepC] at h1 h2
      refine wp_seq ?_
      cases e1 : evL tab ext F.nb x' s with
      | none => simp [e1] at h1
      | some q =>
        obtain ⟨p1, r1⟩ := q
        simp only [e1] at h1 h2
        cases p1 with
        | nor => exact (hcs F hn lv k x x' s .nor r1 hx e1 a w _ hI fun a' w' hI' => ihy k y1 y2 r1 o1 s1 o2 s2 hy h1 h2 a' w' Q hI' hQ1 hQ2).wp
        | ex i => cases h1; cases h2; exact (hcs F hn lv k x x' s _ _ hx e1 a w (Exit.then (y.wp P Q) Q) hI fun a' w' hI' => hQ1 a' w' hI').wp
        | ret => cases h1; cases h2; exact (hcs F hn lv k x x' s _ _ hx e1 a w (Exit.then (y.wp P Q) Q) hI fun a' w' hI' => hQ1 a' w' hI').wp
    · split at hc
      · rename_i p y' hx hy
        obtain ⟨x1, x2⟩ := p
        simp only [Option.some.injEq, Prod.mk.injEq] at hc
        obtain ⟨rfl, rfl⟩ := hc
        rw [evL_step] at h1 h2
        simp only [stepC] at h1 h2
        refine wp_seq ?_
        cases e1 : evL tab ext F.nb x1 s with
        | none => simp [e1] at h1
        | some q1 =>
        cases e2 : evL tab ext F.nb x2 s with
        | none => simp [e2] at h2
        | some q2 =>
        obtain ⟨p1, r1⟩ := q1
        obtain ⟨p2, r2⟩ := q2
        simp only [e1] at h1
        simp only [e2] at h2
        refine ihx k x1 x2 s p1 r1 p2 r2 hx e1 e2 a w _ hI (fun a' w' hI' => ?_) (fun a' w' hI' => ?_)
        · cases p1 with
          | nor => exact (hcs F hn lv k y y' r1 o1 s1 hy h1 a' w' Q hI' hQ1).wp
          | ex i => cases h1; exact hQ1 a' w' hI'
          | ret => cases h1; exact hQ1 a' w' hI'
        · cases p2 with
          | nor => exact (hcs F hn lv k y y' r2 o2 s2 hy h2 a' w' Q hI' hQ2).wp
          | ex i => cases h2; exact hQ2 a' w' hI'
          | ret => cases h2; exact hQ2 a' w' hI'
      · cases hc
  | scope x ih =>
    intro k c1 c2 s o1 s1 o2 s2 hc h1 h2 a w Q hI hQ1 hQ2
    simp only [comp2, Option.map_eq_some_iff] at hc
    obtain ⟨⟨x1, x2⟩, hx, hc⟩ := hc
    simp only [Prod.mk.injEq] at hc
    obtain ⟨rfl, rfl⟩ := hc
    rw [evL_step] at h1 h2
    simp only [stepC] at h1 h2
    refine wp_scope_straight ?_
    refine ih k x1 x2 s o1 s1 o2 s2 hx h1 h2 a w _ hI (fun a' w' hI' => ?_) (fun a' w' hI' => ?_)
    · have := hQ1 a' w' hI'; cases o1 <;> exact this
    · have := hQ2 a' w' hI'; cases o2 <;> exact this
  | block id x ih =>
    intro k c1 c2 s o1 s1 o2 s2 hc h1 h2 a w Q hI hQ1 hQ2
    simp only [comp2, Option.map_eq_some_iff] at hc
    obtain ⟨⟨x1, x2⟩, hx, hc⟩ := hc
    simp only [Prod.mk.injEq] at hc
    obtain ⟨rfl, rfl⟩ := hc
    rw [evL_step] at h1 h2
    simp only [stepC] at h1 h2
    refine wp_block ?_
    have fin : ∀ {q1 : Out} {r1 : Env × Bx} {o : Out} {s' : Env × Bx}, (match some (q1, r1) with | some (.ex i, s1) => some (if i = id then Out.nor else Out.ex i, s1) | r => r) = some (o, s') → (∀ a' w', Inv F s' a' w' → Q (exitOf o) a' w') → ∀ a' w', Inv F r1 a' w' → Exit.inBlock id Q (exitOf q1) a' w' := by
      intro q1 r1 o s' he hQ a' w' hI'
      cases q1 with
      | nor => cases he; exact hQ a' w' hI'
      | ret => cases he; exact hQ a' w' hI'
      | ex i =>
        simp only [exitOf, Exit.inBlock]
        cases he
        by_cases hid : i = id
        · rw [if_pos hid]; simp only [hid, if_true] at hQ; exact hQ a' w' hI'
        · rw [if_neg hid]; simp only [hid, if_false] at hQ; exact hQ a' w' hI'
    cases e1 : evL tab ext F.nb x1 s with
    | none => simp [e1] at h1
    | some q1 =>
    cases e2 : evL tab ext F.nb x2 s with
    | none => simp [e2] at h2
    | some q2 =>
    obtain ⟨p1, r1⟩ := q1
    obtain ⟨p2, r2⟩ := q2
    rw [e1] at h1
    rw [e2] at h2
    exact ih id x1 x2 s p1 r1 p2 r2 hx e1 e2 a w _ hI (fin h1 hQ1) (fin h2 hQ2)
  | cond x y z ihy ihz =>
    intro k c1 c2 s o1 s1 o2 s2 hc h1 h2 a w Q hI hQ1 hQ2
    simp only [comp2] at hc
    split at hc
    · rename_i x' hx
      split at hc
      · rename_i hok
        have hv : ∀ {t : Bool}, x'.ev s.1 = .val (.bool t) → a.eval x = .bool t := by
          intro t e1
          obtain ⟨lim, μ, own, h⟩ := hI
          have := eval_rep h hx hok
          rw [e1] at this
          exact this.val.1
        split at hc
        · rename_i y' p hy hz
          obtain ⟨z1, z2⟩ := p
          simp only [Option.some.injEq, Prod.mk.injEq] at hc
          obtain ⟨rfl, rfl⟩ := hc
          rw [evL_step] at h1 h2
          simp only [stepC] at h1 h2
          split at h1
          · rename_i t e1
            refine wp_cond (hv e1) ?_
            simp only [e1] at h2
            cases t with
            | true =>
              have h1 : evL tab ext F.nb y' s = some (o1, s1) := by simpa using h1
              have h2 : evL tab ext F.nb y' s = some (o2, s2) := by simpa using h2
              exact (hcs F hn lv k y y' s o1 s1 hy h1 a w Q hI hQ1).wp
            | false => exact ihz k z1 z2 s o1 s1 o2 s2 hz (by simpa using h1) (by simpa using h2) a w Q hI hQ1 hQ2
          · cases h1
        · split at hc
          · rename_i p z' hy hz
            obtain ⟨y1, y2⟩ := p
            simp only [Option.some.injEq, Prod.mk.injEq] at hc
            obtain ⟨rfl, rfl⟩ := hc
            rw [evL_step] at h1 h2
            simp only [stepC] at h1 h2
            split at h1
            · rename_i t e1
              refine wp_cond (hv e1) ?_
              simp only [e1] at h2
              cases t with
              | false =>
                have h1 : evL tab ext F.nb z' s = some (o1, s1) := by simpa using h1
                exact (hcs F hn lv k z z' s o1 s1 hz h1 a w Q hI hQ1).wp
              | true => exact ihy k y1 y2 s o1 s1 o2 s2 hy (by simpa using h1) (by simpa using h2) a w Q hI hQ1 hQ2
            · cases h1
          · cases hc
      · cases hc
    · cases hc
  | _ => intro k c1 c2 s o1 s1 o2 s2 hc; simp [comp2] at hc

def compF2 (P : Program) (hn : Hn) (lv : Nat → List Nat × Nat) (tw : Option Two) (fn : Func) : Option (CFun × CFun) :=
  match fn.body with
  | some c => match comp2 P fn.ntmps hn lv tw 0 c, resOf P fn.results.toList with
    | some b, some r => if fn.params.size + fn.nfree ≤ fn.ntmps then some (⟨fn.ntmps, fn.params.size + fn.nfree, b.1, r⟩, ⟨fn.ntmps, fn.params.size + fn.nfree, b.2, r⟩) else none
    | _, _ => none
  | none => none
def Row2Ok (P : Program) (f : Nat) (C1 C2 : CFun) : Prop := ∃ fn hn lv tw, P.funcs[f]? = some fn ∧ compF2 P hn lv tw fn = some (C1, C2) ∧ (fn.name == "runtime.NumGoroutine") = false

/-- What a body in one order answers. -/
def runF (ev : Ev) (C : CFun) (args : List A) : Option (A × Bx) := if args.length = C.np then (ev 0 C.body (initFrom 0 args, [])).bind (resK C) else none
/-- Both orders are asked: a number, a truth, if they are one. -/
def two (ev : Ev) (C1 C2 : CFun) (args : List A) (bx : Bx) : Option (A × Bx) :=
  if bx.isEmpty = true then
    match runF ev C1 args, runF ev C2 args with
    | some (.val (.int k x), _), some (.val (.int k' y), _) => if k = k' ∧ x = y then some (.val (.int k x), []) else none
    | some (.val (.bool x), _), some (.val (.bool y), _) => if x = y then some (.val (.bool x), []) else none
    | _, _ => none
  else none
theorem two_some {ev : Ev} {C1 C2 : CFun} {args : List A} {bx : Bx} {r : A} {bx' : Bx} (h : two ev C1 C2 args bx = some (r, bx')) : bx = [] ∧ bx' = [] ∧ ∃ v b1 b2, r = .val v ∧ runF ev C1 args = some (.val v, b1) ∧ runF ev C2 args = some (.val v, b2) := by
  unfold two at h
  split at h
  · rename_i hb
    have hb : bx = [] := by simpa using hb
    split at h
    · split at h
      · rename_i hk
        obtain ⟨rfl, rfl⟩ := hk
        cases h
        exact ⟨hb, rfl, _, _, _, rfl, ‹_›, ‹_›⟩
      · cases h
    · split at h
      · rename_i hk
        subst hk
        cases h
        exact ⟨hb, rfl, _, _, _, rfl, ‹_›, ‹_›⟩
      · cases h
    · cases h
  · cases h
theorem two_vi {ev : Ev} {C1 C2 : CFun} {args : List A} {n : Int} (h1 : Ans (vi n) [] (runF ev C1 args)) (h2 : Ans (vi n) [] (runF ev C2 args)) : two ev C1 C2 args [] = some (vi n, []) := by
  obtain ⟨j1, h1⟩ := h1
  obtain ⟨j2, h2⟩ := h2
  unfold two
  rw [h1, h2]
  simp
theorem two_vb {ev : Ev} {C1 C2 : CFun} {args : List A} {n : Bool} (h1 : Ans (vb n) [] (runF ev C1 args)) (h2 : Ans (vb n) [] (runF ev C2 args)) : two ev C1 C2 args [] = some (vb n, []) := by
  obtain ⟨j1, h1⟩ := h1
  obtain ⟨j2, h2⟩ := h2
  unfold two
  rw [h1, h2]
  simp
theorem runF_mono {ev ev' : Ev} (h : LeE ev ev') {C : CFun} {args r} (hr : runF ev C args = some r) : runF ev' C args = some r := by
  unfold runF at hr ⊢
  split at hr
  · rename_i hl
    rw [if_pos hl]
    cases he : ev 0 C.body (initFrom 0 args, []) with
    | none => rw [he] at hr; cases hr
    | some q => rw [h _ _ _ _ he]; rw [he] at hr; exact hr
  · cases hr
theorem two_mono {ev ev' : Ev} (h : LeE ev ev') {C1 C2 : CFun} {args bx r} (hr : two ev C1 C2 args bx = some r) : two ev' C1 C2 args bx = some r := by
  obtain ⟨r, bx'⟩ := r
  obtain ⟨rfl, rfl, v, b1, b2, rfl, h1, h2⟩ := two_some hr
  have hr2 := hr
  unfold two at hr ⊢
  rw [runF_mono h h1, runF_mono h h2]
  rw [h1, h2] at hr
  exact hr

theorem ret_sound {P : Program} {fn : Func} {C : CFun} (hres : resOf P fn.results.toList = some C.res) {s' : Env × Bx} {r : Value} (hresult : resultOf C s' = some (.val r)) {w : World} {lim μ : Nat → Nat} {nt : Nat} {hgl : GlobOk w μ 0} :
    ∀ a' w', Inv ⟨w, lim, μ, 0, nt, hgl⟩ s' a' w' → a'.defers = [] ∧ ∃ v, (results fn a'.tmps).run P w' = .ok v w' ∧
      ∃ v' lim' μ', Ending.returned v = .returned v' ∧ 0 ≤ 0 ∧ But w.heap.size μ 0 w w' ∧ (∀ r, r < 0 → μ' r = μ r) ∧ (∀ b, b < w.heap.size → lim' b = lim b) ∧
        (∀ r, 0 ≤ r → r < 0 → w.heap.size ≤ μ' r) ∧ BoxRep w' lim' μ' [] ∧ Rep w' lim' μ' 0 v' (.val r) := by
  obtain ⟨t, ht, hv⟩ : ∃ t, C.res = [t] ∧ resVal s' t = some (.val r) := by
    unfold resultOf at hresult
    split at hresult
    · rename_i t e1; exact ⟨t, e1, hresult⟩
    · simp only [Option.map_eq_some_iff] at hresult
      obtain ⟨l, _, hl⟩ := hresult
      cases hl
  rintro a' w' ⟨lim', μ', own', h⟩
  refine ⟨h.defers, ?_⟩
  obtain ⟨l1, l2⟩ := res_sound h fn.results.toList C.res hres
  have hl1 : fn.results.toList.length = 1 := by rw [l1, ht]; rfl
  obtain ⟨v, z1, z2, _⟩ := l2 0 (by omega) (by rw [ht]; simp) (.val r) (by simp only [ht, List.getElem_cons_zero]; exact hv)
  have hres' : (results fn a'.tmps).run P w' = .ok v w' := by
    unfold results
    rw [Sem.run_bind, Array.mapM_eq_mapM_toList, Sem.run_map]
    rw [results_run (tmps := a'.tmps) _ (ResIs P a'.tmps w') (fun r v hz => by
      cases r with
      | tmp t => simp only [ResIs] at hz; subst hz; rfl
      | cell ad t => obtain ⟨ad', z1, z2⟩ := hz; simp only [z1, asAddr, Sem.run_bind, Sem.run_pure, Result.andThen_ok]; exact z2) fn.results.toList [v] (by simp [hl1]) (fun i h1 h2 => by
      have : i = 0 := by omega
      subst this
      exact z1)]
    rfl
  obtain ⟨rfl, hone⟩ := (Rep.r z2).val
  exact ⟨_, hres', _, lim', μ', rfl, Nat.le_refl _, h.below, fun r hr => absurd hr (Nat.not_lt_zero _), h.lim0, fun r _ hr => absurd hr (Nat.not_lt_zero _),
    ⟨fun r hr => absurd hr (Nat.not_lt_zero _), fun r hr => absurd hr (Nat.not_lt_zero _), fun r _ hr => absurd hr (Nat.not_lt_zero _)⟩, .rv (.val _ hone)⟩

theorem two_sound {P : Program} {tab : Nat → Option CFun} {ext : CallF} (ht : TabOk P tab) (hx : SoundF P ext) {f : Nat} {C1 C2 : CFun} (hrow : Row2Ok P f C1 C2) {xs bx r bx'} (hr : two (evL tab ext) C1 C2 xs bx = some (r, bx')) :
    ∀ (w : World) (lim μ : Nat → Nat) (vs : Array Value), vs.size = xs.length →
  (∀ i (h : i < xs.length), Rep w lim μ bx.length (vs.getD i undef) xs[i] ∧ n2 xs[i]) → BoxRep w lim μ bx → GlobOk w μ bx.length →
  (∀ w, (callFunc f vs).run P w = .ok (.enter f vs) w) ∧ n2 r ∧
  Calls P f vs w fun e w' => ∃ v lim' μ', e = .returned v ∧ bx.length ≤ bx'.length ∧ But w.heap.size μ bx.length w w' ∧ (∀ r, r < bx.length → μ' r = μ r) ∧ (∀ b, b < w.heap.size → lim' b = lim b) ∧
    (∀ r, bx.length ≤ r → r < bx'.length → w.heap.size ≤ μ' r) ∧ BoxRep w' lim' μ' bx' ∧ Rep w' lim' μ' bx'.length v r := by
  intro w lim μ vs hsz hrep hbox hgl
  obtain ⟨rfl, rfl, v, b1, b2, rfl, h1, h2⟩ := two_some hr
  obtain ⟨fn, hn, lv, tw, hfn, hcF, hname⟩ := hrow
  have hcs : CodeSound P (evL tab ext) := by
    intro F hn lv k c0 c s out s' hc he
    obtain ⟨n, hk⟩ := (evL_iff ..).1 he
    exact evK_sound ht hx n F hn lv k c0 c s out s' hc hk
  have hΦ := callL_sound ht hx
  unfold compF2 at hcF
  split at hcF
  · rename_i c hbody
    split at hcF
    · rename_i b rs hcomp hres
      split at hcF
      · rename_i hle
        simp only [Option.some.injEq, Prod.mk.injEq] at hcF
        obtain ⟨rfl, rfl⟩ := hcF
        have ask : ∀ {B : C} {bb : Bx}, runF (evL tab ext) ⟨fn.ntmps, fn.params.size + fn.nfree, B, rs⟩ xs = some (.val v, bb) → xs.length = fn.params.size + fn.nfree ∧ ∃ out s', evL tab ext 0 B (initFrom 0 xs, []) = some (out, s') ∧ (out = .nor ∨ out = .ret) ∧ resultOf ⟨fn.ntmps, fn.params.size + fn.nfree, B, rs⟩ s' = some (.val v) := by
          intro B bb h
          unfold runF at h
          split at h
          · rename_i hl
            refine ⟨hl, ?_⟩
            simp only [Option.bind_eq_some_iff] at h
            obtain ⟨⟨o, e, b⟩, h3, h4⟩ := h
            cases o with
            | nor => simp only [resK, Option.bind_eq_some_iff, Option.some.injEq, Prod.mk.injEq] at h4; obtain ⟨y, h5, rfl, _⟩ := h4; exact ⟨_, _, h3, .inl rfl, h5⟩
            | ret => simp only [resK, Option.bind_eq_some_iff, Option.some.injEq, Prod.mk.injEq] at h4; obtain ⟨y, h5, rfl, _⟩ := h4; exact ⟨_, _, h3, .inr rfl, h5⟩
            | ex i => cases h4
          · cases h
        obtain ⟨hlen, o1, s1, e1, q1, r1⟩ := ask h1
        obtain ⟨_, o2, s2, e2, q2, r2⟩ := ask h2
        refine ⟨fun w => ?_, (fun l n e => by cases e), ?_⟩
        · have hname' : ¬ (fn.name = "runtime.NumGoroutine") := by simpa using hname
          simp [callFunc, hfn, hname', hbody]
        · refine calls_of_wp hfn hbody ?_
          have hI : Inv ⟨w, lim, μ, 0, fn.ntmps, hgl⟩ (initFrom 0 xs, []) { tmps := vs ++ Array.replicate (fn.ntmps - vs.size) undef, defers := [] } w := by
            have hat : ∀ i, Rep w lim μ 0 ((vs ++ Array.replicate (fn.ntmps - vs.size) undef).getD i undef) (initFrom 0 xs i) ∧ n2 (initFrom 0 xs i) := by
              intro i
              rw [initFrom_at]
              by_cases hi : i < xs.length
              · rw [dif_pos (by simpa using hi)]
                have := hrep i hi
                rw [Array.getD_eq_getD_getElem?] at this ⊢
                rw [Array.getElem?_append_left (by omega)]
                simpa using this
              · rw [dif_neg (by simpa using hi)]
                exact ⟨.any _, fun l n e => by cases e⟩
            refine ⟨lim, μ, fun _ => .t 0, rfl, ?_, Nat.le_refl _, fun _ _ => rfl, fun r hr hr' => ?_, fun i => (hat i).1, hbox, fun i => .of_n2 (hat i).2, ?_, But.refl _ _ _ _, fun _ _ => rfl⟩
            · simp; omega
            · exact absurd hr' (Nat.not_lt.2 hr)
            · intro r o cs t hr hr'; exact absurd hr' (Nat.not_lt.2 hr)
          refine code2_sound hcs hΦ ⟨w, lim, μ, 0, fn.ntmps, hgl⟩ hn lv tw c 0 b.1 b.2 _ _ _ _ _ hcomp e1 e2 _ _ _ hI (fun a' w' hI' => ?_) (fun a' w' hI' => ?_)
          · have := ret_sound (C := ⟨fn.ntmps, fn.params.size + fn.nfree, b.1, rs⟩) hres r1 a' w' hI'
            rcases q1 with rfl | rfl
            · exact this
            · exact this
          · have := ret_sound (C := ⟨fn.ntmps, fn.params.size + fn.nfree, b.2, rs⟩) hres r2 a' w' hI'
            rcases q2 with rfl | rfl
            · exact this
            · exact this
      · cases hcF
    · cases hcF
  · cases hcF

/-! ### more callees, the same answer -/
theorem stepC_monoF {tab : Nat → Option CFun} {ext ext' : CallF} {f g : Ev} (h : LeE f g) (hF : LeF (callOf tab ext f) (callOf tab ext' g)) : LeE (stepC tab ext f) (stepC tab ext' g) := by
  intro nb c s r hr
  cases c with
  | skip => exact hr
  | exit id => exact hr
  | ret => exact hr
  | scope a => exact h _ _ _ _ hr
  | seq a b =>
    simp only [stepC] at hr ⊢
    cases he : f nb a s with
    | none => simp [he] at hr
    | some q =>
      obtain ⟨o, s1⟩ := q
      rw [h _ _ _ _ he]; rw [he] at hr
      cases o with
      | nor => exact h _ _ _ _ hr
      | ex i => exact hr
      | ret => exact hr
  | cond x a b =>
    simp only [stepC] at hr ⊢
    split at hr
    · split at hr
      · rename_i ht; simp only [ht, if_true]; exact h _ _ _ _ hr
      · rename_i ht; simp only [ht]; exact h _ _ _ _ hr
    · cases hr
  | block id a =>
    simp only [stepC] at hr ⊢
    cases he : f nb a s with
    | none => simp [he] at hr
    | some q => rw [h _ _ _ _ he]; rw [he] at hr; exact hr
  | loop live kb a =>
    simp only [stepC] at hr ⊢
    cases hl : loopIn nb live kb s with
    | none => simp [hl] at hr
    | some s0 =>
      simp only [hl] at hr ⊢
      cases he : f nb a s0 with
      | none => simp [he] at hr
      | some q =>
        obtain ⟨o, s1⟩ := q
        rw [h _ _ _ _ he]; rw [he] at hr
        cases o with
        | nor => exact h _ _ _ _ hr
        | ex i => exact hr
        | ret => exact hr
  | reg l =>
    simp only [stepC, Option.map_eq_some_iff] at hr ⊢
    obtain ⟨a, h1, h2⟩ := hr
    exact ⟨a, evJs_mono hF _ _ _ _ h1, h2⟩
  | dreg cl ne l =>
    simp only [stepC] at hr ⊢
    split at hr
    · rename_i hne
      simp only [hne, if_true, Option.map_eq_some_iff] at hr ⊢
      obtain ⟨a, h1, h2⟩ := hr
      exact ⟨a, evJs_mono hF _ _ _ _ h1, h2⟩
    · cases hr
/-- The second knows all that the first knows; what it knows beyond that has no row. -/
def LeX (tab : Nat → Option CFun) (ext ext' : CallF) : Prop := LeF ext ext' ∧ ∀ f a b, ext f a b = none → ext' f a b = none ∨ tab f = none
theorem callOf_monoX {tab : Nat → Option CFun} {ext ext' : CallF} (hx : LeX tab ext ext') {f g : Ev} (h : LeE f g) : LeF (callOf tab ext f) (callOf tab ext' g) := by
  intro n a b r hr
  unfold callOf at hr ⊢
  cases hxn : ext n a b with
  | some q => rw [hxn] at hr; rw [hx.1 _ _ _ _ hxn]; exact hr
  | none =>
    simp only [hxn] at hr
    rcases hx.2 n a b hxn with hn | hn
    · rw [hn]
      simp only
      cases hF : tab n with
      | none => simp [hF] at hr
      | some F =>
        simp only [hF] at hr ⊢
        by_cases hl : a.length = F.np
        · rw [if_pos hl] at hr ⊢
          cases he : f b.length F.body (initFrom 0 a, b) with
          | none => simp [he] at hr
          | some q => rw [h _ _ _ _ he]; rw [he] at hr; exact hr
        · rw [if_neg hl] at hr; cases hr
    · simp [hn] at hr
theorem evK_monoX {tab : Nat → Option CFun} {ext ext' : CallF} (hx : LeX tab ext ext') : ∀ k, LeE (evK tab ext k) (evK tab ext' k)
  | 0 => fun _ _ _ _ h => by cases h
  | k + 1 => stepC_monoF (evK_monoX hx k) (callOf_monoX hx (evK_monoX hx k))
theorem callL_monoX {tab : Nat → Option CFun} {ext ext' : CallF} (hx : LeX tab ext ext') : LeF (callL tab ext) (callL tab ext') := by
  intro n a b r hr
  obtain ⟨k, hk⟩ := (callL_iff ..).1 hr
  exact (callL_iff ..).2 ⟨k, callOf_monoX hx (evK_monoX hx k) _ _ _ _ hk⟩
theorem Ans.up {Φ Ψ : CallF} (h : LeF Φ Ψ) {v bx f a b} (hr : Ans v bx (Φ f a b)) : Ans v bx (Ψ f a b) := by
  obtain ⟨j, hj⟩ := hr
  exact ⟨j, h _ _ _ _ hj⟩
end Go.Proofs.YtkohggddaheefaaEv
