/- Parts, tasks, sets as the laws know them, and how they lie in cells. -/
import Derived.Test.YtclebnamhpgdmaaGreatEvR
set_option linter.unusedSimpArgs false
set_option linter.unusedVariables false
namespace Go.Proofs.YtclebnamhpgdmaaGreatEv
open Go
structure Pt where
  kind : Int
  len : Int
  res : Int
  deriving DecidableEq, Inhabited
structure Tk where
  name : ByteArray
  period : Int
  deadline : Int
  prio : Int
  cluster : Int
  parts : List Pt
  deriving Inhabited
structure St where
  proto : Int
  cores : List Int
  homes : List Int
  tasks : List Tk
  deriving Inhabited
/-- A list of records of so many cells. -/
def slF {α : Type} (f : α → List A) (l : List α) : A := .sl (l.flatMap f) l.length 0
def Pt.c (p : Pt) : List A := [vi p.kind, vi p.len, vi p.res]
def slI (l : List Int) : A := .sl (l.map vi) l.length 0
def slP (l : List Pt) : A := .sl (l.flatMap Pt.c) l.length 0
def Tk.c (t : Tk) : List A := [vs t.name, vi t.period, vi t.deadline, vi t.prio, vi t.cluster, slP t.parts]
def slT (l : List Tk) : A := .sl (l.flatMap Tk.c) l.length 0
def St.c (s : St) : List A := [vi s.proto, slI s.cores, slI s.homes, slT s.tasks]
/-- What lies from a record on. -/
theorem drop_flat {α : Type} (f : α → List A) (z : Nat) (hz : ∀ a, (f a).length = z) : ∀ (l : List α) (i : Nat) (h : i < l.length), (l.flatMap f).drop (i * z) = f l[i] ++ (l.drop (i + 1)).flatMap f
  | a :: l, 0, _ => by simp
  | a :: l, i + 1, h => by
    have := drop_flat f z hz l i (by simpa using h)
    rw [List.flatMap_cons, Nat.add_mul, Nat.one_mul, Nat.add_comm (i * z) z, ← List.drop_drop]
    rw [show (f a ++ l.flatMap f).drop z = l.flatMap f by rw [← hz a]; exact List.drop_left]
    simpa using this
theorem take_flat {α : Type} (f : α → List A) (z : Nat) (hz : ∀ a, (f a).length = z) : ∀ (l : List α) (i : Nat), i ≤ l.length → (l.flatMap f).take (i * z) = (l.take i).flatMap f
  | l, 0, _ => by simp
  | a :: l, i + 1, h => by
    have := take_flat f z hz l i (by simpa using h)
    rw [List.flatMap_cons, Nat.add_mul, Nat.one_mul, Nat.add_comm (i * z) z, List.take_add]
    rw [show (f a ++ l.flatMap f).drop z = l.flatMap f by rw [← hz a]; exact List.drop_left, show (f a ++ l.flatMap f).take z = f a by rw [← hz a]; exact List.take_left]
    simp [this]
theorem len_flat {α : Type} (f : α → List A) (z : Nat) (hz : ∀ a, (f a).length = z) (l : List α) : (l.flatMap f).length = l.length * z := by
  induction l with
  | nil => simp
  | cons a l ih => simp [hz, ih, Nat.add_mul]; omega
theorem sumC {α : Type} (l : List α) (c : Nat) : (l.map fun _ => c).sum = l.length * c := by
  induction l with
  | nil => simp
  | cons a l ih => simp [ih, Nat.add_mul]; omega
theorem drop_int (l : List Int) (i : Nat) (h : i < l.length) : (l.map vi).drop i = vi l[i] :: (l.drop (i + 1)).map vi := by
  rw [← List.map_drop, List.drop_eq_getElem_cons h]; rfl
theorem drop_pt (l : List Pt) (i : Nat) (h : i < l.length) : (l.flatMap Pt.c).drop (i * 3) = Pt.c l[i] ++ (l.drop (i + 1)).flatMap Pt.c := drop_flat _ 3 (fun _ => rfl) l i h
theorem drop_tk (l : List Tk) (i : Nat) (h : i < l.length) : (l.flatMap Tk.c).drop (i * 6) = Tk.c l[i] ++ (l.drop (i + 1)).flatMap Tk.c := drop_flat _ 6 (fun _ => rfl) l i h
theorem len_pt (l : List Pt) : (l.flatMap Pt.c).length = l.length * 3 := len_flat _ 3 (fun _ => rfl) l
theorem len_tk (l : List Tk) : (l.flatMap Tk.c).length = l.length * 6 := len_flat _ 6 (fun _ => rfl) l
theorem take_pt (l : List Pt) (i : Nat) (h : i ≤ l.length) : (l.flatMap Pt.c).take (i * 3) = (l.take i).flatMap Pt.c := take_flat _ 3 (fun _ => rfl) l i h
theorem take_tk (l : List Tk) (i : Nat) (h : i ≤ l.length) : (l.flatMap Tk.c).take (i * 6) = (l.take i).flatMap Tk.c := take_flat _ 6 (fun _ => rfl) l i h
/-- No right to grow, no dangling slice. -/
def Clean (bx : Bx) : Prop := strip bx = bx ∧ (bx.all fun cs => cs.all (A.dangC bx.length)) = true
theorem clean_nil : Clean [] := ⟨rfl, rfl⟩
theorem aft_clean {bx : Bx} (h : Clean bx) {v : A} (hv : v.scal = true) : aft bx.length (v, bx) = (v, [], bx) := by
  unfold aft
  simp only [h.1, List.take_length, hv, h.2, and_self, if_true]
theorem aft_clean' {bx : Bx} (h : Clean bx) {v : A} (hv : v.scal = true) (junk : Bx) : aft bx.length (v, bx ++ junk) = (v, [], bx) := by
  unfold aft strip
  have h1 : List.map (List.map A.cp1) bx = bx := h.1
  rw [List.map_append, h1, List.take_left' (by rfl)]
  simp only [hv, h.2, and_self, if_true]
theorem aft_vb {bx : Bx} (h : Clean bx) (b : Bool) : aft bx.length (vb b, bx) = (vb b, [], bx) := aft_clean h rfl
theorem aft_vi {bx : Bx} (h : Clean bx) (b : Int) : aft bx.length (vi b, bx) = (vi b, [], bx) := aft_clean h rfl
theorem aft_vb' {bx : Bx} (h : Clean bx) (b : Bool) (junk : Bx) : aft bx.length (vb b, bx ++ junk) = (vb b, [], bx) := aft_clean' h rfl _
theorem aft_vi' {bx : Bx} (h : Clean bx) (b : Int) (junk : Bx) : aft bx.length (vi b, bx ++ junk) = (vi b, [], bx) := aft_clean' h rfl _
theorem wrap_in (n : Int) (h1 : -4611686018427387904 ≤ n) (h2 : n ≤ 4611686018427387904) : IntKind.wrap .i64 n = n := by
  rw [IntKind.wrap_i64]; omega
/-- A loop, and what comes behind it. -/
theorem behind {α β : Type} {x : Option α} {K : α → Option β} {r : Option β} {Q : α → Prop} (h : ∃ a, x = some a ∧ Q a) (hk : ∀ a, Q a → K a = r) : x.bind K = r := by
  obtain ⟨a, rfl, q⟩ := h
  exact hk a q
theorem behindP {α β : Type} {x : Option α} {K : α → Option β} {Q : α → Prop} {P : Option β → Prop} (h : ∃ a, x = some a ∧ Q a) (hk : ∀ a, Q a → P (K a)) : P (x.bind K) := by
  obtain ⟨a, rfl, q⟩ := h
  exact hk a q
theorem Pt.eq_iff (a b : Pt) : a = b ↔ a.kind = b.kind ∧ a.len = b.len ∧ a.res = b.res := by
  cases a; cases b; simp
theorem eqCells_pt (a b : Pt) : eqCells [vi a.kind, vi a.len, vi a.res] [vi b.kind, vi b.len, vi b.res] = some (decide (a = b)) := by
  simp [eqCells, Pt.eq_iff, Bool.and_assoc]
theorem bal_loop (bs : ByteArray) : ∀ (d i : Nat) (r : List UInt8), bs.size - i = d → ByteArray.toList.loop bs i r = r.reverse ++ bs.data.toList.drop i := by
  intro d
  induction d with
  | zero =>
    intro i r h
    unfold ByteArray.toList.loop
    have hs : bs.data.toList.length = bs.size := rfl
    rw [if_neg (by omega), List.drop_of_length_le (by omega), List.append_nil]
  | succ d ih =>
    intro i r h
    unfold ByteArray.toList.loop
    have hs : bs.data.toList.length = bs.size := rfl
    have hi : i < bs.data.toList.length := by omega
    rw [if_pos (by omega), ih (i + 1) _ (by omega), List.reverse_cons, List.append_assoc, List.drop_eq_getElem_cons hi]
    have : bs.get! i = bs.data.toList[i] := by
      rcases bs with ⟨l⟩
      show l[i]! = _
      have hi' : i < l.size := by simpa using hi
      simp [getElem!_pos l i hi']
    rw [this]; rfl
theorem bal_eq (bs : ByteArray) : bs.toList = bs.data.toList := by
  unfold ByteArray.toList
  rw [bal_loop bs _ 0 [] rfl]; rfl
theorem ba_empty (s : ByteArray) : (s = ByteArray.empty) = ((s.size : Int) = 0) := by
  apply propext
  rcases s with ⟨⟨l⟩⟩
  cases l with
  | nil => exact ⟨fun _ => rfl, fun _ => rfl⟩
  | cons a l => exact ⟨fun h => by have := congrArg ByteArray.size h; have h2 : l.length + 1 = 0 := this; omega, fun h => by have : ((l.length + 1 : Nat) : Int) = 0 := h; omega⟩
theorem bal_nil (s : ByteArray) : (s.toList = []) = ((s.size : Int) = 0) := by
  rw [bal_eq]; rcases s with ⟨⟨l⟩⟩
  apply propext
  show l = [] ↔ ((l.length : Nat) : Int) = 0
  rw [← List.length_eq_zero_iff]; omega
theorem get_0 (bx : Bx) (a) (r : Bx) : (bx ++ a :: r)[bx.length]? = some a := by simp
theorem get_1 (bx : Bx) (a b) (r : Bx) : (bx ++ a :: b :: r)[bx.length + 1]? = some b := by simp
theorem get_2 (bx : Bx) (a b c) (r : Bx) : (bx ++ a :: b :: c :: r)[bx.length + 2]? = some c := by simp
theorem set_0 (bx : Bx) (a x) (r : Bx) : (bx ++ a :: r).set bx.length x = bx ++ x :: r := by simp
theorem set_1 (bx : Bx) (a b x) (r : Bx) : (bx ++ a :: b :: r).set (bx.length + 1) x = bx ++ a :: x :: r := by simp
theorem set_2 (bx : Bx) (a b c x) (r : Bx) : (bx ++ a :: b :: c :: r).set (bx.length + 2) x = bx ++ a :: b :: x :: r := by simp
theorem bx_len (bx r : Bx) : (bx ++ r).length = bx.length + r.length := List.length_append
/-- A loop over places. -/
theorem loop_ind {X : Type} {go : X → Option (Out × Env × Bx)} {St : Nat → X → Prop} {Q : Nat → Out × Env × Bx → Prop} {n : Nat}
    (hend : ∀ s, St n s → ∃ a, go s = some a ∧ Q n a)
    (hstep : ∀ i s, i < n → St i s → (∃ a, go s = some a ∧ Q i a) ∨ ∃ s', go s = go s' ∧ St (i + 1) s' ∧ ∀ a, Q (i + 1) a → Q i a) :
    ∀ d i s, i + d = n → St i s → ∃ a, go s = some a ∧ Q i a := by
  intro d
  induction d with
  | zero => intro i s h hs; obtain rfl : i = n := by omega
            exact hend s hs
  | succ d ih =>
    intro i s h hs
    rcases hstep i s (by omega) hs with h1 | ⟨s', h1, h2, h3⟩
    · exact h1
    · obtain ⟨a, ha, hq⟩ := ih (i + 1) s' (by omega) h2
      exact ⟨a, h1.trans ha, h3 a hq⟩
/-- The first place told. -/
def fstP (p : Nat → Bool) : Nat → Nat → Option Nat
  | _, 0 => none
  | i, d + 1 => if p i then some i else fstP p (i + 1) d
theorem fstP_congr {p q : Nat → Bool} : ∀ (d i : Nat), (∀ k, i ≤ k → k < i + d → p k = q k) → fstP p i d = fstP q i d
  | 0, _, _ => rfl
  | d + 1, i, h => by
    unfold fstP
    rw [h i (Nat.le_refl _) (by omega), fstP_congr d (i + 1) fun k h1 h2 => h k (by omega) (by omega)]
theorem fstP_none {p : Nat → Bool} : ∀ (d i : Nat), fstP p i d = none ↔ ∀ k, i ≤ k → k < i + d → p k = false
  | 0, i => ⟨fun _ k _ _ => by omega, fun _ => rfl⟩
  | d + 1, i => by
    unfold fstP
    cases hp : p i with
    | true => simp; exact ⟨i, Nat.le_refl _, by omega, hp⟩
    | false =>
      simp only [Bool.false_eq_true, if_false]
      rw [fstP_none d (i + 1)]
      constructor
      · intro h k h1 h2
        by_cases hk : k = i
        · rw [hk]; exact hp
        · exact h k (by omega) (by omega)
      · intro h k h1 h2; exact h k (by omega) (by omega)
theorem fstP_some {p : Nat → Bool} : ∀ (d i k : Nat), fstP p i d = some k → i ≤ k ∧ k < i + d ∧ p k = true
  | 0, _, _, h => by cases h
  | d + 1, i, k, h => by
    unfold fstP at h
    cases hp : p i with
    | true => rw [hp] at h; cases h; exact ⟨Nat.le_refl _, by omega, hp⟩
    | false =>
      rw [hp] at h
      obtain ⟨h1, h2, h3⟩ := fstP_some d (i + 1) k h
      exact ⟨by omega, by omega, h3⟩
def FQ (p : Nat → Bool) (bx : Bx) (x : Nat) (RET : Nat → Env → Prop) (EX : Env → Prop) (i d : Nat) (a : Out × Env × Bx) : Prop := match fstP p i d with
  | none => ∃ e', a = (.ex x, e', bx) ∧ EX e'
  | some k => ∃ e' junk, a = (.ret, e', bx ++ junk) ∧ RET k e'
theorem FQ.never {bx : Bx} {x : Nat} {RET : Nat → Env → Prop} {EX : Env → Prop} {i d : Nat} {a : Out × Env × Bx} (h : FQ (fun _ => false) bx x RET EX i d a) : ∃ e', a = (.ex x, e', bx) ∧ EX e' := by
  unfold FQ at h
  split at h
  · exact h
  · rename_i k hk
    obtain ⟨_, _, hf⟩ := fstP_some _ _ _ hk
    cases hf
def frzK (k : Bool) (p : A × Bx) : Option A := frz k p.2 p.1
theorem pureOf_b (Φ : CallF) (k : Bool) (f : Nat) (args : List A) : pureOf Φ k f args = (Φ f args []).bind (frzK k) := by
  unfold pureOf
  cases Φ f args [] <;> rfl
/-- A round: it ends here, as is told; or it goes on. -/
def Step (p : Bool) (bx : Bx) (RET : Env → Prop) (go : Env → Option (Out × Env × Bx)) (St' : Env → Prop) (r : Option (Out × Env × Bx)) : Prop :=
  (p = true ∧ ∃ e' junk, r = some (.ret, e', bx ++ junk) ∧ RET e') ∨ (p = false ∧ ∃ e', r = go e' ∧ St' e')
theorem Step.ret {p bx RET go St'} {e' : Env} (junk : Bx) (h : p = true) (hr : RET e') : Step p bx RET go St' (some (.ret, e', bx ++ junk)) := .inl ⟨h, e', junk, rfl, hr⟩
theorem Step.ret0 {p bx RET go St'} {e' : Env} (h : p = true) (hr : RET e') : Step p bx RET go St' (some (.ret, e', bx)) := .inl ⟨h, e', [], by rw [List.append_nil], hr⟩
theorem Step.go {p bx RET St'} {go : Env → Option (Out × Env × Bx)} {e' : Env} (h : p = false) (hr : St' e') : Step p bx RET go St' (go e') := .inr ⟨h, e', rfl, hr⟩
/-- A loop forgets what its round has made. -/
theorem loop_junk {tab : Nat → Option CFun} {ext : CallF} {nb kb : Nat} {live : List Nat} {b : C} {bx : Bx} (junk : Bx) (hn : nb + kb ≤ bx.length) (e : Env) :
    evL tab ext nb (.loop live kb b) (e, bx ++ junk) = evL tab ext nb (.loop live kb b) (e, bx) := by
  rw [eL_loop, eL_loop]
  congr 1
  unfold loopIn loopIn0
  have h1 : min kb ((bx ++ junk).length - nb) = kb := by rw [List.length_append]; omega
  have h2 : min kb (bx.length - nb) = kb := by omega
  have h3 : nb + kb ≤ (bx ++ junk).length := by rw [List.length_append]; omega
  dsimp only
  rw [h1, h2, List.take_append_of_le_length hn, List.take_append_of_le_length (by omega : nb ≤ bx.length), List.drop_append_of_le_length (by omega : nb ≤ bx.length),
    List.take_append_of_le_length (by rw [List.length_drop]; omega)]
  simp only [hn, h3, true_and]
theorem keepL_congr {live : List Nat} {e e' : Env} (h : ∀ i ∈ live, e i = e' i) : keepL live e = keepL live e' := by
  induction live with
  | nil => rfl
  | cons a l ih =>
    have h1 := h a (List.mem_cons_self ..)
    have h2 := ih fun i hi => h i (List.mem_cons_of_mem _ hi)
    unfold keepL at h2 ⊢
    rw [List.foldr_cons, List.foldr_cons, h2, h1]
/-- A loop knows of its variables alone. -/
theorem loop_env {tab : Nat → Option CFun} {ext : CallF} {nb kb : Nat} {live : List Nat} {b : C} {bx : Bx} {e e' : Env} (h : ∀ i ∈ live, e i = e' i) :
    evL tab ext nb (.loop live kb b) (e, bx) = evL tab ext nb (.loop live kb b) (e', bx) := by
  rw [eL_loop, eL_loop]
  congr 1
  unfold loopIn loopIn0
  dsimp only
  rw [keepL_congr h]
  have : (live.all fun i => (e i).dang (nb + min kb (bx.length - nb))) = (live.all fun i => (e' i).dang (nb + min kb (bx.length - nb))) := by
    rw [Bool.eq_iff_iff, List.all_eq_true, List.all_eq_true]
    constructor
    · intro hh i hi; rw [← h i hi]; exact hh i hi
    · intro hh i hi; rw [h i hi]; exact hh i hi
  rw [this]
/-- What a loop leaves, by running it. -/
theorem loop_run {tab : Nat → Option CFun} {ext : CallF} {nb : Nat} {L : C} {s : Env × Bx} {α : Type} {f : Out × Env × Bx → α} {r : α} (k : Nat) (h : (evK tab ext k nb L s).map f = some r) :
    ∃ a, evL tab ext nb L s = some a ∧ f a = r := by
  cases hx : evK tab ext k nb L s with
  | none => rw [hx] at h; cases h
  | some a => rw [hx] at h; exact ⟨a, (evL_iff ..).2 ⟨k, hx⟩, by simpa using h⟩
theorem Step.goJ {p : Bool} {bx : Bx} {RET St' : Env → Prop} {e' : Env} {tab : Nat → Option CFun} {ext : CallF} {nb kb : Nat} {live : List Nat} {b : C} (junk : Bx) (hn : nb + kb ≤ bx.length) (h : p = false) (hr : St' e') :
    Step p bx RET (fun e => evL tab ext nb (.loop live kb b) (e, bx)) St' (evL tab ext nb (.loop live kb b) (e', bx ++ junk)) := .inr ⟨h, e', loop_junk junk hn e', hr⟩
theorem Step.split {p : Bool} {bx RET go St'} {c : Prop} [Decidable c] {x y} (h : c → Step p bx RET go St' x) (h' : ¬ c → Step p bx RET go St' y) : Step p bx RET go St' (if c then x else y) := by
  split
  · exact h ‹_›
  · exact h' ‹_›
theorem fq_loop {go : Env → Option (Out × Env × Bx)} {St : Nat → Env → Prop} {n : Nat} (p : Nat → Bool) (bx : Bx) (x : Nat) (RET : Nat → Env → Prop) (EX : Env → Prop)
    (hend : ∀ e, St n e → ∃ e', go e = some (.ex x, e', bx) ∧ EX e')
    (hstep : ∀ i e, i < n → St i e → Step (p i) bx (RET i) go (St (i + 1)) (go e)) :
    ∀ d i e, i + d = n → St i e → ∃ a, go e = some a ∧ FQ p bx x RET EX i d a := by
  intro d
  induction d with
  | zero => intro i e h hs; obtain rfl : i = n := by omega
            obtain ⟨e', h, hx⟩ := hend e hs
            exact ⟨_, h, e', rfl, hx⟩
  | succ d ih =>
    intro i e h hs
    rcases hstep i e (by omega) hs with ⟨h1, e', junk, h2, h3⟩ | ⟨h1, e', h2, h3⟩
    · exact ⟨_, h2, by unfold FQ fstP; rw [h1]; exact ⟨e', junk, rfl, h3⟩⟩
    · obtain ⟨a, ha, hq⟩ := ih (i + 1) e' (by omega) h3
      exact ⟨a, h2.trans ha, by unfold FQ fstP; rw [h1]; exact hq⟩
/-- An answer. -/
def Ans (v : A) (bx : Bx) (r : Option (A × Bx)) : Prop := ∃ junk, r = some (v, bx ++ junk)
theorem Ans.mk {v v' : A} {bx : Bx} (junk : Bx) (h : v' = v) : Ans v bx (some (v', bx ++ junk)) := ⟨junk, by rw [h]⟩
theorem Ans.mk0 {v v' : A} {bx : Bx} (h : v' = v) : Ans v bx (some (v', bx)) := ⟨[], by rw [h, List.append_nil]⟩
theorem Ans.nil {v v' : A} {b : Bx} (h : v' = v) : Ans v [] (some (v', b)) := ⟨b, by rw [h]; rfl⟩
theorem Ans.split {v : A} {bx : Bx} {c : Prop} [Decidable c] {x y} (h : c → Ans v bx x) (h' : ¬ c → Ans v bx y) : Ans v bx (if c then x else y) := by
  split
  · exact h ‹_›
  · exact h' ‹_›
theorem pure_vb {Φ : CallF} {k f args b} (h : Ans (vb b) [] (Φ f args [])) : pureOf Φ k f args = some (vb b) := by
  obtain ⟨j, h⟩ := h
  exact pureOf_eq h rfl
theorem pure_vi {Φ : CallF} {k f args b} (h : Ans (vi b) [] (Φ f args [])) : pureOf Φ k f args = some (vi b) := by
  obtain ⟨j, h⟩ := h
  exact pureOf_eq h rfl
theorem pure_tup2 {Φ : CallF} {k f args a b} (h : Ans (.tup [vi a, vi b]) [] (Φ f args [])) : pureOf Φ k f args = some (.tup [vi a, vi b]) := by
  obtain ⟨j, h⟩ := h
  exact pureOf_eq h rfl
theorem clean_St (p : Int) (c h : List Int) (t : List Tk) : Clean [[vi p, slI c, slI h, slT t]] := ⟨by simp [strip, A.cp1, slI, slT], by simp [A.dangC, slI, slT]⟩
/-- Alike, place by place. -/
def eqF {α : Type} (f : α → α → Bool) : List α → List α → Bool
  | [], [] => true
  | a :: l, b :: m => f a b && eqF f l m
  | _, _ => false
theorem eqF_len {α : Type} (f : α → α → Bool) : ∀ (l m : List α), l.length ≠ m.length → eqF f l m = false
  | [], [], h => by simp at h
  | [], _ :: _, _ => rfl
  | _ :: _, [], _ => rfl
  | a :: l, b :: m, h => by simp [eqF, eqF_len f l m (by simpa using h)]
theorem eqF_drop {α : Type} (f : α → α → Bool) (l m : List α) (i : Nat) (h : i < l.length) (h' : i < m.length) : eqF f (l.drop i) (m.drop i) = (f l[i] m[i] && eqF f (l.drop (i + 1)) (m.drop (i + 1))) := by
  rw [List.drop_eq_getElem_cons h, List.drop_eq_getElem_cons h']; rfl
theorem eqF_eq {α : Type} [DecidableEq α] : ∀ (l m : List α), eqF (fun a b => decide (a = b)) l m = decide (l = m)
  | [], [] => rfl
  | [], _ :: _ => rfl
  | _ :: _, [] => rfl
  | a :: l, b :: m => by simp [eqF, eqF_eq l m]
/-- Behind a loop that compares: all alike, or one told that it isn't. -/
def EqQ {α : Type} (f : α → α → Bool) (l m : List α) (bx : Bx) (R : Nat) (i : Nat) (a : Out × Env × Bx) : Prop :=
  ∃ e' junk, (eqF f (l.drop i) (m.drop i) = true ∧ a = (.ex 0, e', bx)) ∨ (eqF f (l.drop i) (m.drop i) = false ∧ a = (.ret, e', bx ++ junk) ∧ e' R = vb false)
theorem EqQ.step {α : Type} {f : α → α → Bool} {l m : List α} {bx : Bx} {R i : Nat} (h : i < l.length) (h' : i < m.length) (hp : f l[i] m[i] = true) (a) (hq : EqQ f l m bx R (i + 1) a) : EqQ f l m bx R i a := by
  unfold EqQ
  rw [eqF_drop f l m i h h', hp]
  exact hq
theorem dangC_vi (m : Nat) (n : Int) : A.dangC m (vi n) = true := rfl
end Go.Proofs.YtclebnamhpgdmaaGreatEv
