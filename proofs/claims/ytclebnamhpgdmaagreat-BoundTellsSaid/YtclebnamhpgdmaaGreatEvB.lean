/- What an abstract value stands for in memory, and what a step keeps of it. -/
import Derived.Test.YtclebnamhpgdmaaGreatEvA
namespace Go.Proofs.YtclebnamhpgdmaaGreatEv
open Go Go.RowKit

/-- A clean cell. -/
inductive RepV (w : World) (lim : Nat → Nat) : Value → A → Prop
  | val (v : Value) (h1 : v.oneCell' = true) : RepV w lim v (.val v)
  | nil (g : Nat) (h4 : g ≠ 4) : RepV w lim (.slice none 0 0) (.sl [] 0 g)
  | emp (b o s g : Nat) (h3 : g ≠ 1 ∧ g ≠ 2 ∧ g ≠ 3) : RepV w lim (.slice (some ⟨b, o, some s⟩) 0 0) (.sl [] 0 g)
  | sl (b o n c : Nat) (l : List A) (g : Nat) (vs : Nat → Value) (hn : n ≤ c) (hg : g = 1 → c = n) (h3 : g ≠ 3)
      (hc : ∀ i, i < l.length → w.cell? ⟨b, o + i, none⟩ = some (vs i)) (hl : ∀ i, i < l.length → o + i < lim b)
      (hr : ∀ i (h : i < l.length), RepV w lim (vs i) l[i]) : RepV w lim (.slice (some ⟨b, o, none⟩) n c) (.sl l n g)

def n2 (a : A) : Prop := ∀ l n, a ≠ .sl l n 2

/-- A cell. -/
inductive RepC (w : World) (lim : Nat → Nat) (μ : Nat → Nat) (m : Nat) : Value → A → Prop
  | v {v : Value} {a : A} (h : RepV w lim v a) : RepC w lim μ m v a
  | bs (r n z c : Nat) (h : r < m) (hn : n ≤ c) : RepC w lim μ m (.slice (some ⟨μ r, 0, none⟩) n c) (.bs r n z)

inductive RepR (w : World) (lim : Nat → Nat) (μ : Nat → Nat) (m : Nat) : Value → A → Prop
  | c {v : Value} {a : A} (h : RepC w lim μ m v a) : RepR w lim μ m v a
  | agg (vs : Array Value) (l : List A) (hs : vs.size = l.length) (hr : ∀ i (h : i < l.length), RepC w lim μ m (vs.getD i undef) l[i]) (h2 : ∀ i (h : i < l.length), n2 l[i]) :
      RepR w lim μ m (.agg vs) (.agg l)

inductive Rep (w : World) (lim : Nat → Nat) (μ : Nat → Nat) (m : Nat) : Value → A → Prop
  | any (v : Value) : Rep w lim μ m v .any
  | und : Rep w lim μ m undef .und
  | r {v : Value} {a : A} (h : RepR w lim μ m v a) : Rep w lim μ m v a
  | tup (vs : Array Value) (l : List A) (hs : vs.size = l.length) (hr : ∀ i (h : i < l.length), RepR w lim μ m (vs.getD i undef) l[i]) : Rep w lim μ m (.tuple vs) (.tup l)
  | ptr (r o : Nat) (h : r < m) : Rep w lim μ m (.pointer (some ⟨μ r, o, none⟩)) (.ptr r o)
  | ip (b o : Nat) (l : List A) (vs : Nat → Value) (hc : ∀ i, i < l.length → w.cell? ⟨b, o + i, none⟩ = some (vs i)) (hl : ∀ i, i < l.length → o + i < lim b)
      (hr : ∀ i (h : i < l.length), RepV w lim (vs i) l[i]) : Rep w lim μ m (.pointer (some ⟨b, o, none⟩)) (.ip l)
  | fn (f : Nat) (caps : List (Nat × Nat)) (h : ∀ p ∈ caps, p.1 < m) :
      Rep w lim μ m (.func (.func f) #[] (caps.map fun p => Value.pointer (some ⟨μ p.1, p.2, none⟩)).toArray) (.fn f caps)

theorem RepV.one {w lim v a} (h : RepV w lim v a) : v.oneCell' = true := by cases h <;> first | assumption | rfl
theorem RepC.one {w lim μ m v a} (h : RepC w lim μ m v a) : v.oneCell' = true := by
  cases h with
  | v h => exact h.one
  | bs => rfl
/-- A slice, a number: known of itself. -/
theorem Rep.rv {w lim μ m v a} (h : RepV w lim v a) : Rep w lim μ m v a := .r (.c (.v h))

/-- What a step must keep: the cells that slices read. -/
def Ext (w : World) (lim : Nat → Nat) (w' : World) (lim' : Nat → Nat) : Prop :=
  ∀ b o v, o < lim b → w.cell? ⟨b, o, none⟩ = some v → w'.cell? ⟨b, o, none⟩ = some v ∧ o < lim' b

theorem Ext.refl (w lim) : Ext w lim w lim := fun _ _ _ h hc => ⟨hc, h⟩

theorem RepV.mono {w lim w' lim' v a} (h : RepV w lim v a) (he : Ext w lim w' lim') : RepV w' lim' v a := by
  induction h with
  | val v h1 => exact .val v h1
  | nil g h4 => exact .nil g h4
  | emp b o s g h3 => exact .emp b o s g h3
  | sl b o n c l g vs hn hg h3 hc hl hr ih =>
    exact .sl b o n c l g vs hn hg h3 (fun i hi => (he _ _ _ (hl i hi) (hc i hi)).1) (fun i hi => (he _ _ _ (hl i hi) (hc i hi)).2) ih

theorem RepC.mono {w lim w' lim' μ μ' m m' v a} (h : RepC w lim μ m v a) (he : Ext w lim w' lim') (hμ : ∀ r, r < m → μ' r = μ r) (hm : m ≤ m') : RepC w' lim' μ' m' v a := by
  cases h with
  | v h => exact .v (h.mono he)
  | bs r n z c h hn => rw [← hμ r h]; exact .bs r n z c (Nat.lt_of_lt_of_le h hm) hn

theorem RepR.mono {w lim w' lim' μ μ' m m' v a} (h : RepR w lim μ m v a) (he : Ext w lim w' lim') (hμ : ∀ r, r < m → μ' r = μ r) (hm : m ≤ m') : RepR w' lim' μ' m' v a := by
  cases h with
  | c h => exact .c (h.mono he hμ hm)
  | agg vs l hs hr h2 => exact .agg vs l hs (fun i hi => (hr i hi).mono he hμ hm) h2

theorem Rep.mono {w lim w' lim' μ μ' m m' v a} (h : Rep w lim μ m v a) (he : Ext w lim w' lim') (hμ : ∀ r, r < m → μ' r = μ r) (hm : m ≤ m') : Rep w' lim' μ' m' v a := by
  cases h with
  | any => exact .any _
  | und => exact .und
  | r h => exact .r (h.mono he hμ hm)
  | tup vs l hs hr => exact .tup vs l hs (fun i hi => (hr i hi).mono he hμ hm)
  | ptr r o h => rw [← hμ r h]; exact .ptr r o (Nat.lt_of_lt_of_le h hm)
  | ip b o l vs hc hl hr =>
    exact .ip b o l vs (fun i hi => (he _ _ _ (hl i hi) (hc i hi)).1) (fun i hi => (he _ _ _ (hl i hi) (hc i hi)).2) (fun i hi => (hr i hi).mono he)
  | fn f caps h =>
    have : (caps.map fun p => Value.pointer (some ⟨μ p.1, p.2, none⟩)) = caps.map fun p => Value.pointer (some ⟨μ' p.1, p.2, none⟩) :=
      List.map_congr_left fun p hp => by rw [hμ _ (h p hp)]
    rw [this]
    exact .fn f caps fun p hp => Nat.lt_of_lt_of_le (h p hp) hm

/-- A slice with another flag. -/
theorem RepV.flag {w lim v l n g} (h : RepV w lim v (.sl l n g)) (g' : Nat) (h1 : g' = 1 → g = 1) (h3 : g' = 3 → g = 3) (h4 : g' = 4 → g = 4) (h2 : g' = 2 → g = 1 ∨ g = 2) : RepV w lim v (.sl l n g') := by
  cases h with
  | nil g h => exact .nil g' (fun e => h (h4 e))
  | emp b o s g h3' => exact .emp b o s g' ⟨fun e => h3'.1 (h1 e), fun e => by rcases h2 e with h | h <;> simp [h] at h3', fun e => h3'.2.2 (h3 e)⟩
  | sl b o n c l g vs hn hg h3' hc hl hr => exact .sl b o n c l g' vs hn (fun e => hg (h1 e)) (fun e => h3' (h3 e)) hc hl hr

theorem RepV.cp1 {w lim v a} (h : RepV w lim v a) : RepV w lim v a.cp1 := by
  cases a with
  | sl l n g => exact h.flag _ (fun e => by split at e <;> first | omega | exact e) (fun e => by split at e <;> first | omega | exact e) (fun e => by split at e <;> first | omega | exact e) (fun e => by split at e <;> first | omega | (left; assumption) | (right; exact e))
  | _ => exact h
theorem RepV.norm1 {w lim v a} (h : RepV w lim v a) : RepV w lim v a.norm1 := by
  cases a with
  | sl l n g => exact h.flag 0 (fun e => by cases e) (fun e => by cases e) (fun e => by cases e) (fun e => by cases e)
  | _ => exact h
theorem RepV.own {w lim v a} (h : RepV w lim v a) : RepV w lim v a.own := by
  cases a with
  | sl l n g => exact h.flag _ (fun e => by split at e <;> first | omega | exact e) (fun e => by split at e <;> first | omega | exact e) (fun e => by split at e <;> first | omega | exact e) (fun e => by split at e <;> first | omega | (left; assumption) | (right; exact e))
  | _ => exact h
theorem RepV.zero {w lim v l n g} (h : RepV w lim v (.sl l n g)) : RepV w lim v (.sl l n 0) := h.norm1
theorem RepC.cp1 {w lim μ m v a} (h : RepC w lim μ m v a) : RepC w lim μ m v a.cp1 := by
  cases h with
  | v h => exact .v h.cp1
  | bs r n z c h hn => exact .bs r n z c h hn
theorem RepC.norm1 {w lim μ m v a} (h : RepC w lim μ m v a) : RepC w lim μ m v a.norm1 := by
  cases h with
  | v h => exact .v h.norm1
  | bs r n z c h hn => exact .bs r n z c h hn
theorem RepC.own {w lim μ m v a} (h : RepC w lim μ m v a) : RepC w lim μ m v a.own := by
  cases h with
  | v h => exact .v h.own
  | bs r n z c h hn => exact .bs r n z c h hn

theorem n2_cp1 (a : A) : n2 a.cp1 := by
  intro l n h
  cases a <;> simp [A.cp1] at h
  split at h <;> omega
theorem n2_norm1 (a : A) : n2 a.norm1 := by
  intro l n h
  cases a <;> simp [A.norm1] at h

theorem cp_cell (a : A) (h : ∀ l, a ≠ .agg l) : a.cp = a.cp1 := by
  cases a <;> first | rfl | exact absurd rfl (h _)
theorem norm_cell (a : A) (h : ∀ l, a ≠ .agg l) : a.norm = a.norm1 := by
  cases a <;> first | rfl | exact absurd rfl (h _)
theorem RepC.noagg {w lim μ m v a} (h : RepC w lim μ m v a) : ∀ l, a ≠ .agg l := by
  rintro l rfl
  cases h with
  | v h => cases h

theorem RepR.cp {w lim μ m v a} (h : RepR w lim μ m v a) : RepR w lim μ m v a.cp := by
  cases h with
  | c h => rw [cp_cell a h.noagg]; exact .c h.cp1
  | agg vs l hs hr h2 => exact .agg vs _ (by simpa using hs) (fun i hi => by simp only [List.getElem_map]; exact (hr i (by simpa using hi)).cp1) (fun i hi => by simp only [List.getElem_map]; exact n2_cp1 _)
theorem RepR.norm {w lim μ m v a} (h : RepR w lim μ m v a) : RepR w lim μ m v a.norm := by
  cases h with
  | c h => rw [norm_cell a h.noagg]; exact .c h.norm1
  | agg vs l hs hr h2 => exact .agg vs _ (by simpa using hs) (fun i hi => by simp only [List.getElem_map]; exact (hr i (by simpa using hi)).norm1) (fun i hi => by simp only [List.getElem_map]; exact n2_norm1 _)
theorem RepR.own {w lim μ m v a} (h : RepR w lim μ m v a) : RepR w lim μ m v a.own := by
  cases h with
  | c h => exact .c h.own
  | agg vs l hs hr h2 => exact .agg vs l hs hr h2

theorem Rep.cp {w lim μ m v a} (h : Rep w lim μ m v a) : Rep w lim μ m v a.cp := by
  cases h with
  | r h => exact .r h.cp
  | any => exact .any _
  | und => exact .und
  | tup vs l hs hr => exact .tup vs l hs hr
  | ptr r o h => exact .ptr r o h
  | ip b o l vs hc hl hr => exact .ip b o l vs hc hl hr
  | fn f caps h => exact .fn f caps h
theorem Rep.norm {w lim μ m v a} (h : Rep w lim μ m v a) : Rep w lim μ m v a.norm := by
  cases h with
  | r h => exact .r h.norm
  | any => exact .any _
  | und => exact .und
  | tup vs l hs hr => exact .tup vs l hs hr
  | ptr r o h => exact .ptr r o h
  | ip b o l vs hc hl hr => exact .ip b o l vs hc hl hr
  | fn f caps h => exact .fn f caps h
theorem Rep.own {w lim μ m v a} (h : Rep w lim μ m v a) : Rep w lim μ m v a.own := by
  cases h with
  | r h => exact .r h.own
  | any => exact .any _
  | und => exact .und
  | tup vs l hs hr => exact .tup vs l hs hr
  | ptr r o h => exact .ptr r o h
  | ip b o l vs hc hl hr => exact .ip b o l vs hc hl hr
  | fn f caps h => exact .fn f caps h

theorem Rep.isC {w lim μ m v a} (h : Rep w lim μ m v a) (hv : a.isC = true) : RepC w lim μ m v a := by
  cases h with
  | r h => cases h with
    | c h => exact h
    | agg => simp [A.isC, A.isV] at hv
  | _ => simp [A.isC, A.isV] at hv
theorem RepC.isV {w lim μ m v a} (h : RepC w lim μ m v a) (hv : a.isV = true) : RepV w lim v a := by
  cases h with
  | v h => exact h
  | bs => simp [A.isV] at hv
theorem isC_of_isV {a : A} (h : a.isV = true) : a.isC = true := by cases a <;> first | exact h | rfl
theorem Rep.isV {w lim μ m v a} (h : Rep w lim μ m v a) (hv : a.isV = true) : RepV w lim v a := (h.isC (isC_of_isV hv)).isV hv
theorem Rep.isR {w lim μ m v a} (h : Rep w lim μ m v a) (hv : a.isR = true) : RepR w lim μ m v a := by
  cases h with
  | r h => exact h
  | _ => simp [A.isR, A.isC, A.isV] at hv
theorem Rep.val {w lim μ m v x} (h : Rep w lim μ m v (.val x)) : v = x ∧ x.oneCell' = true := by
  cases h with
  | r h => cases h with
    | c h => cases h with
      | v h => cases h with
        | val v h1 => exact ⟨rfl, h1⟩
theorem Rep.toSl {w lim μ m v l n g} (h : Rep w lim μ m v (.sl l n g)) : RepV w lim v (.sl l n g) := by
  cases h with
  | r h => cases h with
    | c h => cases h with
      | v h => exact h
theorem Rep.toBs {w lim μ m v r n z} (h : Rep w lim μ m v (.bs r n z)) : ∃ c, v = .slice (some ⟨μ r, 0, none⟩) n c ∧ n ≤ c ∧ r < m := by
  cases h with
  | r h => cases h with
    | c h => cases h with
      | v h => cases h
      | bs r n z c h hn => exact ⟨c, rfl, hn, h⟩
theorem Rep.toAgg {w lim μ m v l} (h : Rep w lim μ m v (.agg l)) : ∃ vs : Array Value, v = .agg vs ∧ vs.size = l.length ∧ (∀ i (h : i < l.length), RepC w lim μ m (vs.getD i undef) l[i]) ∧ (∀ i (h : i < l.length), n2 l[i]) := by
  cases h with
  | r h => cases h with
    | c h => cases h with
      | v h => cases h
    | agg vs l hs hr h2 => exact ⟨vs, rfl, hs, hr, h2⟩
theorem Rep.toPtr {w lim μ m v r o} (h : Rep w lim μ m v (.ptr r o)) : v = .pointer (some ⟨μ r, o, none⟩) ∧ r < m := by
  cases h with
  | r h => cases h with
    | c h => cases h with
      | v h => cases h
  | ptr _ _ h => exact ⟨rfl, h⟩
theorem Rep.toIp {w lim μ m v l} (h : Rep w lim μ m v (.ip l)) : ∃ (b o : Nat) (vs : Nat → Value), v = .pointer (some ⟨b, o, none⟩) ∧ (∀ i, i < l.length → w.cell? ⟨b, o + i, none⟩ = some (vs i)) ∧ (∀ i, i < l.length → o + i < lim b) ∧ (∀ i (h : i < l.length), RepV w lim (vs i) l[i]) := by
  cases h with
  | r h => cases h with
    | c h => cases h with
      | v h => cases h
  | ip b o l vs hc hl hr => exact ⟨b, o, vs, rfl, hc, hl, hr⟩
theorem Rep.toFn {w lim μ m v f caps} (h : Rep w lim μ m v (.fn f caps)) : v = .func (.func f) #[] (caps.map fun p => Value.pointer (some ⟨μ p.1, p.2, none⟩)).toArray ∧ ∀ p ∈ caps, p.1 < m := by
  cases h with
  | r h => cases h with
    | c h => cases h with
      | v h => cases h
  | fn _ _ h => exact ⟨rfl, h⟩
theorem Rep.toTup {w lim μ m v l} (h : Rep w lim μ m v (.tup l)) : ∃ vs : Array Value, v = .tuple vs ∧ vs.size = l.length ∧ ∀ i (h : i < l.length), RepR w lim μ m (vs.getD i undef) l[i] := by
  cases h with
  | r h => cases h with
    | c h => cases h with
      | v h => cases h
  | tup vs l hs hr => exact ⟨vs, rfl, hs, hr⟩

theorem cells_one {v : Value} (h1 : v.oneCell' = true) : v.cells = #[v] := by cases v <;> first | rfl | (simp [Value.oneCell'] at h1)

/-- The cells of a value: what is stored where it is boxed. -/
theorem Rep.cells {w lim μ m v a} (h : Rep w lim μ m v a) (hv : a.cells.all A.isC = true) :
    v.cells.size = a.cells.length ∧ ∀ i (h : i < a.cells.length), RepC w lim μ m (v.cells.getD i undef) a.cells[i] := by
  by_cases ha : ∃ l, a = .agg l
  · obtain ⟨l, rfl⟩ := ha
    obtain ⟨vs, rfl, hs, hr, h2⟩ := h.toAgg
    exact ⟨hs, hr⟩
  · have hc : a.cells = [a] := by cases a <;> first | rfl | exact absurd ⟨_, rfl⟩ ha
    rw [hc] at hv
    have hh := h.isC (by simpa using hv)
    rw [cells_one hh.one]
    simp only [hc]
    exact ⟨rfl, fun i hi => by simp at hi; subst hi; exact hh⟩

inductive Pl where
  | t (i : Nat)
  | b (r o : Nat)
  deriving DecidableEq

/-- A slice with a right to grow: its row is its own beyond its end. -/
def Flagged (w : World) (lim : Nat → Nat) (base b o n c : Nat) (l : List A) : Prop :=
  base ≤ b ∧ lim b = o + l.length ∧ 0 < l.length ∧ ∃ cs t sz, w.heap[b]? = some (.cells cs t (0, 0)) ∧ l.length = n * sz ∧ cs.size = o + c * sz

def FlagOk (w : World) (lim : Nat → Nat) (own : Nat → Pl) (base : Nat) (p : Pl) (v : Value) (a : A) : Prop :=
  ∀ l n b o c, a = .sl l n 2 → v = .slice (some ⟨b, o, none⟩) n c → n < c → own b = p ∧ Flagged w lim base b o n c l

theorem FlagOk.of_n2 {w lim own base p v a} (h : n2 a) : FlagOk w lim own base p v a := fun _ _ _ _ _ e => absurd e (h _ _)

structure BoxRep (w : World) (lim μ : Nat → Nat) (bx : Bx) : Prop where
  row : ∀ r (h : r < bx.length), ∃ cs t, w.heap[μ r]? = some (.cells cs t (0, 0)) ∧ bx[r].length ≤ cs.size ∧ ∀ o (ho : o < bx[r].length), RepC w lim μ bx.length (cs.getD o undef) bx[r][o]
  lim0 : ∀ r, r < bx.length → lim (μ r) = 0
  inj : ∀ r r', r < bx.length → r' < bx.length → μ r = μ r' → r = r'

/-- What was there is as it was, but for these boxes. -/
structure But (B : Nat) (μ : Nat → Nat) (nb : Nat) (w w' : World) : Prop where
  os : w'.os = w.os
  tape : w'.tape = w.tape
  output : w'.output = w.output
  size : w.heap.size ≤ w'.heap.size
  block : ∀ k, k < B → (∀ r, r < nb → μ r ≠ k) → w'.heap[k]? = w.heap[k]?

theorem But.refl (B μ nb w) : But B μ nb w w := ⟨rfl, rfl, rfl, Nat.le_refl _, fun _ _ _ => rfl⟩
theorem But.trans {B μ nb a b c} (h : But B μ nb a b) (k : But B μ nb b c) : But B μ nb a c :=
  ⟨k.os.trans h.os, k.tape.trans h.tape, k.output.trans h.output, Nat.le_trans h.size k.size, fun i hi hr => (k.block i hi hr).trans (h.block i hi hr)⟩
theorem But.of_below {B μ nb w w'} (h : Below B w w') : But B μ nb w w' := ⟨h.os, h.tape, h.output, h.size, fun k hk _ => h.block k hk⟩
theorem But.below {B μ w w'} (h : But B μ 0 w w') : Below B w w' := ⟨h.os, h.tape, h.output, h.size, fun k hk => h.block k hk fun r hr => absurd hr (Nat.not_lt_zero _)⟩

/-- The frame of one call: where its blocks begin, the world and the boxes at its start. -/
structure Fr where
  w0 : World
  lim0 : Nat → Nat
  μ0 : Nat → Nat
  nb : Nat
  nt : Nat

structure InvG (F : Fr) (lim μ : Nat → Nat) (own : Nat → Pl) (s : Env × Bx) (a : Act) (w : World) : Prop where
  defers : a.defers = []
  size : a.tmps.size = F.nt
  nb : F.nb ≤ s.2.length
  mu0 : ∀ r, r < F.nb → μ r = F.μ0 r
  mub : ∀ r, F.nb ≤ r → r < s.2.length → F.w0.heap.size ≤ μ r
  env : ∀ i, Rep w lim μ s.2.length (a.tmps.getD i undef) (s.1 i)
  box : BoxRep w lim μ s.2
  flt : ∀ i, FlagOk w lim own F.w0.heap.size (.t i) (a.tmps.getD i undef) (s.1 i)
  flb : ∀ r o cs t, F.nb ≤ r → (h : r < s.2.length) → w.heap[μ r]? = some (.cells cs t (0, 0)) → (ho : o < s.2[r].length) → FlagOk w lim own F.w0.heap.size (.b r o) (cs.getD o undef) s.2[r][o]
  below : But F.w0.heap.size F.μ0 F.nb F.w0 w
  lim0 : ∀ b, b < F.w0.heap.size → lim b = F.lim0 b

def Inv (F : Fr) (s : Env × Bx) (a : Act) (w : World) : Prop := ∃ lim μ own, InvG F lim μ own s a w

theorem cell?_of_heap {w w' : World} {b : Nat} (h : w'.heap[b]? = w.heap[b]?) (o : Nat) : w'.cell? ⟨b, o, none⟩ = w.cell? ⟨b, o, none⟩ := by
  unfold World.cell?; rw [h]

theorem lt_of_cell {w : World} {b o : Nat} {v : Value} (h : w.cell? ⟨b, o, none⟩ = some v) : b < w.heap.size := by
  unfold World.cell? at h
  rcases Nat.lt_or_ge b w.heap.size with h' | h'
  · exact h'
  · simp [Array.getElem?_eq_none h'] at h

theorem lt_of_heap {w : World} {b : Nat} {x : Obj} (h : w.heap[b]? = some x) : b < w.heap.size := by
  rcases Nat.lt_or_ge b w.heap.size with h' | h'
  · exact h'
  · simp [Array.getElem?_eq_none h'] at h

theorem Ext.of_below {w w' : World} {lim lim' : Nat → Nat} (h : Below w.heap.size w w') (hl : ∀ b, b < w.heap.size → lim' b = lim b) : Ext w lim w' lim' := by
  intro b o v ho hc
  have hb := lt_of_cell hc
  exact ⟨(cell?_of_heap (h.block b hb) o).trans hc, by rw [hl b hb]; exact ho⟩

theorem Ext.trans {w lim w1 lim1 w2 lim2} (h : Ext w lim w1 lim1) (k : Ext w1 lim1 w2 lim2) : Ext w lim w2 lim2 := by
  intro b o v ho hc
  obtain ⟨h1, h2⟩ := h b o v ho hc
  exact k b o v h2 h1

theorem BoxRep.lt {w lim μ bx} (h : BoxRep w lim μ bx) {r : Nat} (hr : r < bx.length) : μ r < w.heap.size := by
  obtain ⟨cs, t, hh, _⟩ := h.row r hr
  exact lt_of_heap hh

theorem BoxRep.mono {w lim μ bx w' lim'} (h : BoxRep w lim μ bx) (hb : Below w.heap.size w w') (hl : ∀ b, b < w.heap.size → lim' b = lim b) : BoxRep w' lim' μ bx := by
  refine ⟨fun r hr => ?_, fun r hr => ?_, h.inj⟩
  · obtain ⟨cs, t, hh, hs, hc⟩ := h.row r hr
    exact ⟨cs, t, (hb.block _ (lt_of_heap hh)).trans hh, hs, fun o ho => (hc o ho).mono (.of_below hb hl) (fun _ _ => rfl) (Nat.le_refl _)⟩
  · rw [hl _ (h.lt hr)]; exact h.lim0 r hr

theorem FlagOk.mono {w lim own base p v a w' lim'} (h : FlagOk w lim own base p v a) (hb : Below w.heap.size w w') (hl : ∀ b, b < w.heap.size → lim' b = lim b) : FlagOk w' lim' own base p v a := by
  intro l n b o c ha hv hc
  obtain ⟨h1, h2, h3, h4, cs, t, sz, h5, h6, h7⟩ := h l n b o c ha hv hc
  have := lt_of_heap h5
  exact ⟨h1, h2, by rw [hl b this]; exact h3, h4, cs, t, sz, (hb.block _ this).trans h5, h6, h7⟩

/-- New blocks, and what a call does: what was there is as it was. -/
theorem InvG.step {F lim μ own s a w w' lim'} (h : InvG F lim μ own s a w) (hb : Below w.heap.size w w') (hl : ∀ b, b < w.heap.size → lim' b = lim b) : InvG F lim' μ own s a w' := by
  have hs := h.below.size
  refine ⟨h.defers, h.size, h.nb, h.mu0, h.mub, fun i => (h.env i).mono (.of_below hb hl) (fun _ _ => rfl) (Nat.le_refl _), h.box.mono hb hl, fun i => (h.flt i).mono hb hl, ?_, h.below.trans (.of_below (hb.mono hs)), fun b hbb => (hl b (by omega)).trans (h.lim0 b hbb)⟩
  intro r o cs t hr hr' hh ho
  refine (h.flb r o cs t hr hr' ?_ ho).mono hb hl
  rw [← hb.block _ (h.box.lt hr')]; exact hh

/-- No place holds a right to grow at this block. -/
def FreeB (F : Fr) (μ : Nat → Nat) (s : Env × Bx) (a : Act) (w : World) (b : Nat) : Prop :=
  (∀ i l n o c, s.1 i = .sl l n 2 → a.tmps.getD i undef = .slice (some ⟨b, o, none⟩) n c → ¬ n < c) ∧
  (∀ r o cs t l n o' c, F.nb ≤ r → (h : r < s.2.length) → w.heap[μ r]? = some (.cells cs t (0, 0)) → (ho : o < s.2[r].length) → s.2[r][o] = .sl l n 2 → cs.getD o undef = .slice (some ⟨b, o', none⟩) n c → ¬ n < c)

theorem freeB_new {F lim μ own s a w} (h : InvG F lim μ own s a w) {b : Nat} (hb : w.heap.size ≤ b) : FreeB F μ s a w b := by
  refine ⟨fun i l n o c h1 h2 h3 => ?_, fun r o cs t l n o' c hr hr' hh ho h1 h2 h3 => ?_⟩
  · obtain ⟨_, _, _, _, cs, t, sz, h5, _⟩ := h.flt i l n b o c h1 h2 h3
    have := lt_of_heap h5; omega
  · obtain ⟨_, _, _, _, cs, t, sz, h5, _⟩ := h.flb r o cs t hr hr' hh ho l n b o' c h1 h2 h3
    have := lt_of_heap h5; omega

def ownAt (own : Nat → Pl) (b : Nat) (p : Pl) : Nat → Pl := fun x => if x = b then p else own x

theorem InvG.reown {F lim μ own s a w} (h : InvG F lim μ own s a w) {b : Nat} (hf : FreeB F μ s a w b) (p : Pl) : InvG F lim μ (ownAt own b p) s a w := by
  refine { h with flt := ?_, flb := ?_ }
  · intro i l n b' o c h1 h2 h3
    have := h.flt i l n b' o c h1 h2 h3
    refine ⟨?_, this.2⟩
    unfold ownAt
    rw [if_neg]
    · exact this.1
    · rintro rfl; exact hf.1 i l n o c h1 h2 h3
  · intro r o cs t hr hr' hh ho l n b' o' c h1 h2 h3
    have := h.flb r o cs t hr hr' hh ho l n b' o' c h1 h2 h3
    refine ⟨?_, this.2⟩
    unfold ownAt
    rw [if_neg]
    · exact this.1
    · rintro rfl; exact hf.2 r o cs t l n o' c hr hr' hh ho h1 h2 h3

theorem getD_set (ts : Array Value) (d : Nat) (v : Value) (i : Nat) (hd : d < ts.size) : (ts.setIfInBounds d v).getD i undef = if i = d then v else ts.getD i undef := by
  simp only [Array.getD_eq_getD_getElem?, Array.getElem?_setIfInBounds]
  by_cases h : d = i
  · subst h; simp [hd]
  · have : ¬ i = d := fun e => h e.symm
    simp [h, this]

/-- A value without a right to grow is put into a slot. -/
theorem InvG.setT {F lim μ own s a w d v x} (h : InvG F lim μ own s a w) (hd : d < F.nt) (hr : Rep w lim μ s.2.length v x)
    (hf : FlagOk w lim own F.w0.heap.size (.t d) v x) : InvG F lim μ own (put d x s.1, s.2) (a.put (some d) v) w := by
  have hg : ∀ i, (a.put (some d) v).tmps.getD i undef = if i = d then v else a.tmps.getD i undef := fun i => getD_set _ _ _ _ (by rw [h.size]; exact hd)
  refine { h with size := ?_, env := ?_, flt := ?_, defers := h.defers }
  · show (a.tmps.setIfInBounds d v).size = F.nt
    simpa using h.size
  · intro i
    rw [hg i]
    simp only [put_at]
    split
    · exact hr
    · exact h.env i
  · intro i
    rw [hg i]
    simp only [put_at]
    split
    · rename_i e; subst e; exact hf
    · exact h.flt i

/-- A value, with whatever right. -/
theorem InvG.setF {F lim μ own s a w d v x} (h : InvG F lim μ own s a w) (hd : d < F.nt) (hr : Rep w lim μ s.2.length v x)
    (hf : ∀ l n b o c, x = .sl l n 2 → v = .slice (some ⟨b, o, none⟩) n c → n < c → FreeB F μ s a w b ∧ Flagged w lim F.w0.heap.size b o n c l) :
    Inv F (put d x s.1, s.2) (a.put (some d) v) w := by
  by_cases hx : ∃ l n b o c, x = .sl l n 2 ∧ v = .slice (some ⟨b, o, none⟩) n c ∧ n < c
  · obtain ⟨l, n, b, o, c, rfl, rfl, hc⟩ := hx
    obtain ⟨hfree, hfl⟩ := hf l n b o c rfl rfl hc
    refine ⟨lim, μ, _, (h.reown hfree (.t d)).setT hd hr ?_⟩
    intro l' n' b' o' c' e1 e2 _
    cases e1
    cases e2
    exact ⟨by simp [ownAt], hfl⟩
  · exact ⟨lim, μ, own, h.setT hd hr fun l n b o c e1 e2 e3 => absurd ⟨l, n, b, o, c, e1, e2, e3⟩ hx⟩

theorem InvG.setO {F lim μ own s a w d v x} (h : InvG F lim μ own s a w) (hd : ∀ k, d = some k → k < F.nt) (hr : Rep w lim μ s.2.length v x)
    (hf : ∀ l n b o c, x = .sl l n 2 → v = .slice (some ⟨b, o, none⟩) n c → n < c → FreeB F μ s a w b ∧ Flagged w lim F.w0.heap.size b o n c l) :
    Inv F (putO d x s.1, s.2) (a.put d v) w := by
  cases d with
  | none => exact ⟨lim, μ, own, h⟩
  | some k => exact h.setF (hd k rfl) hr hf

/-- The holder of a right loses it. -/
theorem InvG.take {F lim μ own s a w} (h : InvG F lim μ own s a w) (x : O) :
    InvG F lim μ own (puts (takeU x s.1) s.1, s.2) a w ∧
    (∀ i l n b o c, x = .t i → s.1 i = .sl l n 2 → a.tmps.getD i undef = .slice (some ⟨b, o, none⟩) n c → n < c → FreeB F μ (puts (takeU x s.1) s.1, s.2) a w b ∧ Flagged w lim F.w0.heap.size b o n c l) := by
  cases x with
  | c v => exact ⟨h, fun _ _ _ _ _ _ e => by cases e⟩
  | f k => exact ⟨h, fun _ _ _ _ _ _ e => by cases e⟩
  | t j =>
    by_cases hj : ∃ l n, s.1 j = .sl l n 2
    · obtain ⟨l0, n0, e0⟩ := hj
      have et : takeU (.t j) s.1 = [(j, .sl l0 n0 0)] := by simp [takeU, e0]
      rw [et]
      have hat : ∀ i, puts [(j, A.sl l0 n0 0)] s.1 i = if i = j then .sl l0 n0 0 else s.1 i := fun i => rfl
      have hI : InvG F lim μ own (puts [(j, .sl l0 n0 0)] s.1, s.2) a w := by
        refine { h with env := ?_, flt := ?_ }
        · intro i
          simp only [hat]
          split
          · rename_i e; subst e
            have := (h.env i)
            rw [e0] at this
            exact .rv this.toSl.zero
          · exact h.env i
        · intro i
          simp only [hat]
          split
          · exact .of_n2 fun l n e => by cases e
          · exact h.flt i
      refine ⟨hI, ?_⟩
      intro i l n b o c ei e1 e2 e3
      cases ei
      obtain ⟨hown, hfl⟩ := h.flt j l n b o c e1 e2 e3
      refine ⟨⟨?_, ?_⟩, hfl⟩
      · intro i' l' n' o' c' f1 f2 f3
        simp only [hat] at f1
        split at f1
        · cases f1
        · rename_i hne
          have := (h.flt i' l' n' b o' c' f1 f2 f3).1
          rw [hown] at this
          cases this
          exact hne rfl
      · intro r q cs t l' n' o' c' hr hr' hh hq f1 f2 f3
        have := (h.flb r q cs t hr hr' hh hq l' n' b o' c' f1 f2 f3).1
        rw [hown] at this
        cases this
    · have et : takeU (.t j) s.1 = [] := by
        unfold takeU
        cases e : s.1 j with
        | sl l n g =>
          simp only [e]
          rw [if_neg]
          intro eg; subst eg
          exact hj ⟨l, n, e⟩
        | _ => simp only [e]
      rw [et]
      exact ⟨h, fun i l n b o c ei e1 => by cases ei; exact absurd ⟨l, n, e1⟩ hj⟩

theorem rep_undef {w lim μ m} : Rep w lim μ m undef .und := .und

theorem rep_cst1 {w lim} (v : Value) (h : v.oneCell' = true) : RepV w lim v (cst1 v) := by
  unfold cst1
  split
  · exact .nil 1 (by omega)
  · exact .val _ h

theorem n2_cst1 (v : Value) : n2 (cst1 v) := by
  intro l n h
  unfold cst1 at h
  split at h <;> cases h

def okConst : Value → Bool
  | .agg cs => cs.toList.all fun v => v.oneCell'
  | v => v.oneCell'

theorem rep_cst {w lim μ m} (v : Value) (h : okConst v = true) : Rep w lim μ m v (cst v) := by
  unfold cst
  split
  · rename_i cs
    simp only [okConst, List.all_eq_true] at h
    refine .r (.agg cs _ (by simp) (fun i hi => .v ?_) (fun i hi => ?_))
    · simp only [List.getElem_map]
      have hi' : i < cs.size := by simpa using hi
      have : cs.getD i undef = cs.toList[i]'(by simpa using hi') := by simp [Array.getD, hi']
      rw [this]
      exact rep_cst1 _ (h _ (List.getElem_mem _))
    · simp only [List.getElem_map]; exact n2_cst1 _
  · rename_i hne
    have : v.oneCell' = true := by
      unfold okConst at h
      split at h
      · rename_i cs; exact absurd rfl (hne cs)
      · exact h
    exact .rv (rep_cst1 v this)

/-- An operand. -/
def okO (nt : Nat) : O → Bool
  | .t i => decide (i < nt)
  | .c v => okConst v
  | .f _ => true

def toO : Operand → Option O
  | .tmp t => some (.t t)
  | .const v => some (.c v)
  | .func f => some (.f f)
  | .global _ => none

theorem eval_rep {F lim μ own s a w} (h : InvG F lim μ own s a w) {y : Operand} {x : O} (hx : toO y = some x) (hk : okO F.nt x = true) :
    Rep w lim μ s.2.length (a.eval y) (x.ev s.1) := by
  cases y with
  | tmp t => cases hx; exact h.env t
  | const v => cases hx; exact rep_cst v hk
  | global g => cases hx
  | func f => cases hx; exact .fn f [] (by simp)
end Go.Proofs.YtclebnamhpgdmaaGreatEv
