/- A region's schedule is one of the orders that come to the same. -/
import Derived.Test.YtkohggddaheefaaEv3
import Derived.Scope
set_option linter.unusedSimpArgs false
set_option linter.unusedVariables false
namespace Go.Proofs.YtkohggddaheefaaEv
open Go Go.RowKit

theorem len_le_of_lt : ∀ (n : Nat) (l : List Nat), l.Nodup → (∀ x ∈ l, x < n) → l.length ≤ n
  | 0, l, _, h => by
    cases l with
    | nil => simp
    | cons x l => exact absurd (h x (by simp)) (Nat.not_lt_zero _)
  | n + 1, l, hn, h => by
    by_cases hm : n ∈ l
    · have h1 := len_le_of_lt n (l.erase n) (hn.erase n) (fun x hx => by
        have h2 := h x (List.mem_of_mem_erase hx)
        have h3 : x ≠ n := fun e => by subst e; exact (List.Nodup.not_mem_erase hn) hx
        omega)
      rw [List.length_erase_of_mem hm] at h1
      omega
    · have := len_le_of_lt n l hn (fun x hx => by
        have h2 := h x hx
        have h3 : x ≠ n := fun e => hm (e ▸ hx)
        omega)
      omega

theorem all_in {n : Nat} {l : List Nat} (hn : l.Nodup) (h : ∀ x ∈ l, x < n) (hl : n ≤ l.length) {i : Nat} (hi : i < n) : i ∈ l := by
  by_cases hm : i ∈ l
  · exact hm
  · have := len_le_of_lt n (i :: l) (List.nodup_cons.2 ⟨hm, hn⟩) (fun x hx => by
      rcases List.mem_cons.1 hx with rfl | hx
      · exact hi
      · exact h x hx)
    simp at this; omega

/-- 'q' must wait for 'p'. -/
def Waits (m : Region.Mode) (ops : Array Oper) (p q : Nat) : Prop := ∃ o, ops[q]? = some o ∧ ∃ e ∈ o.after.toList, Region.binds m e = true ∧ e.on = p

/-- What a listing keeps. -/
structure Listed (m : Region.Mode) (ops : Array Oper) (σ : List Nat) : Prop where
  nodup : σ.Nodup
  lt : ∀ x ∈ σ, x < ops.size
  ord : ∀ A q B, σ = A ++ q :: B → ∀ p, Waits m ops p q → p ∈ A

def topoGo (m : Region.Mode) (ops : Array Oper) : List Nat → List Nat → Bool
  | _, [] => true
  | seen, i :: r => (match ops[i]? with | some o => o.after.toList.all fun e => !Region.binds m e || seen.contains e.on | none => false) && topoGo m ops (i :: seen) r

def topoOk (m : Region.Mode) (ops : Array Oper) (r : List Nat) : Bool := topoGo m ops [] r && (List.range ops.size).all fun i => r.contains i

def lready (m : Region.Mode) (ops : Array Oper) (listed : Array Bool) (i : Nat) : Bool :=
  !listed.getD i true && ((ops[i]?).map (·.after.all fun e => !Region.binds m e || listed.getD e.on false)).getD false

theorem topo_ready (m : Region.Mode) (ops : Array Oper) (listed : Array Bool) (acc : List Nat) (hs : listed.size = ops.size) (hL : ∀ i, i < ops.size → (listed.getD i true = true ↔ i ∈ acc)) :
    ∀ (r seen : List Nat), topoGo m ops seen r = true → (∀ x ∈ seen, x ∈ acc ∧ x < ops.size) → (∃ i ∈ r, i ∉ acc) → ∃ i, i < ops.size ∧ lready m ops listed i = true
  | [], _, _, _, h => by simp at h
  | x :: r, seen, ht, hseen, hex => by
    simp only [topoGo, Bool.and_eq_true] at ht
    obtain ⟨h1, h2⟩ := ht
    cases ho : ops[x]? with
    | none => simp [ho] at h1
    | some o =>
      have hx : x < ops.size := by
        rcases Nat.lt_or_ge x ops.size with h' | h'
        · exact h'
        · simp [Array.getElem?_eq_none h'] at ho
      simp only [ho] at h1
      by_cases hxa : x ∈ acc
      · refine topo_ready m ops listed acc hs hL r (x :: seen) h2 ?_ ?_
        · intro y hy
          rcases List.mem_cons.1 hy with rfl | hy
          · exact ⟨hxa, hx⟩
          · exact hseen y hy
        · obtain ⟨i, hi, hia⟩ := hex
          rcases List.mem_cons.1 hi with rfl | hi
          · exact absurd hxa hia
          · exact ⟨i, hi, hia⟩
      · refine ⟨x, hx, ?_⟩
        have hl : listed.getD x true = false := by
          cases hb : listed.getD x true with
          | false => rfl
          | true => exact absurd ((hL x hx).1 hb) hxa
        simp only [lready, hl, ho, Option.map_some, Option.getD_some, Bool.not_false, Bool.true_and]
        rw [Array.all_eq_true]
        intro k hk
        have := List.all_eq_true.1 h1 o.after[k] (by simp)
        simp only [Bool.or_eq_true, Bool.not_eq_true', List.contains_eq_mem, decide_eq_true_eq] at this ⊢
        rcases this with h | h
        · exact .inl h
        · right
          obtain ⟨k1, k2⟩ := hseen _ h
          have := (hL _ k2).2 k1
          rw [Array.getD_eq_getD_getElem?] at this ⊢
          rw [Array.getElem?_eq_getElem (by omega)] at this ⊢
          exact this

theorem go_spec (m : Region.Mode) (ops : Array Oper) (r : List Nat) (hr : topoOk m ops r = true) : ∀ (fuel t : Nat) (listed : Array Bool) (acc : List Nat),
    listed.size = ops.size → (∀ i, i < ops.size → (listed.getD i true = true ↔ i ∈ acc)) → Listed m ops acc.reverse → fuel + acc.length = ops.size →
    Listed m ops (Region.linearise.go m ops fuel t listed acc) ∧ ∀ i, i < ops.size → i ∈ Region.linearise.go m ops fuel t listed acc
  | 0, t, listed, acc, hs, hL, hA, hlen => by
    refine ⟨hA, fun i hi => ?_⟩
    have h1 : acc.Nodup := (List.reverse_perm acc).nodup_iff.1 hA.nodup
    have := all_in h1 (fun x hx => hA.lt x (by simpa using hx)) (by omega) hi
    simpa [Region.linearise.go] using this
  | fuel + 1, t, listed, acc, hs, hL, hA, hlen => by
    unfold Region.linearise.go
    simp only
    have hrs : ((List.range ops.size).filter fun i => !listed.getD i true && ((ops[i]?).map (·.after.all fun e => !Region.binds m e || listed.getD e.on false)).getD false) = (List.range ops.size).filter (lready m ops listed) := rfl
    rw [hrs]
    split
    · rename_i i hi
      have hmem := List.mem_of_getElem? hi
      simp only [List.mem_filter, List.mem_range] at hmem
      obtain ⟨hlt, hrd⟩ := hmem
      simp only [lready, Bool.and_eq_true, Bool.not_eq_true'] at hrd
      obtain ⟨hr1, hr2⟩ := hrd
      have hni : i ∉ acc := fun h => by have := (hL i hlt).2 h; rw [hr1] at this; cases this
      refine go_spec m ops r hr fuel _ _ (i :: acc) (by simpa using hs) ?_ ⟨?_, ?_, ?_⟩ (by simp; omega)
      · intro k hk
        have hg : (listed.setIfInBounds i true).getD k true = if k = i then true else listed.getD k true := by
          simp only [Array.getD_eq_getD_getElem?, Array.getElem?_setIfInBounds]
          by_cases e : i = k
          · subst e; simp [hs, hlt]
          · have : ¬ k = i := fun x => e x.symm
            simp [e, this]
        rw [hg]
        by_cases e : k = i
        · simp [e]
        · rw [if_neg e, hL k hk]; simp [e]
      · rw [List.reverse_cons, List.nodup_append]
        exact ⟨hA.nodup, by simp, fun a ha b hb => by simp at hb; subst hb; intro e; subst e; exact hni (by simpa using ha)⟩
      · intro x hx
        rw [List.reverse_cons, List.mem_append] at hx
        rcases hx with hx | hx
        · exact hA.lt x hx
        · simp at hx; omega
      · intro A q B heq p hw
        rw [List.reverse_cons] at heq
        by_cases hB : B = []
        · subst hB
          have := List.append_inj' heq rfl
          obtain ⟨rfl, h2⟩ := this
          cases h2
          obtain ⟨o, ho, e, he, hb, rfl⟩ := hw
          rw [ho] at hr2
          simp only [Option.map_some, Option.getD_some] at hr2
          rw [Array.all_eq_true] at hr2
          obtain ⟨k, hk, hek⟩ := List.getElem_of_mem he
          have h3 := hr2 k (by simpa using hk)
          have hek' : o.after[k]'(by simpa using hk) = e := by simpa using hek
          rw [hek'] at h3
          simp only [hb, Bool.not_true, Bool.false_or] at h3
          have hlt2 : e.on < ops.size := by
            rcases Nat.lt_or_ge e.on ops.size with h' | h'
            · exact h'
            · rw [Array.getD_eq_getD_getElem?, Array.getElem?_eq_none (by omega)] at h3; cases h3
          have h4 : listed.getD e.on true = true := by
            rw [Array.getD_eq_getD_getElem?] at h3 ⊢
            rw [Array.getElem?_eq_getElem (by omega)] at h3 ⊢
            exact h3
          have := (hL _ hlt2).1 h4
          simpa using this
        · obtain ⟨B', z, rfl⟩ := (List.eq_nil_or_concat B).resolve_left hB
          have h5 : acc.reverse ++ [i] = (A ++ q :: B') ++ [z] := by simpa using heq
          obtain ⟨h6, _⟩ := List.append_inj' h5 rfl
          exact hA.ord A q B' h6 p hw
    · rename_i hnone
      refine ⟨hA, fun i hi => ?_⟩
      have hemp : (List.range ops.size).filter (lready m ops listed) = [] := by
        cases hc : (List.range ops.size).filter (lready m ops listed) with
        | nil => rfl
        | cons x l =>
          rw [hc] at hnone
          have : t % (x :: l).length < (x :: l).length := Nat.mod_lt _ (by simp)
          rw [List.getElem?_eq_getElem this] at hnone
          cases hnone
      by_cases hia : i ∈ acc
      · simpa using hia
      · simp only [topoOk, Bool.and_eq_true, List.all_eq_true, List.mem_range, List.contains_eq_mem, decide_eq_true_eq] at hr
        obtain ⟨k, hk1, hk2⟩ := topo_ready m ops listed acc hs hL r [] hr.1 (by simp) ⟨i, hr.2 i hi, hia⟩
        have : k ∈ (List.range ops.size).filter (lready m ops listed) := by simp [hk1, hk2]
        rw [hemp] at this
        simp at this

theorem lin_spec (m : Region.Mode) (ops : Array Oper) (r : List Nat) (hr : topoOk m ops r = true) (t : Nat) :
    Listed m ops (Region.linearise m ops t) ∧ ∀ i, i < ops.size → i ∈ Region.linearise m ops t := by
  unfold Region.linearise
  refine go_spec m ops r hr _ _ _ _ (by simp) (fun i hi => ?_) ⟨by simp, by simp, ?_⟩ (by simp)
  · simp [Array.getD_eq_getD_getElem?, hi]
  · intro A q B h
    simp at h

/-! ### who must wait for whom, closed -/
inductive Anc (ops : Array Oper) : Nat → Nat → Prop
  | one {p q} (h : Waits .any ops p q) : Anc ops p q
  | step {p r q} (h : Anc ops p r) (h' : Waits .any ops r q) : Anc ops p q

def befF (acc : List Nat) (s : Nat) (e : Edge) : Nat := if Region.binds .any e then s ||| 2 ^ e.on ||| acc.getD e.on 0 else s
def befs : List Nat → List Oper → List Nat
  | acc, [] => acc
  | acc, o :: r => befs (acc ++ [o.after.toList.foldl (befF acc) 0]) r

theorem befF_spec (acc : List Nat) (p : Nat) : ∀ (es : List Edge) (s : Nat), (es.foldl (befF acc) s).testBit p = true → s.testBit p = true ∨ ∃ e ∈ es, Region.binds .any e = true ∧ (e.on = p ∨ (acc.getD e.on 0).testBit p = true)
  | [], s, h => .inl h
  | e :: es, s, h => by
    rw [List.foldl_cons] at h
    rcases befF_spec acc p es _ h with h1 | ⟨e', he', h2⟩
    · unfold befF at h1
      split at h1
      · rename_i hb
        rw [Nat.testBit_or, Nat.testBit_or, Nat.testBit_two_pow] at h1
        simp only [Bool.or_eq_true, decide_eq_true_eq] at h1
        rcases h1 with (h1 | h1) | h1
        · exact .inl h1
        · exact .inr ⟨e, by simp, hb, .inl h1⟩
        · exact .inr ⟨e, by simp, hb, .inr h1⟩
      · exact .inl h1
    · exact .inr ⟨e', by simp [he'], h2⟩

theorem befs_spec (ops : Array Oper) : ∀ (r : List Oper) (acc : List Nat), acc.length + r.length = ops.size → (∀ k, k < r.length → ops[acc.length + k]? = r[k]?) →
    (∀ q p, ((acc.getD q 0).testBit p = true) → Anc ops p q) → ∀ q p, (((befs acc r).getD q 0).testBit p = true) → Anc ops p q
  | [], acc, _, _, h, q, p, hq => h q p hq
  | o :: r, acc, hl, hk, h, q, p, hq => by
    refine befs_spec ops r (acc ++ [o.after.toList.foldl (befF acc) 0]) (by simp at hl ⊢; omega) (fun k hk' => ?_) (fun q p hqp => ?_) q p hq
    · have := hk (k + 1) (by simp; omega)
      simp only [List.getElem?_cons_succ] at this
      rw [← this]; congr 1; simp; omega
    · by_cases hlt : q < acc.length
      · refine h q p ?_
        rwa [List.getD_eq_getElem?_getD, List.getElem?_append_left hlt, ← List.getD_eq_getElem?_getD] at hqp
      · rw [List.getD_eq_getElem?_getD, List.getElem?_append_right (by omega)] at hqp
        by_cases he : q = acc.length
        · subst he
          simp only [Nat.sub_self, List.getElem?_cons_zero, Option.getD_some] at hqp
          have ho := hk 0 (by simp)
          simp only [Nat.add_zero, List.getElem?_cons_zero] at ho
          rcases befF_spec acc p _ 0 hqp with h1 | ⟨e, he, hb, h2 | h2⟩
          · simp at h1
          · exact .one ⟨o, ho, e, he, hb, h2⟩
          · exact .step (h e.on p h2) ⟨o, ho, e, he, hb, rfl⟩
        · have : ([o.after.toList.foldl (befF acc) 0])[q - acc.length]? = none := by
            rw [List.getElem?_eq_none]; simp; omega
          rw [this] at hqp
          simp at hqp

theorem binds_any {m : Region.Mode} {e : Edge} (h : Region.binds .any e = true) : Region.binds m e = true := by
  unfold Region.binds at h ⊢
  cases hg : e.ground <;> simp [hg] at h ⊢

theorem Waits.of_any {m ops p q} (h : Waits .any ops p q) : Waits m ops p q := by
  obtain ⟨o, ho, e, he, hb, hp⟩ := h
  exact ⟨o, ho, e, he, binds_any hb, hp⟩

theorem Listed.anc {m ops σ} (h : Listed m ops σ) {p q : Nat} (ha : Anc ops p q) : ∀ A B, σ = A ++ q :: B → p ∈ A := by
  induction ha with
  | one hw => intro A B e; exact h.ord A _ B e _ (.of_any hw)
  | step h1 hw ih =>
    rename_i r q
    intro A B e
    have hr := h.ord A _ B e _ (.of_any hw)
    obtain ⟨A1, A2, rfl⟩ := List.append_of_mem hr
    have := ih A1 (A2 ++ q :: B) (by rw [e]; simp)
    simp [this]

/-- The pairs that touch each other wait for each other. -/
def pairsOk (ind : J → J → Bool) (js : List J) (b : List Nat) : Bool :=
  (List.range js.length).all fun q => (List.range q).all fun p => ind (js.getD p default) (js.getD q default) || (b.getD q 0).testBit p

def drawOkI (ind : J → J → Bool) (mixed : Bool) (ops : Array Oper) (js : List J) : Bool :=
  pairsOk ind js (befs [] ops.toList) && topoOk .any ops (List.range ops.size) &&
  (mixed || !Region.departs ops || (topoOk .text ops (List.range ops.size) && topoOk .gc ops (Region.linearise .gc ops 0)))
def drawOk (mixed : Bool) (ops : Array Oper) (js : List J) : Bool := drawOkI indep mixed ops js

theorem pairwise_of {R : Nat → Nat → Prop} : ∀ (σ : List Nat), (∀ A q B, σ = A ++ q :: B → ∀ p ∈ B, R q p) → σ.Pairwise R
  | [], _ => List.Pairwise.nil
  | q :: σ, h => List.Pairwise.cons (fun p hp => h [] q σ rfl p hp) (pairwise_of σ fun A r B e p hp => h (q :: A) r B (by rw [e]; rfl) p hp)

theorem schedule_soundI {Φ : CallF} {nb : Nat} {K : Env × Bx → Prop} {ind : J → J → Bool} {S : J → Prop} (hC : Comm Φ nb K ind S) {mixed : Bool} {ops : Array Oper} {js : List J} (hlen : js.length = ops.size) (hS : ∀ j ∈ js, S j) (hok : drawOkI ind mixed ops js = true) (t : Nat) (s s2) (hK : K s) (h : evJs Φ nb js s = some s2) :
    (∀ i ∈ Region.schedule mixed ops t, i < ops.size) ∧ evJs Φ nb ((Region.schedule mixed ops t).map fun i => js.getD i default) s = some s2 := by
  simp only [drawOkI, Bool.and_eq_true, Bool.or_eq_true, Bool.not_eq_true'] at hok
  obtain ⟨⟨hp, hany⟩, hmode⟩ := hok
  obtain ⟨m, hL, hall⟩ : ∃ m, Listed m ops (Region.schedule mixed ops t) ∧ ∀ i, i < ops.size → i ∈ Region.schedule mixed ops t := by
    unfold Region.schedule
    split
    · obtain ⟨a, b⟩ := lin_spec .any ops _ hany t; exact ⟨_, a, b⟩
    · rename_i hc
      simp only [Bool.or_eq_true, Bool.not_eq_true', not_or] at hc
      rcases hmode with (hm | hm) | hm
      · exact absurd hm hc.1
      · exact absurd hm hc.2
      · split
        · obtain ⟨a, b⟩ := lin_spec .text ops _ hm.1 (t / 2); exact ⟨_, a, b⟩
        · obtain ⟨a, b⟩ := lin_spec .gc ops _ hm.2 (t / 2); exact ⟨_, a, b⟩
  refine ⟨hL.lt, ?_⟩
  refine perm_sound hC (fun i => js.getD i default) (List.range ops.size) _ s s2 (fun x hx => ?_) hK ?_ hL.nodup (fun x => ⟨fun hx => hall x (by simpa using hx), fun hx => by simpa using hL.lt x hx⟩) ?_ ?_
  · have hx : x < js.length := by rw [hlen]; simpa using hx
    simp only [List.getD_eq_getElem?_getD, List.getElem?_eq_getElem hx, Option.getD_some]
    exact hS _ (List.getElem_mem hx)
  · exact List.pairwise_lt_range
  · refine pairwise_of _ fun A q B e p hpB => ?_
    rintro ⟨hlt, hi⟩
    have hq : q < ops.size := hL.lt q (by rw [e]; simp)
    simp only [pairsOk, List.all_eq_true, List.mem_range, Bool.or_eq_true] at hp
    rcases hp q (by omega) p hlt with h1 | h1
    · rw [hi] at h1; cases h1
    · have hanc := befs_spec ops ops.toList [] (by simp) (fun k hk => by simp) (fun q p h => by simp at h) q p h1
      have hpA := hL.anc hanc A B e
      have hn := hL.nodup
      rw [e, List.nodup_append] at hn
      exact hn.2.2 p hpA p (by simp [hpB]) rfl
  · have : (List.range ops.size).map (fun i => js.getD i default) = js := by
      apply List.ext_getElem
      · simp [hlen]
      · intro i h1 h2; simp [h2]
    rw [this]; exact h
theorem schedule_sound (Φ : CallF) (nb : Nat) {mixed : Bool} {ops : Array Oper} {js : List J} (hlen : js.length = ops.size) (hok : drawOk mixed ops js = true) (t : Nat) (s s2) (h : evJs Φ nb js s = some s2) :
    (∀ i ∈ Region.schedule mixed ops t, i < ops.size) ∧ evJs Φ nb ((Region.schedule mixed ops t).map fun i => js.getD i default) s = some s2 :=
  schedule_soundI (comm_plain Φ nb) hlen (fun _ _ => trivial) hok t s s2 trivial h
/-- What has a root in a region; the pairs of roots that must differ. -/
def clOf (js : List J) : List (Nat × Nat) := js.filterMap fun j => match j with
  | ⟨some y, .fa _ (.t b), none⟩ => if (js.any fun k => (writesJ k).contains b) then none else some (y, b)
  | _ => none
def neOf (cl : List (Nat × Nat)) (js : List J) : List (Nat × Nat) := js.filterMap fun p => match ptrS p with
    | some x => (js.findSome? fun q => match ptrL q with
      | some y => if indep p q then none else some (rootOf cl x, rootOf cl y)
      | none => none)
    | none => none
end Go.Proofs.YtkohggddaheefaaEv
/- What is made in a region is not what was there. -/
namespace Go.Proofs.YtkohggddaheefaaEv
open Go Go.RowKit

/-! ### what is made in a region is not what was there -/
inductive WV : A → Prop
  | val (v : Value) : WV (.val v)
  | sl (l : List A) (n g : Nat) (h : ∀ a ∈ l, WV a) : WV (.sl l n g)
theorem WV.els {l n g} (h : WV (.sl l n g)) : ∀ a ∈ l, WV a := by cases h; assumption
def WC (m : Nat) : A → Prop
  | .bs r _ _ => r < m
  | a => WV a
def WA (m : Nat) : A → Prop
  | .any => True
  | .und => True
  | .ptr r _ => r < m
  | .ip l => ∀ a ∈ l, WV a
  | .ipx _ _ l => ∀ a ∈ l, WV a
  | .agg l => ∀ a ∈ l, WC m a
  | .tup _ => True
  | .fn _ _ => True
  | .bs r _ _ => r < m
  | .val _ => True
  | .sl l _ _ => ∀ a ∈ l, WV a
theorem WV.wc {m a} (h : WV a) : WC m a := by cases h <;> constructor <;> assumption
theorem RepV.wv {w lim v a} (h : RepV w lim v a) : WV a := by
  induction h with
  | val v h1 => exact .val v
  | nil g h4 => exact .sl _ _ _ (by simp)
  | emp b o s g h3 => exact .sl _ _ _ (by simp)
  | sl b o n c l g vs hn hg h3 hc hl hr ih => exact .sl _ _ _ fun a ha => by obtain ⟨i, hi, rfl⟩ := List.getElem_of_mem ha; exact ih i hi
theorem RepC.wc {w lim μ m v a} (h : RepC w lim μ m v a) : WC m a := by
  cases h with
  | v h => exact h.wv.wc
  | bs r n z c h hn hz => exact h
theorem Rep.wa {w lim μ m v a} (h : Rep w lim μ m v a) : WA m a := by
  cases h with
  | any => trivial
  | und => trivial
  | r h => cases h with
    | c h =>
      have := h.wc
      cases a <;> first | trivial | exact this | exact WV.els this | (cases h with | v h => cases h)
    | agg vs l hs hr h2 => exact fun a ha => by obtain ⟨i, hi, rfl⟩ := List.getElem_of_mem ha; exact (hr i hi).wc
  | tup => trivial
  | ptr r o h => exact h
  | ip b o l vs hc hl hr => exact fun a ha => by obtain ⟨i, hi, rfl⟩ := List.getElem_of_mem ha; exact (hr i hi).wv
  | ipx b o l vs hc hl hr => exact fun a ha => by obtain ⟨i, hi, rfl⟩ := List.getElem_of_mem ha; exact (hr i hi).wv
  | fn => trivial
theorem WC.cp1 {m a} (h : WC m a) : WC m a.cp1 := by
  cases a with
  | sl l n g => exact WV.sl _ _ _ (WV.els h)
  | _ => exact h
theorem WC.norm1 {m a} (h : WC m a) : WC m a.norm1 := by
  cases a with
  | sl l n g => exact WV.sl _ _ _ (WV.els h)
  | _ => exact h
theorem WC.wa {m a} (h : WC m a) : WA m a := by
  cases a <;> first | trivial | exact h | exact WV.els h | exact (by cases (h : WV _))
theorem WA.cells {m a} (h : WA m a) (hc : a.cells.all A.isC = true) : ∀ c ∈ a.cells, WC m c := by
  cases a with
  | agg l => exact h
  | val v => intro c hm; simp only [A.cells, List.mem_singleton] at hm; subst hm; exact WV.val v
  | sl l n g => intro c hm; simp only [A.cells, List.mem_singleton] at hm; subst hm; exact WV.sl _ _ _ h
  | bs r n z => intro c hm; simp only [A.cells, List.mem_singleton] at hm; subst hm; exact h
  | _ => simp [A.cells, A.isC, A.isV] at hc
theorem WA.cp {m a} (h : WA m a) : WA m a.cp := by
  cases a with
  | agg l => intro c hc; obtain ⟨x, hx, rfl⟩ := List.mem_map.1 hc; exact (h x hx).cp1
  | _ => exact h
theorem wa_cst {m} (v : Value) : WA m (cst v) := by
  have h1 : ∀ v, WC m (cst1 v) := by
    intro v; unfold cst1; split
    · exact WV.sl _ _ _ (by simp)
    · exact WV.val v
  unfold cst
  split
  · intro c hc; obtain ⟨x, hx, rfl⟩ := List.mem_map.1 hc; exact h1 x
  · exact (h1 v).wa
theorem wc_cst1 {m} (v : Value) : WC m (cst1 v) := by
  unfold cst1; split
  · exact WV.sl _ _ _ (by simp)
  · exact WV.val v
structure KN (n0 : Nat) (nw nu : List Nat) (s : Env × Bx) : Prop where
  len : n0 ≤ s.2.length
  old : ∀ i, i ∉ nu → WA n0 (s.1 i)
  new : ∀ i ∈ nw, ∀ r o, s.1 i = .ptr r o → n0 ≤ r
  box : ∀ r, r < n0 → ∀ cs, s.2[r]? = some cs → ∀ c ∈ cs, WC n0 c
theorem KN.start {F : Fr} {s : Env × Bx} {a : Act} {w : World} (h : Inv F s a w) (nw nu : List Nat) : KN s.2.length nw nu (clr (nw.map fun x => (x, 0)) s.1, s.2) := by
  obtain ⟨lim, μ, own, h⟩ := h
  refine ⟨Nat.le_refl _, fun i hi => ?_, fun i hi r o e => ?_, fun r hr cs hcs c hc => ?_⟩
  · show WA _ (clr _ s.1 i)
    unfold clr
    split
    · trivial
    · exact (h.env i).wa
  · have : clr (nw.map fun x => (x, 0)) s.1 i = .any := by
      unfold clr
      rw [if_pos (by rw [List.any_map, List.any_eq_true]; exact ⟨i, hi, by simp⟩)]
    have e : clr (nw.map fun x => (x, 0)) s.1 i = .ptr r o := e
    rw [this] at e; cases e
  · have hcs : s.2[r]? = some cs := hcs
    rw [List.getElem?_eq_getElem hr] at hcs
    cases hcs
    obtain ⟨o, ho, rfl⟩ := List.getElem_of_mem hc
    obtain ⟨cs, t, k1, k2, k3⟩ := h.box.row r hr
    exact (k3 o ho).wc
def okT (nw : List Nat) : O → Bool
  | .t i => !nw.contains i
  | _ => true
/-- What may stand in such a region. -/
def newP (nw : List Nat) : O → Bool
  | .t i => nw.contains i
  | _ => false
def okN (nw nu : List Nat) (j : J) : Bool := match j.d, j.i with
  | some d, .alloc _ => nw.contains d && nu.contains d && j.g.isNone
  | some d, .fa _ x => (!nw.contains d && !nu.contains d) && okT nu x
  | some d, .load _ _ x false => (!nw.contains d && !nu.contains d) && okT nu x
  | some d, .mv x false => (!nw.contains d && !nu.contains d) && okT nu x
  | some d, .ia _ x _ => (!nw.contains d && !nu.contains d) && okT nu x
  | some d, .call _ xs _ => (!nw.contains d && nu.contains d) && xs.all (okT nu)
  | none, .store _ p x => okT nw x && (okT nu x || newP nw p)
  | _, _ => false
theorem KN.ev {n0 nw nu s} (h : KN n0 nw nu s) {x : O} (hx : okT nu x = true) : WA n0 (x.ev s.1) := by
  cases x with
  | t i => exact h.old i (by simpa [okT] using hx)
  | c v => exact wa_cst v
  | f k => trivial
theorem KN.put {n0 nw nu s d v} (h : KN n0 nw nu s) (hd : d ∉ nw) (hv : d ∉ nu → WA n0 v) : KN n0 nw nu (put d v s.1, s.2) := by
  refine ⟨h.len, fun i hi => ?_, fun i hi r o e => ?_, h.box⟩
  · simp only [put_at]; split
    · rename_i e; subst e; exact hv hi
    · exact h.old i hi
  · simp only [put_at] at e
    rw [if_neg (by rintro rfl; exact hd hi)] at e
    exact h.new i hi r o e
theorem KN.keep {Φ : CallF} {nb n0 : Nat} {nw nu : List Nat} {j : J} (hj : okN nw nu j = true) {s s1 : Env × Bx} (h : KN n0 nw nu s) (h1 : evJ Φ nb j s = some s1) : KN n0 nw nu s1 := by
  obtain ⟨d, i, g⟩ := j
  have sk : ∀ d', d = some d' → d' ∉ nw → KN n0 nw nu (putO d .und s.1, s.2) := fun d' e hd => by subst e; exact h.put hd fun _ => trivial
  have gd : (evRun Φ nb ⟨d, i, g⟩ s = some s1 → KN n0 nw nu s1) → (g ≠ none → KN n0 nw nu (putO d .und s.1, s.2)) → KN n0 nw nu s1 := by
    intro hr hs
    unfold evJ at h1
    cases g with
    | none => exact hr h1
    | some p =>
      obtain ⟨t, b⟩ := p
      simp only at h1
      split at h1
      · split at h1
        · exact hr h1
        · cases h1; exact hs (by simp)
      · cases h1; exact hs (by simp)
      · cases h1
  unfold okN at hj
  simp only at hj
  split at hj
  · rename_i d z
    simp only [Bool.and_eq_true, List.contains_eq_mem, decide_eq_true_eq, Option.isNone_iff_eq_none] at hj
    obtain ⟨⟨hd, hdu⟩, rfl⟩ := hj
    simp only [evJ, evRun, evI, Option.some.injEq] at h1
    subst h1
    refine ⟨?_, fun i hi => ?_, fun i hi r o e => ?_, fun r hr cs hcs c hc => ?_⟩
    · have := h.len; simp; omega
    · simp only [putO, puts, put_at]
      rw [if_neg (by rintro rfl; exact hi hdu)]
      exact h.old i hi
    · simp only [putO, puts, put_at] at e
      split at e
      · cases e; exact h.len
      · exact h.new i hi r o e
    · have hl := h.len
      simp only [puts, putO] at hcs
      rw [List.getElem?_append_left (by omega)] at hcs
      exact h.box r hr cs hcs c hc
  · rename_i d off x
    simp only [Bool.and_eq_true, Bool.not_eq_true', List.contains_eq_mem, decide_eq_false_iff_not] at hj
    refine gd (fun hr => ?_) fun _ => sk d rfl hj.1.1
    have hw := h.ev hj.2
    simp only [evRun, evI] at hr
    cases hx : x.ev s.1 with
    | ptr r o => rw [hx] at hr hw; cases hr; exact h.put hj.1.1 fun _ => hw
    | ip l => rw [hx] at hr hw; cases hr; exact h.put hj.1.1 fun _ => fun a ha => hw a (List.mem_of_mem_drop ha)
    | ipx _ _ l => rw [hx] at hr hw; cases hr; exact h.put hj.1.1 fun _ => fun a ha => hw a (List.mem_of_mem_drop ha)
    | _ => rw [hx] at hr; cases hr
  · rename_i d sz ag x
    simp only [Bool.and_eq_true, Bool.not_eq_true', List.contains_eq_mem, decide_eq_false_iff_not] at hj
    refine gd (fun hr => ?_) fun _ => sk d rfl hj.1.1
    have hw := h.ev hj.2
    simp only [evRun, evI, Bool.false_eq_true, if_false] at hr
    cases hx : x.ev s.1 with
    | ptr r o =>
      rw [hx] at hr
      simp only at hr
      cases hb : s.2[r]? with
      | none => rw [hb] at hr; cases hr
      | some cs =>
        rw [hb] at hr
        simp only at hr
        have hrn : r < n0 := by have := hw; rw [hx] at this; exact this
        have hcs := h.box r hrn cs hb
        cases ag with
        | true =>
          simp only [if_true] at hr
          by_cases hle : o + sz ≤ cs.length
          · rw [if_pos hle] at hr; cases hr
            exact h.put hj.1.1 fun _ => fun a ha => by obtain ⟨y, hy, rfl⟩ := List.mem_map.1 ha; exact (hcs y (List.mem_of_mem_drop (List.mem_of_mem_take hy))).cp1
          · rw [if_neg hle] at hr; cases hr
        | false =>
          simp only [Bool.false_eq_true, if_false] at hr
          cases ho : cs[o]? with
          | none => rw [ho] at hr; cases hr
          | some c => rw [ho] at hr; cases hr; exact h.put hj.1.1 fun _ => (hcs c (List.mem_of_getElem? ho)).cp1.wa
    | ip l =>
      rw [hx] at hr hw
      simp only at hr
      have hl : ∀ a ∈ l, WC n0 a := fun a ha => (hw a ha).wc
      cases ag with
      | true =>
        simp only [if_true] at hr
        by_cases hle : sz ≤ l.length
        · rw [if_pos hle] at hr; cases hr
          exact h.put hj.1.1 fun _ => fun a ha => by obtain ⟨y, hy, rfl⟩ := List.mem_map.1 ha; exact (hl y (List.mem_of_mem_take hy)).norm1
        · rw [if_neg hle] at hr; cases hr
      | false =>
        simp only [Bool.false_eq_true, if_false] at hr
        cases l with
        | nil => cases hr
        | cons c l => cases hr; exact h.put hj.1.1 fun _ => (hl c (by simp)).norm1.wa
    | ipx _ _ l =>
      rw [hx] at hr hw
      simp only at hr
      have hl : ∀ a ∈ l, WC n0 a := fun a ha => (hw a ha).wc
      cases ag with
      | true =>
        simp only [if_true] at hr
        by_cases hle : sz ≤ l.length
        · rw [if_pos hle] at hr; cases hr
          exact h.put hj.1.1 fun _ => fun a ha => by obtain ⟨y, hy, rfl⟩ := List.mem_map.1 ha; exact (hl y (List.mem_of_mem_take hy)).norm1
        · rw [if_neg hle] at hr; cases hr
      | false =>
        simp only [Bool.false_eq_true, if_false] at hr
        cases l with
        | nil => cases hr
        | cons c l => cases hr; exact h.put hj.1.1 fun _ => (hl c (by simp)).norm1.wa
    | _ => rw [hx] at hr; cases hr
  · rename_i d x
    simp only [Bool.and_eq_true, Bool.not_eq_true', List.contains_eq_mem, decide_eq_false_iff_not] at hj
    refine gd (fun hr => ?_) fun _ => sk d rfl hj.1.1
    simp only [evRun, evI] at hr
    cases hr
    exact h.put hj.1.1 fun _ => (h.ev hj.2).cp
  · rename_i d sz x y
    simp only [Bool.and_eq_true, Bool.not_eq_true', List.contains_eq_mem, decide_eq_false_iff_not] at hj
    refine gd (fun hr => ?_) fun _ => sk d rfl hj.1.1
    have hw := h.ev hj.2
    simp only [evRun] at hr
    have hv : ∀ q, evI Φ nb (.ia sz x y) s.1 s.2 = some q → q.2.1 = [] ∧ q.2.2 = s.2 ∧ WA n0 q.1 := by
      intro q hq
      simp only [evI] at hq
      split at hq
      · rename_i l n g kk k e1 e2
        rw [e1] at hw
        split at hq
        · cases hq; exact ⟨rfl, rfl, fun a ha => hw a (List.mem_of_mem_drop ha)⟩
        · cases hq
      · rename_i r n z kk k e1 e2
        rw [e1] at hw
        split at hq
        · cases hq; exact ⟨rfl, rfl, hw⟩
        · cases hq
      · cases hq
    cases hq : evI Φ nb (.ia sz x y) s.1 s.2 with
    | none => simp [hq] at hr
    | some q =>
      obtain ⟨q1, q2, q3⟩ := hv q hq
      obtain ⟨v, ups, b⟩ := q
      simp only at q1 q2 q3
      subst q1 q2
      simp only [hq, Option.some.injEq] at hr
      subst hr
      exact h.put hj.1.1 fun _ => q3
  · rename_i d f xs kp
    simp only [Bool.and_eq_true, Bool.not_eq_true', List.contains_eq_mem, decide_eq_false_iff_not, decide_eq_true_eq] at hj
    refine gd (fun hr => ?_) fun _ => sk d rfl hj.1.1
    simp only [evRun] at hr
    cases hq : evI Φ nb (.call f xs kp) s.1 s.2 with
    | none => simp [hq] at hr
    | some q =>
      have hv : q.2.1 = [] ∧ q.2.2 = s.2 := by
        simp only [evI] at hq
        repeat' split at hq
        all_goals first | (cases hq; done) | (cases hq; exact ⟨rfl, rfl⟩)
      obtain ⟨v, ups, b⟩ := q
      obtain ⟨q1, q2⟩ := hv
      simp only at q1 q2
      subst q1 q2
      simp only [hq, Option.some.injEq] at hr
      subst hr
      exact h.put hj.1.1 fun hn => absurd hj.1.2 hn
  · rename_i sz p x
    refine gd (fun hr => ?_) fun _ => h
    simp only [Bool.and_eq_true, Bool.or_eq_true] at hj
    obtain ⟨hjn, hj2⟩ := hj
    simp only [evRun, evI] at hr
    cases hp : p.ev s.1 with
    | ptr r o =>
      rw [hp] at hr
      simp only at hr
      cases hb : s.2[r]? with
      | none => rw [hb] at hr; cases hr
      | some cs =>
        rw [hb] at hr
        simp only at hr
        by_cases hc : (x.ev s.1).cells.length = sz ∧ o + sz ≤ cs.length ∧ (x.ev s.1).cells.all A.isC = true ∧ (nb ≤ r ∨ (x.ev s.1).cells.all A.isV = true)
        · rw [if_pos hc] at hr
          cases hr
          have hkeys : ∀ i, i ∉ nu → WA n0 (puts (takeU x s.1) s.1 i) := by
            intro i hi
            cases x with
            | t k =>
              simp only [takeU]
              split
              · rename_i l n g e1
                split
                · simp only [puts, put_at]
                  split
                  · have := h.old i hi
                    rename_i e2
                    subst e2
                    rw [e1] at this
                    exact this
                  · exact h.old i hi
                · exact h.old i hi
              · exact h.old i hi
            | c v => exact h.old i hi
            | f k => exact h.old i hi
          have hkeys2 : ∀ i ∈ nw, ∀ r o, puts (takeU x s.1) s.1 i = .ptr r o → n0 ≤ r := by
            intro i hi r o e
            cases x with
            | t k =>
              have hk : k ∉ nw := by simpa [okT] using hjn
              simp only [takeU] at e
              split at e
              · split at e
                · simp only [puts, put_at] at e
                  rw [if_neg (by rintro rfl; exact hk hi)] at e
                  exact h.new i hi r o e
                · exact h.new i hi r o e
              · exact h.new i hi r o e
            | c v => exact h.new i hi r o e
            | f k => exact h.new i hi r o e
          refine ⟨by have := h.len; simpa using this, hkeys, hkeys2, fun r' hr' ds hds c hcm => ?_⟩
          by_cases hrr : r = r'
          · subst hrr
            rcases hj2 with hj2 | hj2
            · have hcs := h.box r hr' cs hb
              have hcl := (h.ev hj2).cells hc.2.2.1
              have hlt : r < s.2.length := (List.getElem?_eq_some_iff.1 hb).1
              rw [List.getElem?_set_self hlt] at hds
              cases hds
              simp only [List.mem_append] at hcm
              rcases hcm with (hcm | hcm) | hcm
              · exact hcs c (List.mem_of_mem_take hcm)
              · split at hcm
                · exact hcl c hcm
                · obtain ⟨y, hy, rfl⟩ := List.mem_map.1 hcm; exact (hcl y hy).norm1
              · exact hcs c (List.mem_of_mem_drop hcm)
            · exfalso
              cases p with
              | t k =>
                have := h.new k (by simpa [newP] using hj2) r o hp
                omega
              | c v => cases hj2
              | f v => cases hj2
          · rw [List.getElem?_set_ne hrr] at hds
            exact h.box r' hr' ds hds c hcm
        · rw [if_neg hc] at hr; cases hr
    | _ => rw [hp] at hr; cases hr
  · cases hj
/-- It makes a box, or writes one that was made here. -/
def hiJ (nw : List Nat) (j : J) : Bool := match j.i with
  | .alloc _ => true
  | .store _ (.t x) _ => nw.contains x
  | _ => false
def callJ (nu : List Nat) (p : J) : Bool := match p.i with
  | .call _ xs _ => xs.all (okT nu)
  | _ => false
def indepN (nw nu : List Nat) (p q : J) : Bool := indep p q || (slotsOk p q && hiJ nw q && (callJ nu p || (match ptrL p with
  | some y => !nu.contains y
  | none => false)))
theorem frzC_low {n0 : Nat} {bx bx2 : Bx} (hb : ∀ r, r < n0 → bx2[r]? = bx[r]?) (hw : ∀ r, r < n0 → ∀ cs, bx[r]? = some cs → ∀ c ∈ cs, WC n0 c) : ∀ (d : Nat) (a : A), WC n0 a → frzC bx2 d a = frzC bx d a := by
  intro d
  induction d with
  | zero => intro a _; cases a <;> rfl
  | succ d ih =>
    intro a ha
    cases a with
    | bs r n z =>
      have hr : r < n0 := ha
      simp only [frzC]
      rw [hb r hr]
      cases hc : bx[r]? with
      | none => rfl
      | some cs =>
        simp only
        rw [mapM_congr_os (g := frzC bx d) fun c hcm => ih c (hw r hr cs hc c (List.mem_of_mem_take hcm))]
    | _ => rfl
theorem frzR_low {n0 : Nat} {bx bx2 : Bx} (hb : ∀ r, r < n0 → bx2[r]? = bx[r]?) (hw : ∀ r, r < n0 → ∀ cs, bx[r]? = some cs → ∀ c ∈ cs, WC n0 c) (a : A) (ha : WA n0 a) : frzR bx2 a = frzR bx a := by
  cases a with
  | agg l =>
    simp only [frzR]
    rw [mapM_congr_os (g := frzC bx 3) fun c hc => frzC_low hb hw 3 c (ha c hc)]
  | bs r n z => exact frzC_low hb hw 3 _ ha
  | _ => rfl
theorem call_eff {Φ : CallF} {nb : Nat} {j : J} {e : Env} {bx bx1 : Bx} {u} {f : Nat} {xs : List O} {kp : Bool} (hj : j.i = .call f xs kp) (h : effJ Φ nb j e bx = some (u, bx1)) :
    bx1 = bx ∧ ∀ bx2 : Bx, args0 e bx2 xs = args0 e bx xs → effJ Φ nb j e bx2 = some (u, bx2) := by
  have run : ∀ {q : A × List (Nat × A) × Bx}, evI Φ nb j.i e bx = some q → q.2.2 = bx ∧ ∀ bx2 : Bx, args0 e bx2 xs = args0 e bx xs → evI Φ nb j.i e bx2 = some (q.1, q.2.1, bx2) := by
    intro q hq
    rw [hj] at hq ⊢
    simp only [evI] at hq ⊢
    refine ⟨?_, fun bx2 h2 => ?_⟩
    · repeat' split at hq
      all_goals first | (cases hq; done) | (cases hq; rfl)
    · rw [h2]
      repeat' split at hq
      all_goals first | (cases hq; done) | skip
      rename_i hc
      cases hq
      simp_all
      exact hc
  unfold effJ at h ⊢
  simp only at h ⊢
  cases hq : evI Φ nb j.i e bx with
  | none =>
    rw [hq] at h
    simp only at h
    cases hg : j.g with
    | none => rw [hg] at h; cases h
    | some p =>
      obtain ⟨t, b⟩ := p
      rw [hg] at h
      simp only at h ⊢
      split at h
      · split at h
        · cases h
        · rename_i hne; cases h; refine ⟨rfl, fun bx2 _ => by rw [if_neg hne]⟩
      · cases h; exact ⟨rfl, fun _ _ => rfl⟩
      · cases h
  | some q =>
    obtain ⟨r1, r2⟩ := run hq
    obtain ⟨v, ups, b⟩ := q
    simp only at r1
    subst r1
    rw [hq] at h
    simp only at h
    cases hg : j.g with
    | none =>
      rw [hg] at h
      cases h
      exact ⟨rfl, fun bx2 h2 => by rw [r2 bx2 h2]⟩
    | some p =>
      obtain ⟨t, b'⟩ := p
      rw [hg] at h
      simp only at h ⊢
      split at h
      · split at h
        · rename_i he; cases h; exact ⟨rfl, fun bx2 h2 => by rw [if_pos he, r2 bx2 h2]⟩
        · rename_i hne; cases h; exact ⟨rfl, fun bx2 _ => by rw [if_neg hne]⟩
      · cases h; exact ⟨rfl, fun _ _ => rfl⟩
      · cases h
theorem hi_eff {Φ : CallF} {nb n0 : Nat} {nw nu : List Nat} {j : J} (hj : hiJ nw j = true) {s : Env × Bx} (h : KN n0 nw nu s) {u bx1} (he : effJ Φ nb j s.1 s.2 = some (u, bx1)) : ∀ r, r < n0 → bx1[r]? = s.2[r]? := by
  intro r hr
  unfold hiJ at hj
  split at hj
  · rename_i z hi
    unfold effJ at he
    have run : (match evI Φ nb j.i s.1 s.2 with
        | some (v, ups, bx') => some (ups ++ (match j.d with | some d => [(d, v)] | none => []), bx')
        | none => none) = some (u, bx1) → bx1 = s.2 ++ [z.map cst1] := by
      intro h
      rw [hi] at h
      simp only [evI, Option.some.injEq, Prod.mk.injEq] at h
      exact h.2.symm
    have hb : bx1 = s.2 ∨ bx1 = s.2 ++ [z.map cst1] := by
      simp only at he
      split at he
      · exact .inr (run he)
      · split at he
        · split at he
          · exact .inr (run he)
          · cases he; exact .inl rfl
        · cases he; exact .inl rfl
        · cases he
    rcases hb with rfl | rfl
    · rfl
    · rw [List.getElem?_append_left (by have := h.len; omega)]
  · rename_i sz x v hi
    have hx : ptrS j = some x := by unfold ptrS; rw [hi]
    rcases store_eff hx he with rfl | ⟨r', o, c, e1, rfl⟩
    · rfl
    · have := h.new x (by simpa using hj) r' o e1
      exact List.getElem?_set_ne (by omega)
  · cases hj
theorem comm_new (Φ : CallF) (nb n0 : Nat) (nw nu : List Nat) : Comm Φ nb (KN n0 nw nu) (indepN nw nu) (fun j => okN nw nu j = true) := by
  refine ⟨fun p q _ _ hi s s1 s2 hK h1 h2 => ?_, fun p hp s s1 hK h => hK.keep hp h⟩
  unfold indepN at hi
  rw [Bool.or_eq_true] at hi
  rcases hi with hi | hi
  · exact comm2 Φ nb p q hi s s1 s2 h1 h2
  simp only [Bool.and_eq_true] at hi
  obtain ⟨⟨hs, hh⟩, hi⟩ := hi
  simp only [slotsOk, Bool.and_eq_true, List.all_eq_true, Bool.not_eq_true', List.contains_eq_mem, decide_eq_false_iff_not] at hs
  obtain ⟨hpq, hqp⟩ := hs
  rw [evJ_eff, Option.map_eq_some_iff] at h1 h2
  obtain ⟨⟨u, bx1⟩, e1, rfl⟩ := h1
  obtain ⟨⟨v, bx2⟩, e2, rfl⟩ := h2
  simp only at e2
  obtain ⟨f1, -⟩ := effJ_facts Φ nb p _ _ _ _ e1
  have hq' : effJ Φ nb q s.1 bx1 = some (v, bx2) := by
    rw [← e2]
    exact effJ_congr Φ nb q bx1 fun t ht => (puts_other u s.1 t fun a ha e => (hpq _ (f1 a ha)).1 (e ▸ ht)).symm
  obtain ⟨g1, -⟩ := effJ_facts Φ nb q _ _ _ _ hq'
  have hkeys : ∀ a ∈ u, ∀ b ∈ v, a.1 ≠ b.1 := fun a ha b hb e => (hpq _ (f1 a ha)).2 (e ▸ g1 b hb)
  have hp' : ∀ bx, effJ Φ nb p (puts v s.1) bx = effJ Φ nb p s.1 bx := fun bx =>
    effJ_congr Φ nb p bx fun t ht => puts_other v s.1 t fun a ha e => hqp _ (g1 a ha) (e ▸ ht)
  rw [Bool.or_eq_true] at hi
  rcases hi with hi | hi
  · unfold callJ at hi
    split at hi
    · rename_i f xs kp hpi
      obtain ⟨k1, k2⟩ := call_eff hpi e1
      subst k1
      have hhi := hi_eff hh hK hq'
      have hargs : args0 s.1 bx2 xs = args0 s.1 s.2 xs := by
        unfold args0
        exact mapM_congr_os fun x hx => frzR_low hhi hK.box _ (hK.ev (List.all_eq_true.1 hi x hx))
      refine ⟨(puts v s.1, bx2), by rw [evJ_eff, hq']; rfl, ?_⟩
      rw [evJ_eff, hp', k2 bx2 hargs]
      simp only [Option.map_some]
      rw [puts_comm u v _ hkeys]
    · cases hi
  split at hi
  · rename_i y hy
    have hyn : y ∉ nu := by simpa using hi
    obtain ⟨k1, k2⟩ := load_eff hy e1
    subst k1
    have hhi := hi_eff hh hK hq'
    refine ⟨(puts v s.1, bx2), by rw [evJ_eff, hq']; rfl, ?_⟩
    rw [evJ_eff, hp', k2 bx2 fun r' o' hy' => ?_]
    · simp only [Option.map_some]
      rw [puts_comm u v _ hkeys]
    · have := hK.old y hyn
      rw [hy'] at this
      exact hhi r' this
  · cases hi
def nwOf (js : List J) : List Nat := js.filterMap fun j => match j with
  | ⟨some d, .alloc _, none⟩ => some d
  | _ => none
def nuOf (js : List J) : List Nat := js.filterMap fun j => match j with
  | ⟨some d, .alloc _, none⟩ => some d
  | ⟨some d, .call _ _ _, _⟩ => some d
  | _ => none
/-! ### boxes that are made by calls: what is loaded lies below -/
def ptrOld (n0 : Nat) : A → Prop
  | .ptr r _ => r < n0
  | .bs r _ _ => r < n0
  | _ => True
theorem WA.ptrOld {m a} (h : WA m a) : ptrOld m a := by cases a <;> first | trivial | exact h
structure KO (n0 : Nat) (nu : List Nat) (s : Env × Bx) : Prop where
  len : n0 ≤ s.2.length
  old : ∀ i, i ∉ nu → ptrOld n0 (s.1 i)
theorem KO.start {F : Fr} {s : Env × Bx} {a : Act} {w : World} (h : Inv F s a w) (nu : List Nat) (cl : List (Nat × Nat)) : KO s.2.length nu (clr cl s.1, s.2) := by
  obtain ⟨lim, μ, own, h⟩ := h
  refine ⟨Nat.le_refl _, fun i hi => ?_⟩
  show ptrOld _ (clr cl s.1 i)
  unfold clr
  split
  · trivial
  · exact (h.env i).wa.ptrOld
def okU (nu : List Nat) (j : J) : Bool := match j.d, j.i with
  | some d, .fa _ x => nu.contains d || okT nu x
  | some d, .mv x false => nu.contains d || okT nu x
  | some d, .ia _ x _ => nu.contains d || okT nu x
  | some d, .load _ _ _ false => nu.contains d
  | some d, .call _ _ _ => nu.contains d
  | some d, .calln _ _ => nu.contains d
  | some d, .app _ _ (.c _) _ true => nu.contains d
  | none, .store _ _ _ => true
  | _, _ => false
theorem KO.ev {n0 nu s} (h : KO n0 nu s) {x : O} (hx : okT nu x = true) : ptrOld n0 (x.ev s.1) := by
  cases x with
  | t i => exact h.old i (by simpa [okT] using hx)
  | c v => exact (wa_cst (m := n0) v).ptrOld
  | f k => trivial
theorem KO.put {n0 nu d v} {s : Env × Bx} {bx : Bx} (h : KO n0 nu s) (hl : n0 ≤ bx.length) (hv : d ∉ nu → ptrOld n0 v) : KO n0 nu (put d v s.1, bx) := by
  refine ⟨hl, fun i hi => ?_⟩
  simp only [put_at]; split
  · rename_i e; subst e; exact hv hi
  · exact h.old i hi
theorem ptrOld_cp {n0 : Nat} {a : A} (h : ptrOld n0 a) : ptrOld n0 a.cp := by cases a <;> first | trivial | exact h
theorem KO.keep {Φ : CallF} {nb n0 : Nat} {nu : List Nat} {j : J} (hj : okU nu j = true) {s s1 : Env × Bx} (h : KO n0 nu s) (h1 : evJ Φ nb j s = some s1) : KO n0 nu s1 := by
  obtain ⟨d, i, g⟩ := j
  have gd : (evRun Φ nb ⟨d, i, g⟩ s = some s1 → KO n0 nu s1) → KO n0 nu s1 := by
    intro hr
    unfold evJ at h1
    cases g with
    | none => exact hr h1
    | some p =>
      obtain ⟨t, b⟩ := p
      have sk : KO n0 nu (putO d .und s.1, s.2) := by
        cases d with
        | none => exact h
        | some d => exact h.put h.len fun _ => trivial
      simp only at h1
      split at h1
      · split at h1
        · exact hr h1
        · cases h1; exact sk
      · cases h1; exact sk
      · cases h1
  refine gd fun hr => ?_
  -- what a run leaves
  have run : ∀ d', d = some d' → (∀ q, evI Φ nb i s.1 s.2 = some q → q.2.1 = [] ∧ n0 ≤ q.2.2.length ∧ (d' ∉ nu → ptrOld n0 q.1)) → KO n0 nu s1 := by
    intro d' e hv
    subst e
    simp only [evRun] at hr
    cases hq : evI Φ nb i s.1 s.2 with
    | none => simp [hq] at hr
    | some q =>
      obtain ⟨q1, q2, q3⟩ := hv q hq
      obtain ⟨v, ups, b⟩ := q
      simp only at q1 q2 q3
      subst q1
      simp only [hq, Option.some.injEq] at hr
      subst hr
      exact h.put q2 q3
  have hlen := h.len
  unfold okU at hj
  simp only at hj
  split at hj
  · rename_i d off x
    refine run d rfl fun q hq => ?_
    simp only [Bool.or_eq_true, List.contains_eq_mem, decide_eq_true_eq] at hj
    simp only [evI] at hq
    split at hq
    · rename_i r o e1
      cases hq
      refine ⟨rfl, hlen, fun hn => ?_⟩
      have hw := h.ev (hj.resolve_left hn)
      rw [e1] at hw; exact hw
    · cases hq; exact ⟨rfl, hlen, fun _ => trivial⟩
    · cases hq; exact ⟨rfl, hlen, fun _ => trivial⟩
    · cases hq
  · rename_i d x
    refine run d rfl fun q hq => ?_
    simp only [Bool.or_eq_true, List.contains_eq_mem, decide_eq_true_eq] at hj
    simp only [evI] at hq
    cases hq
    exact ⟨rfl, hlen, fun hn => ptrOld_cp (h.ev (hj.resolve_left hn))⟩
  · rename_i d sz x y
    refine run d rfl fun q hq => ?_
    simp only [Bool.or_eq_true, List.contains_eq_mem, decide_eq_true_eq] at hj
    simp only [evI] at hq
    split at hq
    · split at hq
      · cases hq; exact ⟨rfl, hlen, fun _ => trivial⟩
      · cases hq
    · rename_i r n z kk k e1 e2
      split at hq
      · cases hq
        refine ⟨rfl, hlen, fun hn => ?_⟩
        have hw := h.ev (hj.resolve_left hn)
        rw [e1] at hw; exact hw
      · cases hq
    · cases hq
  · rename_i d sz ag x
    refine run d rfl fun q hq => ?_
    simp only [List.contains_eq_mem, decide_eq_true_eq] at hj
    have hv : q.2.1 = [] ∧ q.2.2 = s.2 := by
      simp only [evI, Bool.false_eq_true, if_false] at hq
      repeat' split at hq
      all_goals first | (cases hq; done) | (cases hq; exact ⟨rfl, rfl⟩)
    exact ⟨hv.1, by rw [hv.2]; exact hlen, fun hn => absurd hj hn⟩
  · rename_i d f xs kp
    refine run d rfl fun q hq => ?_
    simp only [List.contains_eq_mem, decide_eq_true_eq] at hj
    have hv : q.2.1 = [] ∧ q.2.2 = s.2 := by
      simp only [evI] at hq
      repeat' split at hq
      all_goals first | (cases hq; done) | (cases hq; exact ⟨rfl, rfl⟩)
    exact ⟨hv.1, by rw [hv.2]; exact hlen, fun hn => absurd hj hn⟩
  · rename_i d f xs
    refine run d rfl fun q hq => ?_
    simp only [List.contains_eq_mem, decide_eq_true_eq] at hj
    simp only [evI, Option.bind_eq_some_iff, Option.map_eq_some_iff] at hq
    obtain ⟨q', ⟨p, h1, h2⟩, h3⟩ := hq
    obtain ⟨rfl, n, h4⟩ := preQ_some h3
    subst h2
    refine ⟨rfl, ?_, fun hn => absurd hj hn⟩
    rw [h4, List.length_append]
    have : (strip s.2).length = s.2.length := by unfold strip; rw [List.length_map]
    omega
  · rename_i d sz by0 cv y
    refine run d rfl fun q hq => ?_
    simp only [List.contains_eq_mem, decide_eq_true_eq] at hj
    have hv : q.2.1 = [] ∧ (q.2.2 = s.2 ∨ ∃ n, q.2.2 = s.2 ++ n) := by
      simp only [evI] at hq
      repeat' split at hq
      all_goals first | (cases hq; done) | (cases hq; exact ⟨rfl, .inr ⟨_, rfl⟩⟩) | (cases hq; exact ⟨rfl, .inl rfl⟩)
    refine ⟨hv.1, ?_, fun hn => absurd hj hn⟩
    rcases hv.2 with h | ⟨n, h⟩ <;> rw [h]
    · exact hlen
    · rw [List.length_append]; omega
  · rename_i sz p x
    simp only [evRun, evI] at hr
    split at hr
    · rename_i v ups bx' hq
      cases hr
      have up : ∀ bx2 : Bx, n0 ≤ bx2.length → KO n0 nu (putO none v (puts (takeU x s.1) s.1), bx2) := by
        intro bx2 hl2
        refine ⟨hl2, fun i hi => ?_⟩
        simp only [putO]
        cases x with
        | t k =>
          simp only [takeU]
          split
          · split
            · simp only [puts, put_at]
              split
              · trivial
              · exact h.old i hi
            · exact h.old i hi
          · exact h.old i hi
        | c v => exact h.old i hi
        | f k => exact h.old i hi
      repeat' split at hq
      all_goals first | (cases hq; done) | (cases hq; exact up _ (by simpa using hlen))
    · cases hr
  · cases hj
def calnJ (p : J) : Bool := match p.i with
  | .calln _ _ => true
  | .app _ _ (.c _) _ true => true
  | _ => false
def lowL (nu : List Nat) (q : J) : Bool := match ptrL q with
  | some y => !nu.contains y
  | none => false
def indepO (nu : List Nat) (p q : J) : Bool := indep p q || (slotsOk p q && ((calnJ p && lowL nu q) || (calnJ q && lowL nu p)))
theorem caln_eff {Φ : CallF} {nb : Nat} {j : J} (hj : calnJ j = true) {e : Env} {bx bx1 : Bx} {u} (he : effJ Φ nb j e bx = some (u, bx1)) : bx1 = bx ∨ (∃ n, bx1 = strip bx ++ n) ∨ ∃ n, bx1 = bx ++ n := by
  have gen : (∀ v ups bx', evI Φ nb j.i e bx = some (v, ups, bx') → bx' = bx ∨ (∃ n, bx' = strip bx ++ n) ∨ ∃ n, bx' = bx ++ n) → bx1 = bx ∨ (∃ n, bx1 = strip bx ++ n) ∨ ∃ n, bx1 = bx ++ n := by
    intro hE
    unfold effJ at he
    have run : (match evI Φ nb j.i e bx with
        | some (v, ups, bx') => some (ups ++ (match j.d with | some d => [(d, v)] | none => []), bx')
        | none => none) = some (u, bx1) → bx1 = bx ∨ (∃ n, bx1 = strip bx ++ n) ∨ ∃ n, bx1 = bx ++ n := by
      intro h
      split at h
      · rename_i v ups bx' hq
        cases h
        exact hE _ _ _ hq
      · cases h
    simp only at he
    split at he
    · exact run he
    · split at he
      · split at he
        · exact run he
        · cases he; exact .inl rfl
      · cases he; exact .inl rfl
      · cases he
  unfold calnJ at hj
  split at hj
  · rename_i f xs hi
    refine gen fun v ups bx' hq => ?_
    rw [hi] at hq
    simp only [evI, Option.bind_eq_some_iff, Option.map_eq_some_iff] at hq
    obtain ⟨q', _, h3⟩ := hq
    obtain ⟨rfl, n, h4⟩ := preQ_some h3
    exact .inr (.inl ⟨n, h4⟩)
  · rename_i sz by0 cv y hi
    refine gen fun v ups bx' hq => ?_
    rw [hi] at hq
    simp only [evI] at hq
    repeat' split at hq
    all_goals first | (cases hq; done) | (cases hq; exact .inr (.inr ⟨_, rfl⟩)) | (cases hq; exact .inl rfl)
  · cases hj
/-- Where boxes lie alike, but for the rights to grow. -/
theorem caln_at {n0 r : Nat} {bx bx1 : Bx} (h : bx1 = bx ∨ (∃ n, bx1 = strip bx ++ n) ∨ ∃ n, bx1 = bx ++ n) (hr : r < bx.length) : (bx1[r]?).map (List.map A.cp1) = (bx[r]?).map (List.map A.cp1) := by
  rcases h with rfl | ⟨n, rfl⟩ | ⟨n, rfl⟩
  · rfl
  · have hl : r < (strip bx).length := by unfold strip; rw [List.length_map]; exact hr
    rw [List.getElem?_append_left hl]
    unfold strip
    rw [List.getElem?_map, Option.map_map]
    congr 1
    funext cs
    show (cs.map A.cp1).map A.cp1 = cs.map A.cp1
    rw [List.map_map]
    exact List.map_congr_left fun a _ => cp1_cp1 a
  · rw [List.getElem?_append_left hr]
theorem load_eff2 {Φ : CallF} {nb : Nat} {j : J} {e : Env} {bx bx1 : Bx} {u} {y : Nat} (hy : ptrL j = some y) (h : effJ Φ nb j e bx = some (u, bx1)) :
    bx1 = bx ∧ ∀ bx2 : Bx, (∀ r o, e y = .ptr r o → (bx2[r]?).map (List.map A.cp1) = (bx[r]?).map (List.map A.cp1)) → effJ Φ nb j e bx2 = some (u, bx2) := by
  have k1 := (load_eff hy h).1
  refine ⟨k1, fun bx2 hb => ?_⟩
  subst k1
  unfold ptrL at hy
  split at hy
  · rename_i sz ag y' hi
    cases hy
    have run : ∀ {q : A × List (Nat × A) × Bx}, evI Φ nb j.i e bx1 = some q → q.2.2 = bx1 ∧ evI Φ nb j.i e bx2 = some (q.1, q.2.1, bx2) := by
      intro q hq
      rw [hi] at hq ⊢
      simp only [evI, O.ev, Bool.false_eq_true, if_false] at hq ⊢
      cases hp : e y with
      | ptr r o =>
        rw [hp] at hq
        simp only at hq ⊢
        have hbr := hb r o hp
        cases h1 : bx1[r]? with
        | none => rw [h1] at hq; cases hq
        | some cs =>
          rw [h1] at hq hbr
          simp only [Option.map_some] at hbr
          cases h2 : bx2[r]? with
          | none => rw [h2] at hbr; cases hbr
          | some ds =>
            rw [h2] at hbr
            simp only [Option.map_some, Option.some.injEq] at hbr
            have hl : ds.length = cs.length := by have := congrArg List.length hbr; simpa using this
            simp only at hq ⊢
            cases ag with
            | true =>
              simp only [if_true] at hq ⊢
              rw [hl]
              split at hq
              · cases hq
                rename_i hc
                refine ⟨rfl, ?_⟩
                rw [if_pos hc, List.map_take, List.map_drop, hbr, ← List.map_drop, ← List.map_take]
              · cases hq
            | false =>
              simp only [Bool.false_eq_true, if_false] at hq ⊢
              have ho : (ds[o]?).map A.cp1 = (cs[o]?).map A.cp1 := by rw [← List.getElem?_map, ← List.getElem?_map, hbr]
              cases h3 : cs[o]? with
              | none => rw [h3] at hq; cases hq
              | some c =>
                rw [h3] at hq ho
                cases hq
                cases h4 : ds[o]? with
                | none => rw [h4] at ho; cases ho
                | some c' =>
                  rw [h4] at ho
                  simp only [Option.map_some, Option.some.injEq] at ho
                  exact ⟨rfl, by simp only [ho]⟩
      | ip l =>
        rw [hp] at hq
        simp only at hq ⊢
        repeat' split at hq
        all_goals first | (cases hq; done) | skip
        all_goals (cases hq; refine ⟨rfl, ?_⟩; simp_all)
      | ipx _ _ l =>
        rw [hp] at hq
        simp only at hq ⊢
        repeat' split at hq
        all_goals first | (cases hq; done) | skip
        all_goals (cases hq; refine ⟨rfl, ?_⟩; simp_all)
      | _ => rw [hp] at hq; cases hq
    unfold effJ at h ⊢
    simp only at h ⊢
    cases hq : evI Φ nb j.i e bx1 with
    | none =>
      rw [hq] at h
      simp only at h
      cases hg : j.g with
      | none => rw [hg] at h; cases h
      | some p =>
        obtain ⟨t, b⟩ := p
        rw [hg] at h
        simp only at h ⊢
        split at h
        · split at h
          · cases h
          · rename_i hne; cases h; rw [if_neg hne]
        · cases h; rfl
        · cases h
    | some q =>
      obtain ⟨r1, r2⟩ := run hq
      obtain ⟨v, ups, b⟩ := q
      simp only at r1
      subst r1
      rw [hq] at h
      simp only at h
      cases hg : j.g with
      | none =>
        rw [hg] at h
        cases h
        rw [r2]
      | some p =>
        obtain ⟨t, b'⟩ := p
        rw [hg] at h
        simp only at h ⊢
        split at h
        · split at h
          · rename_i he; cases h; rw [if_pos he, r2]
          · rename_i hne; cases h; rw [if_neg hne]
        · cases h; rfl
        · cases h
  · cases hy
theorem comm_old (Φ : CallF) (nb n0 : Nat) (nu : List Nat) : Comm Φ nb (KO n0 nu) (indepO nu) (fun j => okU nu j = true) := by
  refine ⟨fun p q _ _ hi s s1 s2 hK h1 h2 => ?_, fun p hp s s1 hK h => hK.keep hp h⟩
  unfold indepO at hi
  rw [Bool.or_eq_true] at hi
  rcases hi with hi | hi
  · exact comm2 Φ nb p q hi s s1 s2 h1 h2
  rw [Bool.and_eq_true] at hi
  obtain ⟨hs, hi⟩ := hi
  simp only [slotsOk, Bool.and_eq_true, List.all_eq_true, Bool.not_eq_true', List.contains_eq_mem, decide_eq_false_iff_not] at hs
  obtain ⟨hpq, hqp⟩ := hs
  rw [evJ_eff, Option.map_eq_some_iff] at h1 h2
  obtain ⟨⟨u, bx1⟩, e1, rfl⟩ := h1
  obtain ⟨⟨v, bx2⟩, e2, rfl⟩ := h2
  simp only at e2
  obtain ⟨f1, -⟩ := effJ_facts Φ nb p _ _ _ _ e1
  have hq' : effJ Φ nb q s.1 bx1 = some (v, bx2) := by
    rw [← e2]
    exact effJ_congr Φ nb q bx1 fun t ht => (puts_other u s.1 t fun a ha e => (hpq _ (f1 a ha)).1 (e ▸ ht)).symm
  obtain ⟨g1, -⟩ := effJ_facts Φ nb q _ _ _ _ hq'
  have hkeys : ∀ a ∈ u, ∀ b ∈ v, a.1 ≠ b.1 := fun a ha b hb e => (hpq _ (f1 a ha)).2 (e ▸ g1 b hb)
  have hp' : ∀ bx, effJ Φ nb p (puts v s.1) bx = effJ Φ nb p s.1 bx := fun bx =>
    effJ_congr Φ nb p bx fun t ht => puts_other v s.1 t fun a ha e => hqp _ (g1 a ha) (e ▸ ht)
  have low : ∀ {j : J} {y : Nat}, lowL nu j = true → ptrL j = some y → ∀ r o, s.1 y = .ptr r o → r < s.2.length := by
    intro j y hl hy r o hr
    unfold lowL at hl
    rw [hy] at hl
    have := hK.old y (by simpa using hl)
    rw [hr] at this
    exact Nat.lt_of_lt_of_le this hK.len
  have isL : ∀ {j : J}, lowL nu j = true → ∃ y, ptrL j = some y := by
    intro j hl
    unfold lowL at hl
    cases hy : ptrL j with
    | none => rw [hy] at hl; cases hl
    | some y => exact ⟨y, rfl⟩
  simp only [Bool.or_eq_true, Bool.and_eq_true] at hi
  rcases hi with ⟨hc, hl⟩ | ⟨hc, hl⟩
  · obtain ⟨y, hy⟩ := isL hl
    have hce := caln_eff hc e1
    obtain ⟨k1, k2⟩ := load_eff2 hy hq'
    subst k1
    have k3 := k2 s.2 fun r o hr => (caln_at (n0 := n0) hce (low hl hy r o hr)).symm
    refine ⟨(puts v s.1, s.2), by rw [evJ_eff, k3]; rfl, ?_⟩
    rw [evJ_eff, hp', e1]
    simp only [Option.map_some]
    rw [puts_comm u v _ hkeys]
  · obtain ⟨y, hy⟩ := isL hl
    obtain ⟨k1, k2⟩ := load_eff2 hy e1
    subst k1
    have hce := caln_eff hc hq'
    have k3 := k2 bx2 fun r o hr => caln_at (n0 := n0) hce (low hl hy r o hr)
    refine ⟨(puts v s.1, bx2), by rw [evJ_eff, hq']; rfl, ?_⟩
    rw [evJ_eff, hp', k3]
    simp only [Option.map_some]
    rw [puts_comm u v _ hkeys]
/-- Slots of which nothing is known there. -/
def nuO (js : List J) : List Nat := js.foldl (fun nu j => match j.d, j.i with
  | some d, .load _ _ _ _ => d :: nu
  | some d, .call _ _ _ => d :: nu
  | some d, .calln _ _ => d :: nu
  | some d, .app _ _ (.c _) _ true => d :: nu
  | some d, .fa _ x => if okT nu x then nu else d :: nu
  | some d, .mv x _ => if okT nu x then nu else d :: nu
  | some d, .ia _ x _ => if okT nu x then nu else d :: nu
  | _, _ => nu) []
end Go.Proofs.YtkohggddaheefaaEv
/- Code and calls. -/
namespace Go.Proofs.YtkohggddaheefaaEv
open Go Go.RowKit

/-! ### from the program's code to the compact one -/
def tkOf (ops : Array Oper) : List Nat := ops.toList.filterMap fun o => match o.op with
  | .call { callee := .builtin .append, args := xs, .. } => match xs.toList with
    | .tmp t :: _ => some t
    | _ => none
  | _ => none

def okD (nt : Nat) : Option Nat → Bool
  | some d => decide (d < nt)
  | none => true

def compJ (P : Program) (nt : Nat) (ops : Array Oper) (tk : Hn) (o : Oper) : Option J :=
  match compI P tk o.dst o.op with
  | some i =>
    if i.os.all (okO nt) = true ∧ okZ nt i = true ∧ okD nt o.dst = true then
      match o.guard with
      | none => some ⟨o.dst, i, none⟩
      | some (k, b) => match (ops[k]?).bind (·.dst) with
        | some t => some ⟨o.dst, i, some (t, b)⟩
        | none => none
    else none
  | none => none

def compL (P : Program) (nt : Nat) (ops : Array Oper) (tk : Hn) : List Oper → Option (List J)
  | [] => some []
  | o :: r => match compJ P nt ops tk o, compL P nt ops tk r with
    | some j, some t => some (j :: t)
    | _, _ => none

def dregOk (mixed : Bool) (ops : Array Oper) (js : List J) : Bool :=
  drawOkI (indepD (clOf js) (neOf (clOf js) js)) mixed ops js && js.all (rootJ (clOf js) (neOf (clOf js) js)) &&
  (neOf (clOf js) js).all fun p => !((clOf js).any fun q => q.1 == p.1) && !((clOf js).any fun q => q.1 == p.2)
def kregOk (mixed : Bool) (ops : Array Oper) (js : List J) : Bool := drawOkI (indepN (nwOf js) (nuOf js)) mixed ops js && js.all (okN (nwOf js) (nuOf js))
def oregOk (mixed : Bool) (ops : Array Oper) (js : List J) : Bool := drawOkI (indepO (nuO js)) mixed ops js && js.all (okU (nuO js))
def comp (P : Program) (nt : Nat) (hn : Hn) (lv : Nat → List Nat × Nat) : Nat → Code → Option C
  | _, .skip => some .skip
  | _, .region _ ops draw => match compL P nt ops { hn with tk := tkOf ops } ops.toList with
    | some js => if draw = false ∨ drawOk (P.follows .mixedOrders) ops js = true then some (.reg js)
      else if dregOk (P.follows .mixedOrders) ops js = true then some (.dreg (clOf js) (neOf (clOf js) js) js)
      else if kregOk (P.follows .mixedOrders) ops js = true then some (.dreg ((nwOf js).map fun x => (x, 0)) [] js)
      else if oregOk (P.follows .mixedOrders) ops js = true then some (.dreg [] [] js) else none
    | none => none
  | k, .seq a b => match comp P nt hn lv k a, comp P nt hn lv k b with
    | some a', some b' => some (.seq a' b')
    | _, _ => none
  | k, .cond c a b => match toO c, comp P nt hn lv k a, comp P nt hn lv k b with
    | some x, some a', some b' => if okO nt x = true then some (.cond x a' b') else none
    | _, _, _ => none
  | _, .block id a => (comp P nt hn lv id a).map (.block id)
  | k, .loop a => (comp P nt hn lv k a).map (.loop (lv k).1 (lv k).2)
  | _, .exit id => some (.exit id)
  | _, .label _ => some .skip
  | k, .scope a => (comp P nt hn lv k a).map .scope
  | _, .ret => some .ret
  | _, _ => none

def resOf (P : Program) : List ResultVar → Option (List RV)
  | [] => some []
  | .tmp t :: r => (resOf P r).map fun x => .t t :: x
  | .cell a t :: r => match P.underlying t, P.info? t, resOf P r with
    | some d, some i, some x => if isAggD d = true then some (.cell a i.size :: x) else none
    | _, _, _ => none

def compF (P : Program) (hn : Hn) (lv : Nat → List Nat × Nat) (fn : Func) : Option CFun :=
  match fn.body with
  | some c => match comp P fn.ntmps hn lv 0 c, resOf P fn.results.toList with
    | some b, some r => if fn.params.size + fn.nfree ≤ fn.ntmps then some ⟨fn.ntmps, fn.params.size + fn.nfree, b, r⟩ else none
    | _, _ => none
  | none => none

def lvOf (l : List (Nat × (List Nat × Nat))) (k : Nat) : List Nat × Nat := ((l.find? fun p => p.1 == k).map (·.2)).getD ([], 0)

/-- A row of the table is the program's own function. -/
def RowOk (P : Program) (f : Nat) (F : CFun) : Prop := ∃ fn hn lv, P.funcs[f]? = some fn ∧ compF P hn lv fn = some F ∧ (fn.name == "runtime.NumGoroutine") = false
def TabOk (P : Program) (tab : Nat → Option CFun) : Prop := ∀ f F, tab f = some F → RowOk P f F

/-! ### loops -/
def LoopGoes (P : Program) (c : Code) (Q : Exit → Act → World → Prop) (a : Act) (w : World) : Prop :=
  ∀ (b : Frame) (k : List Item) (cs : List Frame), ∃ e a' w', Q e a' w' ∧ Arrives P (lone (b.at a (.code c :: .inLoop c :: k)) cs w) b k cs e a' w'

theorem LoopGoes.unroll {P c Q a w} (h : c.wp P (Exit.then (LoopGoes P c Q) Q) a w) : LoopGoes P c Q a w := by
  intro b k cs
  obtain ⟨e, a1, w1, hq, harr⟩ := h b (.inLoop c :: k) cs
  cases e with
  | normal =>
    obtain ⟨e2, a2, w2, hq2, harr2⟩ := hq b k cs
    exact ⟨e2, a2, w2, hq2, .of_steps (Steps.trans harr (.one step_inLoop)) harr2⟩
  | exit id => exact ⟨_, a1, w1, hq, .pass (x := .inLoop c) rfl (fun _ _ => .inl (by simp)) harr⟩
  | goto l => exact ⟨_, a1, w1, hq, .pass (x := .inLoop c) rfl (fun _ _ => .inl (by simp)) harr⟩
  | ret => exact ⟨_, a1, w1, hq, .pass (x := .inLoop c) rfl (fun _ _ => .inl (by simp)) harr⟩
  | panic ch => exact ⟨_, a1, w1, hq, .pass (x := .inLoop c) rfl (fun _ _ => .inl (by simp)) harr⟩
  | outgrown => exact ⟨_, a1, w1, hq, .pass (x := .inLoop c) rfl (fun _ _ => .inl (by simp)) harr⟩

theorem LoopGoes.wp {P c Q a w} (h : LoopGoes P c Q a w) : (Code.loop c).wp P Q a w := by
  intro b k cs
  obtain ⟨e, a1, w1, hq, harr⟩ := h b k cs
  exact ⟨e, a1, w1, hq, .of_steps (.one step_loop) harr⟩

def Does (P : Program) (c : Code) (Q : Exit → Act → World → Prop) (a : Act) (w : World) : Prop :=
  match c with
  | .loop b => LoopGoes P b Q a w
  | c => c.wp P Q a w

theorem Does.wp {P c Q a w} (h : Does P c Q a w) : c.wp P Q a w := by
  cases c <;> first | exact LoopGoes.wp h | exact h

def exitOf : Out → Exit
  | .nor => .normal
  | .ex id => .exit id
  | .ret => .ret

def CodeSound (P : Program) (ev : Ev) : Prop := ∀ (F : Fr) (hn : Hn) (lv : Nat → List Nat × Nat) (k : Nat) (c0 : Code) (c : C) (s : Env × Bx) (out : Out) (s' : Env × Bx), comp P F.nt hn lv k c0 = some c → ev F.nb c s = some (out, s') →
  ∀ a w Q, Inv F s a w → (∀ a' w', Inv F s' a' w' → Q (exitOf out) a' w') → Does P c0 Q a w

/-! ### regions -/
section
variable {P : Program} {F : Fr} {Φ : CallF} {ops : Array Oper} {tk : Hn}

theorem compL_get : ∀ (l : List Oper) (js : List J), compL P F.nt ops tk l = some js → js.length = l.length ∧ ∀ i (o : Oper), l[i]? = some o → compJ P F.nt ops tk o = some (js.getD i default)
  | [], js, h => by cases h; exact ⟨rfl, fun i o h => by simp at h⟩
  | o :: l, js, h => by
    unfold compL at h
    split at h
    · rename_i j t e1 e2
      cases h
      obtain ⟨h1, h2⟩ := compL_get l t e2
      refine ⟨by simp [h1], fun i o' hi => ?_⟩
      cases i with
      | zero => simp at hi; subst hi; exact e1
      | succ i => simpa using h2 i o' (by simpa using hi)
    · cases h

theorem undef_und {s : Env × Bx} {a : Act} {w : World} {d : Option Nat} (h : Inv F s a w) (hd : okD F.nt d = true) : Inv F (putO d .und s.1, s.2) (a.put d undef) w := by
  obtain ⟨lim, μ, own, h⟩ := h
  exact h.setO (fun k e => by subst e; simpa [okD] using hd) .und (fun l n b q c e => by cases e)

theorem ops_sound (hΦ : SoundF P Φ) {js : List J} (hjs : ∀ i (o : Oper), ops[i]? = some o → compJ P F.nt ops tk o = some (js.getD i default)) {Q : Exit → Act → World → Prop} :
    ∀ (σ : List Nat) (s s' : Env × Bx) (a : Act) (w : World), (∀ i ∈ σ, i < ops.size) → evJs Φ F.nb (σ.map fun i => js.getD i default) s = some s' → Inv F s a w → (∀ a' w', Inv F s' a' w' → Q .normal a' w') → wpOps P ops Q σ a w
  | [], s, s', a, w, _, hev, hI, hQ => by cases hev; exact hQ _ _ hI
  | i :: σ, s, s', a, w, hlt, hev, hI, hQ => by
    have hi := hlt i (by simp)
    have ho : ops[i]? = some ops[i] := Array.getElem?_eq_getElem hi
    simp only [wpOps, ho]
    generalize ops[i] = o at ho
    have hc := hjs i o ho
    simp only [List.map_cons, evJs] at hev
    generalize js.getD i default = j at hc hev
    cases h1 : evJ Φ F.nb j s with
    | none => simp [h1] at hev
    | some s1 =>
      simp only [h1] at hev
      have ih : ∀ a' w', Inv F s1 a' w' → wpOps P ops Q σ a' w' := fun a' w' hI' => ops_sound hΦ hjs σ s1 s' a' w' (fun k hk => hlt k (by simp [hk])) hev hI' hQ
      unfold compJ at hc
      split at hc
      · rename_i ii hcI
        split at hc
        · rename_i hcond
          obtain ⟨hk, hzz, hd⟩ := hcond
          have hd' : ∀ k, o.dst = some k → k < F.nt := fun k e => by rw [e] at hd; simpa [okD] using hd
          have hrun : ∀ (j : J), j.d = o.dst → j.i = ii → evRun Φ F.nb j s = some s1 → o.wp P a w (wpOps P ops Q σ) Q := by
            intro j jd ji hr
            unfold evRun at hr
            rw [ji, jd] at hr
            cases he : evI Φ F.nb ii s.1 s.2 with
            | none => simp [he] at hr
            | some q =>
              obtain ⟨v, ups, bx'⟩ := q
              simp only [he, Option.some.injEq] at hr
              subst hr
              obtain ⟨lim, μ, own, h⟩ := hI
              exact opSound hΦ h hcI hk hzz hd' he ih
          cases hg : o.guard with
          | none =>
            simp only [hg] at hc
            cases hc
            simp only [evJ] at h1
            rw [if_pos (by simp [Region.wanted, hg])]
            exact .inl (hrun _ rfl rfl h1)
          | some p =>
            obtain ⟨kk, b⟩ := p
            simp only [hg] at hc
            split at hc
            · rename_i t ht
              cases hc
              simp only [evJ] at h1
              have henv : ∀ lim μ own, InvG F lim μ own s a w → Rep w lim μ s.2.length (a.tmps.getD t undef) (s.1 t) := fun lim μ own h => h.env t
              split at h1
              · rename_i b' e1
                have hval : a.tmps.getD t undef = .bool b' := by
                  obtain ⟨lim, μ, own, h⟩ := hI
                  have := h.env t
                  rw [e1] at this
                  exact this.val.1
                have hy : yielded ops a.tmps kk = some b' := by
                  unfold yielded
                  rw [ht, Option.bind_some]
                  rw [Array.getD_eq_getD_getElem?] at hval
                  cases hz : a.tmps[t]? with
                  | none => rw [hz] at hval; simp [undef] at hval
                  | some v => rw [hz] at hval; simp at hval; subst hval; rfl
                split at h1
                · rename_i hb
                  subst hb
                  rw [if_pos (by simp [Region.wanted, hg, hy])]
                  exact .inl (hrun _ rfl rfl h1)
                · rename_i hb
                  rw [if_neg (by simp [Region.wanted, hg, hy, hb])]
                  cases h1
                  exact ih _ _ (undef_und hI hd)
              · rename_i e1
                have hval : a.tmps.getD t undef = undef := by
                  obtain ⟨lim, μ, own, h⟩ := hI
                  have := h.env t
                  rw [e1] at this
                  generalize a.tmps.getD t undef = v at this
                  cases this with
                  | und => rfl
                  | r h => cases h with
                    | c h => cases h with
                      | v h => cases h
                have hy : yielded ops a.tmps kk = none := by
                  unfold yielded
                  rw [ht, Option.bind_some]
                  rw [Array.getD_eq_getD_getElem?] at hval
                  cases hz : a.tmps[t]? with
                  | none => rfl
                  | some v => rw [hz] at hval; simp at hval; subst hval; rfl
                rw [if_neg (by simp [Region.wanted, hg, hy])]
                cases h1
                exact ih _ _ (undef_und hI hd)
              · cases h1
            · cases hc
        · cases hc
      · cases hc
end

theorem keepL_at (e : Env) : ∀ (live : List Nat) (i : Nat), keepL live e i = if i ∈ live then e i else .any
  | [], i => rfl
  | k :: live, i => by
    show put k (e k) (keepL live e) i = _
    rw [put_at, keepL_at e live i]
    by_cases h : i = k
    · subst h; simp
    · rw [if_neg h]; simp [h]

theorem dang_agg {w lim μ m m'} {vs : Array Value} {l : List A} (hr : ∀ i (h : i < l.length), RepC w lim μ m (vs.getD i undef) l[i]) (hd : l.all (A.dangC m') = true) : ∀ i (h : i < l.length), RepC w lim μ m' (vs.getD i undef) l[i] :=
  fun i hi => dangC_rep (hr i hi) (List.all_eq_true.1 hd _ (List.getElem_mem hi))

theorem dang_rep {w lim μ m m' v a} (h : Rep w lim μ m v a) (hd : a.dang m' = true) : Rep w lim μ m' v a := by
  cases h with
  | any => exact .any _
  | und => exact .und
  | r h => cases h with
    | c h =>
      refine .r (.c (dangC_rep h ?_))
      cases h with
      | v h => cases h <;> rfl
      | bs => exact hd
    | agg vs l hs hr h2 => exact .r (.agg vs l hs (dang_agg hr hd) h2)
  | tup vs l hs hr =>
    refine .tup vs l hs fun i hi => ?_
    have h1 := List.all_eq_true.1 hd _ (List.getElem_mem hi)
    have h2 := hr i hi
    cases hx : l[i] with
    | agg l' =>
      rw [hx] at h1 h2
      obtain ⟨us, hv, hs', hr', h2'⟩ := (Rep.r h2).toAgg
      rw [hv]
      exact .agg us l' hs' (dang_agg hr' h1) h2'
    | _ =>
      rw [hx] at h1 h2
      generalize vs.getD i undef = v at h2
      cases h2 with
      | c h => exact .c (dangC_rep h h1)
  | ptr r o h => exact .ptr r o (by simpa [A.dang] using hd)
  | ip b o l vs hc hl hr => exact .ip b o l vs hc hl hr
  | ipx b o l vs hc hl hr => exact .ipx b o l vs hc hl hr
  | fn f caps h => exact .fn f caps fun p hp => by simpa using List.all_eq_true.1 hd p hp

theorem loopIn0_inv {F : Fr} {live : List Nat} {kb : Nat} {s s0 : Env × Bx} {a : Act} {w : World} (h : Inv F s a w) (hl : loopIn0 F.nb live kb s = some s0) : Inv F s0 a w := by
  obtain ⟨lim, μ, own, h⟩ := h
  unfold loopIn0 at hl
  split at hl
  · rename_i hcond
    obtain ⟨hle, hd, hdb⟩ := hcond
    cases hl
    have hlen : (s.2.take F.nb ++ ((s.2.drop F.nb).take kb).map (List.map A.own)).length = F.nb + kb := by simp; omega
    have hat : ∀ r (hr : r < F.nb + kb), (s.2.take F.nb ++ ((s.2.drop F.nb).take kb).map (List.map A.own))[r]'(by rw [hlen]; exact hr) = if r < F.nb then s.2[r]'(by omega) else (s.2[r]'(by omega)).map A.own := by
      intro r hr
      by_cases h1 : r < F.nb
      · rw [if_pos h1, List.getElem_append_left (by simp; omega), List.getElem_take]
      · rw [if_neg h1, List.getElem_append_right (by simp; omega)]
        simp only [List.getElem_map, List.getElem_take, List.getElem_drop]
        congr 2
        simp; omega
    have htk := h.box.take hle hdb
    have htl : (s.2.take (F.nb + kb)).length = F.nb + kb := by simp; omega
    refine ⟨lim, μ, own, h.defers, h.size, by rw [hlen]; omega, h.mu0, fun r hr hr' => h.mub r hr (by rw [hlen] at hr'; omega), fun i => ?_, ⟨fun r hr => ?_, fun r hr => ?_, fun r r' hr hr' e => ?_⟩, fun i => ?_, ?_, h.below, h.lim0⟩
    · simp only [keepL_at]
      split
      · rename_i hi
        rw [hlen]
        exact dang_rep (h.env i) (List.all_eq_true.1 hd i hi)
      · exact .any _
    · rw [hlen] at hr
      obtain ⟨cs, t, k1, k2, k3⟩ := htk.row r (by rw [htl]; exact hr)
      rw [List.getElem_take] at k2
      simp only [List.getElem_take] at k3
      have k3 : ∀ o (ho : o < (s.2[r]'(by omega)).length), RepC w lim μ (F.nb + kb) (cs.getD o undef) (s.2[r]'(by omega))[o] := fun o ho => (k3 o ho).mono (.refl _ _) (fun _ _ => rfl) (Nat.le_of_eq htl)
      rw [hlen]
      refine ⟨cs, t, k1, ?_, ?_⟩
      · rw [hat r hr]; split
        · exact k2
        · simpa using k2
      · intro o ho
        simp only [hat r hr] at ho ⊢
        by_cases h1 : r < F.nb
        · simp only [if_pos h1] at ho ⊢; exact k3 o ho
        · simp only [if_neg h1, List.length_map] at ho ⊢
          rw [List.getElem_map]; exact (k3 o ho).own
    · exact h.box.lim0 r (by rw [hlen] at hr; omega)
    · exact h.box.inj r r' (by rw [hlen] at hr; omega) (by rw [hlen] at hr'; omega) e
    · simp only [keepL_at]
      split
      · exact h.flt i
      · exact .of_n2 fun l n e => by cases e
    · intro r o cs t hr hr' hh ho
      rw [hlen] at hr'
      simp only [hat r hr', if_neg (Nat.not_lt.2 hr), List.length_map] at ho ⊢
      rw [List.getElem_map]
      have hf := h.flb r o cs t hr (by omega) hh ho
      intro l n b q c e1 e2 e3
      rcases own_flag e1 with e | e
      · exact hf l n b q c e e2 e3
      · obtain ⟨cs1, t1, k1, k2, k3⟩ := h.box.row r (by omega)
        rw [hh] at k1
        cases k1
        have h3 := k3 o ho
        rw [e, e2] at h3
        have := full_of_one (.r (.c h3))
        omega
  · cases hl

theorem loopIn_inv {F : Fr} {live : List Nat} {kb : Nat} {s s0 : Env × Bx} {a : Act} {w : World} (h : Inv F s a w) (hl : loopIn F.nb live kb s = some s0) : Inv F s0 a w := loopIn0_inv h hl

theorem Inv.cleared {F : Fr} {s : Env × Bx} {a : Act} {w : World} (h : Inv F s a w) (cl : List (Nat × Nat)) : Inv F (clr cl s.1, s.2) a w := by
  obtain ⟨lim, μ, own, h⟩ := h
  refine ⟨lim, μ, own, h.defers, h.size, h.nb, h.mu0, h.mub, fun i => ?_, h.box, fun i => ?_, h.flb, h.below, h.lim0⟩
  · show Rep _ _ _ _ _ (clr cl s.1 i)
    unfold clr
    split
    · exact .any _
    · exact h.env i
  · show FlagOk _ _ _ _ _ _ (clr cl s.1 i)
    unfold clr
    split
    · exact .of_n2 fun _ _ e => by cases e
    · exact h.flt i
theorem step_sound {P : Program} {tab : Nat → Option CFun} {ext : CallF} {ev : Ev} (hev : CodeSound P ev) (hΦ : SoundF P (callOf tab ext ev)) : CodeSound P (stepC tab ext ev) := by
  intro F hn lv k c0 c s out s' hc he a w Q hI hQ
  cases c0 with
  | skip => simp only [comp] at hc; cases hc; cases he; exact wp_skip (hQ _ _ hI)
  | exit id => simp only [comp] at hc; cases hc; cases he; exact wp_exit (hQ _ _ hI)
  | ret => simp only [comp] at hc; cases hc; cases he; exact wp_ret (hQ _ _ hI)
  | label l => simp only [comp] at hc; cases hc; cases he; exact wp_label (hQ _ _ hI)
  | seq x y =>
    simp only [comp] at hc
    split at hc
    · rename_i x' y' hx hy
      cases hc
      simp only [stepC] at he
      refine wp_seq ?_
      cases h1 : ev F.nb x' s with
      | none => simp [h1] at he
      | some q =>
        obtain ⟨o1, s1⟩ := q
        simp only [h1] at he
        cases o1 with
        | nor => exact (hev F hn lv k x x' s .nor s1 hx h1 a w _ hI fun a' w' hI' => (hev F hn lv k y y' s1 out s' hy he a' w' Q hI' hQ).wp).wp
        | ex i => cases he; exact (hev F hn lv k x x' s _ _ hx h1 a w (Exit.then (y.wp P Q) Q) hI fun a' w' hI' => hQ a' w' hI').wp
        | ret => cases he; exact (hev F hn lv k x x' s _ _ hx h1 a w (Exit.then (y.wp P Q) Q) hI fun a' w' hI' => hQ a' w' hI').wp
    · cases hc
  | cond x y z =>
    simp only [comp] at hc
    split at hc
    · rename_i x' y' z' hx hy hz
      split at hc
      · rename_i hok
        cases hc
        simp only [stepC] at he
        split at he
        · rename_i t e1
          have hv : a.eval x = .bool t := by
            obtain ⟨lim, μ, own, h⟩ := hI
            have := eval_rep h hx hok
            rw [e1] at this
            exact this.val.1
          refine wp_cond hv ?_
          cases t with
          | true => exact (hev F hn lv k y y' s out s' hy (by simpa using he) a w Q hI hQ).wp
          | false => exact (hev F hn lv k z z' s out s' hz (by simpa using he) a w Q hI hQ).wp
        · cases he
      · cases hc
    · cases hc
  | scope x =>
    simp only [comp, Option.map_eq_some_iff] at hc
    obtain ⟨x', hx, rfl⟩ := hc
    simp only [stepC] at he
    refine wp_scope_straight ?_
    refine (hev F hn lv k x x' s out s' hx he a w _ hI fun a' w' hI' => ?_).wp
    have := hQ a' w' hI'
    cases out <;> exact this
  | block id x =>
    simp only [comp, Option.map_eq_some_iff] at hc
    obtain ⟨x', hx, rfl⟩ := hc
    simp only [stepC] at he
    refine wp_block ?_
    cases h1 : ev F.nb x' s with
    | none => simp [h1] at he
    | some q =>
      obtain ⟨o1, s1⟩ := q
      simp only [h1] at he
      refine (hev F hn lv id x x' s o1 s1 hx h1 a w _ hI fun a' w' hI' => ?_).wp
      cases o1 with
      | nor => cases he; exact hQ a' w' hI'
      | ret => cases he; exact hQ a' w' hI'
      | ex i =>
        simp only [exitOf, Exit.inBlock]
        cases he
        by_cases hid : i = id
        · rw [if_pos hid]; simp only [hid, if_true] at hQ; exact hQ a' w' hI'
        · rw [if_neg hid]; simp only [hid, if_false] at hQ; exact hQ a' w' hI'
  | loop x =>
    simp only [comp, Option.map_eq_some_iff] at hc
    obtain ⟨x', hx, rfl⟩ := hc
    have hc : comp P F.nt hn lv k (.loop x) = some (.loop (lv k).1 (lv k).2 x') := by simp only [comp, hx, Option.map_some]
    simp only [stepC] at he
    cases hl : loopIn F.nb (lv k).1 (lv k).2 s with
    | none => simp [hl] at he
    | some s0 =>
      simp only [hl] at he
      have hI0 := loopIn_inv hI hl
      refine LoopGoes.unroll ?_
      cases h1 : ev F.nb x' s0 with
      | none => simp [h1] at he
      | some q =>
        obtain ⟨o1, s1⟩ := q
        simp only [h1] at he
        refine (hev F hn lv k x x' s0 o1 s1 hx h1 a w _ hI0 fun a' w' hI' => ?_).wp
        cases o1 with
        | nor => exact hev F hn lv k (.loop x) _ s1 out s' hc he a' w' Q hI' hQ
        | ex i => cases he; exact hQ a' w' hI'
        | ret => cases he; exact hQ a' w' hI'
  | region id ops draw =>
    simp only [comp] at hc
    split at hc
    · rename_i js hjs
      split at hc
      · rename_i hd
        cases hc
        simp only [stepC, Option.map_eq_some_iff] at he
        obtain ⟨s1, h1, h2⟩ := he
        cases h2
        obtain ⟨hlen, hget⟩ := compL_get (F := F) ops.toList js hjs
        have hget' : ∀ i (o : Oper), ops[i]? = some o → compJ P F.nt ops { hn with tk := tkOf ops } o = some (js.getD i default) := fun i o ho => hget i o (by simpa using ho)
        have hlen' : js.length = ops.size := by simpa using hlen
        cases draw with
        | false =>
          refine wp_region ?_
          refine ops_sound (F := F) hΦ hget' _ s _ a w (fun i hi => by simpa using hi) ?_ hI fun a' w' hI' => hQ a' w' hI'
          have : (List.range ops.size).map (fun i => js.getD i default) = js := by
            apply List.ext_getElem
            · simp [hlen']
            · intro i h1 h2; simp [h2]
          rw [this]; exact h1
        | true =>
          refine wp_region_draw fun t => ?_
          obtain ⟨k1, k2⟩ := schedule_sound _ F.nb hlen' (hd.resolve_left (by simp)) t s _ h1
          refine ops_sound (F := F) hΦ hget' _ s _ a _ k1 k2 ?_ fun a' w' hI' => hQ a' w' hI'
          obtain ⟨lim, μ, own, h⟩ := hI
          exact ⟨lim, μ, own, h.step (drew_below w) fun _ _ => rfl⟩
      · rename_i hnd
        split at hc
        · rename_i hd
          cases hc
          simp only [stepC] at he
          split at he
          · rename_i hne
            simp only [Option.map_eq_some_iff] at he
            obtain ⟨s1, h1, h2⟩ := he
            cases h2
            obtain ⟨hlen, hget⟩ := compL_get (F := F) ops.toList js hjs
            have hget' : ∀ i (o : Oper), ops[i]? = some o → compJ P F.nt ops { hn with tk := tkOf ops } o = some (js.getD i default) := fun i o ho => hget i o (by simpa using ho)
            have hlen' : js.length = ops.size := by simpa using hlen
            simp only [dregOk, Bool.and_eq_true] at hd
            cases draw with
            | false => exact absurd (.inl rfl) hnd
            | true =>
              refine wp_region_draw fun t => ?_
              obtain ⟨k1, k2⟩ := schedule_soundI (comm_apart _ F.nb _ _) hlen' (fun j hj => List.all_eq_true.1 hd.1.2 j hj) hd.1.1 t _ _ (KD.start hne hd.2) h1
              refine ops_sound (F := F) hΦ hget' _ _ _ a _ k1 k2 ?_ fun a' w' hI' => hQ a' w' hI'
              obtain ⟨lim, μ, own, h⟩ := hI.cleared (clOf js)
              exact ⟨lim, μ, own, h.step (drew_below w) fun _ _ => rfl⟩
          · cases he
        · split at hc
          · rename_i hd
            cases hc
            simp only [stepC, neOk, List.all_nil, if_true, Option.map_eq_some_iff] at he
            obtain ⟨s1, h1, h2⟩ := he
            cases h2
            obtain ⟨hlen, hget⟩ := compL_get (F := F) ops.toList js hjs
            have hget' : ∀ i (o : Oper), ops[i]? = some o → compJ P F.nt ops { hn with tk := tkOf ops } o = some (js.getD i default) := fun i o ho => hget i o (by simpa using ho)
            have hlen' : js.length = ops.size := by simpa using hlen
            simp only [kregOk, Bool.and_eq_true] at hd
            cases draw with
            | false => exact absurd (.inl rfl) hnd
            | true =>
              refine wp_region_draw fun t => ?_
              obtain ⟨k1, k2⟩ := schedule_soundI (comm_new _ F.nb _ _ _) hlen' (fun j hj => List.all_eq_true.1 hd.2 j hj) hd.1 t _ _ (KN.start hI _ _) h1
              refine ops_sound (F := F) hΦ hget' _ _ _ a _ k1 k2 ?_ fun a' w' hI' => hQ a' w' hI'
              obtain ⟨lim, μ, own, h⟩ := hI.cleared _
              exact ⟨lim, μ, own, h.step (drew_below w) fun _ _ => rfl⟩
          · split at hc
            · rename_i hd
              cases hc
              simp only [stepC, neOk, List.all_nil, if_true, Option.map_eq_some_iff] at he
              obtain ⟨s1, h1, h2⟩ := he
              cases h2
              obtain ⟨hlen, hget⟩ := compL_get (F := F) ops.toList js hjs
              have hget' : ∀ i (o : Oper), ops[i]? = some o → compJ P F.nt ops { hn with tk := tkOf ops } o = some (js.getD i default) := fun i o ho => hget i o (by simpa using ho)
              have hlen' : js.length = ops.size := by simpa using hlen
              simp only [oregOk, Bool.and_eq_true] at hd
              cases draw with
              | false => exact absurd (.inl rfl) hnd
              | true =>
                refine wp_region_draw fun t => ?_
                obtain ⟨k1, k2⟩ := schedule_soundI (comm_old _ F.nb _ _) hlen' (fun j hj => List.all_eq_true.1 hd.2 j hj) hd.1 t _ _ (KO.start hI _ []) h1
                refine ops_sound (F := F) hΦ hget' _ _ _ a _ k1 k2 ?_ fun a' w' hI' => hQ a' w' hI'
                obtain ⟨lim, μ, own, h⟩ := hI.cleared []
                exact ⟨lim, μ, own, h.step (drew_below w) fun _ _ => rfl⟩
            · cases hc
    · cases hc
  | _ => simp [comp] at hc

/-! ### calls -/
theorem initFrom_at : ∀ (xs : List A) (k i : Nat), initFrom k xs i = if h : k ≤ i ∧ i - k < xs.length then xs[i - k]'h.2 else .any
  | [], k, i => by simp [initFrom, emp]
  | x :: xs, k, i => by
    show put k x (initFrom (k + 1) xs) i = _
    rw [put_at, initFrom_at xs (k + 1) i]
    by_cases h : i = k
    · subst h; simp
    · rw [if_neg h]
      by_cases h2 : k + 1 ≤ i ∧ i - (k + 1) < xs.length
      · rw [dif_pos h2, dif_pos (by simp; omega)]
        have : i - k = (i - (k + 1)) + 1 := by omega
        simp [this]
      · rw [dif_neg h2, dif_neg (by simp; omega)]

theorem results_run {P : Program} {tmps : Array Value} {w : World} (g : ResultVar → Sem Value) (Z : ResultVar → Value → Prop) (hg : ∀ r v, Z r v → (g r).run P w = .ok v w) :
    ∀ (rs : List ResultVar) (vs : List Value), rs.length = vs.length → (∀ i (h : i < rs.length) (h' : i < vs.length), Z rs[i] vs[i]) → (rs.mapM g).run P w = .ok vs w
  | [], [], _, _ => by simp
  | [], v :: vs, h, _ => by simp at h
  | r :: rs, [], h, _ => by simp at h
  | r :: rs, v :: vs, hl, hz => by
    have ih := results_run (tmps := tmps) g Z hg rs vs (by simpa using hl) (fun i h h' => hz (i + 1) (by simpa using h) (by simpa using h'))
    have h0 := hg _ _ (hz 0 (by simp) (by simp))
    simp only [List.getElem_cons_zero] at h0
    rw [List.mapM_cons]
    simp only [Sem.run_bind, Sem.run_pure, Result.andThen_ok, ih, h0]

/-- What a result variable answers. -/
def ResIs (P : Program) (tmps : Array Value) (w : World) : ResultVar → Value → Prop
  | .tmp t, v => v = tmps.getD t undef
  | .cell a t, v => ∃ ad, tmps.getD a undef = .pointer (some ad) ∧ (loadVar t ad).run P w = .ok v w

theorem res_sound {P : Program} {F : Fr} {lim μ : Nat → Nat} {own : Nat → Pl} {s : Env × Bx} {a : Act} {w : World} (h : InvG F lim μ own s a w) : ∀ (rs : List ResultVar) (ts : List RV), resOf P rs = some ts →
    rs.length = ts.length ∧ ∀ i (h1 : i < rs.length) (h2 : i < ts.length) (x : A), resVal s ts[i] = some x → ∃ v, ResIs P a.tmps w rs[i] v ∧ RepR w lim μ s.2.length v x ∧ n2 x
  | [], ts, e => by cases e; exact ⟨rfl, fun i h1 => by simp at h1⟩
  | r :: rs, ts, e => by
    have hd : ∃ t ts', ts = t :: ts' ∧ resOf P rs = some ts' ∧ ∀ x, resVal s t = some x → ∃ v, ResIs P a.tmps w r v ∧ RepR w lim μ s.2.length v x ∧ n2 x := by
      cases r with
      | tmp t =>
        simp only [resOf, Option.map_eq_some_iff] at e
        obtain ⟨ts', e', rfl⟩ := e
        refine ⟨_, ts', rfl, e', fun x hx => ?_⟩
        simp only [resVal] at hx
        split at hx
        · rename_i hr
          cases hx
          exact ⟨_, rfl, ((h.env t).isR hr).cp, n2_cp _⟩
        · cases hx
      | cell ad t =>
        simp only [resOf] at e
        split at e
        · rename_i d i ts' hu hi e'
          split at e
          · rename_i hag
            cases e
            refine ⟨_, ts', rfl, e', fun x hx => ?_⟩
            simp only [resVal] at hx
            split at hx
            · rename_i r hp
              have hpr := h.env ad
              rw [hp] at hpr
              obtain ⟨hv, hr⟩ := hpr.toPtr
              rw [List.getElem?_eq_getElem hr] at hx
              simp only at hx
              split at hx
              · rename_i hsz
                cases hx
                obtain ⟨cs, ct, hh, hs, hc⟩ := h.box.row r hr
                have hrun := load_agg (P := P) (w := w) hu hi hag (b := μ r) (q := 0) (fun j => cs.getD j undef) (fun j hj => by rw [Nat.zero_add]; exact cell_of_row hh (by omega))
                refine ⟨.agg ((List.range i.size).map fun j => cs.getD j undef).toArray, ⟨_, hv, by simpa [Instr.loadAt, Instr.sureAddr] using hrun⟩, .agg _ _ ?_ ?_ ?_, fun _ _ e => by cases e⟩
                · simp [hsz]
                · intro j hj
                  have hj' : j < i.size := by simp at hj; omega
                  rw [getD_range _ _ _ hj', List.getElem_map]
                  exact (hc j (by omega)).cp1
                · intro j hj; rw [List.getElem_map]; exact n2_cp1 _
              · cases hx
            · cases hx
          · cases e
        · cases e
    obtain ⟨t, ts', rfl, e', ht⟩ := hd
    obtain ⟨l1, l2⟩ := res_sound h rs ts' e'
    refine ⟨by simp [l1], fun i h1 h2 x hx => ?_⟩
    cases i with
    | zero => exact ht x hx
    | succ i => exact l2 i (by simpa using h1) (by simpa using h2) x hx

theorem choose_list {Z : Nat → Value → Prop} : ∀ (n : Nat), (∀ i, i < n → ∃ v, Z i v) → ∃ vs : List Value, vs.length = n ∧ ∀ i (h : i < vs.length), Z i vs[i]
  | 0, _ => ⟨[], rfl, fun i h => by simp at h⟩
  | n + 1, h => by
    obtain ⟨vs, h1, h2⟩ := choose_list n fun i hi => h i (by omega)
    obtain ⟨v, hv⟩ := h n (by omega)
    refine ⟨vs ++ [v], by simp [h1], fun i hi => ?_⟩
    by_cases hlt : i < vs.length
    · rw [List.getElem_append_left hlt]; exact h2 i hlt
    · have : i = n := by simp at hi; omega
      subst this
      rw [List.getElem_append_right (by omega)]
      simpa using hv

/-- One code is run as is told. -/
def CodeAt (P : Program) (ev : Ev) (c0 : Code) : Prop := ∀ (F : Fr) (hn : Hn) (lv : Nat → List Nat × Nat) (k : Nat) (c : C) (s : Env × Bx) (out : Out) (s' : Env × Bx), comp P F.nt hn lv k c0 = some c → ev F.nb c s = some (out, s') →
  ∀ a w Q, Inv F s a w → (∀ a' w', Inv F s' a' w' → Q (exitOf out) a' w') → Does P c0 Q a w
theorem call_sound0 {P : Program} {tab : Nat → Option CFun} {ext : CallF} {ev : Ev} (hev : ∀ f fn c0, P.funcs[f]? = some fn → fn.body = some c0 → (tab f).isSome = true → CodeAt P ev c0) (ht : TabOk P tab) (hx : SoundF P ext) : SoundF P (callOf tab ext ev) := by
  intro f xs bx r bx' hr w lim μ vs hsz hrep hbox hgl
  unfold callOf at hr
  cases hext : ext f xs bx with
  | some q => simp only [hext, Option.some.injEq] at hr; subst hr; exact hx _ _ _ _ _ hext w lim μ vs hsz hrep hbox hgl
  | none =>
  simp only [hext] at hr
  cases hF : tab f with
  | none => simp [hF] at hr
  | some F =>
    simp only [hF] at hr
    obtain ⟨fn, hn, lv, hfn, hcF, hname⟩ := ht f F hF
    unfold compF at hcF
    split at hcF
    · rename_i c hbody
      split at hcF
      · rename_i b rs hcomp hres
        split at hcF
        · rename_i hle
          simp only [Option.some.injEq] at hcF
          have hFb : F.body = b := by rw [← hcF]
          have hFr : F.res = rs := by rw [← hcF]
          have hFnt : F.nt = fn.ntmps := by rw [← hcF]
          have hFnp : F.np = fn.params.size + fn.nfree := by rw [← hcF]
          split at hr
          · rename_i hlen
            -- the answer and its state
            obtain ⟨out, s', hrun, hout, hresult, hbx⟩ : ∃ out s', ev bx.length F.body (initFrom 0 xs, bx) = some (out, s') ∧ (out = .nor ∨ out = .ret) ∧ resultOf F s' = some r ∧ s'.2 = bx' := by
              split at hr
              · rename_i s' e1; simp only [Option.map_eq_some_iff, Prod.mk.injEq] at hr; obtain ⟨v, hv, rfl, rfl⟩ := hr; exact ⟨_, s', e1, .inl rfl, hv, rfl⟩
              · rename_i s' e1; simp only [Option.map_eq_some_iff, Prod.mk.injEq] at hr; obtain ⟨v, hv, rfl, rfl⟩ := hr; exact ⟨_, s', e1, .inr rfl, hv, rfl⟩
              · cases hr
            subst hbx
            -- the answer as a list
            obtain ⟨l, hl, hone⟩ : ∃ l, F.res.mapM (resVal s') = some l ∧ ((F.res.length = 1 ∧ l = [r]) ∨ (F.res.length ≠ 1 ∧ r = .tup l)) := by
              unfold resultOf at hresult
              split at hresult
              · rename_i t e1
                rw [e1]
                refine ⟨[r], ?_, .inl ⟨rfl, rfl⟩⟩
                rw [List.mapM_cons, hresult]; rfl
              · rename_i hne
                simp only [Option.map_eq_some_iff] at hresult
                obtain ⟨l, hl, rfl⟩ := hresult
                refine ⟨l, hl, .inr ⟨fun h1 => ?_, rfl⟩⟩
                obtain ⟨t, ht⟩ := List.length_eq_one_iff.1 h1
                exact hne t ht
            obtain ⟨m1, m2⟩ := mapM_some _ _ _ hl
            refine ⟨fun w => ?_, ?_, ?_⟩
            · have hname' : ¬ (fn.name = "runtime.NumGoroutine") := by simpa using hname
              simp [callFunc, hfn, hname', hbody]
            · rcases hone with ⟨h1, h2⟩ | ⟨h1, rfl⟩
              · have := m2 0 (by omega) (by rw [h2]; simp)
                simp only [h2, List.getElem_cons_zero] at this
                cases hz : F.res[0]'(by omega) with
                | t i =>
                  rw [hz] at this
                  simp only [resVal] at this
                  split at this
                  · cases this; exact n2_cp _
                  · cases this
                | cell i sz =>
                  rw [hz] at this
                  simp only [resVal] at this
                  repeat' split at this
                  all_goals first | (cases this; done) | (cases this; exact fun l n e => by cases e)
              · exact fun l n e => by cases e
            · refine calls_of_wp hfn hbody ?_
              have hI : Inv ⟨w, lim, μ, bx.length, fn.ntmps, hgl⟩ (initFrom 0 xs, bx) { tmps := vs ++ Array.replicate (fn.ntmps - vs.size) undef, defers := [] } w := by
                have hat : ∀ i, Rep w lim μ bx.length ((vs ++ Array.replicate (fn.ntmps - vs.size) undef).getD i undef) (initFrom 0 xs i) ∧ n2 (initFrom 0 xs i) := by
                  intro i
                  rw [initFrom_at]
                  by_cases hi : i < xs.length
                  · rw [dif_pos (by simpa using hi)]
                    have := hrep i hi
                    rw [Array.getD_eq_getD_getElem?] at this ⊢
                    rw [Array.getElem?_append_left (by omega)]
                    simpa using this
                  · rw [dif_neg (by simpa using hi)]
                    exact ⟨.any _, fun l n e => by cases e⟩
                refine ⟨lim, μ, fun _ => .t 0, rfl, ?_, Nat.le_refl _, fun _ _ => rfl, fun r hr hr' => ?_, fun i => (hat i).1, hbox, fun i => .of_n2 (hat i).2, ?_, But.refl _ _ _ _, fun _ _ => rfl⟩
                · simp; omega
                · exact absurd hr' (Nat.not_lt.2 hr)
                · intro r o cs t hr hr'; exact absurd hr' (Nat.not_lt.2 hr)
              have hbp : ∀ a' w', Inv ⟨w, lim, μ, bx.length, fn.ntmps, hgl⟩ s' a' w' → a'.defers = [] ∧ ∃ v, (results fn a'.tmps).run P w' = .ok v w' ∧
                  ∃ v' lim' μ', Ending.returned v = .returned v' ∧ bx.length ≤ s'.2.length ∧ But w.heap.size μ bx.length w w' ∧ (∀ r, r < bx.length → μ' r = μ r) ∧ (∀ b, b < w.heap.size → lim' b = lim b) ∧
                    (∀ r, bx.length ≤ r → r < s'.2.length → w.heap.size ≤ μ' r) ∧ BoxRep w' lim' μ' s'.2 ∧ Rep w' lim' μ' s'.2.length v' r := by
                rintro a' w' ⟨lim', μ', own', h⟩
                refine ⟨h.defers, ?_⟩
                obtain ⟨l1, l2⟩ := res_sound h fn.results.toList rs hres
                have hex : ∀ i, i < rs.length → ∃ v, ∃ (h1 : i < fn.results.toList.length) (h2 : i < l.length), ResIs P a'.tmps w' fn.results.toList[i] v ∧ RepR w' lim' μ' s'.2.length v l[i] := by
                  intro i hi
                  have hi1 : i < fn.results.toList.length := by omega
                  have hi2 : i < l.length := by rw [m1, hFr]; exact hi
                  have := m2 i (by rw [hFr]; exact hi) hi2
                  simp only [hFr] at this
                  obtain ⟨v, z1, z2, z3⟩ := l2 i hi1 hi l[i] this
                  exact ⟨v, hi1, hi2, z1, z2⟩
                obtain ⟨vl, v1, v2⟩ := choose_list rs.length hex
                have hres' : (results fn a'.tmps).run P w' = .ok (if h : vl.toArray.size = 1 then vl.toArray[0] else .tuple vl.toArray) w' := by
                  unfold results
                  rw [Sem.run_bind, Array.mapM_eq_mapM_toList, Sem.run_map]
                  rw [results_run (tmps := a'.tmps) _ (ResIs P a'.tmps w') (fun r v hz => by
                    cases r with
                    | tmp t => simp only [ResIs] at hz; subst hz; rfl
                    | cell ad t => obtain ⟨ad', z1, z2⟩ := hz; simp only [z1, asAddr, Sem.run_bind, Sem.run_pure, Result.andThen_ok]; exact z2) fn.results.toList vl (by omega) (fun i h1 h2 => by
                    obtain ⟨_, _, z1, _⟩ := v2 i h2; exact z1)]
                  rfl
                refine ⟨_, hres', _, lim', μ', rfl, h.nb, h.below, h.mu0, h.lim0, fun r hr hr' => h.mub r hr hr', h.box, ?_⟩
                have hlr : rs.length = F.res.length := by rw [hFr]
                rcases hone with ⟨h1, h2⟩ | ⟨h1, rfl⟩
                · rw [dif_pos (by simp; omega)]
                  obtain ⟨_, _, _, z2⟩ := v2 0 (by omega)
                  simp only [h2, List.getElem_cons_zero] at z2
                  exact .r (by simpa using z2)
                · rw [dif_neg (by simp; omega)]
                  refine .tup _ _ (by simp; omega) (fun i hi => ?_)
                  obtain ⟨_, _, _, z2⟩ := v2 i (by omega)
                  have e2 : (vl.toArray).getD i undef = vl[i]'(by omega) := by
                    rw [Array.getD_eq_getD_getElem?]; simp [show i < vl.length by omega]
                  rw [e2]; exact z2
              refine (hev f fn c hfn hbody (by rw [hF]; rfl) ⟨w, lim, μ, bx.length, fn.ntmps, hgl⟩ hn lv 0 b (initFrom 0 xs, bx) out s' hcomp (by rw [← hFb]; exact hrun) _ _ _ hI fun a' w' hI' => ?_).wp
              rcases hout with rfl | rfl
              · exact hbp a' w' hI'
              · exact hbp a' w' hI'
          · cases hr
        · cases hcF
      · cases hcF
    · cases hcF

theorem call_sound {P : Program} {tab : Nat → Option CFun} {ext : CallF} {ev : Ev} (hev : CodeSound P ev) (ht : TabOk P tab) (hx : SoundF P ext) : SoundF P (callOf tab ext ev) :=
  call_sound0 (fun _ _ c0 _ _ _ F hn lv k c s out s' => hev F hn lv k c0 c s out s') ht hx

theorem evK_sound {P : Program} {tab : Nat → Option CFun} {ext : CallF} (ht : TabOk P tab) (hx : SoundF P ext) : ∀ k, CodeSound P (evK tab ext k)
  | 0 => fun F hn lv k c0 c s out s' hc he => by cases he
  | k + 1 => step_sound (evK_sound ht hx k) (call_sound (evK_sound ht hx k) ht hx)

theorem callL_sound {P : Program} {tab : Nat → Option CFun} {ext : CallF} (ht : TabOk P tab) (hx : SoundF P ext) : SoundF P (callL tab ext) := by
  intro f xs bx r bx' hr
  obtain ⟨k, hk⟩ := (callL_iff ..).1 hr
  exact call_sound (evK_sound ht hx k) ht hx f xs bx r bx' hk

/-- No callee but those of the table. -/
def extN : CallF := fun _ _ _ => none
theorem extN_sound (P : Program) : SoundF P extN := fun f xs bx r bx' h => by cases h
end Go.Proofs.YtkohggddaheefaaEv
/- How compact code is run step by step: equations for simp. -/
namespace Go.Proofs.YtkohggddaheefaaEv
open Go
abbrev vi (n : Int) : A := .val (.int .i64 n)
abbrev vb (b : Bool) : A := .val (.bool b)
abbrev vs (s : ByteArray) : A := .val (.string s)
variable {tab : Nat → Option CFun} {ext : CallF} {Φ : CallF} {nb : Nat} {s : Env × Bx}
def seqK (f : Env × Bx → Option (Out × Env × Bx)) : Out × Env × Bx → Option (Out × Env × Bx)
  | (.nor, s) => f s
  | (.ex i, s) => some (.ex i, s)
  | (.ret, s) => some (.ret, s)
def blkK (id : Nat) : Out × Env × Bx → Option (Out × Env × Bx)
  | (.nor, s) => some (.nor, s)
  | (.ex i, s) => some (if i = id then .nor else .ex i, s)
  | (.ret, s) => some (.ret, s)
def resK (F : CFun) : Out × Env × Bx → Option (A × Bx)
  | (.nor, s) => (resultOf F s).bind fun v => some (v, s.2)
  | (.ret, s) => (resultOf F s).bind fun v => some (v, s.2)
  | (.ex _, _) => none
@[simp] theorem seqK_nor (f) (e : Env) (bx : Bx) : seqK f (.nor, e, bx) = f (e, bx) := rfl
@[simp] theorem seqK_ex (f i) (e : Env) (bx : Bx) : seqK f (.ex i, e, bx) = some (.ex i, e, bx) := rfl
@[simp] theorem seqK_ret (f) (e : Env) (bx : Bx) : seqK f (.ret, e, bx) = some (.ret, e, bx) := rfl
@[simp] theorem blkK_nor (k) (e : Env) (bx : Bx) : blkK k (.nor, e, bx) = some (.nor, e, bx) := rfl
@[simp] theorem blkK_ex (k i) (e : Env) (bx : Bx) : blkK k (.ex i, e, bx) = some (if i = k then .nor else .ex i, e, bx) := rfl
@[simp] theorem blkK_ret (k) (e : Env) (bx : Bx) : blkK k (.ret, e, bx) = some (.ret, e, bx) := rfl
@[simp] theorem resK_nor (F) (e : Env) (bx : Bx) : resK F (.nor, e, bx) = (resultOf F (e, bx)).bind fun v => some (v, bx) := rfl
@[simp] theorem resK_ret (F) (e : Env) (bx : Bx) : resK F (.ret, e, bx) = (resultOf F (e, bx)).bind fun v => some (v, bx) := rfl
noncomputable def seqG (tab : Nat → Option CFun) (ext : CallF) (nb : Nat) (b : C) (r : Out × Env × Bx) : Option (Out × Env × Bx) := seqK (fun s1 => evL tab ext nb b s1) r
theorem seqG_nor (b) (e : Env) (bx : Bx) : seqG tab ext nb b (.nor, e, bx) = evL tab ext nb b (e, bx) := rfl
theorem seqG_ex (b i) (e : Env) (bx : Bx) : seqG tab ext nb b (.ex i, e, bx) = some (.ex i, e, bx) := rfl
theorem seqG_ret (b) (e : Env) (bx : Bx) : seqG tab ext nb b (.ret, e, bx) = some (.ret, e, bx) := rfl
theorem eL_seq (a b) : evL tab ext nb (.seq a b) s = (evL tab ext nb a s).bind (seqG tab ext nb b) := by
  rw [evL_step]
  show (match evL tab ext nb a s with | some (.nor, s1) => evL tab ext nb b s1 | r => r) = _
  rcases evL tab ext nb a s with _ | ⟨o, s1⟩
  · rfl
  · cases o <;> rfl
theorem eL_skip : evL tab ext nb .skip s = some (.nor, s) := by rw [evL_step]; rfl
theorem eL_ret : evL tab ext nb .ret s = some (.ret, s) := by rw [evL_step]; rfl
theorem eL_exit (i) : evL tab ext nb (.exit i) s = some (.ex i, s) := by rw [evL_step]; rfl
theorem eL_scope (a) : evL tab ext nb (.scope a) s = evL tab ext nb a s := by rw [evL_step]; rfl
def condK (x : A) (p q : Option (Out × Env × Bx)) : Option (Out × Env × Bx) := match x with
    | .val (.bool t) => if t = true then p else q
    | _ => none
@[simp] theorem condK_vb (t p q) : condK (.val (.bool t)) p q = if t = true then p else q := rfl
theorem eL_cond (x a b) : evL tab ext nb (.cond x a b) s = condK (x.ev s.1) (evL tab ext nb a s) (evL tab ext nb b s) := by rw [evL_step]; rfl
theorem eL_block (id a) : evL tab ext nb (.block id a) s = (evL tab ext nb a s).bind (blkK id) := by
  rw [evL_step]
  show (match evL tab ext nb a s with | some (.ex i, s1) => some (if i = id then Out.nor else Out.ex i, s1) | r => r) = _
  rcases evL tab ext nb a s with _ | ⟨o, s1⟩
  · rfl
  · cases o <;> rfl
theorem eL_loop (live kb a) : evL tab ext nb (.loop live kb a) s = (loopIn nb live kb s).bind fun s0 => (evL tab ext nb a s0).bind (seqG tab ext nb (.loop live kb a)) := by
  rw [evL_step]
  show (match loopIn nb live kb s with | some s0 => (match evL tab ext nb a s0 with | some (.nor, s1) => evL tab ext nb (.loop live kb a) s1 | r => r) | none => none) = _
  rcases loopIn nb live kb s with _ | s0
  · rfl
  · show (match evL tab ext nb a s0 with | some (.nor, s1) => evL tab ext nb (.loop live kb a) s1 | r => r) = (evL tab ext nb a s0).bind (seqG tab ext nb (.loop live kb a))
    rcases evL tab ext nb a s0 with _ | ⟨o, s1⟩
    · rfl
    · cases o <;> rfl
/-- A list of steps, and what comes behind it. -/
noncomputable def goJs (Φ : CallF) (nb : Nat) (l : List J) (s : Env × Bx) : Option (Out × Env × Bx) := (evJs Φ nb l s).bind fun s' => some (.nor, s')
theorem eL_reg (l) : evL tab ext nb (.reg l) s = goJs (callL tab ext) nb l s := by
  rw [evL_step]
  show (evJs (callL tab ext) nb l s).map _ = _
  unfold goJs
  cases evJs (callL tab ext) nb l s <;> rfl
theorem eL_dreg (cl ne l) (e : Env) (bx : Bx) : evL tab ext nb (.dreg cl ne l) (e, bx) = if neOk ne e = true then goJs (callL tab ext) nb l (clr cl e, bx) else none := by
  rw [evL_step]
  show (if neOk ne e = true then (evJs (callL tab ext) nb l (clr cl e, bx)).map _ else none) = _
  unfold goJs
  cases evJs (callL tab ext) nb l (clr cl e, bx) <;> rfl
theorem clr_nil (e : Env) : clr [] e = e := by funext i; rfl
theorem clr_cons (p cl) (e : Env) : clr (p :: cl) e = clr cl (put p.1 .any e) := by
  funext i
  unfold clr
  rw [List.any_cons, put_at]
  by_cases h : p.1 = i
  · subst h; simp
  · have h1 : (p.1 == i) = false := by simpa using h
    have h2 : ¬ i = p.1 := fun e => h e.symm
    simp only [h1, Bool.false_or, if_neg h2]
theorem neOk_nil (e : Env) : neOk [] e = true := rfl
def neK : A → A → Bool
  | .ptr r _, .ptr r' _ => !(r == r')
  | _, _ => false
theorem neK_ptr (r o r' o') : neK (.ptr r o) (.ptr r' o') = !(r == r') := rfl
theorem neOk_cons (p ne) (e : Env) : neOk (p :: ne) e = (neK (e p.1) (e p.2) && neOk ne e) := rfl
def runK (d : Option Nat) (e : Env) (k : Env × Bx → Option (Out × Env × Bx)) : A × List (Nat × A) × Bx → Option (Out × Env × Bx)
  | (v, ups, bx') => k (putO d v (puts ups e), bx')
@[simp] theorem runK_some (d e k v ups bx') : runK (some d) e k (v, ups, bx') = k (put d v (puts ups e), bx') := rfl
@[simp] theorem runK_none (e k v ups bx') : runK none e k (v, ups, bx') = k (puts ups e, bx') := rfl
theorem puts_nil (e) : puts [] e = e := rfl
theorem puts_cons (d v r e) : puts ((d, v) :: r) e = puts r (put d v e) := rfl
noncomputable def runG (d : Option Nat) (e : Env) (Φ : CallF) (nb : Nat) (r : List J) (x : A × List (Nat × A) × Bx) : Option (Out × Env × Bx) := runK d e (goJs Φ nb r) x
theorem runG_some (d e r v ups bx') : runG (some d) e Φ nb r (v, ups, bx') = goJs Φ nb r (put d v (puts ups e), bx') := rfl
theorem runG_none (e r v ups bx') : runG none e Φ nb r (v, ups, bx') = goJs Φ nb r (puts ups e, bx') := rfl
/-- A guarded step's way. -/
inductive Gd where
  | no
  | bad
  | yes (v : A) (ups : List (Nat × A)) (bx : Bx)
def gdOf : Option (A × List (Nat × A) × Bx) → Gd
  | some (v, ups, bx) => .yes v ups bx
  | none => .bad
theorem gdOf_some (v ups bx) : gdOf (some (v, ups, bx)) = .yes v ups bx := by cases v <;> rfl
def guardX (x : A) (b : Bool) (y : Gd) : Gd := match x with
  | .val (.bool b') => if b' = b then y else .no
  | .und => .no
  | _ => .bad
theorem guardX_t (t y) : guardX (.val (.bool t)) true y = if t = true then y else .no := rfl
theorem guardX_f (t y) : guardX (.val (.bool t)) false y = if t = true then .no else y := by cases t <;> rfl
theorem guardX_u (t y) : guardX .und t y = .no := rfl
theorem guardX_ite {c : Prop} [Decidable c] (a a' b y) : guardX (if c then a else a') b y = if c then guardX a b y else guardX a' b y := by split <;> rfl
theorem gd_ite {c : Prop} [Decidable c] (p : Prop) [Decidable p] (y : Gd) : (if c then (if p then y else .no) else .no) = if c ∧ p then y else .no := by
  by_cases hc : c <;> by_cases hp : p <;> simp [hc, hp]
theorem gd_ite' {c : Prop} [Decidable c] (p : Prop) [Decidable p] (y : Gd) : (if c then (if p then .no else y) else .no) = if c ∧ ¬ p then y else .no := by
  by_cases hc : c <;> by_cases hp : p <;> simp [hc, hp]
theorem gd_ite2 {c : Prop} [Decidable c] (p : Prop) [Decidable p] (y : Gd) : (if c then .no else (if p then y else .no)) = if ¬ c ∧ p then y else .no := by
  by_cases hc : c <;> by_cases hp : p <;> simp [hc, hp]
theorem gd_ite2' {c : Prop} [Decidable c] (p : Prop) [Decidable p] (y : Gd) : (if c then .no else (if p then .no else y)) = if ¬ c ∧ ¬ p then y else .no := by
  by_cases hc : c <;> by_cases hp : p <;> simp [hc, hp]
noncomputable def mrg (y : Gd) (d : Option Nat) (e : Env) (bx : Bx) (Φ : CallF) (nb : Nat) (r : List J) : Option (Out × Env × Bx) := match y with
  | .no => goJs Φ nb r (putO d .und e, bx)
  | .yes v ups bx' => goJs Φ nb r (putO d v (puts ups e), bx')
  | .bad => none
theorem mrg_no (d e bx r) : mrg .no d e bx Φ nb r = goJs Φ nb r (putO d .und e, bx) := rfl
theorem mrg_yes (d e bx r v ups bx') : mrg (.yes v ups bx') d e bx Φ nb r = goJs Φ nb r (putO d v (puts ups e), bx') := rfl
theorem mrg_ite {c : Prop} [Decidable c] (d e bx r v) : mrg (if c then .yes v [] bx else .no) (some d) e bx Φ nb r = goJs Φ nb r (put d (if c then v else .und) e, bx) := by split <;> rfl
theorem mrg_ite' {c : Prop} [Decidable c] (d e bx r v) : mrg (if c then .no else .yes v [] bx) (some d) e bx Φ nb r = goJs Φ nb r (put d (if c then .und else v) e, bx) := by split <;> rfl
theorem gJ_nil (e : Env) (bx : Bx) : goJs Φ nb [] (e, bx) = some (.nor, e, bx) := rfl
theorem gJ_n (d i r) (e : Env) (bx : Bx) : goJs Φ nb (⟨d, i, none⟩ :: r) (e, bx) = (evI Φ nb i e bx).bind (runG d e Φ nb r) := by
  show (evJs Φ nb (⟨d, i, none⟩ :: r) (e, bx)).bind _ = _
  unfold evJs evJ evRun
  dsimp only
  rcases evI Φ nb i e bx with _ | ⟨v, ups, bx'⟩ <;> rfl
theorem gJ_g (d i t b r) (e : Env) (bx : Bx) : goJs Φ nb (⟨d, i, some (t, b)⟩ :: r) (e, bx) = mrg (guardX (e t) b (gdOf (evI Φ nb i e bx))) d e bx Φ nb r := by
  show (evJs Φ nb (⟨d, i, some (t, b)⟩ :: r) (e, bx)).bind _ = _
  unfold evJs evJ evRun guardX
  dsimp only
  cases e t with
  | val v =>
    cases v with
    | bool b' =>
      dsimp only
      by_cases h : b' = b
      · simp only [h, if_true]
        rcases evI Φ nb i e bx with _ | ⟨v, ups, bx'⟩ <;> rfl
      · simp only [h, if_false]
        rfl
    | _ => rfl
  | _ => rfl
/-- Two numbers are one (kept closed while code is run). -/
def eqz (a b : Int) : Bool := decide (a = b)
theorem eqz_self (a : Int) : eqz a a = true := by simp [eqz]
theorem evBin_eql (k : IntKind) (a b : Int) : evBin .eql (.val (.int k a)) (.val (.int k b)) = some (vb (eqz a b)) := by simp [evBin, eqz]
theorem evBin_neq (k : IntKind) (a b : Int) : evBin .neq (.val (.int k a)) (.val (.int k b)) = some (vb (!eqz a b)) := by simp [evBin, eqz]
theorem evBin_add (k : IntKind) (a b : Int) : evBin .add (.val (.int k a)) (.val (.int k b)) = some (A.val <| .int k (k.wrap (a + b))) := by simp [evBin]
theorem evBin_sub (k : IntKind) (a b : Int) : evBin .sub (.val (.int k a)) (.val (.int k b)) = some (A.val <| .int k (k.wrap (a - b))) := by simp [evBin]
theorem evBin_mul (k : IntKind) (a b : Int) : evBin .mul (.val (.int k a)) (.val (.int k b)) = some (A.val <| .int k (k.wrap (a * b))) := by simp [evBin]
theorem evBin_lss (k : IntKind) (a b : Int) : evBin .lss (.val (.int k a)) (.val (.int k b)) = some (vb (decide (a < b))) := by simp [evBin]
theorem evBin_leq (k : IntKind) (a b : Int) : evBin .leq (.val (.int k a)) (.val (.int k b)) = some (vb (decide (a ≤ b))) := by simp [evBin]
theorem evBin_gtr (k : IntKind) (a b : Int) : evBin .gtr (.val (.int k a)) (.val (.int k b)) = some (vb (decide (b < a))) := by simp [evBin]
theorem evBin_geq (k : IntKind) (a b : Int) : evBin .geq (.val (.int k a)) (.val (.int k b)) = some (vb (decide (b ≤ a))) := by simp [evBin]
theorem evBin_quo (k : IntKind) (a b : Int) : evBin .quo (.val (.int k a)) (.val (.int k b)) = if b = 0 then none else some (A.val (.int k (k.wrap (a.tdiv b)))) := by simp [evBin]
theorem evBin_rem (k : IntKind) (a b : Int) : evBin .rem (.val (.int k a)) (.val (.int k b)) = if b = 0 then none else some (A.val (.int k (a.tmod b))) := by simp [evBin]
def shrK (k : IntKind) (a b : Int) : Int := a.fdiv (2 ^ min b.toNat k.bits)
theorem evBin_shr (k : IntKind) (a b : Int) : evBin .shr (.val (.int k a)) (.val (.int k b)) = if b < 0 then none else some (A.val (.int k (shrK k a b))) := by simp [evBin, shrK]
theorem evBin_shl (k : IntKind) (a b : Int) : evBin .shl (.val (.int k a)) (.val (.int k b)) = if b < 0 then none else some (A.val (.int k (k.wrap (a * 2 ^ min b.toNat k.bits)))) := by simp [evBin]
/-- Bits (kept closed while code is run). -/
def andK (k : IntKind) (a b : Int) : Int := k.wrap (BitVec.ofInt k.bits a &&& BitVec.ofInt k.bits b).toNat
def orK (k : IntKind) (a b : Int) : Int := k.wrap (BitVec.ofInt k.bits a ||| BitVec.ofInt k.bits b).toNat
def xorK (k : IntKind) (a b : Int) : Int := k.wrap (BitVec.ofInt k.bits a ^^^ BitVec.ofInt k.bits b).toNat
theorem evBin_and (k : IntKind) (a b : Int) : evBin .and (.val (.int k a)) (.val (.int k b)) = some (A.val (.int k (andK k a b))) := by simp [evBin, andK]
theorem evBin_or (k : IntKind) (a b : Int) : evBin .or (.val (.int k a)) (.val (.int k b)) = some (A.val (.int k (orK k a b))) := by simp [evBin, orK]
theorem evBin_xor (k : IntKind) (a b : Int) : evBin .xor (.val (.int k a)) (.val (.int k b)) = some (A.val (.int k (xorK k a b))) := by simp [evBin, xorK]
theorem evBin_seql (a b : ByteArray) : evBin .eql (.val (.string a)) (.val (.string b)) = some (vb (a.toList == b.toList)) := rfl
theorem evBin_sneq (a b : ByteArray) : evBin .neq (.val (.string a)) (.val (.string b)) = some (vb (!(a.toList == b.toList))) := rfl
theorem evBin_sadd (a b : ByteArray) : evBin .add (.val (.string a)) (.val (.string b)) = if a.size + b.size ≤ 70368744177664 then some (A.val (.string (a ++ b))) else none := rfl
/-! ### lists of operands, one by one -/
def fzL (e : Env) (bx : Bx) : List O → Option (List A)
  | [] => some []
  | x :: r => (frzR bx (x.ev e)).bind fun a => (fzL e bx r).bind fun l => some (a :: l)
def nmL (e : Env) : List O → List A
  | [] => []
  | x :: r => (x.ev e).norm :: nmL e r
def mpL (e : Env) : List O → List A
  | [] => []
  | x :: r => x.ev e :: mpL e r
def anyB (e : Env) : List O → Bool
  | [] => false
  | x :: r => (x.ev e).hasB || anyB e r
theorem fzL_nil (e bx) : fzL e bx [] = some [] := rfl
theorem fzL_cons (e bx x r) : fzL e bx (x :: r) = (frzR bx (x.ev e)).bind fun a => (fzL e bx r).bind fun l => some (a :: l) := rfl
theorem nmL_nil (e) : nmL e [] = [] := rfl
theorem nmL_cons (e x r) : nmL e (x :: r) = (x.ev e).norm :: nmL e r := rfl
theorem mpL_nil (e) : mpL e [] = [] := rfl
theorem mpL_cons (e x r) : mpL e (x :: r) = x.ev e :: mpL e r := rfl
theorem anyB_nil (e) : anyB e [] = false := rfl
theorem anyB_cons (e x r) : anyB e (x :: r) = ((x.ev e).hasB || anyB e r) := rfl
theorem fzL_eq (e bx) : ∀ xs, args0 e bx xs = fzL e bx xs
  | [] => rfl
  | x :: r => by
    have := fzL_eq e bx r
    unfold args0 at this ⊢
    rw [List.mapM_cons, this]; rfl
theorem nmL_eq (e) : ∀ xs : List O, (xs.map fun x => (x.ev e).norm) = nmL e xs
  | [] => rfl
  | x :: r => by rw [List.map_cons, nmL_eq e r]; rfl
theorem mpL_eq (e) : ∀ xs : List O, xs.map (O.ev e) = mpL e xs
  | [] => rfl
  | x :: r => by rw [List.map_cons, mpL_eq e r]; rfl
theorem anyB_eq (e) : ∀ xs : List O, (xs.any fun x => (x.ev e).hasB) = anyB e xs
  | [] => rfl
  | x :: r => by rw [List.any_cons, anyB_eq e r]; rfl
theorem evI_call (f xs keep) (e : Env) (bx : Bx) : evI Φ nb (.call f xs keep) e bx = (fzL e bx xs).bind fun as => (pureOf Φ keep f as).bind fun v => if anyB e xs = true ∧ v.scal = false then none else some (v, [], bx) := by
  show (match args0 e bx xs with | some as => (match pureOf Φ keep f as with | some v => if (xs.any fun x => (x.ev e).hasB) = true ∧ v.scal = false then none else some (v, [], bx) | none => none) | none => none) = _
  rw [fzL_eq, anyB_eq]
  cases fzL e bx xs with
  | none => rfl
  | some as => show (match pureOf Φ keep f as with | some v => _ | none => _) = (pureOf Φ keep f as).bind _
               cases pureOf Φ keep f as <;> rfl
theorem evI_calli (f xs) (e : Env) (bx : Bx) : evI Φ nb (.calli f xs) e bx = (Φ f (nmL e xs) bx).map (aft bx.length) := by
  rw [← nmL_eq]; rfl
/-- A call that makes boxes beside. -/
noncomputable def callnK (Φ : CallF) (f : Nat) (as : List A) (bx : Bx) : Option (A × List (Nat × A) × Bx) := ((Φ f as bx).map (aft bx.length)).bind (preQ bx)
theorem callnK_bs {Φ : CallF} {f : Nat} {as : List A} {bx n : Bx} {r k z : Nat} (h : Φ f as bx = some (.bs r k z, bx ++ n)) : callnK Φ f as bx = some (.bs r k z, [], strip (bx ++ n)) := by
  unfold callnK
  rw [h]
  show preQ bx (aft bx.length (.bs r k z, bx ++ n)) = _
  have e : aft bx.length (.bs r k z, bx ++ n) = (.bs r k z, [], strip (bx ++ n)) := by unfold aft; rw [if_neg (by simp [A.scal, A.isVal])]
  rw [e]
  exact preQ_is (strip n) (by unfold strip; rw [List.map_append])
theorem callnK_sl {Φ : CallF} {f : Nat} {as : List A} {bx n : Bx} {l : List A} {k g : Nat} (h : Φ f as bx = some (.sl l k g, bx ++ n)) : callnK Φ f as bx = some (.sl l k g, [], strip (bx ++ n)) := by
  unfold callnK
  rw [h]
  show preQ bx (aft bx.length (.sl l k g, bx ++ n)) = _
  have e : aft bx.length (.sl l k g, bx ++ n) = (.sl l k g, [], strip (bx ++ n)) := by unfold aft; rw [if_neg (by simp [A.scal, A.isVal])]
  rw [e]
  exact preQ_is (strip n) (by unfold strip; rw [List.map_append])
theorem evI_calln (f xs) (e : Env) (bx : Bx) : evI Φ nb (.calln f xs) e bx = callnK Φ f (nmL e xs) bx := by
  rw [← nmL_eq]; rfl
theorem evI_callz (nt f xs) (e : Env) (bx : Bx) : evI Φ nb (.callz nt f xs) e bx = if nb = 0 then (fzL e bx xs).bind fun as => (pureOf Φ false f as).bind fun v => some (v, frzE nt e bx, []) else none := by
  show (if nb = 0 then (match args0 e bx xs with | some as => (match pureOf Φ false f as with | some v => some (v, frzE nt e bx, []) | none => none) | none => none) else none) = _
  rw [fzL_eq]
  cases fzL e bx xs with
  | none => rfl
  | some as => show (if nb = 0 then (match pureOf Φ false f as with | some v => _ | none => _) else none) = if nb = 0 then (pureOf Φ false f as).bind _ else none
               cases pureOf Φ false f as <;> rfl
theorem puts_frzE (nt : Nat) (e e' : Env) (bx : Bx) (i : Nat) : puts (frzE nt e bx) e' i = if i < nt then (frzR bx (e i)).getD .any else e' i := puts_range _ _ _ _
def callvK (Φ : CallF) (as : List A) (bx : Bx) : A → Option (A × List (Nat × A) × Bx)
  | .fn f caps => (Φ f (as ++ caps.map fun p => .ptr p.1 p.2) bx).map (aft bx.length)
  | _ => none
theorem callvK_fn (as bx f caps) : callvK Φ as bx (.fn f caps) = (Φ f (as ++ caps.map fun p => .ptr p.1 p.2) bx).map (aft bx.length) := rfl
theorem evI_callv (x xs) (e : Env) (bx : Bx) : evI Φ nb (.callv x xs) e bx = callvK Φ (nmL e xs) bx (x.ev e) := by
  rw [← nmL_eq]; unfold callvK; simp only [evI]; cases x.ev e <;> rfl
def mxnK (isMax : Bool) (bx : Bx) : List A → Option (A × List (Nat × A) × Bx)
  | .val (.int .i64 a) :: r => (foldM isMax a r).map fun v => (.val (.int .i64 v), [], bx)
  | _ => none
theorem mxnK_cons (isMax bx a r) : mxnK isMax bx (vi a :: r) = (foldM isMax a r).map fun v => (.val (.int .i64 v), [], bx) := rfl
theorem evI_mxn (m xs) (e : Env) (bx : Bx) : evI Φ nb (.mxn m xs) e bx = mxnK m bx (mpL e xs) := by
  rw [← mpL_eq]; rfl
theorem ob_ite {α β} {c : Prop} [Decidable c] (a b : Option α) (f : α → Option β) : (if c then a else b).bind f = if c then a.bind f else b.bind f := by split <;> rfl
theorem ob_none {α β} (f : α → Option β) : (none : Option α).bind f = none := rfl
theorem ob_some {α β} (a : α) (f : α → Option β) : (some a).bind f = f a := rfl
theorem om_some {α β} (a : α) (f : α → β) : (some a).map f = some (f a) := rfl
theorem om_ite {α β} {c : Prop} [Decidable c] (a b : Option α) (f : α → β) : (if c then a else b).map f = if c then a.map f else b.map f := by split <;> rfl
theorem om_none {α β} (f : α → β) : (none : Option α).map f = none := rfl
theorem ite_vb {c : Prop} [Decidable c] (x y : Bool) : (if c then vb x else vb y) = vb (if c then x else y) := by split <;> rfl
theorem ite_vi {c : Prop} [Decidable c] (x y : Int) : (if c then vi x else vi y) = vi (if c then x else y) := by split <;> rfl
theorem callL_tab {f : Nat} {F : CFun} (args : List A) (bx : Bx) (hx : ext f args bx = none) (ht : tab f = some F) (hl : args.length = F.np) :
    callL tab ext f args bx = (evL tab ext bx.length F.body (initFrom 0 args, bx)).bind (resK F) := by
  unfold callL callOf; rw [hx]; simp only [ht, if_pos hl]
  show (match evL tab ext bx.length F.body (initFrom 0 args, bx) with | some (.nor, s) => (resultOf F s).map (fun v => (v, s.2)) | some (.ret, s) => (resultOf F s).map (fun v => (v, s.2)) | _ => none) = _
  rcases evL tab ext bx.length F.body (initFrom 0 args, bx) with _ | ⟨o, s1⟩
  · rfl
  · cases o <;> simp only [Option.bind, resK] <;> cases resultOf F s1 <;> rfl
/-- A call of which only the answer counts. -/
theorem pureOf_eq {keep f args r bx v} (h : Φ f args [] = some (r, bx)) (hz : frz keep bx r = some v) : pureOf Φ keep f args = some v := by
  unfold pureOf; rw [h]; exact hz
/-! what runs code step by step, as one set -/
attribute [push_cast] puts_frzE Option.bind_assoc eL_seq eL_reg eL_dreg clr_nil clr_cons neOk_nil neOk_cons neK_ptr eL_ret eL_skip eL_exit eL_scope eL_cond eL_block gJ_nil gJ_n gJ_g ob_ite ob_none ob_some om_some om_none om_ite seqG_nor seqG_ex seqG_ret blkK_nor blkK_ex blkK_ret resK_nor resK_ret condK_vb runG_some runG_none puts_nil puts_cons gdOf_some guardX_t guardX_f guardX_u guardX_ite gd_ite gd_ite' gd_ite2 gd_ite2' mrg_no mrg_yes mrg_ite mrg_ite' ite_vb ite_vi fzL_nil fzL_cons nmL_nil nmL_cons mpL_nil mpL_cons anyB_nil anyB_cons callvK_fn mxnK_cons evI eqz_self evBin_eql evBin_neq initFrom putO put_at O.ev evBin_add evBin_sub evBin_mul evBin_lss evBin_leq evBin_gtr evBin_geq evBin_quo evBin_rem evBin_shr evBin_shl evBin_and evBin_or evBin_xor evBin_seql evBin_sneq evBin_sadd evUn A.cp A.cp1 A.own A.norm A.norm1 cst cst1 takeU resultOf resVal A.isR A.isC A.isV A.cells Value.oneCell' frz frzR frzC A.hasB A.scal A.isVal optInt okCell fillA capsOf
end Go.Proofs.YtkohggddaheefaaEv
/- From an answer of compact code to a call of the program. -/
namespace Go.Proofs.YtkohggddaheefaaEv
open Go Go.RowKit
theorem Rep.ofVal {w : World} {lim μ : Nat → Nat} {m : Nat} {u x : Value} (h : Rep w lim μ m u (.val x)) : u = x := by
  cases h with
  | r h => cases h with
    | c h => cases h with
      | v h => cases h with
        | val => rfl
theorem law_true {P : Program} {Φ : CallF} (hs : SoundF P Φ) {f : Nat} {xs : List A} {junk : Bx} (h : Φ f xs [] = some (vb true, junk)) (w : World) (lim : Nat → Nat) (vs : Array Value)
    (hsz : vs.size = xs.length) (hr : ∀ i (h : i < xs.length), Rep w lim id 0 (vs.getD i undef) xs[i] ∧ n2 xs[i]) (hg : GlobOk w id 0) :
    Calls P f vs w fun e w' => e = .returned (.bool true) ∧ Below w.heap.size w w' := by
  have hb : BoxRep w lim id ([] : Bx) := ⟨fun r h => absurd h (Nat.not_lt_zero _), fun r h => absurd h (Nat.not_lt_zero _), fun r _ h => absurd h (Nat.not_lt_zero _)⟩
  obtain ⟨_, _, hc⟩ := hs f xs [] (vb true) junk h w lim id vs hsz hr hb hg
  refine hc.mono fun e w' ⟨v, lim', μ', he, _, hbut, _, _, _, _, hrep⟩ => ?_
  obtain rfl := hrep.ofVal
  exact ⟨he, hbut.below⟩
end Go.Proofs.YtkohggddaheefaaEv
