/- A region's schedule is one of the orders that come to the same. -/
import Derived.Test.YtclebnamhpgdmaaGreatEvN
namespace Go.Proofs.YtclebnamhpgdmaaGreatEv
open Go Go.RowKit
set_option linter.unusedSimpArgs false
set_option linter.unusedVariables false

theorem len_le_of_lt : ∀ (n : Nat) (l : List Nat), l.Nodup → (∀ x ∈ l, x < n) → l.length ≤ n
  | 0, l, _, h => by
    cases l with
    | nil => simp
    | cons x l => exact absurd (h x (by simp)) (Nat.not_lt_zero _)
  | n + 1, l, hn, h => by
    by_cases hm : n ∈ l
    · have h1 := len_le_of_lt n (l.erase n) (hn.erase n) (fun x hx => by
        have h2 := h x (List.mem_of_mem_erase hx)
        have h3 : x ≠ n := fun e => by subst e; exact (List.Nodup.not_mem_erase hn) hx
        omega)
      rw [List.length_erase_of_mem hm] at h1
      omega
    · have := len_le_of_lt n l hn (fun x hx => by
        have h2 := h x hx
        have h3 : x ≠ n := fun e => hm (e ▸ hx)
        omega)
      omega

theorem all_in {n : Nat} {l : List Nat} (hn : l.Nodup) (h : ∀ x ∈ l, x < n) (hl : n ≤ l.length) {i : Nat} (hi : i < n) : i ∈ l := by
  by_cases hm : i ∈ l
  · exact hm
  · have := len_le_of_lt n (i :: l) (List.nodup_cons.2 ⟨hm, hn⟩) (fun x hx => by
      rcases List.mem_cons.1 hx with rfl | hx
      · exact hi
      · exact h x hx)
    simp at this; omega

/-- 'q' must wait for 'p'. -/
def Waits (m : Region.Mode) (ops : Array Oper) (p q : Nat) : Prop := ∃ o, ops[q]? = some o ∧ ∃ e ∈ o.after.toList, Region.binds m e = true ∧ e.on = p

/-- What a listing keeps. -/
structure Listed (m : Region.Mode) (ops : Array Oper) (σ : List Nat) : Prop where
  nodup : σ.Nodup
  lt : ∀ x ∈ σ, x < ops.size
  ord : ∀ A q B, σ = A ++ q :: B → ∀ p, Waits m ops p q → p ∈ A

def topoGo (m : Region.Mode) (ops : Array Oper) : List Nat → List Nat → Bool
  | _, [] => true
  | seen, i :: r => (match ops[i]? with | some o => o.after.toList.all fun e => !Region.binds m e || seen.contains e.on | none => false) && topoGo m ops (i :: seen) r

def topoOk (m : Region.Mode) (ops : Array Oper) (r : List Nat) : Bool := topoGo m ops [] r && (List.range ops.size).all fun i => r.contains i

def lready (m : Region.Mode) (ops : Array Oper) (listed : Array Bool) (i : Nat) : Bool :=
  !listed.getD i true && ((ops[i]?).map (·.after.all fun e => !Region.binds m e || listed.getD e.on false)).getD false

theorem topo_ready (m : Region.Mode) (ops : Array Oper) (listed : Array Bool) (acc : List Nat) (hs : listed.size = ops.size) (hL : ∀ i, i < ops.size → (listed.getD i true = true ↔ i ∈ acc)) :
    ∀ (r seen : List Nat), topoGo m ops seen r = true → (∀ x ∈ seen, x ∈ acc ∧ x < ops.size) → (∃ i ∈ r, i ∉ acc) → ∃ i, i < ops.size ∧ lready m ops listed i = true
  | [], _, _, _, h => by simp at h
  | x :: r, seen, ht, hseen, hex => by
    simp only [topoGo, Bool.and_eq_true] at ht
    obtain ⟨h1, h2⟩ := ht
    cases ho : ops[x]? with
    | none => simp [ho] at h1
    | some o =>
      have hx : x < ops.size := by
        rcases Nat.lt_or_ge x ops.size with h' | h'
        · exact h'
        · simp [Array.getElem?_eq_none h'] at ho
      simp only [ho] at h1
      by_cases hxa : x ∈ acc
      · refine topo_ready m ops listed acc hs hL r (x :: seen) h2 ?_ ?_
        · intro y hy
          rcases List.mem_cons.1 hy with rfl | hy
          · exact ⟨hxa, hx⟩
          · exact hseen y hy
        · obtain ⟨i, hi, hia⟩ := hex
          rcases List.mem_cons.1 hi with rfl | hi
          · exact absurd hxa hia
          · exact ⟨i, hi, hia⟩
      · refine ⟨x, hx, ?_⟩
        have hl : listed.getD x true = false := by
          cases hb : listed.getD x true with
          | false => rfl
          | true => exact absurd ((hL x hx).1 hb) hxa
        simp only [lready, hl, ho, Option.map_some, Option.getD_some, Bool.not_false, Bool.true_and]
        rw [Array.all_eq_true]
        intro k hk
        have := List.all_eq_true.1 h1 o.after[k] (by simp)
        simp only [Bool.or_eq_true, Bool.not_eq_true', List.contains_eq_mem, decide_eq_true_eq] at this ⊢
        rcases this with h | h
        · exact .inl h
        · right
          obtain ⟨k1, k2⟩ := hseen _ h
          have := (hL _ k2).2 k1
          rw [Array.getD_eq_getD_getElem?] at this ⊢
          rw [Array.getElem?_eq_getElem (by omega)] at this ⊢
          exact this

theorem go_spec (m : Region.Mode) (ops : Array Oper) (r : List Nat) (hr : topoOk m ops r = true) : ∀ (fuel t : Nat) (listed : Array Bool) (acc : List Nat),
    listed.size = ops.size → (∀ i, i < ops.size → (listed.getD i true = true ↔ i ∈ acc)) → Listed m ops acc.reverse → fuel + acc.length = ops.size →
    Listed m ops (Region.linearise.go m ops fuel t listed acc) ∧ ∀ i, i < ops.size → i ∈ Region.linearise.go m ops fuel t listed acc
  | 0, t, listed, acc, hs, hL, hA, hlen => by
    refine ⟨hA, fun i hi => ?_⟩
    have h1 : acc.Nodup := (List.reverse_perm acc).nodup_iff.1 hA.nodup
    have := all_in h1 (fun x hx => hA.lt x (by simpa using hx)) (by omega) hi
    simpa [Region.linearise.go] using this
  | fuel + 1, t, listed, acc, hs, hL, hA, hlen => by
    unfold Region.linearise.go
    simp only
    have hrs : ((List.range ops.size).filter fun i => !listed.getD i true && ((ops[i]?).map (·.after.all fun e => !Region.binds m e || listed.getD e.on false)).getD false) = (List.range ops.size).filter (lready m ops listed) := rfl
    rw [hrs]
    split
    · rename_i i hi
      have hmem := List.mem_of_getElem? hi
      simp only [List.mem_filter, List.mem_range] at hmem
      obtain ⟨hlt, hrd⟩ := hmem
      simp only [lready, Bool.and_eq_true, Bool.not_eq_true'] at hrd
      obtain ⟨hr1, hr2⟩ := hrd
      have hni : i ∉ acc := fun h => by have := (hL i hlt).2 h; rw [hr1] at this; cases this
      refine go_spec m ops r hr fuel _ _ (i :: acc) (by simpa using hs) ?_ ⟨?_, ?_, ?_⟩ (by simp; omega)
      · intro k hk
        have hg : (listed.setIfInBounds i true).getD k true = if k = i then true else listed.getD k true := by
          simp only [Array.getD_eq_getD_getElem?, Array.getElem?_setIfInBounds]
          by_cases e : i = k
          · subst e; simp [hs, hlt]
          · have : ¬ k = i := fun x => e x.symm
            simp [e, this]
        rw [hg]
        by_cases e : k = i
        · simp [e]
        · rw [if_neg e, hL k hk]; simp [e]
      · rw [List.reverse_cons, List.nodup_append]
        exact ⟨hA.nodup, by simp, fun a ha b hb => by simp at hb; subst hb; intro e; subst e; exact hni (by simpa using ha)⟩
      · intro x hx
        rw [List.reverse_cons, List.mem_append] at hx
        rcases hx with hx | hx
        · exact hA.lt x hx
        · simp at hx; omega
      · intro A q B heq p hw
        rw [List.reverse_cons] at heq
        by_cases hB : B = []
        · subst hB
          have := List.append_inj' heq rfl
          obtain ⟨rfl, h2⟩ := this
          cases h2
          obtain ⟨o, ho, e, he, hb, rfl⟩ := hw
          rw [ho] at hr2
          simp only [Option.map_some, Option.getD_some] at hr2
          rw [Array.all_eq_true] at hr2
          obtain ⟨k, hk, hek⟩ := List.getElem_of_mem he
          have h3 := hr2 k (by simpa using hk)
          have hek' : o.after[k]'(by simpa using hk) = e := by simpa using hek
          rw [hek'] at h3
          simp only [hb, Bool.not_true, Bool.false_or] at h3
          have hlt2 : e.on < ops.size := by
            rcases Nat.lt_or_ge e.on ops.size with h' | h'
            · exact h'
            · rw [Array.getD_eq_getD_getElem?, Array.getElem?_eq_none (by omega)] at h3; cases h3
          have h4 : listed.getD e.on true = true := by
            rw [Array.getD_eq_getD_getElem?] at h3 ⊢
            rw [Array.getElem?_eq_getElem (by omega)] at h3 ⊢
            exact h3
          have := (hL _ hlt2).1 h4
          simpa using this
        · obtain ⟨B', z, rfl⟩ := (List.eq_nil_or_concat B).resolve_left hB
          have h5 : acc.reverse ++ [i] = (A ++ q :: B') ++ [z] := by simpa using heq
          obtain ⟨h6, _⟩ := List.append_inj' h5 rfl
          exact hA.ord A q B' h6 p hw
    · rename_i hnone
      refine ⟨hA, fun i hi => ?_⟩
      have hemp : (List.range ops.size).filter (lready m ops listed) = [] := by
        cases hc : (List.range ops.size).filter (lready m ops listed) with
        | nil => rfl
        | cons x l =>
          rw [hc] at hnone
          have : t % (x :: l).length < (x :: l).length := Nat.mod_lt _ (by simp)
          rw [List.getElem?_eq_getElem this] at hnone
          cases hnone
      by_cases hia : i ∈ acc
      · simpa using hia
      · simp only [topoOk, Bool.and_eq_true, List.all_eq_true, List.mem_range, List.contains_eq_mem, decide_eq_true_eq] at hr
        obtain ⟨k, hk1, hk2⟩ := topo_ready m ops listed acc hs hL r [] hr.1 (by simp) ⟨i, hr.2 i hi, hia⟩
        have : k ∈ (List.range ops.size).filter (lready m ops listed) := by simp [hk1, hk2]
        rw [hemp] at this
        simp at this

theorem lin_spec (m : Region.Mode) (ops : Array Oper) (r : List Nat) (hr : topoOk m ops r = true) (t : Nat) :
    Listed m ops (Region.linearise m ops t) ∧ ∀ i, i < ops.size → i ∈ Region.linearise m ops t := by
  unfold Region.linearise
  refine go_spec m ops r hr _ _ _ _ (by simp) (fun i hi => ?_) ⟨by simp, by simp, ?_⟩ (by simp)
  · simp [Array.getD_eq_getD_getElem?, hi]
  · intro A q B h
    simp at h

/-! ### who must wait for whom, closed -/
inductive Anc (ops : Array Oper) : Nat → Nat → Prop
  | one {p q} (h : Waits .any ops p q) : Anc ops p q
  | step {p r q} (h : Anc ops p r) (h' : Waits .any ops r q) : Anc ops p q

def befF (acc : List Nat) (s : Nat) (e : Edge) : Nat := if Region.binds .any e then s ||| 2 ^ e.on ||| acc.getD e.on 0 else s
def befs : List Nat → List Oper → List Nat
  | acc, [] => acc
  | acc, o :: r => befs (acc ++ [o.after.toList.foldl (befF acc) 0]) r

theorem befF_spec (acc : List Nat) (p : Nat) : ∀ (es : List Edge) (s : Nat), (es.foldl (befF acc) s).testBit p = true → s.testBit p = true ∨ ∃ e ∈ es, Region.binds .any e = true ∧ (e.on = p ∨ (acc.getD e.on 0).testBit p = true)
  | [], s, h => .inl h
  | e :: es, s, h => by
    rw [List.foldl_cons] at h
    rcases befF_spec acc p es _ h with h1 | ⟨e', he', h2⟩
    · unfold befF at h1
      split at h1
      · rename_i hb
        rw [Nat.testBit_or, Nat.testBit_or, Nat.testBit_two_pow] at h1
        simp only [Bool.or_eq_true, decide_eq_true_eq] at h1
        rcases h1 with (h1 | h1) | h1
        · exact .inl h1
        · exact .inr ⟨e, by simp, hb, .inl h1⟩
        · exact .inr ⟨e, by simp, hb, .inr h1⟩
      · exact .inl h1
    · exact .inr ⟨e', by simp [he'], h2⟩

theorem befs_spec (ops : Array Oper) : ∀ (r : List Oper) (acc : List Nat), acc.length + r.length = ops.size → (∀ k, k < r.length → ops[acc.length + k]? = r[k]?) →
    (∀ q p, ((acc.getD q 0).testBit p = true) → Anc ops p q) → ∀ q p, (((befs acc r).getD q 0).testBit p = true) → Anc ops p q
  | [], acc, _, _, h, q, p, hq => h q p hq
  | o :: r, acc, hl, hk, h, q, p, hq => by
    refine befs_spec ops r (acc ++ [o.after.toList.foldl (befF acc) 0]) (by simp at hl ⊢; omega) (fun k hk' => ?_) (fun q p hqp => ?_) q p hq
    · have := hk (k + 1) (by simp; omega)
      simp only [List.getElem?_cons_succ] at this
      rw [← this]; congr 1; simp; omega
    · by_cases hlt : q < acc.length
      · refine h q p ?_
        rwa [List.getD_eq_getElem?_getD, List.getElem?_append_left hlt, ← List.getD_eq_getElem?_getD] at hqp
      · rw [List.getD_eq_getElem?_getD, List.getElem?_append_right (by omega)] at hqp
        by_cases he : q = acc.length
        · subst he
          simp only [Nat.sub_self, List.getElem?_cons_zero, Option.getD_some] at hqp
          have ho := hk 0 (by simp)
          simp only [Nat.add_zero, List.getElem?_cons_zero] at ho
          rcases befF_spec acc p _ 0 hqp with h1 | ⟨e, he, hb, h2 | h2⟩
          · simp at h1
          · exact .one ⟨o, ho, e, he, hb, h2⟩
          · exact .step (h e.on p h2) ⟨o, ho, e, he, hb, rfl⟩
        · have : ([o.after.toList.foldl (befF acc) 0])[q - acc.length]? = none := by
            rw [List.getElem?_eq_none]; simp; omega
          rw [this] at hqp
          simp at hqp

theorem binds_any {m : Region.Mode} {e : Edge} (h : Region.binds .any e = true) : Region.binds m e = true := by
  unfold Region.binds at h ⊢
  cases hg : e.ground <;> simp [hg] at h ⊢

theorem Waits.of_any {m ops p q} (h : Waits .any ops p q) : Waits m ops p q := by
  obtain ⟨o, ho, e, he, hb, hp⟩ := h
  exact ⟨o, ho, e, he, binds_any hb, hp⟩

theorem Listed.anc {m ops σ} (h : Listed m ops σ) {p q : Nat} (ha : Anc ops p q) : ∀ A B, σ = A ++ q :: B → p ∈ A := by
  induction ha with
  | one hw => intro A B e; exact h.ord A _ B e _ (.of_any hw)
  | step h1 hw ih =>
    rename_i r q
    intro A B e
    have hr := h.ord A _ B e _ (.of_any hw)
    obtain ⟨A1, A2, rfl⟩ := List.append_of_mem hr
    have := ih A1 (A2 ++ q :: B) (by rw [e]; simp)
    simp [this]

/-- The pairs that touch each other wait for each other. -/
def pairsOk (ind : J → J → Bool) (js : List J) (b : List Nat) : Bool :=
  (List.range js.length).all fun q => (List.range q).all fun p => ind (js.getD p default) (js.getD q default) || (b.getD q 0).testBit p

def drawOkI (ind : J → J → Bool) (mixed : Bool) (ops : Array Oper) (js : List J) : Bool :=
  pairsOk ind js (befs [] ops.toList) && topoOk .any ops (List.range ops.size) &&
  (mixed || !Region.departs ops || (topoOk .text ops (List.range ops.size) && topoOk .gc ops (Region.linearise .gc ops 0)))
def drawOk (mixed : Bool) (ops : Array Oper) (js : List J) : Bool := drawOkI indep mixed ops js

theorem pairwise_of {R : Nat → Nat → Prop} : ∀ (σ : List Nat), (∀ A q B, σ = A ++ q :: B → ∀ p ∈ B, R q p) → σ.Pairwise R
  | [], _ => List.Pairwise.nil
  | q :: σ, h => List.Pairwise.cons (fun p hp => h [] q σ rfl p hp) (pairwise_of σ fun A r B e p hp => h (q :: A) r B (by rw [e]; rfl) p hp)

theorem schedule_soundI {Φ : CallF} {nb : Nat} {K : Env × Bx → Prop} {ind : J → J → Bool} {S : J → Prop} (hC : Comm Φ nb K ind S) {mixed : Bool} {ops : Array Oper} {js : List J} (hlen : js.length = ops.size) (hS : ∀ j ∈ js, S j) (hok : drawOkI ind mixed ops js = true) (t : Nat) (s s2) (hK : K s) (h : evJs Φ nb js s = some s2) :
    (∀ i ∈ Region.schedule mixed ops t, i < ops.size) ∧ evJs Φ nb ((Region.schedule mixed ops t).map fun i => js.getD i default) s = some s2 := by
  simp only [drawOkI, Bool.and_eq_true, Bool.or_eq_true, Bool.not_eq_true'] at hok
  obtain ⟨⟨hp, hany⟩, hmode⟩ := hok
  obtain ⟨m, hL, hall⟩ : ∃ m, Listed m ops (Region.schedule mixed ops t) ∧ ∀ i, i < ops.size → i ∈ Region.schedule mixed ops t := by
    unfold Region.schedule
    split
    · obtain ⟨a, b⟩ := lin_spec .any ops _ hany t; exact ⟨_, a, b⟩
    · rename_i hc
      simp only [Bool.or_eq_true, Bool.not_eq_true', not_or] at hc
      rcases hmode with (hm | hm) | hm
      · exact absurd hm hc.1
      · exact absurd hm hc.2
      · split
        · obtain ⟨a, b⟩ := lin_spec .text ops _ hm.1 (t / 2); exact ⟨_, a, b⟩
        · obtain ⟨a, b⟩ := lin_spec .gc ops _ hm.2 (t / 2); exact ⟨_, a, b⟩
  refine ⟨hL.lt, ?_⟩
  refine perm_sound hC (fun i => js.getD i default) (List.range ops.size) _ s s2 (fun x hx => ?_) hK ?_ hL.nodup (fun x => ⟨fun hx => hall x (by simpa using hx), fun hx => by simpa using hL.lt x hx⟩) ?_ ?_
  · have hx : x < js.length := by rw [hlen]; simpa using hx
    simp only [List.getD_eq_getElem?_getD, List.getElem?_eq_getElem hx, Option.getD_some]
    exact hS _ (List.getElem_mem hx)
  · exact List.pairwise_lt_range
  · refine pairwise_of _ fun A q B e p hpB => ?_
    rintro ⟨hlt, hi⟩
    have hq : q < ops.size := hL.lt q (by rw [e]; simp)
    simp only [pairsOk, List.all_eq_true, List.mem_range, Bool.or_eq_true] at hp
    rcases hp q (by omega) p hlt with h1 | h1
    · rw [hi] at h1; cases h1
    · have hanc := befs_spec ops ops.toList [] (by simp) (fun k hk => by simp) (fun q p h => by simp at h) q p h1
      have hpA := hL.anc hanc A B e
      have hn := hL.nodup
      rw [e, List.nodup_append] at hn
      exact hn.2.2 p hpA p (by simp [hpB]) rfl
  · have : (List.range ops.size).map (fun i => js.getD i default) = js := by
      apply List.ext_getElem
      · simp [hlen]
      · intro i h1 h2; simp [h2]
    rw [this]; exact h
theorem schedule_sound (Φ : CallF) (nb : Nat) {mixed : Bool} {ops : Array Oper} {js : List J} (hlen : js.length = ops.size) (hok : drawOk mixed ops js = true) (t : Nat) (s s2) (h : evJs Φ nb js s = some s2) :
    (∀ i ∈ Region.schedule mixed ops t, i < ops.size) ∧ evJs Φ nb ((Region.schedule mixed ops t).map fun i => js.getD i default) s = some s2 :=
  schedule_soundI (comm_plain Φ nb) hlen (fun _ _ => trivial) hok t s s2 trivial h
/-- What has a root in a region; the pairs of roots that must differ. -/
def clOf (js : List J) : List (Nat × Nat) := js.filterMap fun j => match j with
  | ⟨some y, .fa _ (.t b), none⟩ => if (js.any fun k => (writesJ k).contains b) then none else some (y, b)
  | _ => none
def neOf (cl : List (Nat × Nat)) (js : List J) : List (Nat × Nat) := js.filterMap fun p => match ptrS p with
    | some x => (js.findSome? fun q => match ptrL q with
      | some y => if indep p q then none else some (rootOf cl x, rootOf cl y)
      | none => none)
    | none => none
end Go.Proofs.YtclebnamhpgdmaaGreatEv
