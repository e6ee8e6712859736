/- sorted.Put, walked. -/
import Derived.Test.YtgndbkeiickihaaPutX
import Derived.WalkMore
import Derived.LoopN
import Derived.Deep.LoopGhost
import Derived.Deep.QuietTactic
set_option linter.unusedSimpArgs false
set_option linter.unusedVariables false
namespace Go.Proofs.YtgndbkeiickihaaEv
open Go Go.RowKit Go.Proofs.YtgndbkeiickihaaIns
set_option maxHeartbeats 1000000
set_option maxRecDepth 100000
/-- The cells of items. -/
def cellsI (S : List It) : List Value := S.flatMap fun x => [.int .i64 x.key, .int .i64 x.id]
/-- What Sort leaves. -/
def SortPost (W : World) (S : List It) (e : Ending) (w' : World) : Prop := ∃ q c, e = .returned (.slice q S.length c) ∧ Below W.heap.size W w' ∧
  ((S = [] ∧ NoRoom q ∧ c = 0) ∨ ∃ b row t, q = some ⟨b, 0, none⟩ ∧ W.heap.size ≤ b ∧ w'.heap[b]? = some (.cells row t (0, 0)) ∧ c * 2 ≤ row.size ∧ S.length ≤ c ∧ ∀ j v, (cellsI S)[j]? = some v → w'.cell? ⟨b, j, none⟩ = some v)
theorem cellsI_at (S : List It) (j : Nat) (hj : j < S.length) : (cellsI S).drop (j * 2) = .int .i64 (S.getD j default).key :: .int .i64 (S.getD j default).id :: (cellsI S).drop (j * 2 + 2) := by
  induction S generalizing j with
  | nil => exact absurd hj (Nat.not_lt_zero _)
  | cons y S ih =>
    cases j with
    | zero => rfl
    | succ j =>
      have := ih j (by simpa using hj)
      rw [show (j + 1) * 2 = j * 2 + 2 by omega]
      exact this
theorem cellsI_key (S : List It) (j : Nat) (hj : j < S.length) : (cellsI S)[j * 2]? = some (.int .i64 (S.getD j default).key) := by
  have := List.getElem?_drop (xs := cellsI S) (i := j * 2) (j := 0)
  rw [cellsI_at S j hj] at this
  exact this.symm
def PutPost (W : World) (L : List It) (e : Ending) (w' : World) : Prop := ∃ b c, e = .returned (.slice (some ⟨b, 0, none⟩) L.length c) ∧ L.length ≤ c ∧ Below W.heap.size W w' ∧ W.heap.size ≤ b ∧ ∀ j v, (cellsI L)[j]? = some v → w'.cell? ⟨b, j, none⟩ = some v
theorem cellsI_len (S : List It) : (cellsI S).length = S.length * 2 := by
  induction S with
  | nil => rfl
  | cons y S ih =>
    have : cellsI (y :: S) = .int .i64 y.key :: .int .i64 y.id :: cellsI S := rfl
    rw [this, List.length_cons, List.length_cons, ih, List.length_cons]; omega
theorem cellsI_one (S : List It) : ∀ v ∈ cellsI S, v.oneCell' = true := by
  intro v hv
  simp only [cellsI, List.mem_flatMap] at hv
  obtain ⟨x, _, hx⟩ := hv
  simp only [List.mem_cons, List.not_mem_nil, or_false] at hx
  rcases hx with rfl | rfl <;> rfl
theorem cellsI_app (S T : List It) : cellsI (S ++ T) = cellsI S ++ cellsI T := List.flatMap_append
theorem cellsI_take (S : List It) (i : Nat) (hi : i ≤ S.length) : cellsI (S.take i) = (cellsI S).take (i * 2) ∧ cellsI (S.drop i) = (cellsI S).drop (i * 2) := by
  have h : cellsI S = cellsI (S.take i) ++ cellsI (S.drop i) := by rw [← cellsI_app, List.take_append_drop]
  have hl : (cellsI (S.take i)).length = i * 2 := by rw [cellsI_len, List.length_take]; omega
  rw [h, ← hl]
  exact ⟨by rw [List.take_left'] ; rfl, by rw [List.drop_left']; rfl⟩
theorem one_cells (w : World) (x : It) (j : Nat) (v : Value) (h : (cellsI [x])[j]? = some v) : (w.alloc (.cells #[.int .i64 x.key, .int .i64 x.id] 24)).cell? ⟨w.heap.size, j, none⟩ = some v := by
  rw [World.cell?_alloc_at (w := w) _ _ w.heap.size j rfl, ← h]
  exact (List.getElem?_toArray ..)
theorem ins_w (S : List It) (x : It) (hS : S.length ≤ 900) (b c : Nat) (row : Array Value) (t : TypeId) (w : World) (hbr : w.heap[b]? = some (.cells row t (0, 0))) (hc : c * 2 ≤ row.size) (hn : S.length ≤ c)
    (hcs : ∀ j v, (cellsI S)[j]? = some v → w.cell? ⟨b, j, none⟩ = some v) (W : World) (hB : Below W.heap.size W w) (hb : W.heap.size ≤ b) (i : Nat) (hi : i ≤ S.length) (vc : Nat) :
    Calls Try.prog 34 #[.slice (some ⟨b, 0, none⟩) S.length c, .int .i64 i, .slice (some ⟨w.heap.size, 0, none⟩) 1 vc] (w.alloc (.cells #[.int .i64 x.key, .int .i64 x.id] 24)) (PutPost W (S.take i ++ x :: S.drop i)) := by
  have hbw := lt_of_heap hbr
  have ha : Below w.heap.size w (w.alloc (.cells #[.int .i64 x.key, .int .i64 x.id] 24)) := alloc_below w _
  have h1 := ins_all (w.alloc (.cells #[.int .i64 x.key, .int .i64 x.id] 24)) b w.heap.size S.length c i row #[.int .i64 x.key, .int .i64 x.id] t 24 (cellsI S) (cellsI [x]) ((ha.block b hbw).trans hbr) hc hn (by omega) hi (cellsI_len S)
    (fun j v h => (ha.cell hbw).trans (hcs j v h)) (cellsI_one S) (heap_alloc_new w _) (by omega) rfl (one_cells w x) (cellsI_one [x]) vc
  refine h1.mono ?_
  rintro e w' ⟨b', c', rfl, hc', ho, ht, hu, hz, hk, hb', _, hcells⟩
  have hl : (S.take i ++ x :: S.drop i).length = S.length + 1 := by simp only [List.length_append, List.length_cons, List.length_take, List.length_drop]; omega
  refine ⟨b', c', by rw [hl], by rw [hl]; exact hc', hB.trans ?_, ?_, fun j v h => hcells j v ?_⟩
  · have h2 := ha.mono hB.size
    refine h2.trans ⟨ho, ht, hu, hz, fun k hk1 => hk k ?_ (by omega)⟩
    have := ha.size; have := hB.size; omega
  · have := ha.size; have := hB.size; omega
  · have e : cellsI (S.take i ++ x :: S.drop i) = (cellsI S).take (i * 2) ++ cellsI [x] ++ (cellsI S).drop (i * 2) := by
      rw [show S.take i ++ x :: S.drop i = S.take i ++ [x] ++ S.drop i by simp, cellsI_app, cellsI_app, (cellsI_take S i hi).1, (cellsI_take S i hi).2]
    rw [← e]; exact h
theorem ins_w0 (x : It) (q : Option Addr) (w : World) (W : World) (hB : Below W.heap.size W w) (vc : Nat) :
    Calls Try.prog 34 #[.slice q 0 0, .int .i64 0, .slice (some ⟨w.heap.size, 0, none⟩) 1 vc] (w.alloc (.cells #[.int .i64 x.key, .int .i64 x.id] 24)) (PutPost W [x]) := by
  have ha : Below w.heap.size w (w.alloc (.cells #[.int .i64 x.key, .int .i64 x.id] 24)) := alloc_below w _
  have h1 := ins_none (w.alloc (.cells #[.int .i64 x.key, .int .i64 x.id] 24)) q w.heap.size (cellsI [x]) rfl (one_cells w x) (cellsI_one [x]) vc
  refine h1.mono ?_
  rintro e w' ⟨b', c', rfl, hc', ho, ht, hu, hz, hk, hb', _, hcells⟩
  have hsz : (w.alloc (.cells #[.int .i64 x.key, .int .i64 x.id] 24)).heap.size = w.heap.size + 1 := Array.size_push ..
  have := hB.size
  exact ⟨b', c', rfl, hc', hB.trans ((ha.mono hB.size).trans ⟨ho, ht, hu, hz, fun k hk1 => hk k (by omega) (by omega)⟩), by omega, hcells⟩
def numOf : Value → Nat
  | .int _ z => z.toNat
  | _ => 0
theorem put_w (v : Value) (x : It) (S : List It) (hS : S.length ≤ 900) (W : World) (hs : ∀ W', Below W.heap.size W W' → Calls Try.prog 13 #[v] W' (SortPost W' S)) :
    Calls Try.prog 16 #[v, .agg #[.int .i64 x.key, .int .i64 x.id]] W (PutPost W (S.take (cutI S x S.length) ++ x :: S.drop (cutI S x S.length))) := by
  generalize hPP : PutPost W (S.take (cutI S x S.length) ++ x :: S.drop (cutI S x S.length)) = PP
  have P0 : Aside _ := hPP
  clear hPP
  go_enter Try.func16, Try.ntmps16
  go_wp2
  apply wp_scope_straight
  go_wp2_with (first | (go_at_call 13; refine (hs _ (alloc_below _ _)).mono ?_; rintro e w1 ⟨q, c, rfl, hb1, hq⟩))
  apply wp_label
  have hlt : W.heap.size < (W.alloc (.cells #[.int .i64 x.key, .int .i64 x.id] 24)).heap.size := by rw [show (W.alloc (.cells #[.int .i64 x.key, .int .i64 x.id] 24)).heap.size = W.heap.size + 1 from Array.size_push ..]; omega
  have hx0 : w1.cell? ⟨W.heap.size, 0, none⟩ = some (.int .i64 x.key) := (hb1.cell hlt).trans (World.cell?_alloc_at _ _ _ 0 rfl)
  have hx1 : w1.cell? ⟨W.heap.size, 1, none⟩ = some (.int .i64 x.id) := (hb1.cell hlt).trans (World.cell?_alloc_at _ _ _ 1 rfl)
  have hBW : Below W.heap.size W w1 := (alloc_below W _).trans (hb1.mono (Nat.le_of_lt hlt))
  rcases hq with ⟨rfl, hq, rfl⟩ | ⟨b, row, t, rfl, hbs, hbr, hc, hn, hcs⟩
  · have P1 : Aside (PutPost W [x] = PP) := P0
    have h0 : Calls Try.prog 34 #[.slice q 0 0, .int .i64 0, .slice (some ⟨w1.heap.size, 0, none⟩) 1 1] (w1.alloc (.cells #[.int .i64 x.key, .int .i64 x.id] 24)) PP := by
      rw [← P1.out]
      exact ins_w0 x q w1 W hBW 1
    have H0 : Aside _ := h0
    clear P0 hb1 hlt hq hBW h0
    go_wp2
    refine wp_loop_rounds 1 ?_
    rw [rounds_succ]
    go_wp2_with (go_at_call 9999)
    go_at_call 34
    refine Calls.mono H0.out ?_
    rintro e w2 h2
    obtain ⟨b2, n2, c2, he⟩ : ∃ b2 n2 c2, e = .returned (.slice (some ⟨b2, 0, none⟩) n2 c2) := by
      have h3 : PutPost W [x] e w2 := by rw [P1.out]; exact h2
      obtain ⟨b2, c2, he, _⟩ := h3
      exact ⟨b2, _, c2, he⟩
    subst he
    go_wp2
    exact h2
  have A0 := And.intro hBW (And.intro (Nat.le_trans (Nat.le_of_lt hlt) hbs) (And.intro hc (And.intro hcs hbr)))
  have A : Aside _ := A0
  clear A0 hb1 hbs hc hcs hlt hbr hBW hs
  go_wp2
  go_loopw [6] (fun v6 wr => ∃ i n : Nat, v6 = .int .i64 i ∧ i ≤ S.length ∧ wr = w1.drewN n ∧ cutI S x i = cutI S x S.length) (fun v6 _ => numOf v6)
  case atStart => exact ⟨S.length, 0, rfl, Nat.le_refl _, rfl, rfl⟩
  case round =>
    obtain ⟨i, n, rfl, hi, hwr, hI⟩ := hrel
    have hy0 : wr.cell? ⟨W.heap.size, 0, none⟩ = some (.int .i64 x.key) := by rw [hwr]; exact hx0
    have hy1 : wr.cell? ⟨W.heap.size, 1, none⟩ = some (.int .i64 x.id) := by rw [hwr]; exact hx1
    clear hx0 hx1
    have hend : ∀ m, cutI S x i = i → Calls Try.prog 34 #[.slice (some ⟨b, 0, none⟩) S.length c, .int .i64 i, .slice (some ⟨(wr.drewN m).heap.size, 0, none⟩) 1 1] ((wr.drewN m).alloc (.cells #[.int .i64 x.key, .int .i64 x.id] 24)) PP := by
      intro m hm
      obtain ⟨hBW, hbs, hc, hcs, hbr⟩ := A.out
      rw [← P0.out, ← hI, hm, hwr]
      exact ins_w S x hS b c row t ((w1.drewN n).drewN m) hbr hc hn hcs W (hBW.trans ⟨rfl, rfl, rfl, Nat.le_refl _, fun _ _ => rfl⟩) hbs i hi 1
    have HE : Aside _ := hend
    clear hend
    by_cases hz : i = 0
    · have hcz : cutI S x i = i := by rw [hz]; rfl
      have h0 : Calls Try.prog 34 #[.slice (some ⟨b, 0, none⟩) S.length c, .int .i64 0, .slice (some ⟨wr.heap.size, 0, none⟩) 1 1] (wr.alloc (.cells #[.int .i64 x.key, .int .i64 x.id] 24)) PP := by
        have := HE.out 0 hcz
        rw [hz] at this
        exact this
      have H0 : Aside _ := h0
      clear hI hwr hcz h0
      go_wp2_with (go_at_call 9999)
      go_at_call 34
      refine Calls.mono H0.out ?_
      rintro e w2 h2
      obtain ⟨b2, n2, c2, he⟩ : ∃ b2 n2 c2, e = .returned (.slice (some ⟨b2, 0, none⟩) n2 c2) := by
        have h3 : PutPost W (S.take (cutI S x S.length) ++ x :: S.drop (cutI S x S.length)) e w2 := by rw [P0.out]; exact h2
        obtain ⟨b2, c2, he, _⟩ := h3
        exact ⟨b2, _, c2, he⟩
      subst he
      go_wp2
      exact h2
    · obtain ⟨k, rfl⟩ : ∃ k, i = k + 1 := ⟨i - 1, by omega⟩
      have hcw : wr.cell? ⟨b, k * 2, none⟩ = some (.int .i64 (S.getD k default).key) := by
        rw [hwr]
        exact A.out.2.2.2.1 _ _ (cellsI_key S k (by omega))
      have B0 := And.intro hwr hI
      have B : Aside _ := B0
      clear B0 hwr hI hz
      have hk : k < S.length := by omega
      have hwk : IntKind.wrap .i64 (k : Int) = (k : Int) := wrap_in _ (by omega) (by omega)
      have hcl : cutI S x (k + 1) = if ilt x (S.getD k default) = true then cutI S x k else k + 1 := rfl
      have C : Aside _ := hcl
      clear hcl
      generalize S.getD k default = y at *
      have h1 : ∀ m, y.key ≤ x.key → Calls Try.prog 34 #[.slice (some ⟨b, 0, none⟩) S.length c, .int .i64 ((k : Int) + 1), .slice (some ⟨wr.heap.size, 0, none⟩) 1 1] ((wr.drewN m).alloc (.cells #[.int .i64 x.key, .int .i64 x.id] 24)) PP := by
        intro m hm
        exact HE.out m (by rw [C.out, if_neg (by simp [ilt]; omega)])
      have H1 : Aside _ := h1
      clear h1
      go_wp2
      go_quiet (skip)
      go_wp2_with (go_at_call 9999)
      · go_at_call 34
        refine Calls.mono (H1.out _ (by assumption)) ?_
        rintro e w2 h2
        obtain ⟨b2, n2, c2, he⟩ : ∃ b2 n2 c2, e = .returned (.slice (some ⟨b2, 0, none⟩) n2 c2) := by
          have h3 : PutPost W (S.take (cutI S x S.length) ++ x :: S.drop (cutI S x S.length)) e w2 := by rw [P0.out]; exact h2
          obtain ⟨b2, c2, he, _⟩ := h3
          exact ⟨b2, _, c2, he⟩
        subst he
        go_wp2
        exact h2
      · have hgt : ¬ y.key ≤ x.key := by omega
        exact ⟨⟨k, n + nq, rfl, by omega, by rw [B.out.1, World.drewN_drewN], by rw [← B.out.2, C.out, if_pos (by simp [ilt]; omega)]⟩, by simp [numOf]⟩
end Go.Proofs.YtgndbkeiickihaaEv
