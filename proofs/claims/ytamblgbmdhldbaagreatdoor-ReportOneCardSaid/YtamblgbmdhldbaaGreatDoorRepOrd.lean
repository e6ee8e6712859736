/- The tasks' numbers by priority; the lines that are told: the program's. -/
import Derived.Test.YtamblgbmdhldbaaGreatDoorRepLine
import Derived.Test.YtamblgbmdhldbaaGreatDoorAdmit
set_option linter.unusedSimpArgs false
set_option linter.unusedVariables false
namespace Go.Proofs.YtamblgbmdhldbaaGreatDoorEv
open Go
set_option maxHeartbeats 2000000
/-- Numbers of tasks, as cells. -/
def nl (l : List Nat) : List A := l.map fun i => vi (i : Nat)
theorem nl_len (l : List Nat) : (nl l).length = l.length := List.length_map _
theorem nl_plain (l : List Nat) : (nl l).all A.plain = true := by
  simp only [nl, List.all_eq_true, List.mem_map]
  rintro _ ⟨_, _, rfl⟩; rfl
theorem nl_int (l : List Nat) : (l.map fun i : Nat => (i : Int)).map vi = nl l := by rw [List.map_map]; rfl
theorem plain_own {l : List A} (h : l.all A.plain = true) : l.map A.own = l := by
  simp only [List.all_eq_true] at h
  refine (List.map_congr_left fun a ha => ?_).trans (List.map_id' l)
  have := h a ha
  cases a <;> simp_all [A.plain, A.own]
def fil (n i : Nat) : List A := nl (List.range i ++ List.replicate (n - i) 0)
theorem fil_len {n i : Nat} (h : i ≤ n) : (fil n i).length = n := by rw [fil, nl_len]; simp; omega
theorem fil_step {n i : Nat} (h : i < n) : (fil n i).take i ++ vi (i : Nat) :: (fil n i).drop (i + 1) = fil n (i + 1) := by
  obtain ⟨k, hk⟩ : ∃ k, n - i = k + 1 := ⟨n - i - 1, by omega⟩
  have e1 : fil n i = nl (List.range i) ++ vi (0 : Nat) :: nl (List.replicate k 0) := by
    unfold fil nl; rw [hk, List.replicate_succ, List.map_append, List.map_cons]
  rw [e1, put_mid _ _ _ _ i (by rw [nl_len]; simp)]
  unfold fil nl
  rw [show n - (i + 1) = k by omega, List.range_succ]
  simp
def plt (s : St) (a b : Nat) : Bool := decide (prioAt s a < prioAt s b)
theorem plt_swo (s : St) : Swo (plt s) where
  asym a b h := by unfold plt at *; simp at *; omega
  neg a b c h h' := by unfold plt at *; simp at *; omega
/-- The tasks' numbers, by priority. -/
def ordS (s : St) : List Nat := ss (plt s) (List.range s.tasks.length)
theorem ord_perm (s : St) : (ordS s).Perm (List.range s.tasks.length) := ss_perm _ _ _ rfl
theorem ord_len (s : St) : (ordS s).length = s.tasks.length := by rw [(ord_perm s).length_eq, List.length_range]
theorem ord_lt {s : St} {i : Nat} (h : i ∈ ordS s) : i < s.tasks.length := List.mem_range.1 ((ord_perm s).mem_iff.1 h)
theorem prio_inj {s : St} (g : Good s) {i j : Nat} (hi : i < s.tasks.length) (hj : j < s.tasks.length) (h : prioAt s i = prioAt s j) : i = j := by
  rw [prioAt_is s i hi, prioAt_is s j hj] at h
  rcases Nat.lt_trichotomy i j with h1 | h1 | h1
  · have := g.uniq i j hi hj h1; unfold twice at this; simp [h] at this
  · exact h1
  · have := g.uniq j i hj hi h1; unfold twice at this; simp [h] at this
theorem ord_is {s : St} (g : Good s) (L : List Int) (hp : L.Perm ((List.range s.tasks.length).map fun i : Nat => (i : Int))) (hs : L.Pairwise fun a b => prioAt s a.toNat ≤ prioAt s b.toNat) : L = (ordS s).map fun i : Nat => (i : Int) := by
  refine List.Perm.eq_of_pairwise (le := fun a b => prioAt s a.toNat ≤ prioAt s b.toNat) ?_ hs ?_ (hp.trans ((ord_perm s).symm.map _))
  · intro a b ha hb h1 h2
    obtain ⟨i, hi, rfl⟩ := List.mem_map.1 (hp.mem_iff.1 ha)
    obtain ⟨j, hj, rfl⟩ := List.mem_map.1 hb
    have := prio_inj g (List.mem_range.1 hi) (ord_lt hj) (by simp at h1 h2; omega)
    rw [this]
  · refine List.pairwise_map.2 ((ss_srt (plt s) (plt_swo s) _ _ rfl).imp fun {a b} h => ?_)
    unfold plt at h
    simp at h ⊢
    exact h
/-! ### what is told of a set -/
def addB : ByteArray := ⟨#[97, 100, 109, 105, 116, 116, 101, 100]⟩
def lineOf (s : St) (v : Vd) (i : Nat) : ByteArray := match s.tasks[i]? with
  | some t => lineS t (bAt v.bounds i) (v.waits.getD i [])
  | none => addB
def linesS (s : St) : List ByteArray × Int :=
  if okS s = true then (if eqz (anS s).2 0 = true then (addB :: (ordS s).map (lineOf s (anS s).1), 0) else ([word (anS s).2], 0)) else ([], (chk s).2)
/-- A verdict of each task. -/
structure VdOk (s : St) (v : Vd) : Prop where
  bounds : v.bounds.length = s.tasks.length
  waits : v.waits.length = s.tasks.length
  wait : ∀ i (h : i < s.tasks.length), (v.waits.getD i []).length = s.tasks[i].parts.length
theorem vdOk {s : St} (hs : Sm s) (ho : okS s = true) (hz : eqz (anS s).2 0 = true) : VdOk s (anS s).1 := by
  have g := (okS_iff s).1 ho
  unfold anS at hz ⊢
  rw [if_pos ho] at hz ⊢
  by_cases hl : eqz (leastB s).2 0 = true
  · rw [if_pos hl]
    obtain ⟨h1, _, h3⟩ := least_ok hs g (by simpa [eqz] using hl)
    refine ⟨h1, wl_len .., fun i h => ?_⟩
    obtain ⟨_, h5, _⟩ := round_ok h3
    obtain ⟨h6, _⟩ := h5 i h
    have e : (wl s (leastB s).1 s.tasks.length).getD i [] = (waitsS s (leastB s).1 (i : Nat)).getD [] := by
      unfold wl; simp [h]
    show ((wl s (leastB s).1 s.tasks.length).getD i []).length = _
    rw [e]
    cases hw : waitsS s (leastB s).1 (i : Nat) with
    | none => simp [nextS, ownS, hw] at h6
    | some l =>
      obtain ⟨_, _, rfl⟩ := waits_some.1 hw
      rw [Option.getD_some, waitL_len, Int.toNat_natCast]
      unfold ptsAt; simp [h]
  · rw [if_neg hl] at hz; exact absurd hz hl
/-! ### the walk -/
theorem lc_clean (s : St) (v : Vd) (L : List Int) : Clean (bxS [St.c s, Vd.c v] [] L) := by
  have h1 : (L.map vi).map A.cp1 = L.map vi := plain_cp (plain_vi L)
  have h2 : (L.map vi).all (A.dangC 3) = true := plain_dang (plain_vi L)
  constructor
  · unfold bxS strip
    generalize L.map vi = B at *
    simp [St.c, Vd.c, slI, slT, slW, A.cp1, h1]
  · unfold bxS
    generalize L.map vi = B at *
    simp [St.c, Vd.c, slI, slT, slW, A.dangC, h2, -List.all_eq_true]
theorem lc_ok (s : St) (g : Good s) (v : Vd) : CmpG 20 [(0, 0)] [St.c s, Vd.c v] [] (fun a => prioAt s a.toNat) (fun a b => prioAt s a.toNat - prioAt s b.toNat) (fun a => 0 ≤ a ∧ a < s.tasks.length) where
  clean := lc_clean s v
  capsOk := by simp [A.dang]
  neg a b _ _ := by omega
  call a b L ha hb := by
    obtain ⟨i, rfl⟩ := nat_of a ha.1
    obtain ⟨j, rfl⟩ := nat_of b hb.1
    have hi : i < s.tasks.length := by omega
    have hj : j < s.tasks.length := by omega
    have d1 := drop_tk s.tasks i hi
    have d2 := drop_tk s.tasks j hj
    have p1 := prioAt_is s i hi
    have p2 := prioAt_is s j hj
    have g1 := (g.task _ (List.getElem_mem hi)).prio
    have g2 := (g.task _ (List.getElem_mem hj)).prio
    rw [Int.toNat_natCast, Int.toNat_natCast, p1, p2]
    have w : IntKind.wrap .i64 (s.tasks[i].prio - s.tasks[j].prio) = s.tasks[i].prio - s.tasks[j].prio := wrap_in _ (by omega) (by omega)
    have hl := len_tk s.tasks
    rw [callL_tab _ _ rfl tab20 rfl]
    unfold bxS
    generalize L.map vi = B at *
    simp only [Tk.c] at d1 d2
    simp [C20, push_cast, -Int.not_lt, -Int.not_le, ↓evI_call, ↓evI_calli, ↓evI_callz, ↓evI_callv, ↓evI_mxn, St.c, slT, d1, d2, w, hi, hj, ha, hb, hl]
theorem ln_loop0 (s : St) (v : Vd) (n : Nat) (hn : n ≤ 9) : ∀ (d i : Nat) (e : Env), i + d = n → e 1 = .ptr 0 0 → e 6 = .ptr 1 0 → e 8 = .bs 2 n 1 → e 36 = vi n → e 37 = vi i →
    ∃ e', evL tab0 ext5 0 L9_0 (e, [St.c s, Vd.c v, fil n i]) = some (.ex 0, e', [St.c s, Vd.c v, fil n n]) ∧ e' 1 = .ptr 0 0 ∧ e' 6 = .ptr 1 0 ∧ e' 8 = .bs 2 n 1 := by
  intro d
  induction d with
  | zero =>
    intro i e hi h1 h6 h8 h36 h37
    obtain rfl : i = n := by omega
    have hcl : (fil i i).all (A.dangC 3) = true := plain_dang (nl_plain _)
    have hown : (fil i i).map A.own = fil i i := plain_own (nl_plain _)
    generalize fil i i = B at *
    exact ⟨_, (go9_0 _ _).trans (by simp [B9_0, push_cast, -Int.not_lt, -Int.not_le, ↓evI_call, ↓evI_calli, ↓evI_callz, ↓evI_callv, ↓evI_mxn, loopIn, loopIn0, keepL, emp, A.dang, A.dangC, St.c, Vd.c, slI, slT, slW, h1, h6, h8, h36, h37, hcl, hown, -List.all_eq_true]; rfl), by simp [put_at]⟩
  | succ d ih =>
    intro i e hi h1 h6 h8 h36 h37
    have hil : i < n := by omega
    have hst := fil_step hil
    have hlen := fil_len (n := n) (i := i) (by omega)
    have hcl : (fil n i).all (A.dangC 3) = true := plain_dang (nl_plain _)
    have hown : (fil n i).map A.own = fil n i := plain_own (nl_plain _)
    have q1 : IntKind.wrap .i64 ((i : Int) + 1) = ((i + 1 : Nat) : Int) := by rw [wrap_in _ (by omega) (by omega)]; omega
    have q2 : (i : Int) < n := by omega
    obtain ⟨e', r1, r2⟩ := ih (i + 1) (put 37 (vi ((i + 1 : Nat) : Int)) (put 1 (.ptr 0 0) (put 6 (.ptr 1 0) (put 8 (.bs 2 n 1) (put 36 (vi n) emp))))) (by omega) (by simp [put_at]) (by simp [put_at]) (by simp [put_at]) (by simp [put_at]) (by simp [put_at])
    refine ⟨e', ?_, r2⟩
    rw [← r1]
    refine (go9_0 _ _).trans ?_
    generalize fil n i = B at *
    generalize fil n (i + 1) = B2 at *
    generalize ((i + 1 : Nat) : Int) = z at *
    have q3 : i + 1 ≤ n := hil
    simp [B9_0, push_cast, -Int.not_lt, -Int.not_le, ↓evI_call, ↓evI_calli, ↓evI_callz, ↓evI_callv, ↓evI_mxn, loopIn, loopIn0, keepL, emp, A.dang, A.dangC, St.c, Vd.c, slI, slT, slW, h1, h6, h8, h36, h37, hcl, hown, hlen, q1, q2, q3, hil, hst, -List.all_eq_true]
    exact loop_env (by simp [put_at])
/-- The lines so far. -/
def tolS (s : St) (v : Vd) (l : List Nat) : List A := vs addB :: l.map fun j => vs (lineOf s v j)
theorem tolS_len (s v l) : (tolS s v l).length = l.length + 1 := by simp [tolS]
theorem tolS_snoc (s v) (l : List Nat) (j : Nat) : tolS s v (l ++ [j]) = tolS s v l ++ [vs (lineOf s v j)] := by simp [tolS]
theorem drop_slW' (l : List (List Int)) (i : Nat) (h : i < l.length) : (l.map slI).drop i = slI l[i] :: (l.drop (i + 1)).map slI := by
  rw [← List.map_drop, List.drop_eq_getElem_cons h]; rfl
theorem nl_at {l : List Nat} {i j : Nat} (h : l[i]? = some j) : (nl l)[i]? = some (vi (j : Nat)) := by unfold nl; rw [List.getElem?_map, h]; rfl
theorem ln_loop2 (s : St) (hs : Sm s) (v : Vd) (hv : VdOk s v) (n : Nat) (hN : s.tasks.length = n) (os : List Nat) (hos : os.length = n) (hm : ∀ i ∈ os, i < n) : ∀ (d i g : Nat) (e : Env), i + d = n → (g = 1 ∨ g = 2) → e 1 = .ptr 0 0 → e 6 = .ptr 1 0 → e 10 = .sl (tolS s v (os.take i)) (i + 1) g → e 49 = .bs 2 n 1 → e 50 = vi n → e 51 = vi i →
    ∃ e', evL tab0 ext5 0 L9_2 (e, [St.c s, Vd.c v, nl os]) = some (.ex 2, e', [St.c s, Vd.c v, nl os]) ∧ ∃ g', e' 10 = .sl (tolS s v os) (n + 1) g' := by
  have hn := hs.tasks
  rw [hN] at hn
  have hcl : (nl os).all (A.dangC 3) = true := plain_dang (nl_plain _)
  have hown : (nl os).map A.own = nl os := plain_own (nl_plain _)
  intro d
  induction d with
  | zero =>
    intro i g e hi hg h1 h6 h10 h49 h50 h51
    obtain rfl : i = n := by omega
    rw [List.take_of_length_le (by omega)] at h10
    generalize nl os = B at *
    generalize tolS s v os = O at *
    rcases hg with rfl | rfl <;> exact ⟨_, (go9_2 _ _).trans (by simp [B9_2, push_cast, -Int.not_lt, -Int.not_le, ↓evI_call, ↓evI_calli, ↓evI_callz, ↓evI_callv, ↓evI_mxn, loopIn, loopIn0, keepL, emp, A.dang, A.dangC, St.c, Vd.c, slI, slT, slW, h1, h6, h10, h49, h50, h51, hcl, hown, -List.all_eq_true]; rfl), by simp [put_at]⟩
  | succ d ih =>
    intro i g e hi hg h1 h6 h10 h49 h50 h51
    have hil : i < n := by omega
    have hj0 : os[i]? = some os[i] := List.getElem?_eq_getElem (by omega)
    have e1 : os.take (i + 1) = os.take i ++ [os[i]] := by rw [List.take_add_one, hj0]; rfl
    have ho := tolS_snoc s v (os.take i) os[i]
    rw [← e1] at ho
    have hB := nl_at hj0
    have hjm := hm os[i] (List.getElem_mem _)
    have hol := tolS_len s v (os.take i)
    rw [List.length_take, show min i os.length = i by omega] at hol
    have hBl : (nl os).length = n := by rw [nl_len]; exact hos
    generalize os[i] = j at *
    have hjt : j < s.tasks.length := by omega
    have hjb : j < v.bounds.length := by have := hv.bounds; omega
    have hjw : j < v.waits.length := by have := hv.waits; omega
    have hlo : lineOf s v j = lineS s.tasks[j] v.bounds[j] v.waits[j] := by
      unfold lineOf
      rw [List.getElem?_eq_getElem hjt]
      show lineS s.tasks[j] (bAt v.bounds j) (v.waits.getD j []) = _
      rw [bAt_is _ _ hjb]
      congr 1
      simp [List.getD, hjw]
    have hwl : v.waits[j].length = s.tasks[j].parts.length := by
      have := hv.wait j hjt
      rwa [show v.waits.getD j [] = v.waits[j] by simp [List.getD, hjw]] at this
    have hli := line_is s.tasks[j] (hs.names _ (List.getElem_mem _)) (hs.parts _ (List.getElem_mem _)) v.bounds[j] v.waits[j] hwl
    rw [hlo] at ho
    have d1 := drop_tk s.tasks j hjt
    have d2 := drop_int v.bounds j hjb
    have d3 := drop_slW' v.waits j hjw
    have hl6 := len_tk s.tasks
    have q1 : IntKind.wrap .i64 ((i : Int) + 1) = ((i + 1 : Nat) : Int) := by rw [wrap_in _ (by omega) (by omega)]; omega
    have q2 : (i : Int) < n := by omega
    have q3 : i + 1 ≤ n := hil
    have k1 : (j : Int) < s.tasks.length := by omega
    have k2 : (j : Int) < v.bounds.length := by omega
    have k3 : (j : Int) < v.waits.length := by omega
    have k4 : j * 6 + 6 ≤ s.tasks.length * 6 := by omega
    have k5 : (i + 1 + 1) * 16 ≤ 70368744177664 := by omega
    obtain ⟨e', r1, r2⟩ := ih (i + 1) 2 (put 51 (vi ((i + 1 : Nat) : Int)) (put 10 (.sl (tolS s v (os.take (i + 1))) (i + 1 + 1) 2) (put 1 (.ptr 0 0) (put 6 (.ptr 1 0) (put 49 (.bs 2 n 1) (put 50 (vi n) emp)))))) (by omega) (.inr rfl) (by simp [put_at]) (by simp [put_at]) (by simp [put_at]) (by simp [put_at]) (by simp [put_at]) (by simp [put_at])
    refine ⟨e', ?_, r2⟩
    rw [← r1, ho]
    refine (go9_2 _ _).trans ?_
    generalize tolS s v (os.take i) = O at *
    generalize nl os = B at *
    generalize lineS s.tasks[j] v.bounds[j] v.waits[j] = X at *
    generalize ((i + 1 : Nat) : Int) = z at *
    have hBi : ∀ h, B[i]'h = vi (j : Int) := fun h => by have := hB; rw [List.getElem?_eq_getElem h] at this; exact Option.some.inj this
    simp only [Tk.c, slI, slP] at d1 d3 hli
    rcases hg with rfl | rfl
    · simp [B9_2, push_cast, -Int.not_lt, -Int.not_le, ↓evI_call, ↓evI_calli, ↓evI_callz, ↓evI_callv, ↓evI_mxn, loopIn, loopIn0, keepL, emp, A.dang, A.dangC, St.c, Vd.c, slI, slT, slW, h1, h6, h10, h49, h50, h51, hcl, hown, hB, hBi, hBl, hil, hol, hli, d1, d2, d3, hl6, q1, q2, q3, k1, k2, k3, k4, k5, asList, -List.all_eq_true]
      exact loop_env (by simp [put_at])
    · simp [B9_2, push_cast, -Int.not_lt, -Int.not_le, ↓evI_call, ↓evI_calli, ↓evI_callz, ↓evI_callv, ↓evI_mxn, loopIn, loopIn0, keepL, emp, A.dang, A.dangC, St.c, Vd.c, slI, slT, slW, h1, h6, h10, h49, h50, h51, hcl, hown, hB, hBi, hBl, hil, hol, hli, d1, d2, d3, hl6, q1, q2, q3, k1, k2, k3, k4, k5, asList, -List.all_eq_true]
      exact loop_env (by simp [put_at])
def slS (l : List ByteArray) : A := .sl (l.map vs) l.length 0
theorem lines_is (s : St) (hs : Sm s) : pureOf (callL tab0 ext5) false 9 [.agg (St.c s)] = some (.tup [slS (linesS s).1, vi (linesS s).2]) := by
  rw [pureOf_b, callL_tab _ _ rfl tab9 rfl]
  have h1 := pure5 (pure1 (pure_tup2 (k := false) (check_is s hs.fits)))
  have h2 := pure5 (analyze_is s hs)
  unfold linesS
  rcases (Bool.eq_false_or_eq_true (okS s)).symm with ho | ho
  · rw [if_neg (by simp [ho])]
    have c1 : eqz (chk s).2 0 = false := ho
    generalize (chk s).2 = z at *
    generalize (chk s).1 = y at *
    simp only [St.c, slI, slT] at h1
    simp [C9, push_cast, -Int.not_lt, -Int.not_le, ↓evI_call, ↓evI_calli, ↓evI_callz, ↓evI_callv, ↓evI_mxn, St.c, slI, slT, slS, h1, c1, frzK]
  rw [if_pos ho]
  have c1 : eqz (chk s).2 0 = true := ho
  rcases (Bool.eq_false_or_eq_true (eqz (anS s).2 0)).symm with hz | hz
  · rw [if_neg (by simp [hz])]
    have h3 := word_is (anS s).2
    generalize (chk s).2 = z at *
    generalize (chk s).1 = y at *
    generalize word (anS s).2 = X at *
    generalize (anS s).2 = u at *
    generalize (anS s).1 = v at *
    simp only [St.c, slI, slT, Vd.c, slW] at h1 h2
    simp [C9, push_cast, -Int.not_lt, -Int.not_le, ↓evI_call, ↓evI_calli, ↓evI_callz, ↓evI_callv, ↓evI_mxn, St.c, slI, slT, slS, Vd.c, slW, h1, h2, h3, c1, hz, frzK]
  rw [if_pos hz]
  have g := (okS_iff s).1 ho
  have hv := vdOk hs ho hz
  have hn := hs.tasks
  have hn1 := g.tasks.1
  have hlp0 := fun (e : Env) (h : e 1 = .ptr 0 0 ∧ e 6 = .ptr 1 0 ∧ e 8 = .bs 2 s.tasks.length 1 ∧ e 36 = vi s.tasks.length ∧ e 37 = vi ((0 : Nat) : Int)) => exA (ln_loop0 s (anS s).1 s.tasks.length hn s.tasks.length 0 e (by omega) h.1 h.2.1 h.2.2.1 h.2.2.2.1 h.2.2.2.2)
  have hlp2 := fun (g : Nat) (e : Env) (hg : g = 1 ∨ g = 2) (h : e 1 = .ptr 0 0 ∧ e 6 = .ptr 1 0 ∧ e 10 = .sl (tolS s (anS s).1 []) 1 g ∧ e 49 = .bs 2 s.tasks.length 1 ∧ e 50 = vi s.tasks.length ∧ e 51 = vi ((0 : Nat) : Int)) => exA (ln_loop2 s hs (anS s).1 hv s.tasks.length rfl (ordS s) (ord_len s) (fun i h => ord_lt h) s.tasks.length 0 g e (by omega) hg h.1 h.2.1 h.2.2.1 h.2.2.2.1 h.2.2.2.2.1 h.2.2.2.2.2)
  have hz0 : fil s.tasks.length 0 = List.replicate s.tasks.length (vi 0) := by simp [fil, nl]
  have hzn : fil s.tasks.length s.tasks.length = ((List.range s.tasks.length).map fun i : Nat => (i : Int)).map vi := by rw [nl_int]; simp [fil]
  have hsf := sfG_call (lc_ok s g (anS s).1) ((List.range s.tasks.length).map fun i : Nat => (i : Int)) (fun y hy => by
    obtain ⟨i, hi, rfl⟩ := List.mem_map.1 hy
    have := List.mem_range.1 hi
    exact ⟨by omega, by omega⟩) (by simp; omega)
  obtain ⟨L', f1, f2, f3⟩ := hsf
  have f4 := ord_is g L' f2 f3
  subst f4
  have f5 := up5 _ _ _ _ (up1 _ _ _ _ f1)
  have ha := aft_clean (lc_clean s (anS s).1 ((ordS s).map fun i : Nat => (i : Int))) (v := .tup []) rfl
  unfold bxS at f5 ha
  rw [← hzn, nl_int] at f5
  rw [nl_int] at ha
  simp only [List.length_map, List.length_range] at f5
  have hO : slS (addB :: (ordS s).map (lineOf s (anS s).1)) = .sl (tolS s (anS s).1 (ordS s)) (s.tasks.length + 1) 0 := by
    unfold slS tolS
    rw [List.map_cons, List.map_map, List.length_cons, List.length_map, ord_len]; rfl
  have hO2 : (tolS s (anS s).1 (ordS s)).all A.plain = true := by
    unfold tolS
    simp only [List.all_eq_true, List.mem_cons, List.mem_map]
    rintro _ (rfl | ⟨_, _, rfl⟩) <;> rfl
  have hO0 : tolS s (anS s).1 [] = [vs addB] := rfl
  rw [hO0] at hlp2
  unfold addB at hlp2
  rw [hO]
  rw [hz0] at hlp0
  have nN : ¬ s.tasks.length = 0 := by omega
  have nN2 : (0 : Int) < s.tasks.length := by omega
  have nN4 : 0 < s.tasks.length := by omega
  have nN3 : (s.tasks.length : Int) * 8 ≤ 70368744177664 := by omega
  have hpm := fun (bx : Bx) (d : Nat) => plain_mapM (bx := bx) (d := d) hO2
  generalize fil s.tasks.length s.tasks.length = F at *
  generalize hB : nl (ordS s) = B at *
  generalize tolS s (anS s).1 (ordS s) = O at *
  generalize (chk s).2 = z at *
  generalize (chk s).1 = y at *
  generalize (anS s).2 = u at *
  generalize (anS s).1 = v at *
  clear hz0 hzn f1 f2 f3 hO hv
  simp only [St.c, slI, slT, Vd.c, slW, List.length_cons, List.length_nil, List.cons_append, List.nil_append] at h1 h2 hlp0 hlp2 f5 ha
  simp [C9, push_cast, -Int.not_lt, -Int.not_le, ↓evI_call, ↓evI_calli, ↓evI_callz, ↓evI_callv, ↓evI_mxn, St.c, slI, slT, slS, Vd.c, slW, h1, h2, c1, hz, nN, nN2, nN3, nN4]
  refine behind (hlp0 _ (by simp [put_at])) ?_
  rintro _ ⟨e', rfl, k1, k6, k8⟩
  simp [push_cast, -Int.not_lt, -Int.not_le, ↓evI_call, ↓evI_calli, ↓evI_callz, ↓evI_callv, ↓evI_mxn, k1, k6, k8, f5, ha]
  refine behind (hlp2 2 _ (.inr rfl) (by simp [put_at, k1, k6, k8])) ?_
  rintro _ ⟨e2, rfl, g', k10⟩
  simp [push_cast, -Int.not_lt, -Int.not_le, ↓evI_call, ↓evI_calli, ↓evI_callz, ↓evI_callv, ↓evI_mxn, k10, frzK, hpm]
end Go.Proofs.YtamblgbmdhldbaaGreatDoorEv
