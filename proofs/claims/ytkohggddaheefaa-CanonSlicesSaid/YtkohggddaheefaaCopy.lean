/- task.Copy. -/
import Derived.Test.YtkohggddaheefaaLib
import Derived.Test.YtkohggddaheefaaTsk
set_option linter.unusedSimpArgs false
set_option linter.unusedVariables false
namespace Go.Proofs.YtkohggddaheefaaEv
open Go
set_option maxHeartbeats 1000000
theorem put_self {α : Type} {l : List α} {o : Nat} {c : α} (h : l[o]? = some c) : l.take o ++ c :: l.drop (o + 1) = l := by
  obtain ⟨ho, rfl⟩ := List.getElem?_eq_some_iff.1 h
  rw [← List.drop_eq_getElem_cons ho, List.take_append_drop]
theorem get_flat {α : Type} (f : α → List A) (z : Nat) (hz : ∀ a, (f a).length = z) (l : List α) (i k : Nat) (h : i < l.length) (hk : k < z) : (l.flatMap f)[i * z + k]? = (f l[i])[k]? := by
  rw [← List.getElem?_drop, drop_flat f z hz l i h, List.getElem?_append_left (by rw [hz]; exact hk)]
theorem get_tk (l : List Tk) (i k : Nat) (h : i < l.length) (hk : k < 6) : (l.flatMap Tk.c)[i * 6 + k]? = (Tk.c l[i])[k]? := get_flat _ 6 (fun _ => rfl) l i k h hk
theorem take6 (t : Tk) (r : List A) : (Tk.c t ++ r).take 6 = Tk.c t := rfl
def z4 : List A := [vi 0, .sl [] 0 2, .sl [] 0 2, .sl [] 0 2]
/-- The tasks' cells, closed. -/
structure TkCells (l : List Tk) (T : List A) : Prop where
  own : T.map A.own = T
  cp : T.map A.cp1 = T
  nrm : T.map A.norm1 = T
  plain : T.all A.plain = true
  dang : ∀ m, T.all (A.dangC m) = true
  isV : T.all A.isV = true
  len : T.length = l.length * 6
  drop : ∀ i (h : i < l.length), T.drop (i * 6) = Tk.c l[i] ++ (l.drop (i + 1)).flatMap Tk.c
  get : ∀ i k (h : i < l.length), k < 6 → T[i * 6 + k]? = (Tk.c l[i])[k]?
  mapM : ∀ bx d, T.mapM (frzC bx d) = some T
theorem plain_own {l : List A} (h : l.all A.plain = true) : l.map A.own = l := by
  simp only [List.all_eq_true] at h
  refine (List.map_congr_left fun a ha => ?_).trans (List.map_id' l)
  have := h a ha
  cases a <;> simp_all [A.plain, A.own]
theorem tkCells (l : List Tk) : TkCells l (l.flatMap Tk.c) :=
  ⟨plain_own (plain_tk l), plain_cp (plain_tk l), plain_norm (plain_tk l), plain_tk l, fun _ => plain_dang (plain_tk l), plain_allV (plain_tk l), len_tk l, fun i h => drop_tk l i h, fun i k h hk => get_tk l i k h hk, fun _ _ => plain_mapM (plain_tk l)⟩
def bxC (s : St) (T : List A) : Bx := [[vi s.proto, .sl (s.cores.map vi) s.cores.length 0, .sl (s.homes.map vi) s.homes.length 0, .bs 2 s.tasks.length 6], z4, T]
theorem copy_loop (s : St) (hs : Sm s) (T : List A) (hT : TkCells s.tasks T) :
    ∀ d i (e : Env), i + d = s.tasks.length → (e 1 = .ptr 0 0 ∧ e 2 = .ptr 1 0 ∧ e 18 = .bs 2 s.tasks.length 6 ∧ e 19 = vi s.tasks.length ∧ e 20 = vi i) → ∃ r, evL tab0 ext0 0 L21_0 (e, bxC s T) = some r ∧ FQ (fun _ => false) (bxC s T) 0 (fun _ _ => True) (fun e => e 1 = .ptr 0 0 ∧ e 2 = .ptr 1 0) i d r := by
  have ht := hs.tasks
  refine fq_loop (St := fun i e => e 1 = .ptr 0 0 ∧ e 2 = .ptr 1 0 ∧ e 18 = .bs 2 s.tasks.length 6 ∧ e 19 = vi s.tasks.length ∧ e 20 = vi i) _ _ _ _ _ ?_ ?_
  · rintro e ⟨h1, h2, h3, h4, h5⟩
    have h6 := hT.dang 3
    have h7 := hT.own
    exact ⟨_, (go21_0 _ _).trans (by simp [B21_0, push_cast, -Int.not_lt, -Int.not_le, ↓evI_call, ↓evI_calli, ↓evI_calln, ↓evI_callz, ↓evI_callv, ↓evI_mxn, loopIn, loopIn0, keepL, emp, A.dang, A.dangC, h1, h2, h3, h4, h5, bxC, z4, h6, h7, -List.all_eq_true]; rfl), by simp [put_at]⟩
  · rintro i e hi ⟨h1, h2, h3, h4, h5⟩
    rw [go21_0]
    have hi' : (i : Int) < s.tasks.length := by omega
    have hw : IntKind.wrap .i64 ((i : Int) + 1) = (i : Int) + 1 := wrap_in _ (by omega) (by omega)
    have hp := hs.parts _ (List.getElem_mem hi)
    have hc := pclone_60 (s.tasks[i].parts.flatMap Pt.c) s.tasks[i].parts.length (plain_pt _) (len_pt _) (by omega) false
    have h6 := hT.dang 3
    have h7 := hT.own
    have h8 := hT.cp
    have h9 := hT.drop i hi
    have h10 := hT.get i 5 hi (by omega)
    have h11 := put_self h10
    have h12 := hT.len
    have h13 : i * 6 + 6 ≤ T.length := by omega
    have h14 : i * 6 + 5 + 1 ≤ T.length := by omega
    simp only [Tk.c, slP] at h9 h10 h11
    simp (maxSteps := 400000) [B21_0, push_cast, -Int.not_lt, -Int.not_le, ↓evI_call, ↓evI_calli, ↓evI_calln, ↓evI_callz, ↓evI_callv, ↓evI_mxn, loopIn, loopIn0, keepL, emp, A.dang, A.dangC, h1, h2, h3, h4, h5, bxC, z4, hi, hi', hw, h6, h7, h8, h9, h10, h11, h13, h14, hc, -List.all_eq_true]
    exact Step.goJ (bx := [_, _, T]) [_] (by simp) rfl (by simp [put_at])
theorem loop_own {b : C} {live : List Nat} {e : Env} {c0 c1 c2 c1' : List A} {tab : Nat → Option CFun} {ext : CallF} (h : c1.map A.own = c1'.map A.own) (hd : c1.all (A.dangC 3) = c1'.all (A.dangC 3)) :
    evL tab ext 0 (.loop live 3 b) (e, [c0, c1, c2]) = evL tab ext 0 (.loop live 3 b) (e, [c0, c1', c2]) := by
  rw [eL_loop, eL_loop]
  congr 1
  show loopIn0 0 live 3 (e, [c0, c1, c2]) = loopIn0 0 live 3 (e, [c0, c1', c2])
  unfold loopIn0
  simp [hd, h, -List.all_eq_true]
theorem copy_is (s : St) (hs : Sm s) : pureOf (callL tab0 ext0) false 21 [.agg (St.c s)] = some (.agg (St.c s)) := by
  have ht := hs.tasks
  have f1 := pclone_58 (s.cores.map vi) s.cores.length (plain_vi _) (by simp) (by have := hs.cores; omega) false
  have f2 := pclone_58 (s.homes.map vi) s.homes.length (plain_vi _) (by simp) (by have := hs.homes; omega) false
  have hT := tkCells s.tasks
  have f3 := fun bx => clone_59 (s.tasks.flatMap Tk.c) s.tasks.length bx hT.plain hT.len (by omega)
  rw [pureOf_b, callL_tab _ _ rfl tab21 rfl]
  by_cases hn : s.tasks.length = 0
  · have hn' : s.tasks = [] := List.length_eq_zero_iff.1 hn
    have f3' := fun bx => (f3 bx).trans (by rw [hn]; rfl : some (cloned (s.tasks.flatMap Tk.c) s.tasks.length 6 bx) = some (.sl [] 0 0, bx))
    simp only [hn', List.flatMap_nil, List.length_nil] at f3'
    simp (maxSteps := 400000) [C21, push_cast, -Int.not_lt, -Int.not_le, ↓evI_call, ↓evI_calli, ↓evI_calln, ↓evI_callz, ↓evI_callv, ↓evI_mxn, loopIn, loopIn0, keepL, emp, A.dang, A.dangC, go21_0, B21_0, St.c, slI, slT, f1, f2, f3', hn', aft, strip, frzK]
  · have f3' := fun bx => (f3 bx).trans (by unfold cloned; rw [if_neg hn] : some (cloned (s.tasks.flatMap Tk.c) s.tasks.length 6 bx) = some (.bs bx.length s.tasks.length 6, bx ++ [s.tasks.flatMap Tk.c]))
    have hlp := copy_loop s hs _ hT s.tasks.length 0
    simp only [St.c, slI, slT]
    generalize s.tasks.flatMap Tk.c = T at hT f3' hlp ⊢
    have h6 := hT.dang 3
    have h7 := hT.cp
    simp (maxSteps := 400000) [C21, push_cast, -Int.not_lt, -Int.not_le, ↓evI_call, ↓evI_calli, ↓evI_calln, ↓evI_callz, ↓evI_callv, ↓evI_mxn, f1, f2, f3', h6, h7, aft, strip, -List.all_eq_true]
    have key : ∀ e : Env, (e 1 = .ptr 0 0 ∧ e 2 = .ptr 1 0 ∧ e 18 = .bs 2 s.tasks.length 6 ∧ e 19 = vi s.tasks.length ∧ e 20 = vi (0 : Nat)) →
        ∃ r, evL tab0 ext0 0 L21_0 (e, [[vi s.proto, .sl (s.cores.map vi) s.cores.length 0, .sl (s.homes.map vi) s.homes.length 0, .bs 2 s.tasks.length 6], [vi 0, .sl [] 0 1, .sl [] 0 1, .sl [] 0 1], T]) = some r ∧
          FQ (fun _ => false) (bxC s T) 0 (fun _ _ => True) (fun e => e 1 = .ptr 0 0 ∧ e 2 = .ptr 1 0) 0 s.tasks.length r := by
      intro e he
      obtain ⟨r, hr, hq⟩ := hlp e (by omega) he
      exact ⟨r, (loop_own (by simp [z4, A.own]) (by simp [z4, A.dangC])).trans hr, hq⟩
    refine behind (key _ (by simp [put_at])) ?_
    intro r hq
    unfold FQ at hq
    split at hq
    · obtain ⟨e', rfl, h1, h2⟩ := hq
      have h8 := hT.mapM
      have h9 := hT.len
      have h10 : T.take (s.tasks.length * 6) = T := by rw [← h9]; exact List.take_length
      simp (maxSteps := 400000) [push_cast, -Int.not_lt, -Int.not_le, ↓evI_call, ↓evI_calli, ↓evI_calln, ↓evI_callz, ↓evI_callv, ↓evI_mxn, h1, h2, bxC, z4, frzK, h8, h9, h10]
    · rename_i hf
      obtain ⟨-, -, h3⟩ := fstP_some _ _ _ hf
      cases h3
end Go.Proofs.YtkohggddaheefaaEv
