/- Items, rows of them: the program's, the reference's. -/
import Derived.Test.YtgndbkeiickihaaStabI3
import Derived.Test.YtgndbkeiickihaaSo
set_option linter.unusedSimpArgs false
set_option linter.unusedVariables false
namespace Go.Proofs.YtgndbkeiickihaaEv
open Go
set_option maxHeartbeats 4000000
structure It where
  key : Int
  id : Int
  deriving DecidableEq, Inhabited
def itc (x : It) : List A := [vi x.key, vi x.id]
theorem itE : Enc itc 2 := ⟨fun _ => rfl, fun _ => rfl⟩
def slX (L : List It) : A := .sl (fg itc L) L.length 0
def ilt (a b : It) : Bool := decide (a.key < b.key)
theorem ilt_swo : Swo ilt where
  asym a b h := by unfold ilt at *; simp at *; omega
  neg a b c h h' := by unfold ilt at *; simp at *; omega
theorem it_len (L : List It) : (fg itc L).length = L.length * 2 := itE.flen L
theorem it_plain (L : List It) : (fg itc L).all A.plain = true := itE.fplain L
theorem it_drop (L : List It) (i : Nat) (h : i < L.length) : ∃ R, (fg itc L).drop (i * 2) = vi L[i].key :: vi L[i].id :: R := ⟨_, drop_flat itc 2 (fun _ => rfl) L i h⟩
theorem it_snoc (L : List It) (x : It) : fg itc (L ++ [x]) = fg itc L ++ [vi x.key, vi x.id] := by simp [fg, itc, List.flatMap_append]
def cmpJ (a b : Int) : Int := if a < b then -1 else if b < a then 1 else 0
theorem nanJ_is (x : Int) : pureOf (callL tab0 ext0) false 52 [vi x] = some (vb false) := by
  refine pureOf_eq (bx := []) (r := vb false) ?_ rfl
  rw [callL_tab _ _ rfl tab52 rfl]
  simp [C52, push_cast, -Int.not_lt, -Int.not_le, ↓evI_call, ↓evI_calli, ↓evI_calln, ↓evI_callz, ↓evI_callv, ↓evI_mxn]
theorem cmpJ_is (a b : Int) : pureOf (callL tab0 ext0) false 38 [vi a, vi b] = some (vi (cmpJ a b)) := by
  unfold cmpJ
  refine pureOf_eq (bx := []) (r := vi _) ?_ rfl
  rw [callL_tab _ _ rfl tab38 rfl]
  by_cases c1 : a < b
  · simp [C38, push_cast, -Int.not_lt, -Int.not_le, ↓evI_call, ↓evI_calli, ↓evI_calln, ↓evI_callz, ↓evI_callv, ↓evI_mxn, nanJ_is, c1]
  · by_cases c2 : b < a <;> simp [C38, push_cast, -Int.not_lt, -Int.not_le, ↓evI_call, ↓evI_calli, ↓evI_calln, ↓evI_callz, ↓evI_callv, ↓evI_mxn, nanJ_is, c1, c2]
theorem compareI_is (a b : It) (bx : Bx) : callL tab0 ext0 32 [.agg (itc a), .agg (itc b)] bx = some (vi (cmpJ a.key b.key), bx ++ [itc a, itc b]) := by
  rw [callL_tab _ _ rfl tab32 rfl]
  have h1 := cmpJ_is a.key b.key
  generalize cmpJ a.key b.key = x at *
  simp [C32, push_cast, -Int.not_lt, -Int.not_le, ↓evI_call, ↓evI_calli, ↓evI_calln, ↓evI_callz, ↓evI_callv, ↓evI_mxn, itc, get_0, get_1, h1]
theorem cmpJ_lt (a b : It) : cmpJ a.key b.key < 0 ↔ ilt a b = true := by
  unfold cmpJ ilt
  simp only [decide_eq_true_eq]
  split
  · simp_all
  · split <;> simp_all
theorem cmpK_it : CmpK itc ilt 32 where
  call a b B _ := ⟨cmpJ a.key b.key, [itc a, itc b], compareI_is a b [B], cmpJ_lt a b⟩
theorem sortI_is (L : List It) (hn : 0 < L.length) (h59 : L.length ≤ 59) : callL tab0 ext0 13 [slX L] [] = some (.bs 0 L.length 2, [fg itc (ss ilt L)]) := by
  rw [callL_tab _ _ rfl tab13 rfl]
  have h1 := clone_30 (fg itc L) L.length [] (it_plain L) (it_len L) (by omega)
  have h2 := sfI_call itE cmpK_it ilt_swo L L.length rfl h59
  have e1 : cloned (fg itc L) L.length 2 [] = (.bs 0 L.length 2, [fg itc L]) := by unfold cloned; rw [if_neg (by omega)]; rfl
  rw [e1] at h1
  have ha1 : aft 0 (.bs 0 L.length 2, [fg itc L]) = (.bs 0 L.length 2, [], [fg itc L]) := by
    unfold aft
    rw [if_neg (by simp [A.scal, A.isVal])]
    have := (clean_nil : Clean [])
    show (_, _, strip _) = _
    simp only [strip, List.map_cons, List.map_nil, plain_cp (it_plain L)]
  have ha2 : aft 1 (.tup [], [fg itc (ss ilt L)]) = (.tup [], [], [fg itc (ss ilt L)]) := aft_clean (fgC itE (ss ilt L)) (v := .tup []) rfl
  simp only [slX]
  generalize fg itc L = B at *
  generalize fg itc (ss ilt L) = B2 at *
  simp [C13, push_cast, -Int.not_lt, -Int.not_le, ↓evI_call, ↓evI_calli, ↓evI_calln, ↓evI_callz, ↓evI_callv, ↓evI_mxn, h1, h2, ha1, ha2]
theorem stab_nil : callL tab0 ext0 31 [.sl [] 0 0, .fn 32 []] [] = some (.tup [], []) := by
  have h1 : callL tab0 ext0 64 [.sl [] 0 0, vi 0, vi 0, .fn 32 []] [] = some (.tup [], []) := by
    rw [callL_tab _ _ rfl tab64 rfl]
    have w1 : IntKind.wrap .i64 1 = 1 := by decide
    simp [C64, push_cast, -Int.not_lt, -Int.not_le, ↓evI_call, ↓evI_calli, ↓evI_calln, ↓evI_callz, ↓evI_callv, ↓evI_mxn, loopIn, loopIn0, keepL, emp, A.dang, A.dangC, go64_0, B64_0, w1]
  have h2 : callL tab0 ext0 47 [.sl [] 0 0, vi 0, .fn 32 []] [] = some (.tup [], []) := by
    rw [callL_tab _ _ rfl tab47 rfl]
    have a1 : aft 0 (.tup [], []) = (.tup [], [], []) := rfl
    have w1 : IntKind.wrap .i64 0 = 0 := by decide
    simp [C47, push_cast, -Int.not_lt, -Int.not_le, ↓evI_call, ↓evI_calli, ↓evI_calln, ↓evI_callz, ↓evI_callv, ↓evI_mxn, loopIn, loopIn0, keepL, emp, A.dang, A.dangC, go47_0, B47_0, go47_2, B47_2, h1, a1, w1]
  rw [callL_tab _ _ rfl tab31 rfl]
  have a1 : aft 0 (.tup [], []) = (.tup [], [], []) := rfl
  simp [C31, push_cast, -Int.not_lt, -Int.not_le, ↓evI_call, ↓evI_calli, ↓evI_calln, ↓evI_callz, ↓evI_callv, ↓evI_mxn, h2, a1]
theorem sortP_is (L : List It) (h59 : L.length ≤ 59) : pureOf (callL tab0 ext0) false 13 [slX L] = some (slX (ss ilt L)) := by
  by_cases hn : 0 < L.length
  · refine pureOf_eq (sortI_is L hn h59) ?_
    have hl : (fg itc (ss ilt L)).length = L.length * 2 := by rw [it_len, ss_len]
    have hp := it_plain (ss ilt L)
    unfold slX
    rw [ss_len]
    generalize fg itc (ss ilt L) = B at *
    show frzC [B] 3 (.bs 0 L.length 2) = _
    unfold frzC
    simp only [List.getElem?_cons_zero, hl, Nat.le_refl, if_true]
    rw [← hl, List.take_length, plain_mapM hp]; rfl
  · obtain rfl : L = [] := List.length_eq_zero_iff.1 (by omega)
    refine pureOf_eq (bx := []) (r := .sl [] 0 0) ?_ rfl
    rw [callL_tab _ _ rfl tab13 rfl]
    have h1 := clone_30 [] 0 [] rfl rfl (by omega)
    have e1 : cloned [] 0 2 [] = (.sl [] 0 0, []) := rfl
    rw [e1] at h1
    have a1 : aft 0 (.sl [] 0 0, []) = (.sl [] 0 0, [], []) := rfl
    have a2 : aft 0 (.tup [], []) = (.tup [], [], []) := rfl
    simp [C13, push_cast, -Int.not_lt, -Int.not_le, ↓evI_call, ↓evI_calli, ↓evI_calln, ↓evI_callz, ↓evI_callv, ↓evI_mxn, slX, h1, stab_nil, a1, a2]
/-! ### in order? -/
def badI (L : List It) (i : Nat) : Bool := match L[i]?, L[i + 1]? with
  | some a, some b => ilt b a
  | _, _ => false
def isI (L : List It) : Bool := (fstP (badI L) 0 (L.length - 1)).isNone
theorem badI_at (L : List It) (i : Nat) (h1 : i < L.length) (h2 : i + 1 < L.length) : badI L i = decide (L[i + 1].key < L[i].key) := by
  unfold badI; rw [List.getElem?_eq_getElem h1, List.getElem?_eq_getElem h2]; rfl
theorem refIs_loop (L : List It) (h9 : L.length ≤ 1000) :
    ∀ d i (e : Env), i + d = L.length - 1 → (e 0 = slX L ∧ e 3 = vi ((i : Int) + 1)) → ∃ zz, evL tab0 ext0 0 L15_0 (e, []) = some zz ∧ FQ (fun i => badI L i) ([]) 0 (fun _ e' => e' 2 = vb false) (fun _ => True) i d zz := by
  refine fq_loop (St := fun i e => e 0 = slX L ∧ e 3 = vi ((i : Int) + 1)) _ _ _ _ _ ?_ ?_
  · rintro e ⟨g0, g1⟩
    have hz : ¬ (((L.length - 1 : Nat) : Int) + 1 < L.length) := by omega
    exact ⟨_, (go15_0 _ _).trans (by simp [B15_0, push_cast, -Int.not_lt, -Int.not_le, ↓evI_call, ↓evI_calli, ↓evI_calln, ↓evI_callz, ↓evI_callv, ↓evI_mxn, loopIn, loopIn0, keepL, emp, A.dang, A.dangC, g0, g1, slX, hz]; rfl), by trivial⟩
  · rintro i e hi ⟨g0, g1⟩
    rw [go15_0]
    have hi' : (i : Int) < (L.length - 1 : Nat) := by omega
    have h1 : i < L.length := by omega
    have h2 : i + 1 < L.length := by omega
    have h3 : (i : Int) < L.length := by omega
    have h4 : (i : Int) + 1 < L.length := by omega
    obtain ⟨R1, d1⟩ := it_drop L i h1
    obtain ⟨R2, d2⟩ := it_drop L (i + 1) h2
    have hb := badI_at L i h1 h2
    have w1 : IntKind.wrap .i64 ((i : Int) + 1 - 1) = (i : Int) := by rw [wrap_in _ (by omega) (by omega)]; omega
    have w1' : IntKind.wrap .i64 (i : Int) = (i : Int) := wrap_in _ (by omega) (by omega)
    have w2 : IntKind.wrap .i64 ((i : Int) + 1 + 1) = (i : Int) + 1 + 1 := wrap_in _ (by omega) (by omega)
    have t1 : ((i : Int) + 1).toNat = i + 1 := by omega
    have p1 : (0 : Int) ≤ (i : Int) + 1 := by omega
    generalize L[i] = x at *
    generalize L[i + 1] = y at *
    simp +contextual (maxSteps := 400000) [B15_0, push_cast, -Int.not_lt, -Int.not_le, ↓evI_call, ↓evI_calli, ↓evI_calln, ↓evI_callz, ↓evI_callv, ↓evI_mxn, loopIn, loopIn0, keepL, emp, A.dang, A.dangC, g0, g1, hi, hi', slX, h3, h4, d1, d2, w1, w1', w2, t1, p1, hb]
    (repeat' refine Step.split (fun cc => ?_) (fun cc => ?_)) <;> first | (refine Step.ret0 ?_ ?_ <;> first | (simp_all [put_at, eqz]; done) | (simp [put_at, *]; done) | ((try simp [eqz] at *); omega)) | (refine Step.go ?_ ?_ <;> first | (simp_all [put_at, eqz]; done) | (simp [put_at, *]; done) | ((try simp [eqz] at *); omega)) | (refine Step.ret _ ?_ ?_ <;> first | (simp_all [put_at, eqz]; done) | (simp [put_at, *]; done) | ((try simp [eqz] at *); omega)) | (refine Step.goJ _ (by simp) ?_ ?_ <;> first | (simp_all [put_at, eqz]; done) | (simp [put_at, *]; done) | ((try simp [eqz] at *); omega))
theorem refIs_is (L : List It) (h9 : L.length ≤ 1000) : Ans (vb (isI L)) [] (callL tab0 ext0 15 [slX L] []) := by
  rw [callL_tab _ _ rfl tab15 rfl]
  have hlp := fun e => refIs_loop L h9 (L.length - 1) 0 e (by omega)
  simp only [slX] at hlp
  simp [C15, push_cast, -Int.not_lt, -Int.not_le, ↓evI_call, ↓evI_calli, ↓evI_calln, ↓evI_callz, ↓evI_callv, ↓evI_mxn, slX]
  refine behindP (P := fun r => Ans _ [] r) (hlp _ (by simp [put_at])) ?_
  intro a h
  unfold FQ at h
  unfold isI
  cases hf : fstP (badI L) 0 (L.length - 1) with
  | none =>
    rw [hf] at h
    obtain ⟨e', rfl, _⟩ := h
    simp [push_cast, -Int.not_lt, -Int.not_le, ↓evI_call, ↓evI_calli, ↓evI_calln, ↓evI_callz, ↓evI_callv, ↓evI_mxn]
    exact Ans.nil rfl
  | some k =>
    rw [hf] at h
    obtain ⟨e', junk, rfl, h2⟩ := h
    simp [push_cast, -Int.not_lt, -Int.not_le, ↓evI_call, ↓evI_calli, ↓evI_calln, ↓evI_callz, ↓evI_callv, ↓evI_mxn, h2]
    exact ⟨_, rfl⟩
end Go.Proofs.YtgndbkeiickihaaEv
