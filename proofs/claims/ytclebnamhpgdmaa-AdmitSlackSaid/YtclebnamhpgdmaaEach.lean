/- What a job of another task can do ahead of a task's Runs. -/
import Derived.Test.YtclebnamhpgdmaaExt1
import Derived.Test.YtclebnamhpgdmaaRefAg
set_option linter.unusedSimpArgs false
set_option linter.unusedVariables false
namespace Go.Proofs.YtclebnamhpgdmaaEv
open Go
set_option maxHeartbeats 4000000
def clAt (s : St) (i : Nat) : Int := (s.tasks[i]?.map Tk.cluster).getD 0
def ptsAt (s : St) (i : Nat) : List Pt := (s.tasks[i]?.map Tk.parts).getD []
theorem clAt_is (s : St) (i : Nat) (h : i < s.tasks.length) : clAt s i = s.tasks[i].cluster := by unfold clAt; simp [h]
theorem ptsAt_is (s : St) (i : Nat) (h : i < s.tasks.length) : ptsAt s i = s.tasks[i].parts := by unfold ptsAt; simp [h]
def eachS (s : St) (m k : Nat) : Int := (if eqz (clAt s m) (clAt s k) = true ∧ prioAt s k < prioAt s m then allK (ptsAt s k) 1 else 0) + (if eqz s.proto 2 = true then atS s k (clAt s m) else if eqz (clAt s m) (clAt s k) = true then allK (ptsAt s k) 3 else 0)
theorem all_bounds {l : List Pt} (h : PtsOk l) (k : Int) : 0 ≤ allK l k ∧ allK l k ≤ 600 := by
  have := h.take l.length k
  rw [List.take_length] at this; exact this
theorem ptsAt_ok {s : St} (g : Good s) (k : Nat) : PtsOk (ptsAt s k) := by
  unfold ptsAt
  cases h : s.tasks[k]? with
  | none => exact ⟨by simp, by simp⟩
  | some t => exact g.pts (List.mem_of_getElem? h)
theorem each_bounds {s : St} (g : Good s) (m k : Nat) : 0 ≤ eachS s m k ∧ eachS s m k ≤ 1200 := by
  have h1 := all_bounds (ptsAt_ok g k) 1
  have h2 := all_bounds (ptsAt_ok g k) 3
  have h3 := at_bounds s k (clAt s m)
  unfold eachS
  repeat' split
  all_goals omega
theorem eqz_symm (a b : Int) : eqz a b = eqz b a := by simp [eqz, eq_comm]
theorem each_two (s : St) (g : Good s) (hs : Sm s) (m k : Nat) (hm : m < s.tasks.length) (hk : k < s.tasks.length) :
    Ans (vi (eachS s m k)) [] (runF (evL tab0 ext0) C36a [.agg (St.c s), vi m, vi k]) ∧ Ans (vi (eachS s m k)) [] (runF (evL tab0 ext0) C36b [.agg (St.c s), vi m, vi k]) := by
  have hm' : (m : Int) < s.tasks.length := by omega
  have hk' : (k : Int) < s.tasks.length := by omega
  have hp := g.pts (List.getElem_mem hk)
  have h1 := pure_vi (k := false) (kind_30 s.tasks[k] hp)
  have h2 := pure_vi (k := false) (kind_51 s.tasks[k] hp)
  have h3 := pure_vi (k := false) (at_is s k s.tasks[m].cluster hs.fits)
  have b1 := all_bounds hp 1
  have b2 := all_bounds hp 3
  have b3 := at_bounds s k s.tasks[m].cluster
  have hdm := drop_tk s.tasks m hm
  have hdk := drop_tk s.tasks k hk
  unfold eachS
  rw [clAt_is s m hm, clAt_is s k hk, ptsAt_is s k hk, prioAt_is s k hk, prioAt_is s m hm]
  generalize atS s k s.tasks[m].cluster = x3 at *
  generalize allK s.tasks[k].parts 1 = x1 at *
  generalize allK s.tasks[k].parts 3 = x2 at *
  have w0 : IntKind.wrap .i64 (0 + x3) = x3 := by rw [Int.zero_add]; exact wrap_in _ (by omega) (by omega)
  have w0' : IntKind.wrap .i64 x3 = x3 := wrap_in _ (by omega) (by omega)
  have w1 : IntKind.wrap .i64 (x1 + x3) = x1 + x3 := wrap_in _ (by omega) (by omega)
  have w2 : IntKind.wrap .i64 (0 + x2) = x2 := by rw [Int.zero_add]; exact wrap_in _ (by omega) (by omega)
  have w2' : IntKind.wrap .i64 x2 = x2 := wrap_in _ (by omega) (by omega)
  have w3 : IntKind.wrap .i64 (x1 + x2) = x1 + x2 := wrap_in _ (by omega) (by omega)
  simp only [St.c, slI, slT, slP, Tk.c] at h1 h2 h3 hdm hdk
  have ea : runF (evL tab0 ext0) C36a [.agg (St.c s), vi m, vi k] = (evL tab0 ext0 0 C36a.body (initFrom 0 [.agg (St.c s), vi m, vi k], [])).bind (resK C36a) := rfl
  have eb : runF (evL tab0 ext0) C36b [.agg (St.c s), vi m, vi k] = (evL tab0 ext0 0 C36b.body (initFrom 0 [.agg (St.c s), vi m, vi k], [])).bind (resK C36b) := rfl
  rw [ea, eb]
  clear ea eb
  rcases (Bool.eq_false_or_eq_true (eqz s.tasks[m].cluster s.tasks[k].cluster)).symm with c1 | c1
  · rcases (Bool.eq_false_or_eq_true (eqz s.proto 2)).symm with c3 | c3
    · simp [C36a, C36b, push_cast, -Int.not_lt, -Int.not_le, ↓evI_call, ↓evI_calli, ↓evI_calln, ↓evI_callz, ↓evI_callv, ↓evI_mxn, St.c, slI, slT, slP, Tk.c, hm, hk, hm', hk', hdm, hdk, h1, h2, h3, c1, c3]
      exact ⟨Ans.nil rfl, Ans.nil rfl⟩
    · simp [C36a, C36b, push_cast, -Int.not_lt, -Int.not_le, ↓evI_call, ↓evI_calli, ↓evI_calln, ↓evI_callz, ↓evI_callv, ↓evI_mxn, St.c, slI, slT, slP, Tk.c, hm, hk, hm', hk', hdm, hdk, h1, h2, h3, c1, c3, w0, w0']
      exact ⟨Ans.nil rfl, Ans.nil rfl⟩
  · by_cases c2 : s.tasks[k].prio < s.tasks[m].prio
    · rcases (Bool.eq_false_or_eq_true (eqz s.proto 2)).symm with c3 | c3
      · simp [C36a, C36b, push_cast, -Int.not_lt, -Int.not_le, ↓evI_call, ↓evI_calli, ↓evI_calln, ↓evI_callz, ↓evI_callv, ↓evI_mxn, St.c, slI, slT, slP, Tk.c, hm, hk, hm', hk', hdm, hdk, h1, h2, h3, c1, c2, c3, w3]
        exact ⟨Ans.nil rfl, Ans.nil rfl⟩
      · simp [C36a, C36b, push_cast, -Int.not_lt, -Int.not_le, ↓evI_call, ↓evI_calli, ↓evI_calln, ↓evI_callz, ↓evI_callv, ↓evI_mxn, St.c, slI, slT, slP, Tk.c, hm, hk, hm', hk', hdm, hdk, h1, h2, h3, c1, c2, c3, w1]
        exact ⟨Ans.nil rfl, Ans.nil rfl⟩
    · rcases (Bool.eq_false_or_eq_true (eqz s.proto 2)).symm with c3 | c3
      · simp [C36a, C36b, push_cast, -Int.not_lt, -Int.not_le, ↓evI_call, ↓evI_calli, ↓evI_calln, ↓evI_callz, ↓evI_callv, ↓evI_mxn, St.c, slI, slT, slP, Tk.c, hm, hk, hm', hk', hdm, hdk, h1, h2, h3, c1, c2, c3, w2, w2']
        exact ⟨Ans.nil rfl, Ans.nil rfl⟩
      · simp [C36a, C36b, push_cast, -Int.not_lt, -Int.not_le, ↓evI_call, ↓evI_calli, ↓evI_calln, ↓evI_callz, ↓evI_callv, ↓evI_mxn, St.c, slI, slT, slP, Tk.c, hm, hk, hm', hk', hdm, hdk, h1, h2, h3, c1, c2, c3, w0, w0']
        exact ⟨Ans.nil rfl, Ans.nil rfl⟩
theorem each_is (s : St) (g : Good s) (hs : Sm s) (m k : Nat) (hm : m < s.tasks.length) (hk : k < s.tasks.length) : Ans (vi (eachS s m k)) [] (callL tab0 ext1 36 [.agg (St.c s), vi m, vi k] []) := by
  obtain ⟨h1, h2⟩ := each_two s g hs m k hm hk
  have h := two_vi h1 h2
  refine ⟨[], ?_⟩
  unfold callL callOf
  have e : ext1 36 [.agg (St.c s), vi m, vi k] [] = some (vi (eachS s m k), []) := h
  rw [e]; rfl
end Go.Proofs.YtclebnamhpgdmaaEv
