/- Something that may not be makes a set none: plain law. -/
import Derived.Test.YtkohggddaheefaaTaTwP
import Derived.Test.YtkohggddaheefaaSame
set_option linter.unusedSimpArgs false
set_option linter.unusedVariables false
namespace Go.Proofs.YtkohggddaheefaaEv
open Go
set_option maxHeartbeats 2000000
theorem toList_loop (b : ByteArray) : ∀ (d i : Nat) (r : List UInt8), b.size = i + d → ByteArray.toList.loop b i r = r.reverse ++ b.data.toList.drop i
  | 0, i, r, h => by
    rw [ByteArray.toList.loop, if_neg (by omega), List.drop_of_length_le (by show b.data.size ≤ i; have : b.data.size = b.size := rfl; omega), List.append_nil]
  | d + 1, i, r, h => by
    have hi : i < b.data.toList.length := by show i < b.data.size; have : b.data.size = b.size := rfl; omega
    rw [ByteArray.toList.loop, if_pos (by omega), toList_loop b d (i + 1) _ (by omega), List.drop_eq_getElem_cons hi, List.reverse_cons, List.append_assoc]
    congr 2
    show b.data[i]! :: _ = _
    have hi2 : i < b.data.size := hi
    rw [getElem!_pos b.data i hi2]; rfl
theorem ba_list (b : ByteArray) : b.toList = b.data.toList := by
  rw [ByteArray.toList, toList_loop b b.size 0 [] (by omega)]; simp
theorem ba_inj {a b : ByteArray} (h : a.toList = b.toList) : a = b := by
  rw [ba_list, ba_list] at h
  rw [ByteArray.ext_iff, ← Array.toList_inj]; exact h
theorem sameTk_eq {a b : Tk} (h : sameTk a b = true) : a = b := by
  unfold sameTk at h
  simp only [Bool.and_eq_true, decide_eq_true_eq, eqz] at h
  obtain ⟨⟨⟨⟨⟨h1, h2⟩, h3⟩, h4⟩, h5⟩, h6⟩ := h
  cases a; cases b
  simp only at *
  rw [ba_inj h1, h2, h3, h4, h5, h6]
theorem sameSt_eq {s t : St} (h : sameSt s t = true) : s = t := by
  unfold sameSt at h
  simp only [Bool.and_eq_true, decide_eq_true_eq, eqz] at h
  obtain ⟨⟨⟨⟨h1, h2⟩, h3⟩, h4⟩, h5⟩ := h
  have hl : s.tasks.length = t.tasks.length := by omega
  have h6 : s.tasks = t.tasks := by
    refine List.ext_getElem hl fun i hi hj => ?_
    have hn : fstP (badAt s.tasks t.tasks) 0 s.tasks.length = none := by simpa using h5
    have := (fstP_none _ _).1 hn i (Nat.zero_le _) (by omega)
    rw [badAt_is _ _ _ hi hj] at this
    exact sameTk_eq (by simpa using this)
  cases s; cases t
  simp only at *
  rw [h1, h2, h3, h6]
theorem sameSt_self (s : St) : sameSt s s = true := by
  unfold sameSt
  have h : fstP (badAt s.tasks s.tasks) 0 s.tasks.length = none := (fstP_none _ _).2 fun i _ hi => by
    rw [badAt_is _ _ _ (by omega) (by omega)]
    simp [sameTk, eqz]
  rw [h]
  simp [eqz]
/-- A set of which something is wrong isn't one of which nothing is. -/
theorem same_no {x s : St} (g : Good s) {i e : Int} (h : chk x = (i, e)) (he : e ≠ 0) : sameSt x s = false := by
  rcases (Bool.eq_false_or_eq_true (sameSt x s)).symm with h2 | h2
  · exact h2
  · have := sameSt_eq h2
    subst this
    have h3 := (chk_good x).2 g
    rw [h] at h3
    exact absurd h3 he
theorem placed_good {s : St} (g : Good s) : placedOk s = true := by
  have hc := g.cores; have hh := g.homes
  unfold placedOk
  have a1 : s.cores.any coreBad = false := by
    rw [List.any_eq_false]; intro c h; have := g.core c h; simp [coreBad]; omega
  have a2 : s.homes.any (homeBad s.cores.length) = false := by
    rw [List.any_eq_false]; intro c h; have := g.home c h; simp [homeBad]; omega
  rw [a1, a2]; simp; omega
/-- A task spoilt. -/
theorem sp_chk {s : St} (g : Good s) {k : Nat} (hk : k < s.tasks.length) (t : Tk) {e : Int} (he : taskErr s k t = e) (h0 : e ≠ 0) : chk (twS s k t) = ((k : Int), e) := by
  have hp := g.proto; have ht := g.tasks
  have hlen : (twS s k t).tasks.length = s.tasks.length := List.length_set ..
  have htake : ∀ m, m ≤ k → (twS s k t).tasks.take m = s.tasks.take m := fun m hm => by
    show (s.tasks.set k t).take m = _
    rw [List.take_set_of_le hm]
  have herr : ∀ m (hm : m < s.tasks.length), m ≤ k → errAt (twS s k t) m = taskErr s m (if m = k then t else s.tasks[m]) := by
    intro m hm hmk
    unfold errAt
    rw [tw_get _ hm]
    show taskErr (twS s k t) m _ = _
    unfold taskErr
    rw [htake m hmk]; rfl
  have hbad : fstP (fun m => !eqz (errAt (twS s k t) m) 0) 0 s.tasks.length = some k := by
    refine fstP_eq _ _ _ (fun m _ hm => ?_) (Nat.zero_le _) (by omega) ?_
    · rw [herr m (by omega) (by omega), if_neg (by omega)]
      have : taskErr s m s.tasks[m] = 0 := taskErr_good.2 ⟨g.task _ (List.getElem_mem _), by
        rw [List.any_eq_false]
        intro o ho
        rw [List.mem_take_iff_getElem] at ho
        obtain ⟨b, hb, rfl⟩ := ho
        rw [g.uniq b m (by omega) (by omega) (by omega)]; simp⟩
      rw [this]; rfl
    · rw [herr k hk (Nat.le_refl _), if_pos rfl, he]
      simp [eqz, h0]
  have h2 : placedOk (twS s k t) = true := placed_good (s := s) g
  have hpr : (twS s k t).proto = s.proto := rfl
  unfold chk
  rw [hlen, hpr, if_neg (by omega), h2, if_neg (by simp), if_neg (by omega), if_neg (by omega), hbad]
  simp only
  rw [herr k hk (Nat.le_refl _), if_pos rfl, he]
def badB : ByteArray := ⟨#[66, 97, 100]⟩
/-- The task that is written, by the case. -/
def spT (s : St) (w : Nat) (t : Tk) : Tk := match w with
  | 0 => { t with name := badB }
  | 1 => { t with deadline := t.period + 1 }
  | 2 => { t with prio := 1001 }
  | 3 => { t with cluster := s.cores.length }
  | 4 => { t with parts := [] }
  | 5 => { t with parts := t.parts.set 0 { (t.parts.getD 0 ⟨0, 0, 0⟩) with len := 61 } }
  | _ => { t with parts := t.parts.set 0 ⟨3, 1, s.homes.length⟩ }
def spE (w : Nat) : Int := if w ≤ 2 then 10 else if w = 3 then 16 else 15
theorem sp_err {s : St} (g : Good s) {k : Nat} (hk : k < s.tasks.length) (w : Nat) (hw : w ≤ 6) : taskErr s k (spT s w s.tasks[k]) = spE w := by
  obtain ⟨k1, k2, k3, k4, k5, k6, k7⟩ := g.task _ (List.getElem_mem hk)
  have hu : (s.tasks.take k).any (twice s.tasks[k]) = false := by
    rw [List.any_eq_false]
    intro o ho
    rw [List.mem_take_iff_getElem] at ho
    obtain ⟨b, hb, rfl⟩ := ho
    rw [g.uniq b k (by omega) hk (by omega)]; simp
  have hbn : nameOk badB = false := by decide +kernel
  generalize s.tasks[k] = t at *
  have c1 : (!nameOk t.name || !(decide (1 ≤ t.period) && decide (t.period ≤ 3000)) || !(decide (1 ≤ t.deadline) && decide (t.deadline ≤ t.period)) || !(decide (1 ≤ t.prio) && decide (t.prio ≤ 1000))) = false := by simp [k1, k2, k3, k4]
  have c2 : (!(decide (0 ≤ t.cluster) && decide (t.cluster ≤ (s.cores.length : Int) - 1))) = false := by simp; omega
  have hcase : w = 0 ∨ w = 1 ∨ w = 2 ∨ w = 3 ∨ w = 4 ∨ w = 5 ∨ w = 6 := by omega
  rcases hcase with rfl | rfl | rfl | rfl | rfl | rfl | rfl
  · unfold taskErr spT; simp [hbn, spE]
  · unfold taskErr spT
    rw [if_pos]; · rfl
    · simp [k1, k2, k4]; omega
  · unfold taskErr spT
    rw [if_pos]; · rfl
    · simp
  · unfold taskErr spT
    simp only
    rw [c1, if_neg (by simp), if_pos (by simp; omega)]; rfl
  · unfold taskErr spT
    simp only
    have hu2 : (s.tasks.take k).any (twice { t with parts := [] }) = false := hu
    rw [c1, c2, hu2, if_neg (by simp), if_neg (by simp), if_neg (by simp), if_pos (by simp [partsOk])]; rfl
  · unfold taskErr spT
    simp only
    obtain ⟨p, ps, hps⟩ : ∃ p ps, t.parts = p :: ps := by
      cases hh : t.parts with
      | nil => rw [hh] at k6; simp at k6
      | cons p ps => exact ⟨p, ps, rfl⟩
    have hb : partsOk s.homes.length (t.parts.set 0 { (t.parts.getD 0 ⟨0, 0, 0⟩) with len := 61 }) = false := by
      rw [hps]; simp [partsOk, partBad]
    have hu2 : ∀ q, (s.tasks.take k).any (twice { t with parts := q }) = false := fun _ => hu
    rw [c1, c2, hu2, if_neg (by simp), if_neg (by simp), if_neg (by simp), if_pos (by rw [hb]; rfl)]; rfl
  · unfold taskErr spT
    simp only
    obtain ⟨p, ps, hps⟩ : ∃ p ps, t.parts = p :: ps := by
      cases hh : t.parts with
      | nil => rw [hh] at k6; simp at k6
      | cons p ps => exact ⟨p, ps, rfl⟩
    have hb : partsOk s.homes.length (t.parts.set 0 ⟨3, 1, s.homes.length⟩) = false := by
      rw [hps]; simp [partsOk, partBad]
      intros; omega
    have hu2 : ∀ q, (s.tasks.take k).any (twice { t with parts := q }) = false := fun _ => hu
    rw [c1, c2, hu2, if_neg (by simp), if_neg (by simp), if_neg (by simp), if_pos (by rw [hb]; rfl)]; rfl
theorem sp_proto {s : St} : chk ⟨4, s.cores, s.homes, s.tasks⟩ = (-1, 10) := by
  unfold chk; rw [if_pos]; simp
theorem sp_core {s : St} (g : Good s) : chk ⟨s.proto, s.cores.set 0 0, s.homes, s.tasks⟩ = (-1, 16) := by
  have hp := g.proto
  have hc := g.cores
  unfold chk
  rw [if_neg (by show ¬ (s.proto < 1 ∨ 3 < s.proto); omega), if_pos]
  obtain ⟨c, cs, hcs⟩ : ∃ c cs, s.cores = c :: cs := by
    cases hh : s.cores with
    | nil => rw [hh] at hc; simp at hc
    | cons p ps => exact ⟨p, ps, rfl⟩
  unfold placedOk
  rw [hcs]
  simp [coreBad]
theorem sp_none {s : St} (g : Good s) : chk ⟨s.proto, s.cores, s.homes, []⟩ = (-1, 14) := by
  have hp := g.proto
  have h2 : placedOk ⟨s.proto, s.cores, s.homes, []⟩ = true := placed_good (s := s) g
  unfold chk
  rw [if_neg (by show ¬ (s.proto < 1 ∨ 3 < s.proto); omega), h2, if_neg (by simp), if_neg (by simp), if_pos (by simp)]
end Go.Proofs.YtkohggddaheefaaEv
