/- The plain law of MutexPlays: the program's Mutex beside the reference's row. -/
import Derived.Test.YtcbnbnlioajadaaMutB
import Derived.Test.YtcbnbnlioajadaaRmA
namespace Go.Proofs.Ytcbnbnlioajadaa
open Go Go.RowKit

def rowOf (d : Int) (lw : List Int) : List Int := if d = 0 then [] else d :: lw

structure Sane (d : Int) (lw : List Int) : Prop where
  none : d = 0 → lw = []
  once : (rowOf d lw).Nodup
  lo : 0 ≤ d
  los : ∀ t ∈ lw, 1 ≤ t

theorem rowOf_zero (lw : List Int) : rowOf 0 lw = [] := rfl
theorem rowOf_pos {d : Int} (h : d ≠ 0) (lw : List Int) : rowOf d lw = d :: lw := if_neg h
theorem rowOf_head {d : Int} (lw : List Int) : (rowOf d lw).headD 0 = d := by
  unfold rowOf; split
  · rename_i h; rw [h]; rfl
  · rfl
theorem rowOf_tail {d : Int} {lw : List Int} (h : Sane d lw) : (rowOf d lw).tail = lw := by
  unfold rowOf; split
  · rename_i e; rw [h.none e]; rfl
  · rfl
theorem rowOf_len (d : Int) (lw : List Int) : (rowOf d lw).length ≤ lw.length + 1 := by
  unfold rowOf; split <;> simp
theorem dropT_sub (l : List Int) (t : Int) : (dropT l t).Sublist l := by
  unfold dropT; split
  · exact List.eraseIdx_sublist _ _
  · exact List.Sublist.refl _
theorem Sane.drop {d : Int} {lw : List Int} (h : Sane d lw) (t : Int) : Sane d (dropT lw t) := by
  refine ⟨fun e => by rw [h.none e]; rfl, ?_, h.lo, fun u hu => h.los u ((dropT_sub lw t).subset hu)⟩
  have hs := h.once
  unfold rowOf at hs ⊢
  split
  · simp
  · rename_i e
    rw [if_neg e] at hs
    exact hs.sublist (List.Sublist.cons_cons _ (dropT_sub lw t))

theorem mem_row {d t : Int} {lw : List Int} (h : Sane d lw) (ht : 1 ≤ t) : t ∈ rowOf d lw ↔ d = t ∨ t ∈ lw := by
  by_cases hd : d = 0
  · rw [h.none hd, hd, rowOf_zero]; simp; omega
  · rw [rowOf_pos hd, List.mem_cons]; exact or_congr ⟨Eq.symm, Eq.symm⟩ Iff.rfl

theorem rwt_lo {l : List Int} {t : Int} {wait : Bool} (h : t < 1) : rwt l t wait = (1, l) := by unfold rwt; rw [if_pos h]
theorem rwt_in {l : List Int} {t : Int} {wait : Bool} (h : 1 ≤ t) (hm : t ∈ l) : rwt l t wait = (11, l) := by unfold rwt; rw [if_neg (by omega), if_pos hm]
theorem rwt_no {l : List Int} {t : Int} (h : 1 ≤ t) (hm : t ∉ l) (hl : 0 < l.length) : rwt l t false = (12, l) := by unfold rwt; rw [if_neg (by omega), if_neg hm, if_pos ⟨hl, rfl⟩]
theorem rwt_yes {l : List Int} {t : Int} (h : 1 ≤ t) (hm : t ∉ l) (hl : 0 < l.length) : rwt l t true = (14, l ++ [t]) := by unfold rwt; rw [if_neg (by omega), if_neg hm, if_neg (by simp), if_neg (by omega)]
theorem rwt_got {t : Int} {wait : Bool} (h : 1 ≤ t) : rwt [] t wait = (0, [t]) := by unfold rwt; rw [if_neg (by omega), if_neg (by simp), if_neg (by simp)]; rfl

/-- Try. -/
theorem try_row {d : Int} {lw : List Int} (t : Int) (h : Sane d lw) {e d' : Int} (hb : mtr d lw t = (e, d')) :
    rwt (rowOf d lw) t false = (e, rowOf d' lw) ∧ Sane d' lw := by
  rcases mwr_cases d lw t with ⟨h1, h2⟩ | ⟨h1, h2, h3⟩ | ⟨h1, h2, h3, h4⟩
  · rw [mtr_wrong h1 (by decide)] at hb; cases hb
    exact ⟨rwt_lo h2, h⟩
  · rw [mtr_wrong h1 (by decide)] at hb; cases hb
    exact ⟨rwt_in h2 ((mem_row h h2).2 h3), h⟩
  · have hno : t ∉ rowOf d lw := fun hm => ((mem_row h h2).1 hm).elim h3 h4
    by_cases hd : d = 0
    · have hl := h.none hd
      subst hd hl
      rw [mtr_free h1] at hb; cases hb
      refine ⟨by rw [rowOf_zero, rwt_got h2, rowOf_pos (by omega)], fun e => absurd e (by omega), by rw [rowOf_pos (by omega)]; simp, by omega, by simp⟩
    · rw [mtr_busy h1 hd] at hb; cases hb
      refine ⟨rwt_no h2 hno (by rw [rowOf_pos hd]; simp), h⟩

/-- Lock. -/
theorem lock_row {d : Int} {lw : List Int} (t : Int) (h : Sane d lw) {e d' : Int} {l' : List Int} (hb : mlk d lw t = (e, d', l')) :
    rwt (rowOf d lw) t true = (e, rowOf d' l') ∧ Sane d' l' ∧ l'.length ≤ lw.length + 1 := by
  rcases mwr_cases d lw t with ⟨h1, h2⟩ | ⟨h1, h2, h3⟩ | ⟨h1, h2, h3, h4⟩
  · rw [mlk_not (mtr_wrong h1 (by decide)) (by decide)] at hb; cases hb
    exact ⟨rwt_lo h2, h, by omega⟩
  · rw [mlk_not (mtr_wrong h1 (by decide)) (by decide)] at hb; cases hb
    exact ⟨rwt_in h2 ((mem_row h h2).2 h3), h, by omega⟩
  · have hno : t ∉ rowOf d lw := fun hm => ((mem_row h h2).1 hm).elim h3 h4
    by_cases hd : d = 0
    · have hl := h.none hd
      subst hd hl
      rw [mlk_not (mtr_free h1) (by decide)] at hb; cases hb
      refine ⟨by rw [rowOf_zero, rwt_got h2, rowOf_pos (by omega)], ⟨fun e => absurd e (by omega), by rw [rowOf_pos (by omega)]; simp, by omega, by simp⟩, by simp⟩
    · rw [mlk_wait (mtr_busy h1 hd)] at hb; cases hb
      refine ⟨by rw [rwt_yes h2 hno (by rw [rowOf_pos hd]; simp), rowOf_pos hd, rowOf_pos hd]; rfl, ⟨fun e => absurd e hd, ?_, h.lo, ?_⟩, by simp⟩
      · rw [rowOf_pos hd]
        have : (d :: (lw ++ [t])) = rowOf d lw ++ [t] := by rw [rowOf_pos hd]; rfl
        rw [this, List.nodup_append]
        refine ⟨h.once, by simp, ?_⟩
        intro a ha b' hb' e
        simp only [List.mem_singleton] at hb'
        subst hb' e
        exact hno ha
      · intro u hu
        rcases List.mem_append.1 hu with hu | hu
        · exact h.los u hu
        · simp only [List.mem_singleton] at hu; omega

/-- Unlock. -/
theorem unlock_row {d : Int} {lw : List Int} (t : Int) (h : Sane d lw) :
    (t < 1) ∨ (1 ≤ t ∧ d ≠ t ∧ idx (rowOf d lw) t ≠ 0) ∨ (1 ≤ t ∧ d = t ∧ rowOf d lw = t :: lw) := by
  by_cases ht : t < 1
  · exact .inl ht
  by_cases hd : d = t
  · exact .inr (.inr ⟨by omega, hd, by rw [rowOf_pos (by omega), hd]⟩)
  · refine .inr (.inl ⟨by omega, hd, ?_⟩)
    unfold rowOf idx
    split
    · simp
    · split
      · have hf : (d == t) = false := by simp [hd]
        rw [List.idxOf_cons, hf]; simp only [cond_false]; omega
      · omega

/-- Who holds it next, and who waits then. -/
theorem Sane.next {d : Int} {lw : List Int} (h : Sane d lw) (hd : d ≠ 0) : rowOf (lw.headD 0) lw.tail = lw ∧ Sane (lw.headD 0) lw.tail := by
  cases lw with
  | nil => exact ⟨rfl, fun _ => rfl, by simp [rowOf], by decide, by simp⟩
  | cons x l =>
    have hx : 1 ≤ x := h.los x (by simp)
    have hs := h.once
    rw [rowOf_pos hd] at hs
    refine ⟨by simp only [List.headD_cons, List.tail_cons]; rw [rowOf_pos (by omega)], fun e => by simp at e; omega, ?_, by simp; omega, fun t ht => h.los t (List.mem_cons_of_mem _ ht)⟩
    simp only [List.headD_cons, List.tail_cons]
    rw [rowOf_pos (by omega)]
    exact (List.nodup_cons.1 hs).2

theorem drop_row {d : Int} {lw : List Int} (t : Int) (h : Sane d lw) :
    (t ∈ lw ∧ ∃ i : Nat, i < (rowOf d lw).length ∧ 1 ≤ i ∧ idx (rowOf d lw) t = i ∧ (rowOf d lw).eraseIdx i = rowOf d (dropT lw t)) ∨ (t ∉ lw ∧ (idx (rowOf d lw) t = -1 ∨ idx (rowOf d lw) t = 0) ∧ dropT lw t = lw) := by
  by_cases hm : t ∈ lw
  · have hd : d ≠ 0 := fun e => by rw [h.none e] at hm; cases hm
    have hs := h.once
    rw [rowOf_pos hd] at hs ⊢
    have hne : d ≠ t := fun e => by subst e; exact (List.nodup_cons.1 hs).1 hm
    have hi : lw.idxOf t < lw.length := List.idxOf_lt_length_iff.2 hm
    refine .inl ⟨hm, lw.idxOf t + 1, by simp; exact hi, by omega, ?_, ?_⟩
    · rw [idx_in (List.mem_cons_of_mem _ hm), List.idxOf_cons, (by simp [hne] : (d == t) = false)]; rfl
    · rw [List.eraseIdx_cons_succ, dropT_in hm, rowOf_pos hd]
  · refine .inr ⟨hm, ?_, dropT_no hm⟩
    unfold rowOf
    split
    · exact .inl (idx_out (by simp))
    · by_cases e : d = t
      · subst e; exact .inr (by rw [idx_in (by simp)]; simp)
      · exact .inl (idx_out (by simp [hm]; omega))
end Go.Proofs.Ytcbnbnlioajadaa
