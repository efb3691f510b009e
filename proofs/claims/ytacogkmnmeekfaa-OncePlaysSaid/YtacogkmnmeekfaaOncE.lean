/- The plain law of OncePlays: the program's Once beside the reference's row. -/
import Derived.Test.YtacogkmnmeekfaaOncC
import Derived.Test.YtacogkmnmeekfaaRfD
namespace Go.Proofs.Ytacogkmnmeekfaa
open Go Go.RowKit

def rowOf (d : Int) (lw : List Int) : List Int := if d = 0 then [] else d :: lw

structure Sane (o : Bool) (d : Int) (lw : List Int) : Prop where
  none : d = 0 → lw = []
  once : (rowOf d lw).Nodup
  lo : 0 ≤ d
  over : o = true → d = 0

theorem rowOf_zero (lw : List Int) : rowOf 0 lw = [] := rfl
theorem rowOf_pos {d : Int} (h : d ≠ 0) (lw : List Int) : rowOf d lw = d :: lw := if_neg h

theorem beg_row {o : Bool} {d : Int} {lw : List Int} {t e d' : Int} {r : Bool} {l' : List Int} (h : Sane o d lw) (hb : beg d o lw t = (r, e, d', l')) :
    rbeg o (rowOf d lw) t = (r, e, rowOf d' l') ∧ Sane o d' l' ∧ l'.length ≤ lw.length + 1 := by
  unfold beg at hb
  by_cases ht : t < 1
  · rw [if_pos ht] at hb; cases hb
    exact ⟨by unfold rbeg; rw [if_pos ht], h, by omega⟩
  rw [if_neg ht] at hb
  cases o
  case true =>
    cases hb
    exact ⟨by unfold rbeg; rw [if_neg ht]; rfl, h, by omega⟩
  rw [if_neg (by decide)] at hb
  by_cases hd : d = 0
  · have hl := h.none hd
    subst hd hl
    have hn : ¬ ((0 : Int) = t ∨ t ∈ ([] : List Int)) := by simp; omega
    rw [if_neg hn, if_pos rfl] at hb
    cases hb
    refine ⟨?_, ⟨fun h => absurd h (by omega), by rw [rowOf_pos (by omega)]; simp, by omega, fun h => by cases h⟩, by simp⟩
    unfold rbeg
    rw [if_neg ht, if_neg (by decide), rowOf_zero, if_neg (by simp), if_pos (by rfl), rowOf_pos (by omega)]
    rfl
  · rw [rowOf_pos hd]
    have hs := h.once
    rw [rowOf_pos hd] at hs
    by_cases hm : d = t ∨ t ∈ lw
    · rw [if_pos hm] at hb; cases hb
      refine ⟨?_, h, by omega⟩
      unfold rbeg
      rw [if_neg ht, if_neg (by decide), if_pos (by simp only [List.mem_cons]; exact hm.imp Eq.symm id), rowOf_pos hd]
    · rw [if_neg hm, if_neg hd] at hb; cases hb
      refine ⟨?_, ⟨fun h => absurd h hd, ?_, h.lo, fun h => by cases h⟩, by simp⟩
      · unfold rbeg
        rw [if_neg ht, if_neg (by decide), if_neg (by simp only [List.mem_cons]; exact fun h => hm (h.imp Eq.symm id)), if_neg (by simp), rowOf_pos hd]
        rfl
      · rw [rowOf_pos hd]
        have : (d :: (lw ++ [t])) = (d :: lw) ++ [t] := rfl
        rw [this, List.nodup_append]
        refine ⟨hs, by simp, ?_⟩
        intro a ha b' hb' e
        simp only [List.mem_singleton] at hb'
        subst hb' e
        exact hm ((List.mem_cons.1 ha).imp Eq.symm id)

theorem don_row {o : Bool} {d : Int} {lw : List Int} (t : Int) (h : Sane o d lw) :
    (t < 1 ∧ don d o lw t = (1, d, o, [], lw)) ∨ (1 ≤ t ∧ idx (rowOf d lw) t ≠ 0 ∧ don d o lw t = (11, d, o, [], lw)) ∨ (1 ≤ t ∧ d = t ∧ rowOf d lw = t :: lw ∧ don d o lw t = (0, 0, true, lw, [])) := by
  unfold don
  by_cases ht : t < 1
  · exact .inl ⟨ht, by rw [if_pos ht]⟩
  by_cases hd : d = t
  · exact .inr (.inr ⟨by omega, hd, by rw [rowOf_pos (by omega), hd], by rw [if_neg ht, if_neg (by simp [hd])]⟩)
  · refine .inr (.inl ⟨by omega, ?_, by rw [if_neg ht, if_pos hd]⟩)
    unfold rowOf idx
    split
    · simp
    · split
      · have hf : (d == t) = false := by simp [hd]
        rw [List.idxOf_cons, hf]; simp only [cond_false]; omega
      · omega

theorem drop_row {o : Bool} {d : Int} {lw : List Int} (t : Int) (h : Sane o d lw) :
    (t ∈ lw ∧ ∃ i : Nat, i < (rowOf d lw).length ∧ 1 ≤ i ∧ idx (rowOf d lw) t = i ∧ (rowOf d lw).eraseIdx i = rowOf d (dropT lw t)) ∨ (t ∉ lw ∧ (idx (rowOf d lw) t = -1 ∨ idx (rowOf d lw) t = 0) ∧ dropT lw t = lw) := by
  by_cases hm : t ∈ lw
  · have hd : d ≠ 0 := fun e => by rw [h.none e] at hm; cases hm
    have hs := h.once
    rw [rowOf_pos hd] at hs ⊢
    have hne : d ≠ t := fun e => by subst e; exact (List.nodup_cons.1 hs).1 hm
    have hi : lw.idxOf t < lw.length := List.idxOf_lt_length_iff.2 hm
    refine .inl ⟨hm, lw.idxOf t + 1, by simp; exact hi, by omega, ?_, ?_⟩
    · rw [idx_in (List.mem_cons_of_mem _ hm), List.idxOf_cons, (by simp [hne] : (d == t) = false)]; rfl
    · rw [List.eraseIdx_cons_succ, dropT_in hm, rowOf_pos hd]
  · refine .inr ⟨hm, ?_, dropT_no hm⟩
    unfold rowOf
    split
    · exact .inl (idx_out (by simp))
    · by_cases e : d = t
      · subst e; exact .inr (by rw [idx_in (by simp)]; simp)
      · exact .inl (idx_out (by simp [hm]; omega))
end Go.Proofs.Ytacogkmnmeekfaa
