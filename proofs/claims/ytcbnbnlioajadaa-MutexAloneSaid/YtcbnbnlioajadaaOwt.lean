/- A list of ints of the call's own that may have lost its first ones: what is cut off, and what is appended to it. -/
import Derived.Test.YtcbnbnlioajadaaIntC
import Derived.ArgAppend
namespace Go.Proofs.Ytcbnbnlioajadaa
open Go Go.RowKit

/-- v is the list l, in a row of the call's own, at any place of it. -/
def RowT (w : World) (v : Value) (l : List Int) : Prop :=
  (v = .slice none 0 0 ∧ l = []) ∨ ∃ g off cap cur t, v = .slice (some ⟨g, off, none⟩) l.length cap ∧ w.heap[g]? = some (.cells cur t (0, 0)) ∧ off + cap ≤ cur.size ∧ l.length ≤ cap ∧ cap ≤ maxLen ∧
    ∀ i, i < l.length → cur[off + i]? = some (.int .i64 (nth l i))

theorem RowT.form {w : World} {v : Value} {l : List Int} (h : RowT w v l) : ∃ a c, v = .slice a l.length c ∧ l.length ≤ c ∧ c ≤ maxLen := by
  obtain ⟨rfl, rfl⟩ | ⟨g, off, c, cur, t, rfl, h1, h2, h3, h4, h5⟩ := h
  · exact ⟨none, 0, rfl, Nat.le_refl _, Nat.zero_le _⟩
  · exact ⟨_, c, rfl, h3, h4⟩

theorem RowT.lt {w : World} {v : Value} {l : List Int} (h : RowT w v l) {k : Nat} (hk : v.ownBlock = some k) : k < w.heap.size := by
  obtain ⟨rfl, rfl⟩ | ⟨g, off, c, cur, t, rfl, h1, _⟩ := h
  · cases hk
  · cases hk; exact lt_of_heap h1

theorem RowT.keep {F : Nat → Prop} {w w' : World} {v : Value} {l : List Int} (h : RowT w v l) (hK : Keep F w w') (hF : ∀ k, v.ownBlock = some k → ¬ F k) : RowT w' v l := by
  obtain h | ⟨g, off, c, cur, t, rfl, h1, h2⟩ := h
  · exact .inl h
  · exact .inr ⟨g, off, c, cur, t, rfl, (hK.block g (lt_of_heap h1) (hF g rfl)).trans h1, h2⟩

theorem RowT.cell {w : World} {a : Option Addr} {n c : Nat} {l : List Int} (h : RowT w (.slice a n c) l) (hn : 0 < l.length) : ∃ g off, a = some ⟨g, off, none⟩ ∧ g < w.heap.size ∧ ∀ i, i < l.length → w.cell? ⟨g, off + i, none⟩ = some (.int .i64 (nth l i)) := by
  obtain ⟨h1, rfl⟩ | ⟨g, off, c, cur, t, h0, h1, h2, h3, h4, h5⟩ := h
  · simp at hn
  · cases h0
    exact ⟨g, off, rfl, lt_of_heap h1, fun i hi => by rw [cell_of_row w g (off + i) cur t (0, 0) h1]; exact h5 i hi⟩

theorem RowT.made (w : World) : RowT (w.alloc (.cells #[] 3)) (.slice (some ⟨w.heap.size, 0, none⟩) 0 0) [] :=
  .inr ⟨w.heap.size, 0, 0, #[], 3, rfl, heap_alloc_new w _, by simp, by simp, Nat.zero_le _, fun i hi => by simp at hi⟩

/-- Without its first one. -/
theorem RowT.tail {w : World} {g off n c : Nat} {x : Int} {l : List Int} (h : RowT w (.slice (some ⟨g, off, none⟩) n c) (x :: l)) (v : Value) (hv : v = .slice (some (if c = 1 then ⟨g, off, none⟩ else ⟨g, off + 1, none⟩)) l.length (c - 1)) : RowT w v l := by
  subst hv
  obtain ⟨h1, h2⟩ | ⟨g', off', c', cur, t, h0, h1, h2, h3, h4, h5⟩ := h
  · cases h2
  · simp only [Value.slice.injEq, Option.some.injEq, Addr.mk.injEq] at h0
    obtain ⟨⟨rfl, rfl, _⟩, _, rfl⟩ := h0
    simp at h3
    split
    · rename_i hc
      have : l = [] := List.eq_nil_of_length_eq_zero (by omega)
      subst this
      exact .inr ⟨g, off, 0, cur, t, by rw [hc], h1, by omega, by simp, Nat.zero_le _, fun i hi => by simp at hi⟩
    · refine .inr ⟨g, off + 1, c - 1, cur, t, rfl, h1, by omega, by omega, by omega, fun i hi => ?_⟩
      have := h5 (i + 1) (by simp; omega)
      rw [show off + 1 + i = off + (i + 1) by omega, this]
      simp [nth]

theorem cells_setCell {w : World} {g o : Nat} {cur : Array Value} {t : Nat} (h : w.heap[g]? = some (.cells cur t (0, 0))) (u : Value) : (w.setCells g o [u]).heap[g]? = some (.cells (cur.setIfInBounds o u) t (0, 0)) := by
  show (w.setCell ⟨g, o, none⟩ u).heap[g]? = _
  exact heap_setCell_row h u

/-- One more. -/
theorem wp_append_tail (w : World) {o : Oper} {a : Act} {K : Act → World → Prop} {Q : Exit → Act → World → Prop} (s x : Operand)
    (ho : o.op = .call { callee := .builtin .append, args := #[s, x], argTypes := #[26, 26] })
    (v : Value) (l : List Int) (hs : a.eval s = v) (hown : RowT w v l) (b c : Nat) (u : Int) (hx : a.eval x = .slice (some ⟨b, 0, none⟩) 1 c) (hsrc : w.cell? ⟨b, 0, none⟩ = some (.int .i64 u)) (hn : l.length ≤ 1000000)
    (h : ∀ v' w', RowT w' v' (l ++ [u]) → (∀ k, v'.ownBlock = some k → v.ownBlock = some k ∨ w.heap.size ≤ k) → Keep (fun k => v.ownBlock = some k) w w' → K (a.put o.dst v') w') : o.wp Try.prog a w K Q := by
  obtain ⟨i0, hi, hz0, hz1, hz2⟩ := info_parts Try.infoI
  have hnews : ∀ (j : Nat) (y : Value), [Value.int .i64 u][j]? = some y → w.cell? ((⟨b, 0, none⟩ : Addr).add j) = some y := by
    intro j y hj
    have hadd : (⟨b, 0, none⟩ : Addr).add j = ⟨b, j, none⟩ := by unfold Addr.add; split <;> simp_all
    rw [hadd]
    rcases j with _ | j
    · simp at hj; subst hj; exact hsrc
    · simp at hj
  have h1 : ∀ y ∈ [Value.int .i64 u], y.oneCell' = true := by simp [Value.oneCell']
  -- a row of its own, new
  have fresh : ∀ v' w', w'.ownsRow w.heap.size 3 1 v' (l.length + 1) (flat1 l ++ [.int .i64 u]) → RowT w' v' (l ++ [u]) := by
    intro v' w' hr
    have e : flat1 l ++ [.int .i64 u] = flat1 (l ++ [u]) := by simp [flat1]
    obtain ⟨h1, ⟨_, h2⟩ | ⟨g, cap, cur, rfl, _, hg, hc, hm, hz, ht⟩⟩ := hr
    · omega
    · refine .inr ⟨g, 0, cap, cur, _, by simp, hg, by omega, by simp; omega, hm, fun i hi => ?_⟩
      have hv := flat1_get (l ++ [u]) i hi
      rw [← e, ← ht, List.getElem?_take] at hv
      rw [Nat.zero_add]
      split at hv
      · simpa using hv
      · cases hv
  unfold Oper.wp
  rcases hown with ⟨rfl, rfl⟩ | ⟨g, off, cap, cur, t, rfl, hg, h2, h3, h4, h5⟩
  · obtain ⟨v', w', hrun, r1, r2, _⟩ := run_append_own (P := Try.prog) w w.heap.size 26 o.type 3 i0 (.int .i64 0) 1 8 Try.underlying26 hi hz0 hz1 hz2 rfl (by decide) (.slice none 0 0) 0 [] (World.ownsRow_nil w _ _ _) ⟨b, 0, none⟩ 1 c _ rfl hnews h1 (by decide) (by decide) (Nat.le_refl _)
    simp [execOp, ho, resolve, invoke, builtin, hs, hx, hrun, Result.andThen]
    exact h v' w' (fresh v' w' r1) (fun k hk => .inr ((World.ownsRow.lt r1 k hk).1)) (Keep.of_grown r2)
  · by_cases hroom : l.length + 1 ≤ cap
    · have hin : off + l.length < cur.size := by omega
      have hsome : ∀ j, j < [Value.int .i64 u].length → (w.cell? ⟨g, off + l.length * i0.size + j, none⟩).isSome = true := fun j hj => by
        simp at hj; subst hj
        rw [hz1, cell_of_row w g _ cur t (0, 0) hg, Nat.mul_one, Nat.add_zero, Array.getElem?_eq_getElem hin]; rfl
      have hfr : ∀ j, j < [Value.int .i64 u].length → w.frozen? ⟨g, off + l.length * i0.size + j, none⟩ = false := fun j _ => by simp [World.frozen?, hg]
      have hrun := run_append_room_cells (P := Try.prog) w 26 o.type 3 i0 Try.underlying26 hi g off l.length cap ⟨b, 0, none⟩ 1 c [.int .i64 u] (by rw [hz1]; rfl) hnews h1 hroom hsome hfr
      rw [hz1, Nat.mul_one] at hrun
      simp [execOp, ho, resolve, invoke, builtin, hs, hx, hrun, Result.andThen]
      refine h _ _ (.inr ⟨g, off, cap, _, t, by simp, cells_setCell hg _, by simpa using h2, by simp; omega, h4, fun i hi => ?_⟩) (fun k hk => .inl hk) ?_
      · simp at hi
        by_cases e : i = l.length
        · subst e
          rw [Array.getElem?_setIfInBounds_self_of_lt hin]
          simp [nth]
        · rw [Array.getElem?_setIfInBounds_ne (by omega), h5 i (by omega)]
          simp [nth, List.getD, List.getElem?_append_left (show i < l.length by omega)]
      · exact (Keep.refl (fun k => (Value.slice (some ⟨g, off, none⟩) l.length cap).ownBlock = some k) w).setCell (p := ⟨g, off + l.length, none⟩) (.inl rfl) (.int .i64 u)
    · have holds : ∀ (j : Nat) (y : Value), (flat1 l)[j]? = some y → w.cell? ((⟨g, off, none⟩ : Addr).add j) = some y := by
        intro j y hj
        have hadd : (⟨g, off, none⟩ : Addr).add j = ⟨g, off + j, none⟩ := by unfold Addr.add; split <;> simp_all
        have hjl : j < l.length := by
          have := (List.getElem?_eq_some_iff.1 hj).1
          rwa [flat1_length] at this
        rw [flat1_get l j hjl] at hj
        cases hj
        rw [hadd, cell_of_row w g (off + j) cur t (0, 0) hg]
        exact h5 j hjl
      obtain ⟨v', w', hrun, r1, r2⟩ := run_append_arg_grows (P := Try.prog) w 26 o.type 3 i0 (.int .i64 0) 1 8 Try.underlying26 hi hz0 hz1 hz2 rfl (by decide) ⟨g, off, none⟩ l.length cap (flat1 l) (by rw [flat1_length, Nat.mul_one]) holds ⟨b, 0, none⟩ 1 c [.int .i64 u] rfl hnews (by omega) (by unfold maxLen; omega) (by omega)
      simp [execOp, ho, resolve, invoke, builtin, hs, hx, hrun, Result.andThen]
      exact h v' w' (fresh v' w' r1) (fun k hk => .inr ((World.ownsRow.lt r1 k hk).1)) ((Keep.of_grown r2).mono fun k _ e => by cases e)
end Go.Proofs.Ytcbnbnlioajadaa
