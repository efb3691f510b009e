/- Lists of bools of the call's own. -/
import Derived.Test.YthnocalnlonniaaInt0
namespace Go.Proofs.Ythnocalnlonniaa
open Go Go.RowKit

def flatB (l : List Bool) : List Value := l.map Value.bool
theorem flatB_length (l : List Bool) : (flatB l).length = l.length := by simp [flatB]
theorem flatB_append (a b : List Bool) : flatB (a ++ b) = flatB a ++ flatB b := by simp [flatB]
theorem flatB_one (l : List Bool) : ∀ v ∈ flatB l, v.oneCell' = true := by
  intro v hv
  simp only [flatB, List.mem_map] at hv
  obtain ⟨x, _, rfl⟩ := hv
  rfl
theorem flatB_get (l : List Bool) (i : Nat) (h : i < l.length) : (flatB l)[i]? = some (.bool (l.getD i false)) := by simp [flatB, h]

def OwnB (w : World) (v : Value) (l : List Bool) : Prop := w.ownsRow 0 4 1 v l.length (flatB l)

theorem OwnB.form {w : World} {v : Value} {l : List Bool} (h : OwnB w v l) : ∃ a c, v = .slice a l.length c := owns_form h
theorem OwnB.nil (w : World) : OwnB w (.slice none 0 0) [] := World.ownsRow_nil _ _ _ _
theorem OwnB.keep {F : Nat → Prop} {w w' : World} {v : Value} {l : List Bool} (h : OwnB w v l) (hK : Keep F w w') (hF : ∀ k, v.ownBlock = some k → ¬ F k) : OwnB w' v l := owns_keep h hK hF
theorem OwnB.lt {w : World} {v : Value} {l : List Bool} (h : OwnB w v l) {k : Nat} (hk : v.ownBlock = some k) : k < w.heap.size := (World.ownsRow.lt h k hk).2

/-- Its cells. -/
theorem OwnB.cells {w : World} {v : Value} {l : List Bool} (h : OwnB w v l) (hn : 0 < l.length) : ∃ g c, v = .slice (some ⟨g, 0, none⟩) l.length c ∧ g < w.heap.size ∧ (∀ o, w.frozen? ⟨g, o, none⟩ = false) ∧ l.length ≤ maxLen ∧ ∀ i, i < l.length → w.cell? ⟨g, i, none⟩ = some (.bool (l.getD i false)) := by
  obtain ⟨h1, ⟨_, h2⟩ | ⟨g, cap, cur, rfl, _, hg, hn', hc, hs, ht⟩⟩ := h
  · omega
  · refine ⟨g, cap, rfl, lt_of_heap hg, fun o => by simp [World.frozen?, hg], Nat.le_trans hn' hc, fun i hi => ?_⟩
    have hv := flatB_get l i hi
    rw [cell_of_row w g i cur 4 (0, 0) hg]
    rw [← ht, List.getElem?_take] at hv
    split at hv
    · simpa using hv
    · cases hv

/-- One of it is turned. -/
theorem OwnB.set {w : World} {g n c : Nat} {l : List Bool} (h : OwnB w (.slice (some ⟨g, 0, none⟩) n c) l) (i : Nat) (hi : i < l.length) (u : Bool) : OwnB (w.setCell ⟨g, i, none⟩ (.bool u)) (.slice (some ⟨g, 0, none⟩) n c) (l.set i u) := by
  obtain ⟨h1, ⟨h2, _⟩ | ⟨g', cap, cur, h0, hb, hg, hn', hc, hs, ht⟩⟩ := h
  · cases h2
  · simp only [Value.slice.injEq, Option.some.injEq, Addr.mk.injEq] at h0
    obtain ⟨⟨rfl, _, _⟩, hn, rfl⟩ := h0
    refine ⟨by rw [flatB_length, Nat.mul_one], .inr ⟨g, c, _, by rw [List.length_set, hn], hb, heap_setCell_row hg _, by rw [List.length_set]; exact hn', hc, by simpa using hs, ?_⟩⟩
    rw [List.length_set, Array.toList_setIfInBounds, List.take_set, ht]
    simp [flatB, List.map_set]

theorem Try.infoB : (Try.prog.info? 4).map (fun i => (i.zero, i.size, i.bytes)) = some (some (.bool false), 1, 1) := by kernel_rfl

theorem OwnB.src {w : World} {v : Value} {l : List Bool} (h : OwnB w v l) : Src w v l.length 1 (flatB l) := owns_src h (flatB_one l)

theorem one_srcB (w : World) (t : Bool) : Src (w.alloc (.cells #[.bool t] 4)) (.slice (some ⟨w.heap.size, 0, none⟩) 1 1) 1 1 (flatB [t]) := by
  refine .inr ⟨_, _, rfl, rfl, fun j u hu => ?_, by simp [Value.oneCell', flatB]⟩
  have hadd : (⟨w.heap.size, 0, none⟩ : Addr).add j = ⟨w.heap.size, j, none⟩ := by unfold Addr.add; split <;> simp_all
  rw [hadd, World.cell?_alloc_new]
  simpa [flatB] using hu

theorem wp_append_bools (w : World) {o : Oper} {a : Act} {K : Act → World → Prop} {Q : Exit → Act → World → Prop} (s x : Operand)
    (ho : o.op = .call { callee := .builtin .append, args := #[s, x], argTypes := #[45, 45] })
    (v : Value) (l : List Bool) (hs : a.eval s = v) (hown : OwnB w v l) (sv : Value) (m : Nat) (news : List Bool) (hx : a.eval x = sv) (hsrc : Src w sv m 1 (flatB news)) (hn : l.length + m ≤ 1000000)
    (h : ∀ v' w', OwnB w' v' (l ++ news) → (∀ k, v'.ownBlock = some k → v.ownBlock = some k ∨ w.heap.size ≤ k) → Keep (fun k => v.ownBlock = some k) w w' → K (a.put o.dst v') w') : o.wp Try.prog a w K Q := by
  obtain ⟨i0, hi, hz0, hz1, hz2⟩ := info_parts Try.infoB
  have hm : news.length = m := by
    rcases hsrc with ⟨_, h1, h2⟩ | ⟨_, _, _, h2, _⟩
    · simp [flatB] at h2; rw [h1, h2]; rfl
    · simpa [flatB] using h2
  refine wp_append_src w s x 45 ho 0 4 i0 (.bool false) 1 1 Try.underlying45 hi hz0 hz1 hz2 rfl (by decide) v l.length (flatB l) hs hown sv m _ hx hsrc (by unfold maxLen; omega) (by omega) (Nat.zero_le _) ?_
  intro v1 w1 o1 g1 f1
  refine h v1 w1 ?_ f1 (Keep.of_grown g1)
  unfold OwnB
  rw [List.length_append, flatB_append, hm]
  exact o1
end Go.Proofs.Ythnocalnlonniaa
