/- What is appended to a list of ints. -/
import Derived.Test.YtegpoocmhamlpaaIntB
namespace Go.Proofs.Ytegpoocmhamlpaa
open Go Go.RowKit

theorem one_srcI (w : World) (t : Int) : Src (w.alloc (.cells #[.int .i64 t] 3)) (.slice (some ⟨w.heap.size, 0, none⟩) 1 1) 1 1 (flat1 [t]) := by
  refine .inr ⟨_, _, rfl, rfl, fun j u hu => ?_, by simp [Value.oneCell', flat1]⟩
  have hadd : (⟨w.heap.size, 0, none⟩ : Addr).add j = ⟨w.heap.size, j, none⟩ := by unfold Addr.add; split <;> simp_all
  rw [hadd, World.cell?_alloc_new]
  simpa [flat1] using hu

theorem wp_append_ints (w : World) {o : Oper} {a : Act} {K : Act → World → Prop} {Q : Exit → Act → World → Prop} (s x : Operand)
    (ho : o.op = .call { callee := .builtin .append, args := #[s, x], argTypes := #[27, 27] })
    (v : Value) (l : List Int) (hs : a.eval s = v) (hown : OwnI w v l) (sv : Value) (m : Nat) (news : List Int) (hx : a.eval x = sv) (hsrc : Src w sv m 1 (flat1 news)) (hn : l.length + m ≤ 1000000)
    (h : ∀ v' w', OwnI w' v' (l ++ news) → (∀ k, v'.ownBlock = some k → v.ownBlock = some k ∨ w.heap.size ≤ k) → Keep (fun k => v.ownBlock = some k) w w' → K (a.put o.dst v') w') : o.wp Try.prog a w K Q := by
  obtain ⟨i0, hi, hz0, hz1, hz2⟩ := info_parts Try.infoI
  have hm : news.length = m := by
    rcases hsrc with ⟨_, h1, h2⟩ | ⟨_, _, _, h2, _⟩
    · simp [flat1] at h2; rw [h1, h2]; rfl
    · simpa [flat1] using h2
  refine wp_append_src w s x 27 ho 0 3 i0 (.int .i64 0) 1 8 Try.underlying27 hi hz0 hz1 hz2 rfl (by decide) v l.length (flat1 l) hs hown sv m _ hx hsrc (by unfold maxLen; omega) (by omega) (Nat.zero_le _) ?_
  intro v1 w1 o1 g1 f1
  refine h v1 w1 ?_ f1 (Keep.of_grown g1)
  unfold OwnI
  rw [List.length_append, flat1_append, hm]
  exact o1

/-- A new row of ints. -/
theorem made_ints (w : World) (l : List Int) (h : l.length ≤ maxLen) : OwnI (w.alloc (.cells (flat1 l).toArray 3)) (.slice (some ⟨w.heap.size, 0, none⟩) l.length l.length) l :=
  ⟨by rw [flat1_length, Nat.mul_one], .inr ⟨w.heap.size, l.length, _, rfl, Nat.zero_le _, heap_alloc_new w _, Nat.le_refl _, h, by simp [flat1_length], by
    rw [List.take_of_length_le (by simp [flat1_length])]⟩⟩

/-- The same list, read by another capacity. -/
theorem ReadI.recap {w : World} {a : Option Addr} {n c c' : Nat} {l : List Int} (h : ReadI w (.slice a n c) l) : ReadI w (.slice a n c') l := by
  rcases h with ⟨a', d, h1, h2⟩ | ⟨g, off, d, h1, h2, h3, h4⟩
  · cases h1
    exact .inl ⟨_, _, rfl, h2⟩
  · simp only [Value.slice.injEq] at h1
    obtain ⟨rfl, rfl, rfl⟩ := h1
    exact .inr ⟨g, off, _, rfl, h2, h3, h4⟩

/-- What lies behind the first of a list that can be read. -/
theorem own_lt {w : World} {v : Value} {l : List Int} (h : OwnI w v l) {k : Nat} (hk : v.ownBlock = some k) : k < w.heap.size := (World.ownsRow.lt h k hk).2

theorem own_cap {w : World} {a : Option Addr} {n c : Nat} {l : List Int} (h : OwnI w (.slice a n c) l) : n ≤ c := by
  rcases h.2 with ⟨h, h0⟩ | ⟨g, cap, cur, h, _, _, h2, _⟩
  · simp only [Value.slice.injEq] at h; omega
  · simp only [Value.slice.injEq] at h
    obtain ⟨_, h3, rfl⟩ := h
    omega

/-- What is set in a row of cells. -/
theorem heap_setCell_row {w : World} {b o : Nat} {cs : Array Value} {t : Nat} {z : Nat × Nat} (h : w.heap[b]? = some (.cells cs t z)) (u : Value) :
    (w.setCell ⟨b, o, none⟩ u).heap[b]? = some (.cells (cs.setIfInBounds o u) t z) := by
  simp [World.setCell, Array.getElem?_modify, h]

/-- Without the first t. -/
def dropT (l : List Int) (t : Int) : List Int := if t ∈ l then l.eraseIdx (l.idxOf t) else l

theorem dropT_no {l : List Int} {t : Int} (h : t ∉ l) : dropT l t = l := by simp [dropT, h]
theorem idx_in {l : List Int} {t : Int} (h : t ∈ l) : idx l t = (l.idxOf t : Nat) := by simp [idx, h]
theorem idx_out {l : List Int} {t : Int} (h : t ∉ l) : idx l t = -1 := by simp [idx, h]
theorem dropT_in {l : List Int} {t : Int} (h : t ∈ l) : dropT l t = l.eraseIdx (l.idxOf t) := by simp [dropT, h]

end Go.Proofs.Ytegpoocmhamlpaa
