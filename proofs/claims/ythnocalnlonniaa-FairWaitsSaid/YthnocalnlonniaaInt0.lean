/- Lists of ints of the call's own, or that only are read. -/
import Derived.Test.YthnocalnlonniaaRows
import Derived.Test.YthnocalnlonniaaTxt
import Derived.Test.YthnocalnlonniaaOwn
import Derived.WalkKit
import Derived.WalkSpells
import Derived.WalkLawsBesides
namespace Go.Proofs.Ythnocalnlonniaa
open Go Go.RowKit

def nth (l : List Int) (i : Nat) : Int := l.getD i 0
def flat1 (l : List Int) : List Value := l.map (Value.int .i64)

theorem flat1_length (l : List Int) : (flat1 l).length = l.length := by simp [flat1]
theorem flat1_append (a b : List Int) : flat1 (a ++ b) = flat1 a ++ flat1 b := by simp [flat1]
theorem flat1_one (l : List Int) : ∀ v ∈ flat1 l, v.oneCell' = true := by
  intro v hv
  simp only [flat1, List.mem_map] at hv
  obtain ⟨x, _, rfl⟩ := hv
  rfl
theorem flat1_get (l : List Int) (i : Nat) (h : i < l.length) : (flat1 l)[i]? = some (.int .i64 (nth l i)) := by
  simp [flat1, nth, h]
theorem nth_get (l : List Int) (i : Nat) (h : i < l.length) : nth l i = l[i] := by simp [nth, h]

/-- v is the call's own list l. -/
def OwnI (w : World) (v : Value) (l : List Int) : Prop := w.ownsRow 0 3 1 v l.length (flat1 l)

/-- v can be read as the list l. -/
def ReadI (w : World) (v : Value) (l : List Int) : Prop :=
  (∃ a c, v = .slice a 0 c ∧ l = []) ∨ ∃ g off c, v = .slice (some ⟨g, off, none⟩) l.length c ∧ g < w.heap.size ∧ l.length ≤ maxLen ∧
    ∀ i, i < l.length → w.cell? ⟨g, off + i, none⟩ = some (.int .i64 (nth l i))

theorem ReadI.form {w : World} {v : Value} {l : List Int} (h : ReadI w v l) : ∃ a c, v = .slice a l.length c := by
  obtain ⟨a, c, rfl, rfl⟩ | ⟨g, off, c, rfl, _⟩ := h
  · exact ⟨a, c, rfl⟩
  · exact ⟨_, c, rfl⟩

theorem OwnI.form {w : World} {v : Value} {l : List Int} (h : OwnI w v l) : ∃ a c, v = .slice a l.length c := owns_form h

theorem OwnI.reads {w : World} {v : Value} {l : List Int} (h : OwnI w v l) : ReadI w v l := by
  obtain ⟨h1, h2 | ⟨g, cap, cur, rfl, _, hg, hn, hc, hs, ht⟩⟩ := h
  · exact .inl ⟨none, 0, h2.1, List.eq_nil_of_length_eq_zero h2.2⟩
  · refine .inr ⟨g, 0, cap, rfl, lt_of_heap hg, Nat.le_trans hn hc, fun i hi => ?_⟩
    have hv := flat1_get l i hi
    rw [Nat.zero_add, cell_of_row w g i cur 3 (0, 0) hg]
    rw [← ht, List.getElem?_take] at hv
    split at hv
    · simpa using hv
    · cases hv

theorem OwnI.nil (w : World) : OwnI w (.slice none 0 0) [] := World.ownsRow_nil _ _ _ _

theorem OwnI.keep {F : Nat → Prop} {w w' : World} {v : Value} {l : List Int} (h : OwnI w v l) (hK : Keep F w w') (hF : ∀ k, v.ownBlock = some k → ¬ F k) : OwnI w' v l := owns_keep h hK hF

theorem ReadI.keep {F : Nat → Prop} {w w' : World} {v : Value} {l : List Int} (h : ReadI w v l) (hK : Keep F w w') (hF : ∀ k, v.ownBlock = some k → ¬ F k) : ReadI w' v l := by
  obtain h | ⟨g, off, c, rfl, hg, hm, hc⟩ := h
  · exact .inl h
  · exact .inr ⟨g, off, c, rfl, Nat.lt_of_lt_of_le hg hK.size, hm, fun i hi => (hK.cell (p := ⟨g, off + i, none⟩) hg (hF g rfl)).trans (hc i hi)⟩

theorem OwnI.src {w : World} {v : Value} {l : List Int} (h : OwnI w v l) : Src w v l.length 1 (flat1 l) := owns_src h (flat1_one l)

theorem ReadI.src {w : World} {v : Value} {l : List Int} (h : ReadI w v l) (hn : v ≠ .slice none 0 0 → v.ownBlock ≠ none) : Src w v l.length 1 (flat1 l) := by
  obtain ⟨a, c, rfl, rfl⟩ | ⟨g, off, c, rfl, hg, hm, hc⟩ := h
  · by_cases h0 : (Value.slice a 0 c) = .slice none 0 0
    · exact .inl ⟨h0, rfl, rfl⟩
    · cases a with
      | none => exact absurd rfl (hn h0)
      | some a => exact .inr ⟨a, c, rfl, rfl, fun j u hu => by simp [flat1] at hu, by simp [flat1]⟩
  · refine .inr ⟨_, c, rfl, by simp [flat1], fun j u hu => ?_, flat1_one l⟩
    have hj : j < l.length := by
      have := (List.getElem?_eq_some_iff.1 hu).1
      rwa [flat1_length] at this
    rw [flat1_get l j hj] at hu
    cases hu
    have hadd : (⟨g, off, none⟩ : Addr).add j = ⟨g, off + j, none⟩ := by unfold Addr.add; split <;> simp_all
    rw [hadd]; exact hc j hj

/-- Where t is first; -1: nowhere. -/
def idx (l : List Int) (t : Int) : Int := if t ∈ l then (l.idxOf t : Nat) else -1

theorem idx_none {l : List Int} {t : Int} (h : ∀ i, i < l.length → nth l i ≠ t) : idx l t = -1 := by
  unfold idx
  rw [if_neg]
  intro hm
  obtain ⟨i, hi, he⟩ := List.mem_iff_getElem.1 hm
  exact h i hi (by rw [nth_get l i hi]; exact he)

theorem idx_some {l : List Int} {t : Int} {k : Nat} (hk : k < l.length) (he : nth l k = t) (hno : ∀ i, i < k → nth l i ≠ t) : idx l t = k := by
  have hm : t ∈ l := by rw [← he, nth_get l k hk]; exact List.getElem_mem hk
  unfold idx
  rw [if_pos hm]
  have h1 : l.idxOf t < l.length := List.idxOf_lt_length_iff.2 hm
  have h2 : l[l.idxOf t] = t := List.getElem_idxOf h1
  have : l.idxOf t = k := by
    rcases Nat.lt_trichotomy (l.idxOf t) k with h | h | h
    · exact absurd (by rw [nth_get l _ h1]; exact h2) (hno _ h)
    · exact h
    · exfalso
      have h3 := List.not_of_lt_findIdx (xs := l) (p := (· == t)) (i := k) (by exact h)
      rw [nth_get l k hk] at he
      simp [he] at h3
  rw [this]

theorem Try.infoI : (Try.prog.info? 3).map (fun i => (i.zero, i.size, i.bytes)) = some (some (.int .i64 0), 1, 8) := by kernel_rfl

theorem made_rowI (w : World) : (w.alloc (.cells #[] 3)).ownsRow 0 3 1 (.slice (some ⟨w.heap.size, 0, none⟩) 0 0) 0 [] := World.ownsRow_made w #[] 0 (Nat.zero_le _) (by simp [maxLen]) (by simp)

theorem one_srcI (w : World) (t : Int) : Src (w.alloc (.cells #[.int .i64 t] 3)) (.slice (some ⟨w.heap.size, 0, none⟩) 1 1) 1 1 (flat1 [t]) := by
  refine .inr ⟨_, _, rfl, rfl, fun j u hu => ?_, by simp [Value.oneCell', flat1]⟩
  have hadd : (⟨w.heap.size, 0, none⟩ : Addr).add j = ⟨w.heap.size, j, none⟩ := by unfold Addr.add; split <;> simp_all
  rw [hadd, World.cell?_alloc_new]
  simpa [flat1] using hu

theorem wp_append_ints (w : World) {o : Oper} {a : Act} {K : Act → World → Prop} {Q : Exit → Act → World → Prop} (s x : Operand)
    (ho : o.op = .call { callee := .builtin .append, args := #[s, x], argTypes := #[44, 44] })
    (v : Value) (l : List Int) (hs : a.eval s = v) (hown : OwnI w v l) (sv : Value) (m : Nat) (news : List Int) (hx : a.eval x = sv) (hsrc : Src w sv m 1 (flat1 news)) (hn : l.length + m ≤ 1000000)
    (h : ∀ v' w', OwnI w' v' (l ++ news) → (∀ k, v'.ownBlock = some k → v.ownBlock = some k ∨ w.heap.size ≤ k) → Keep (fun k => v.ownBlock = some k) w w' → K (a.put o.dst v') w') : o.wp Try.prog a w K Q := by
  obtain ⟨i0, hi, hz0, hz1, hz2⟩ := info_parts Try.infoI
  have hm : news.length = m := by
    rcases hsrc with ⟨_, h1, h2⟩ | ⟨_, _, _, h2, _⟩
    · simp [flat1] at h2; rw [h1, h2]; rfl
    · simpa [flat1] using h2
  refine wp_append_src w s x 44 ho 0 3 i0 (.int .i64 0) 1 8 Try.underlying44 hi hz0 hz1 hz2 rfl (by decide) v l.length (flat1 l) hs hown sv m _ hx hsrc (by unfold maxLen; omega) (by omega) (Nat.zero_le _) ?_
  intro v1 w1 o1 g1 f1
  refine h v1 w1 ?_ f1 (Keep.of_grown g1)
  unfold OwnI
  rw [List.length_append, flat1_append, hm]
  exact o1

/-- A new row of ints. -/
theorem made_ints (w : World) (l : List Int) (h : l.length ≤ maxLen) : OwnI (w.alloc (.cells (flat1 l).toArray 3)) (.slice (some ⟨w.heap.size, 0, none⟩) l.length l.length) l :=
  ⟨by rw [flat1_length, Nat.mul_one], .inr ⟨w.heap.size, l.length, _, rfl, Nat.zero_le _, heap_alloc_new w _, Nat.le_refl _, h, by simp [flat1_length], by
    rw [List.take_of_length_le (by simp [flat1_length])]⟩⟩

/-- The same list, read by another capacity. -/
theorem ReadI.recap {w : World} {a : Option Addr} {n c c' : Nat} {l : List Int} (h : ReadI w (.slice a n c) l) : ReadI w (.slice a n c') l := by
  rcases h with ⟨a', d, h1, h2⟩ | ⟨g, off, d, h1, h2, h3, h4⟩
  · cases h1
    exact .inl ⟨_, _, rfl, h2⟩
  · simp only [Value.slice.injEq] at h1
    obtain ⟨rfl, rfl, rfl⟩ := h1
    exact .inr ⟨g, off, _, rfl, h2, h3, h4⟩

/-- What lies behind the first of a list that can be read. -/
theorem own_lt {w : World} {v : Value} {l : List Int} (h : OwnI w v l) {k : Nat} (hk : v.ownBlock = some k) : k < w.heap.size := (World.ownsRow.lt h k hk).2

theorem own_cap {w : World} {a : Option Addr} {n c : Nat} {l : List Int} (h : OwnI w (.slice a n c) l) : n ≤ c := by
  rcases h.2 with ⟨h, h0⟩ | ⟨g, cap, cur, h, _, _, h2, _⟩
  · simp only [Value.slice.injEq] at h; omega
  · simp only [Value.slice.injEq] at h
    obtain ⟨_, h3, rfl⟩ := h
    omega

/-- What is set in a row of cells. -/
theorem heap_setCell_row {w : World} {b o : Nat} {cs : Array Value} {t : Nat} {z : Nat × Nat} (h : w.heap[b]? = some (.cells cs t z)) (u : Value) :
    (w.setCell ⟨b, o, none⟩ u).heap[b]? = some (.cells (cs.setIfInBounds o u) t z) := by
  simp [World.setCell, Array.getElem?_modify, h]

/-- Without the first t. -/
def dropT (l : List Int) (t : Int) : List Int := if t ∈ l then l.eraseIdx (l.idxOf t) else l

theorem dropT_no {l : List Int} {t : Int} (h : t ∉ l) : dropT l t = l := by simp [dropT, h]
theorem idx_in {l : List Int} {t : Int} (h : t ∈ l) : idx l t = (l.idxOf t : Nat) := by simp [idx, h]
theorem idx_out {l : List Int} {t : Int} (h : t ∉ l) : idx l t = -1 := by simp [idx, h]
theorem dropT_in {l : List Int} {t : Int} (h : t ∈ l) : dropT l t = l.eraseIdx (l.idxOf t) := by simp [dropT, h]

end Go.Proofs.Ythnocalnlonniaa
