/- A list of slots that came in. -/
import Derived.Test.YthnocalnlonniaaArg
import Derived.Test.YthnocalnlonniaaTckA
namespace Go.Proofs.Ythnocalnlonniaa
open Go Go.ChangeShapes Go.WideShapes Go.Deep Go.RowKit

section
variable {H : Type} {enc : TypeId × Value → H} {P : Program} {w : World} {base : Nat} {spare : Nat → Bool} {held : Bool}

theorem arg_cap {t e : TypeId} {v : Value} {d : DataW H} {ps : List MemPlace} (ht : P.underlying t = some (.slice e)) (hv : ∃ a l c, v = .slice a l c) (h : DataW.Trod enc P w base spare held t v d ps) : ∃ a l c, v = .slice a l c ∧ l ≤ c ∧ c ≤ maxLen := by
  obtain ⟨a0, l0, c0, rfl⟩ := hv
  obtain ⟨fuel, h⟩ := h
  rcases open_slice ht h with ⟨h0, _⟩ | ⟨a, len, cap, m, n, D, Pl, hcs, hb, hl, hm, _⟩
  · simp [Value.cells] at h0
    obtain ⟨rfl, rfl, rfl⟩ := h0
    exact ⟨_, _, _, rfl, Nat.le_refl _, Nat.zero_le _⟩
  · simp [Value.cells] at hcs
    obtain ⟨rfl, rfl, rfl⟩ := hcs
    exact ⟨_, _, _, rfl, hl, hm⟩
end

theorem slots_of {w : World} {v : Value} {n : Nat} {f : Nat → Nat → Int} (h : ArgRows w v [.i64, .i64] n f) (hc : ∃ a l c, v = .slice a l c ∧ l ≤ c ∧ c ≤ maxLen) : ∃ s, SlotsR w v s := by
  obtain ⟨_, ⟨rfl, a, c, rfl⟩ | ⟨g, off, c, rfl, hg, hx⟩⟩ := h
  · exact ⟨[], .inl ⟨a, c, rfl, rfl⟩⟩
  · obtain ⟨_, _, _, h1, h2, h3⟩ := hc
    simp only [Value.slice.injEq] at h1
    obtain ⟨rfl, rfl, rfl⟩ := h1
    refine ⟨(List.range n).map fun i => (f i 0, f i 1), .inr ⟨g, off, c, by simp, hg, by simpa using h2, h3, fun i p hp => ?_⟩⟩
    have hi : i < n := by
      have := (List.getElem?_eq_some_iff.1 hp).1
      simpa using this
    simp [hi] at hp
    subst hp
    exact ⟨by simpa using (hx i hi 0 .i64 rfl).1, by simpa [Nat.add_assoc] using (hx i hi 1 .i64 rfl).1⟩
end Go.Proofs.Ythnocalnlonniaa
