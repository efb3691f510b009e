/- What a walk is told of a list that came in: its elements' cells, each a number that fits its kind. -/
import Derived.WalkKit
import Derived.ProofKit
import Derived.OpenShut
import Derived.ShutString
import Derived.ChangeOld
import Derived.Below
import Derived.Deep.Slices
import Derived.Deep.Fields
import Derived.ChangeSame
import Derived.Lib.SmallJoins
namespace Go.Proofs.Ytknlhbbkjgkjpaa
open Go Go.ChangeShapes Go.WideShapes Go.Deep Go.RowKit

/-- v is a list of n elements, each of the numbers f i 0, f i 1, .. of these kinds. -/
def ArgRows (w : World) (v : Value) (ks : List IntKind) (n : Nat) (f : Nat → Nat → Int) : Prop :=
  n ≤ maxLen ∧ ((n = 0 ∧ ∃ a c, v = .slice a 0 c) ∨ ∃ g off c, v = .slice (some ⟨g, off, none⟩) n c ∧ g < w.heap.size ∧
    ∀ i, i < n → ∀ j k, ks[j]? = some k → w.cell? ⟨g, off + (i * ks.length + j), none⟩ = some (.int k (f i j)) ∧ (Lit.int k (f i j)).wf = true)

theorem add_off {g off j : Nat} : (⟨g, off, none⟩ : Addr).add j = ⟨g, off + j, none⟩ := by
  unfold Addr.add; split <;> simp_all

theorem ArgRows.form {w : World} {v : Value} {ks : List IntKind} {n : Nat} {f : Nat → Nat → Int} (h : ArgRows w v ks n f) : ∃ a c, v = .slice a n c := by
  obtain ⟨_, ⟨rfl, a, c, rfl⟩ | ⟨g, off, c, rfl, _⟩⟩ := h
  · exact ⟨a, c, rfl⟩
  · exact ⟨_, c, rfl⟩

section
variable {H : Type} {enc : TypeId × Value → H} {P : Program} {w : World} {base : Nat} {spare : Nat → Bool} {held : Bool}

theorem cell_spot {w : World} {a : Addr} {v : Value} (h : w.cell? a = some v) : a.spot = none := by
  unfold World.cell? at h
  split at h
  · split at h
    · cases h
    · rename_i hs; simpa using hs
  · cases h

theorem arg_structs {t e : TypeId} {fs : Array Field} {v : Value} {d : DataW H} {ps : List MemPlace} (ks : List IntKind) (ht : P.underlying t = some (.slice e)) (he : P.underlying e = some (.struct fs))
    (hone : oneCellFields P fs = true) (hC : P.cellsOf e = fs.size) (hks : ks.length = fs.size) (hpos : 0 < fs.size) (hk : ∀ (j : Nat) (k : IntKind), ks[j]? = some k → ∃ f : Field, fs[j]? = some f ∧ P.underlying f.type = some (.int k))
    (hv : ∃ a l c, v = .slice a l c) (h : DataW.Trod enc P w base spare held t v d ps) : ∃ n f, ArgRows w v ks n f := by
  obtain ⟨a0, l0, c0, rfl⟩ := hv
  obtain ⟨fuel, h⟩ := h
  rcases open_slice ht h with ⟨h0, _⟩ | ⟨a, len, cap, m, n, D, Pl, hcs, hb, hl, hm, hmm, hx, hi⟩
  · simp [Value.cells] at h0
    obtain ⟨rfl, rfl, rfl⟩ := h0
    exact ⟨0, fun _ _ => 0, Nat.zero_le _, .inl ⟨rfl, none, 0, rfl⟩⟩
  · simp [Value.cells] at hcs
    obtain ⟨rfl, rfl, rfl⟩ := hcs
    have hlm : l0 ≤ m := by rw [hmm]; split <;> omega
    have each : ∀ i, i < l0 → ∃ g : Nat → Int, ∀ j k, ks[j]? = some k → w.cell? (a.add (i * ks.length + j)) = some (.int k (g j)) ∧ (Lit.int k (g j)).wf = true := by
      intro i hil
      obtain ⟨cs', hc, ht'⟩ := hi i (by omega)
      rw [hC] at hc
      obtain ⟨ys, n', hn', hy, hlen, hyl, hf⟩ := DataW.trod_struct he ht'
      obtain ⟨_, hcl, hat⟩ := World.cells?_some hc
      have one : ∀ j, ∃ x : Int, ∀ k, ks[j]? = some k → w.cell? (a.add (i * ks.length + j)) = some (.int k x) ∧ (Lit.int k x).wf = true := by
        intro j
        by_cases hj : j < ks.length
        · obtain ⟨f, hfj, hfk⟩ := hk j ks[j] (List.getElem?_eq_getElem hj)
          obtain ⟨ho, hk1⟩ := hone_of hone j f hfj
          have h1 := hf j f hfj
          rw [ho, hk1] at h1
          have hone' : (cs'.drop j).take 1 = [cs'[j]'(by omega)] := by
            rw [List.drop_eq_getElem_cons (by omega)]
            rfl
          rw [hone'] at h1
          have hys : ys[j]? = some (ys[j]'(by omega)) := List.getElem?_eq_getElem (by omega)
          obtain ⟨x, hx1, _, hw⟩ := DataW.trod_int hfk (h1.trans hys)
          refine ⟨x, fun k hkk => ?_⟩
          rw [List.getElem?_eq_getElem hj] at hkk
          cases hkk
          refine ⟨?_, hw⟩
          have hcell := hat j (by omega)
          rw [← hC, Go.Deep.add_add, List.getElem?_eq_getElem (show j < cs'.length by omega)] at hcell
          rw [hks, ← hC, hcell]
          exact hx1 |> fun h => by simpa using h
        · exact ⟨0, fun k hkk => by rw [List.getElem?_eq_none (by omega)] at hkk; cases hkk⟩
      exact ⟨fun j => Classical.choose (one j), fun j k hkk => Classical.choose_spec (one j) k hkk⟩
    by_cases h0 : l0 = 0
    · subst h0
      exact ⟨0, fun _ _ => 0, Nat.zero_le _, .inl ⟨rfl, some a, c0, rfl⟩⟩
    · have F : ∃ f : Nat → Nat → Int, ∀ i, i < l0 → ∀ j k, ks[j]? = some k → w.cell? (a.add (i * ks.length + j)) = some (.int k (f i j)) ∧ (Lit.int k (f i j)).wf = true := by
        obtain ⟨f, hf⟩ := choose_lt each
        exact ⟨f, hf⟩
      obtain ⟨f, hf⟩ := F
      have hc0 := (hf 0 (by omega) 0 ks[0] (List.getElem?_eq_getElem (by omega))).1
      have hsp : a.spot = none := by
        have := hc0
        rw [show 0 * ks.length + 0 = 0 by omega] at this
        unfold Addr.add at this
        exact cell_spot (by simpa using this)
      obtain ⟨g, off, sp⟩ := a
      cases hsp
      refine ⟨l0, f, Nat.le_trans hl hm, .inr ⟨g, off, c0, rfl, ?_, fun i hil j k hj => ?_⟩⟩
      · have := World.block_lt_of_cell? _ _ hc0
        rw [add_off] at this
        exact this
      · have := hf i hil j k hj
        rw [add_off] at this
        exact this

theorem arg_ints {t e : TypeId} {v : Value} {d : DataW H} {ps : List MemPlace} (k : IntKind) (ht : P.underlying t = some (.slice e)) (he : P.underlying e = some (.int k)) (hC : P.cellsOf e = 1)
    (hv : ∃ a l c, v = .slice a l c) (h : DataW.Trod enc P w base spare held t v d ps) : ∃ n f, ArgRows w v [k] n f := by
  obtain ⟨a0, l0, c0, rfl⟩ := hv
  obtain ⟨fuel, h⟩ := h
  rcases open_ints ht he hC h with ⟨h0, _⟩ | ⟨a, len, cap, zs, hcs, hb, hl, hm, hz, _, hcell, hwz⟩
  · simp [Value.cells] at h0
    obtain ⟨rfl, rfl, rfl⟩ := h0
    exact ⟨0, fun _ _ => 0, Nat.zero_le _, .inl ⟨rfl, none, 0, rfl⟩⟩
  · simp [Value.cells] at hcs
    obtain ⟨rfl, rfl, rfl⟩ := hcs
    have hlz : l0 ≤ zs.length := by rw [hz]; split <;> omega
    by_cases h0 : l0 = 0
    · subst h0
      exact ⟨0, fun _ _ => 0, Nat.zero_le _, .inl ⟨rfl, some a, c0, rfl⟩⟩
    · have hc0 := hcell 0 (by omega)
      have hsp : a.spot = none := by
        unfold Addr.add at hc0
        exact cell_spot (by simpa using hc0)
      obtain ⟨g, off, sp⟩ := a
      cases hsp
      refine ⟨l0, fun i _ => zs.getD i 0, Nat.le_trans hl hm, .inr ⟨g, off, c0, rfl, ?_, fun i hil j k' hj => ?_⟩⟩
      · have := World.block_lt_of_cell? _ _ hc0
        rw [add_off] at this
        exact this
      · have hj0 : j = 0 := by
          rcases j with _ | j
          · rfl
          · simp at hj
        subst hj0
        simp at hj
        subst hj
        have := hcell i (by omega)
        rw [add_off] at this
        refine ⟨by simpa using this, hwz _ ?_⟩
        show zs.getD i 0 ∈ zs
        have hi' : i < zs.length := by omega
        have e : zs.getD i 0 = zs[i] := by simp [hi']
        rw [e]
        exact List.getElem_mem hi'
end

end Go.Proofs.Ytknlhbbkjgkjpaa
