/- An object with a list of ints of its own: its first cell is the list's slice, the others are post. -/
import Derived.Test.YtcbnbnlioajadaaObj
namespace Go.Proofs.Ytcbnbnlioajadaa
open Go Go.RowKit

structure OblAt (T : Nat) (w : World) (b : Nat) (post : List Value) (v : Value) (l : List Int) : Prop where
  row : w.heap[b]? = some (.cells (v :: post).toArray T (0, 0))
  own : OwnI w v l
  ne : v.ownBlock ≠ some b

section
variable {T : Nat} {w w' : World} {b : Nat} {post : List Value} {v : Value} {l : List Int}

theorem OblAt.lt (h : OblAt T w b post v l) : b < w.heap.size := lt_of_heap h.row
theorem OblAt.fro (h : OblAt T w b post v l) (o : Nat) : w.frozen? ⟨b, o, none⟩ = false := by simp [World.frozen?, h.row]
theorem OblAt.get (h : OblAt T w b post v l) (o : Nat) {u : Value} (hu : post[o]? = some u) : w.cell? ⟨b, o + 1, none⟩ = some u := by
  rw [cell_of_row w b _ _ _ _ h.row, List.getElem?_toArray, List.getElem?_cons_succ]; exact hu
theorem OblAt.list (h : OblAt T w b post v l) : w.cell? ⟨b, 0, none⟩ = some v := by
  rw [cell_of_row w b _ _ _ _ h.row]; simp
theorem OblAt.keep {F : Nat → Prop} (h : OblAt T w b post v l) (hK : Keep F w w') (hF : ¬ F b) (hv : ∀ k, v.ownBlock = some k → ¬ F k) : OblAt T w' b post v l :=
  ⟨(hK.block b h.lt hF).trans h.row, h.own.keep hK hv, h.ne⟩
theorem OblAt.setPost (h : OblAt T w b post v l) (o : Nat) (u : Value) : OblAt T (w.setCell ⟨b, o + 1, none⟩ u) b (post.set o u) v l := by
  refine ⟨?_, ?_, h.ne⟩
  · rw [heap_setCell_row h.row, List.setIfInBounds_toArray, List.set_cons_succ]
  · exact h.own.keep (F := fun k => k = b) ((Keep.refl _ w).setOwn _) (fun k hk e => h.ne (by rw [hk, e]))
theorem OblAt.setList {v' : Value} {l' : List Int} (h : w.heap[b]? = some (.cells (v :: post).toArray T (0, 0))) (ho : OwnI w v' l') (hn : v'.ownBlock ≠ some b) : OblAt T (w.setCell ⟨b, 0, none⟩ v') b post v' l' := by
  refine ⟨?_, ?_, hn⟩
  · rw [heap_setCell_row h, List.setIfInBounds_toArray, List.set_cons_zero]
  · exact ho.keep (F := fun k => k = b) ((Keep.refl _ w).setOwn _) (fun k hk e => hn (by rw [hk, e]))
end

/-- An object whose own blocks are G's. -/
def IsObl (T : Nat) (w : World) (G : Nat → Prop) (b : Nat) (pre : List Value) (l : List Int) : Prop :=
  G b ∧ (∀ k, G k → k < w.heap.size) ∧ ∃ v, OblAt T w b pre v l ∧ ∀ k, v.ownBlock = some k → G k

section
variable {T : Nat} {w w' w0 : World} {G : Nat → Prop} {b : Nat} {pre pre' : List Value} {v : Value} {l l' : List Int}

theorem IsObl.keep {F : Nat → Prop} (h : IsObl T w G b pre l) (hK : Keep F w w') (hF : ∀ k, G k → ¬ F k) : IsObl T w' G b pre l := by
  obtain ⟨h1, h2, v, h3, h4⟩ := h
  exact ⟨h1, fun k hk => Nat.lt_of_lt_of_le (h2 k hk) hK.size, v, h3.keep hK (hF b h1) (fun k hk => hF k (h4 k hk)), h4⟩

theorem IsObl.of (h : OblAt T w b pre v l) : IsObl T w (fun k => k = b ∨ v.ownBlock = some k) b pre l :=
  ⟨.inl rfl, fun k hk => hk.elim (fun e => e ▸ h.lt) (fun e => own_lt h.own e), v, h, fun k hk => .inr hk⟩

/-- What a call leaves: its own blocks, or new ones. -/
def AfterL (T : Nat) (G : Nat → Prop) (w w' : World) (b : Nat) (pre : List Value) (l : List Int) : Prop :=
  ∃ G', IsObl T w' G' b pre l ∧ (∀ k, G' k → G k ∨ w.heap.size ≤ k) ∧ Keep G w w'

theorem IsObl.after (h : IsObl T w G b pre l) : AfterL T G w w b pre l := ⟨G, h, fun _ hk => .inl hk, Keep.refl _ _⟩

/-- Behind a store into the object. -/
theorem AfterL.stored (h : OblAt T w' b pre v l) (hK : Keep G w w') (hb : G b) (hv : ∀ k, v.ownBlock = some k → G k ∨ w.heap.size ≤ k) : AfterL T G w w' b pre l :=
  ⟨_, IsObl.of h, fun k hk => hk.elim (fun e => .inl (e ▸ hb)) (hv k), hK⟩

/-- Made since w0: nothing that was there is turned. -/
def LNew (T : Nat) (w0 w : World) (G : Nat → Prop) (b : Nat) (pre : List Value) (l : List Int) : Prop :=
  IsObl T w G b pre l ∧ (∀ k, G k → w0.heap.size ≤ k) ∧ Keep (fun _ => False) w0 w

/-- What a step leaves. -/
def StepL (T : Nat) (w0 : World) (G : Nat → Prop) (w w' : World) (b : Nat) (pre : List Value) (l : List Int) : Prop :=
  ∃ G', LNew T w0 w' G' b pre l ∧ (∀ k, G' k → G k ∨ w.heap.size ≤ k) ∧ Keep G w w'

theorem LNew.on (h : LNew T w0 w G b pre l) (h' : AfterL T G w w' b pre' l') : StepL T w0 G w w' b pre' l' := by
  obtain ⟨h1, h2, h3⟩ := h
  obtain ⟨G', i1, i2, i3⟩ := h'
  exact ⟨G', ⟨i1, fun k hk => (i2 k hk).elim (h2 k) (fun h => Nat.le_trans h3.size h), h3.then i3 fun k hk => .inr (h2 k hk)⟩, i2, i3⟩

theorem LNew.keep {F : Nat → Prop} (h : LNew T w0 w G b pre l) (hK : Keep F w w') (hF : ∀ k, F k → w0.heap.size ≤ k ∧ ¬ G k) : LNew T w0 w' G b pre l :=
  ⟨h.1.keep hK (fun k hk hf => (hF k hf).2 hk), h.2.1, h.2.2.then hK fun k hk => .inr (hF k hk).1⟩
end

/-- An answer: a list that can be read, out of the object's blocks or new ones, and the object stays apart from it. -/
def OutL (T : Nat) (w0 : World) (G : Nat → Prop) (w w' : World) (b : Nat) (pre : List Value) (l : List Int) (a : Option Addr) (m : Nat) (o : List Int) : Prop :=
  ReadI w' (.slice a o.length m) o ∧ Keep G w w' ∧ ∃ G', LNew T w0 w' G' b pre l ∧ (∀ k, G' k → G k ∨ w.heap.size ≤ k) ∧ ∀ k, (Value.slice a o.length m).ownBlock = some k → (G k ∨ w.heap.size ≤ k) ∧ k < w'.heap.size ∧ ¬ G' k

theorem AfterL.mk {T : Nat} {G : Nat → Prop} {w w' : World} {b : Nat} {pre : List Value} {l : List Int} {v' : Value} {o : Nat} (hK : Keep G w w') (hb : G b) (u : Value) (h : OblAt T (w'.setCell ⟨b, o, none⟩ u) b pre v' l) (hv : ∀ k, v'.ownBlock = some k → G k ∨ w.heap.size ≤ k) : AfterL T G w (w'.setCell ⟨b, o, none⟩ u) b pre l :=
  AfterL.stored h (hK.setCell (.inl hb) u) hb hv


end Go.Proofs.Ytcbnbnlioajadaa
