/- An object with a list of ints of its own: its first cells are pre, its last one is the list's slice. -/
import Derived.Test.YtegpoocmhamlpaaIntC
namespace Go.Proofs.Ytegpoocmhamlpaa
open Go Go.RowKit

structure ObjAt (T : Nat) (w : World) (b : Nat) (pre : List Value) (v : Value) (l : List Int) : Prop where
  row : w.heap[b]? = some (.cells (pre ++ [v]).toArray T (0, 0))
  own : OwnI w v l
  ne : v.ownBlock ≠ some b

section
variable {T : Nat} {w w' : World} {b : Nat} {pre : List Value} {v : Value} {l : List Int}

theorem ObjAt.lt (h : ObjAt T w b pre v l) : b < w.heap.size := lt_of_heap h.row
theorem ObjAt.fro (h : ObjAt T w b pre v l) (o : Nat) : w.frozen? ⟨b, o, none⟩ = false := by simp [World.frozen?, h.row]
theorem ObjAt.get (h : ObjAt T w b pre v l) (o : Nat) {u : Value} (hu : pre[o]? = some u) : w.cell? ⟨b, o, none⟩ = some u := by
  rw [cell_of_row w b o _ _ _ h.row, List.getElem?_toArray, List.getElem?_append_left (List.getElem?_eq_some_iff.1 hu).1]; exact hu
theorem ObjAt.list (h : ObjAt T w b pre v l) : w.cell? ⟨b, pre.length, none⟩ = some v := by
  rw [cell_of_row w b _ _ _ _ h.row]; simp
theorem ObjAt.keep {F : Nat → Prop} (h : ObjAt T w b pre v l) (hK : Keep F w w') (hF : ¬ F b) (hv : ∀ k, v.ownBlock = some k → ¬ F k) : ObjAt T w' b pre v l :=
  ⟨(hK.block b h.lt hF).trans h.row, h.own.keep hK hv, h.ne⟩

theorem ObjAt.setPre (h : ObjAt T w b pre v l) (o : Nat) (ho : o < pre.length) (u : Value) : ObjAt T (w.setCell ⟨b, o, none⟩ u) b (pre.set o u) v l := by
  refine ⟨?_, ?_, h.ne⟩
  · rw [heap_setCell_row h.row, List.setIfInBounds_toArray, List.set_append_left _ _ ho]
  · exact h.own.keep (F := fun k => k = b) ((Keep.refl _ w).setOwn _) (fun k hk e => h.ne (by rw [hk, e]))

theorem ObjAt.setList {v' : Value} {l' : List Int} (h : w.heap[b]? = some (.cells (pre ++ [v]).toArray T (0, 0))) (ho : OwnI w v' l') (hn : v'.ownBlock ≠ some b) : ObjAt T (w.setCell ⟨b, pre.length, none⟩ v') b pre v' l' := by
  refine ⟨?_, ?_, hn⟩
  · rw [heap_setCell_row h, List.setIfInBounds_toArray, List.set_append_right _ _ (Nat.le_refl _), Nat.sub_self]; rfl
  · exact ho.keep (F := fun k => k = b) ((Keep.refl _ w).setOwn _) (fun k hk e => hn (by rw [hk, e]))
end

/-- An object whose own blocks are G's. -/
def IsObj (T : Nat) (w : World) (G : Nat → Prop) (b : Nat) (pre : List Value) (l : List Int) : Prop :=
  G b ∧ (∀ k, G k → k < w.heap.size) ∧ ∃ v, ObjAt T w b pre v l ∧ ∀ k, v.ownBlock = some k → G k

section
variable {T : Nat} {w w' w0 : World} {G : Nat → Prop} {b : Nat} {pre pre' : List Value} {v : Value} {l l' : List Int}

theorem IsObj.keep {F : Nat → Prop} (h : IsObj T w G b pre l) (hK : Keep F w w') (hF : ∀ k, G k → ¬ F k) : IsObj T w' G b pre l := by
  obtain ⟨h1, h2, v, h3, h4⟩ := h
  exact ⟨h1, fun k hk => Nat.lt_of_lt_of_le (h2 k hk) hK.size, v, h3.keep hK (hF b h1) (fun k hk => hF k (h4 k hk)), h4⟩

theorem IsObj.of (h : ObjAt T w b pre v l) : IsObj T w (fun k => k = b ∨ v.ownBlock = some k) b pre l :=
  ⟨.inl rfl, fun k hk => hk.elim (fun e => e ▸ h.lt) (fun e => own_lt h.own e), v, h, fun k hk => .inr hk⟩

/-- What a call leaves: its own blocks, or new ones. -/
def AfterO (T : Nat) (G : Nat → Prop) (w w' : World) (b : Nat) (pre : List Value) (l : List Int) : Prop :=
  ∃ G', IsObj T w' G' b pre l ∧ (∀ k, G' k → G k ∨ w.heap.size ≤ k) ∧ Keep G w w'

theorem IsObj.after (h : IsObj T w G b pre l) : AfterO T G w w b pre l := ⟨G, h, fun _ hk => .inl hk, Keep.refl _ _⟩

/-- Behind a store into the object. -/
theorem AfterO.stored (h : ObjAt T w' b pre v l) (hK : Keep G w w') (hb : G b) (hv : ∀ k, v.ownBlock = some k → G k ∨ w.heap.size ≤ k) : AfterO T G w w' b pre l :=
  ⟨_, IsObj.of h, fun k hk => hk.elim (fun e => .inl (e ▸ hb)) (hv k), hK⟩

/-- Made since w0: nothing that was there is turned. -/
def ONew (T : Nat) (w0 w : World) (G : Nat → Prop) (b : Nat) (pre : List Value) (l : List Int) : Prop :=
  IsObj T w G b pre l ∧ (∀ k, G k → w0.heap.size ≤ k) ∧ Keep (fun _ => False) w0 w

/-- What a step leaves. -/
def StepO (T : Nat) (w0 : World) (G : Nat → Prop) (w w' : World) (b : Nat) (pre : List Value) (l : List Int) : Prop :=
  ∃ G', ONew T w0 w' G' b pre l ∧ (∀ k, G' k → G k ∨ w.heap.size ≤ k) ∧ Keep G w w'

theorem ONew.on (h : ONew T w0 w G b pre l) (h' : AfterO T G w w' b pre' l') : StepO T w0 G w w' b pre' l' := by
  obtain ⟨h1, h2, h3⟩ := h
  obtain ⟨G', i1, i2, i3⟩ := h'
  exact ⟨G', ⟨i1, fun k hk => (i2 k hk).elim (h2 k) (fun h => Nat.le_trans h3.size h), h3.then i3 fun k hk => .inr (h2 k hk)⟩, i2, i3⟩

theorem ONew.keep {F : Nat → Prop} (h : ONew T w0 w G b pre l) (hK : Keep F w w') (hF : ∀ k, F k → w0.heap.size ≤ k ∧ ¬ G k) : ONew T w0 w' G b pre l :=
  ⟨h.1.keep hK (fun k hk hf => (hF k hf).2 hk), h.2.1, h.2.2.then hK fun k hk => .inr (hF k hk).1⟩
end

/-- An answer: a list that can be read, out of the object's blocks or new ones, and the object stays apart from it. -/
def OutO (T : Nat) (w0 : World) (G : Nat → Prop) (w w' : World) (b : Nat) (pre : List Value) (l : List Int) (a : Option Addr) (m : Nat) (o : List Int) : Prop :=
  ReadI w' (.slice a o.length m) o ∧ Keep G w w' ∧ ∃ G', ONew T w0 w' G' b pre l ∧ (∀ k, G' k → G k ∨ w.heap.size ≤ k) ∧ ∀ k, (Value.slice a o.length m).ownBlock = some k → (G k ∨ w.heap.size ≤ k) ∧ k < w'.heap.size ∧ ¬ G' k

theorem AfterO.mk {T : Nat} {G : Nat → Prop} {w w' : World} {b : Nat} {pre : List Value} {l : List Int} {v' : Value} {o : Nat} (hK : Keep G w w') (hb : G b) (u : Value) (h : ObjAt T (w'.setCell ⟨b, o, none⟩ u) b pre v' l) (hv : ∀ k, v'.ownBlock = some k → G k ∨ w.heap.size ≤ k) : AfterO T G w (w'.setCell ⟨b, o, none⟩ u) b pre l :=
  AfterO.stored h (hK.setCell (.inl hb) u) hb hv

/-- 1, 2, .., n. -/
def upTo (n : Nat) : List Int := (List.range n).map fun (i : Nat) => (i : Int) + 1

theorem upTo_length (n : Nat) : (upTo n).length = n := by simp [upTo]
theorem upTo_succ (n : Nat) : upTo n ++ [(n : Int) + 1] = upTo (n + 1) := by simp [upTo, List.range_succ]
theorem upTo_in (n : Nat) (t : Int) : t ∈ upTo n ↔ 1 ≤ t ∧ t ≤ n := by
  simp only [upTo, List.mem_map, List.mem_range]
  constructor
  · rintro ⟨i, hi, rfl⟩; omega
  · intro h; exact ⟨(t - 1).toNat, by omega, by omega⟩

theorem u8_mod (n q : Int) (h : (Lit.int .u8 n).wf = true) (hq : 0 < q) : ∃ K : Nat, n.tmod q = K ∧ (K : Int) < q := by
  have h0 : 0 ≤ n := by
    simp only [Lit.wf, Bool.and_eq_true, decide_eq_true_eq] at h
    exact Int.le_trans (by decide) h.1
  refine ⟨(n.tmod q).toNat, ?_, ?_⟩
  · rw [Int.toNat_of_nonneg (Int.tmod_nonneg _ h0)]
  · rw [Int.toNat_of_nonneg (Int.tmod_nonneg _ h0)]
    exact Int.tmod_lt_of_pos _ hq

theorem dropT_len (l : List Int) (t : Int) : (dropT l t).length ≤ l.length := by
  unfold dropT; split
  · exact List.length_eraseIdx_le _ _
  · exact Nat.le_refl _
end Go.Proofs.Ytegpoocmhamlpaa
