/- An object with any number of lists of its own: its cells are scalars, or slices of rows of its own. -/
import Derived.Test.YtegpoocmhamlpaaIntC
namespace Go.Proofs.Ytegpoocmhamlpaa
open Go Go.RowKit

/-- A cell: a scalar, or a list of n elements of type e, each of s cells; its elements' cells are xs. -/
inductive Cel where
  | sc (v : Value)
  | li (e s n : Nat) (xs : List Value)

/-- A list of ints. -/
def Cel.ci (l : List Int) : Cel := .li 3 1 l.length (flat1 l)

def Cel.fits (w : World) (b : Nat) : Cel → Value → Prop
  | .sc u, v => v = u ∧ v.ownBlock = none
  | .li e s n xs, v => w.ownsRow 0 e s v n xs ∧ v.ownBlock ≠ some b

theorem Cel.fits.lt {w : World} {b : Nat} {c : Cel} {v : Value} (h : c.fits w b v) {k : Nat} (hk : v.ownBlock = some k) : k < w.heap.size := by
  cases c with
  | sc u => rw [h.2] at hk; cases hk
  | li e s n xs => exact (World.ownsRow.lt h.1 k hk).2

theorem Cel.fits.ne {w : World} {b : Nat} {c : Cel} {v : Value} (h : c.fits w b v) : v.ownBlock ≠ some b := by
  cases c with
  | sc u => rw [h.2]; intro e; cases e
  | li e s n xs => exact h.2

theorem Cel.fits.keep {F : Nat → Prop} {w w' : World} {b : Nat} {c : Cel} {v : Value} (h : c.fits w b v) (hK : Keep F w w') (hF : ∀ k, v.ownBlock = some k → ¬ F k) : c.fits w' b v := by
  cases c with
  | sc u => exact h
  | li e s n xs => exact ⟨owns_keep h.1 hK hF, h.2⟩

/-- The cells' lists lie in rows of their own, no two in one. -/
structure MobFit (w : World) (b : Nat) (cs : List Cel) (vs : List Value) : Prop where
  len : vs.length = cs.length
  fit : ∀ (i : Nat) (c : Cel) (v : Value), cs[i]? = some c → vs[i]? = some v → c.fits w b v
  apart : ∀ (i j : Nat) (vi vj : Value) (k : Nat), vs[i]? = some vi → vs[j]? = some vj → i ≠ j → vi.ownBlock = some k → vj.ownBlock ≠ some k

section
variable {w w' : World} {b : Nat} {cs : List Cel} {vs : List Value}

theorem MobFit.at (h : MobFit w b cs vs) {i : Nat} {v : Value} (hv : vs[i]? = some v) : ∃ c, cs[i]? = some c ∧ c.fits w b v := by
  have hi : i < cs.length := by rw [← h.len]; exact (List.getElem?_eq_some_iff.1 hv).1
  exact ⟨_, List.getElem?_eq_getElem hi, h.fit i _ v (List.getElem?_eq_getElem hi) hv⟩

theorem MobFit.val (h : MobFit w b cs vs) {i : Nat} {c : Cel} (hc : cs[i]? = some c) : ∃ v, vs[i]? = some v ∧ c.fits w b v := by
  have hi : i < vs.length := by rw [h.len]; exact (List.getElem?_eq_some_iff.1 hc).1
  exact ⟨_, List.getElem?_eq_getElem hi, h.fit i c _ hc (List.getElem?_eq_getElem hi)⟩

theorem MobFit.own (h : MobFit w b cs vs) {i e s n : Nat} {xs : List Value} {v : Value} (hc : cs[i]? = some (.li e s n xs)) (hv : vs[i]? = some v) : w.ownsRow 0 e s v n xs := (h.fit i _ v hc hv).1

theorem MobFit.keep {F : Nat → Prop} (h : MobFit w b cs vs) (hK : Keep F w w') (hF : ∀ v ∈ vs, ∀ k, v.ownBlock = some k → ¬ F k) : MobFit w' b cs vs :=
  ⟨h.len, fun i c v hc hv => (h.fit i c v hc hv).keep hK (hF v (List.mem_of_getElem? hv)), h.apart⟩

/-- A store into the object's own block. -/
theorem MobFit.setCell (h : MobFit w b cs vs) (o : Nat) (u : Value) : MobFit (w.setCell ⟨b, o, none⟩ u) b cs vs :=
  h.keep ((Keep.refl _ w).setOwn u) fun v hv k hk e => by
    obtain ⟨i, hi⟩ := List.mem_iff_getElem?.1 hv
    obtain ⟨c, _, hf⟩ := h.at hi
    exact hf.ne (by rw [hk, e])

/-- One list is turned; its slice then. -/
theorem MobFit.turn (h : MobFit w b cs vs) (hb : b < w.heap.size) {i : Nat} {v v' : Value} {c' : Cel} (hv : vs[i]? = some v) (hK : Keep (fun k => v.ownBlock = some k) w w') (hf : c'.fits w' b v')
    (ho : ∀ k, v'.ownBlock = some k → v.ownBlock = some k ∨ w.heap.size ≤ k) : MobFit w' b (cs.set i c') (vs.set i v') := by
  refine ⟨by rw [List.length_set, List.length_set, h.len], fun j c u hc hu => ?_, fun j l vj vl k hj hl hne hk => ?_⟩
  · by_cases e : i = j
    · subst e
      have hi : i < vs.length := (List.getElem?_eq_some_iff.1 hv).1
      rw [List.getElem?_set_self (by rw [← h.len]; exact hi)] at hc
      rw [List.getElem?_set_self hi] at hu
      cases hc; cases hu
      exact hf
    · rw [List.getElem?_set_ne e] at hc hu
      exact (h.fit j c u hc hu).keep hK fun k hk hk' => h.apart i j v u k hv hu e hk' hk
  · have hi : i < vs.length := (List.getElem?_eq_some_iff.1 hv).1
    have old : ∀ {m : Nat} {u : Value}, i ≠ m → (vs.set i v')[m]? = some u → vs[m]? = some u := fun e hu => by rwa [List.getElem?_set_ne e] at hu
    have new : ∀ {u : Value}, (vs.set i v')[i]? = some u → u = v' := fun hu => by rw [List.getElem?_set_self hi] at hu; exact (Option.some.inj hu).symm
    by_cases e : i = j
    · subst e
      have := new hj; subst this
      have hl' := old hne hl
      intro hkl
      obtain ⟨c, _, hfl⟩ := h.at hl'
      rcases ho k hk with h1 | h1
      · exact h.apart i l v vl k hv hl' hne h1 hkl
      · have := hfl.lt hkl; omega
    · have hj' := old e hj
      by_cases e2 : i = l
      · subst e2
        have := new hl; subst this
        intro hkl
        obtain ⟨c, _, hfj⟩ := h.at hj'
        rcases ho k hkl with h1 | h1
        · exact h.apart i j v vj k hv hj' e h1 hk
        · have := hfj.lt hk; omega
      · exact h.apart j l vj vl k hj' (old e2 hl) hne hk

theorem MobFit.scal (h : MobFit w b cs vs) (hb : b < w.heap.size) {i : Nat} {v : Value} (hv : vs[i]? = some v) (u : Value) (hu : u.ownBlock = none) : MobFit w b (cs.set i (.sc u)) (vs.set i u) :=
  h.turn hb hv (Keep.refl _ _) ⟨rfl, hu⟩ fun k hk => by rw [hu] at hk; cases hk
end

structure MobAt (T : Nat) (w : World) (b : Nat) (cs : List Cel) (vs : List Value) : Prop where
  row : w.heap[b]? = some (.cells vs.toArray T (0, 0))
  mob : MobFit w b cs vs

section
variable {T : Nat} {w w' : World} {b : Nat} {cs : List Cel} {vs : List Value}

theorem MobAt.lt (h : MobAt T w b cs vs) : b < w.heap.size := lt_of_heap h.row
theorem MobAt.fro (h : MobAt T w b cs vs) (o : Nat) : w.frozen? ⟨b, o, none⟩ = false := by simp [World.frozen?, h.row]
theorem MobAt.cell (h : MobAt T w b cs vs) {i : Nat} {v : Value} (hv : vs[i]? = some v) : w.cell? ⟨b, i, none⟩ = some v := by
  rw [cell_of_row w b i _ _ _ h.row, List.getElem?_toArray]; exact hv
theorem MobAt.get (h : MobAt T w b cs vs) (i : Nat) {u : Value} (hc : cs[i]? = some (.sc u)) : w.cell? ⟨b, i, none⟩ = some u := by
  obtain ⟨v, hv, hf⟩ := h.mob.val hc
  rw [h.cell hv, hf.1]
theorem MobAt.list (h : MobAt T w b cs vs) (i : Nat) {e s n : Nat} {xs : List Value} (hc : cs[i]? = some (.li e s n xs)) :
    ∃ v, vs[i]? = some v ∧ w.cell? ⟨b, i, none⟩ = some v ∧ w.ownsRow 0 e s v n xs ∧ v.ownBlock ≠ some b := by
  obtain ⟨v, hv, hf⟩ := h.mob.val hc
  exact ⟨v, hv, h.cell hv, hf⟩
theorem MobAt.keep {F : Nat → Prop} (h : MobAt T w b cs vs) (hK : Keep F w w') (hF : ¬ F b) (hv : ∀ v ∈ vs, ∀ k, v.ownBlock = some k → ¬ F k) : MobAt T w' b cs vs :=
  ⟨(hK.block b h.lt hF).trans h.row, h.mob.keep hK hv⟩

/-- The slice is stored whose list was turned. -/
theorem MobAt.put {i : Nat} {v' : Value} {vs' : List Value} (hr : w.heap[b]? = some (.cells vs.toArray T (0, 0))) (h : MobFit w b cs vs') (hv : vs' = vs.set i v') : MobAt T (w.setCell ⟨b, i, none⟩ v') b cs vs' :=
  ⟨by rw [heap_setCell_row hr, List.setIfInBounds_toArray, hv], h.setCell _ _⟩

/-- A scalar is stored. -/
theorem MobAt.setScal (h : MobAt T w b cs vs) {i : Nat} (hi : i < cs.length) (u : Value) (hu : u.ownBlock = none) : MobAt T (w.setCell ⟨b, i, none⟩ u) b (cs.set i (.sc u)) (vs.set i u) :=
  MobAt.put h.row (h.mob.scal h.lt (List.getElem?_eq_getElem (by rw [h.mob.len]; exact hi)) u hu) rfl

/-- A list is turned, and its slice is stored. -/
theorem MobAt.setList (h : MobAt T w b cs vs) {i : Nat} {v v' : Value} {c' : Cel} (hv : vs[i]? = some v) (hK : Keep (fun k => v.ownBlock = some k) w w') (hf : c'.fits w' b v')
    (ho : ∀ k, v'.ownBlock = some k → v.ownBlock = some k ∨ w.heap.size ≤ k) : MobAt T (w'.setCell ⟨b, i, none⟩ v') b (cs.set i c') (vs.set i v') := by
  have hne : ¬ (v.ownBlock = some b) := by
    obtain ⟨c, _, hf⟩ := h.mob.at hv
    exact hf.ne
  exact MobAt.put ((hK.block b h.lt hne).trans h.row) (h.mob.turn h.lt hv hK hf ho) rfl
theorem set_same {vs : List Value} {i : Nat} {v : Value} (h : vs[i]? = some v) : vs.set i v = vs := by
  obtain ⟨hi, he⟩ := List.getElem?_eq_some_iff.1 h
  refine List.ext_getElem (by simp) fun j h1 h2 => ?_
  rw [List.getElem_set]
  split
  · rename_i e; subst e; exact he.symm
  · rfl

/-- A list is turned where it lies. -/
theorem MobAt.elem (h : MobAt T w b cs vs) {i : Nat} {v : Value} {c' : Cel} (hv : vs[i]? = some v) (hK : Keep (fun k => v.ownBlock = some k) w w') (hf : c'.fits w' b v) : MobAt T w' b (cs.set i c') vs := by
  have hne : ¬ (v.ownBlock = some b) := by
    obtain ⟨c, _, hf⟩ := h.mob.at hv
    exact hf.ne
  have := h.mob.turn h.lt hv hK hf (fun k hk => .inl hk)
  rw [set_same hv] at this
  exact ⟨(hK.block b h.lt hne).trans h.row, this⟩
end

/-- An object whose own blocks are G's. -/
def IsMob (T : Nat) (w : World) (G : Nat → Prop) (b : Nat) (cs : List Cel) : Prop :=
  G b ∧ (∀ k, G k → k < w.heap.size) ∧ ∃ vs, MobAt T w b cs vs ∧ ∀ v ∈ vs, ∀ k, v.ownBlock = some k → G k

section
variable {T : Nat} {w w' w0 : World} {G : Nat → Prop} {b : Nat} {cs cs' : List Cel} {vs : List Value}

theorem IsMob.keep {F : Nat → Prop} (h : IsMob T w G b cs) (hK : Keep F w w') (hF : ∀ k, G k → ¬ F k) : IsMob T w' G b cs := by
  obtain ⟨h1, h2, vs, h3, h4⟩ := h
  exact ⟨h1, fun k hk => Nat.lt_of_lt_of_le (h2 k hk) hK.size, vs, h3.keep hK (hF b h1) (fun v hv k hk => hF k (h4 v hv k hk)), h4⟩

theorem IsMob.of (h : MobAt T w b cs vs) : IsMob T w (fun k => k = b ∨ ∃ v ∈ vs, v.ownBlock = some k) b cs := by
  refine ⟨.inl rfl, fun k hk => hk.elim (fun e => e ▸ h.lt) (fun ⟨v, hv, hk⟩ => ?_), vs, h, fun v hv k hk => .inr ⟨v, hv, hk⟩⟩
  obtain ⟨i, hi⟩ := List.mem_iff_getElem?.1 hv
  obtain ⟨c, _, hf⟩ := h.mob.at hi
  exact hf.lt hk

def AfterM (T : Nat) (G : Nat → Prop) (w w' : World) (b : Nat) (cs : List Cel) : Prop :=
  ∃ G', IsMob T w' G' b cs ∧ (∀ k, G' k → G k ∨ w.heap.size ≤ k) ∧ Keep G w w'

theorem IsMob.after (h : IsMob T w G b cs) : AfterM T G w w b cs := ⟨G, h, fun _ hk => .inl hk, Keep.refl _ _⟩

theorem AfterM.stored (h : MobAt T w' b cs vs) (hK : Keep G w w') (hb : G b) (hv : ∀ v ∈ vs, ∀ k, v.ownBlock = some k → G k ∨ w.heap.size ≤ k) : AfterM T G w w' b cs :=
  ⟨_, IsMob.of h, fun k hk => hk.elim (fun e => .inl (e ▸ hb)) (fun ⟨v, hm, he⟩ => hv v hm k he), hK⟩

/-- Made since w0: nothing that was there is turned. -/
def MNew (T : Nat) (w0 w : World) (G : Nat → Prop) (b : Nat) (cs : List Cel) : Prop :=
  IsMob T w G b cs ∧ (∀ k, G k → w0.heap.size ≤ k) ∧ Keep (fun _ => False) w0 w

def StepM (T : Nat) (w0 : World) (G : Nat → Prop) (w w' : World) (b : Nat) (cs : List Cel) : Prop :=
  ∃ G', MNew T w0 w' G' b cs ∧ (∀ k, G' k → G k ∨ w.heap.size ≤ k) ∧ Keep G w w'

theorem MNew.on (h : MNew T w0 w G b cs) (h' : AfterM T G w w' b cs') : StepM T w0 G w w' b cs' := by
  obtain ⟨h1, h2, h3⟩ := h
  obtain ⟨G', i1, i2, i3⟩ := h'
  exact ⟨G', ⟨i1, fun k hk => (i2 k hk).elim (h2 k) (fun h => Nat.le_trans h3.size h), h3.then i3 fun k hk => .inr (h2 k hk)⟩, i2, i3⟩

theorem MNew.keep {F : Nat → Prop} (h : MNew T w0 w G b cs) (hK : Keep F w w') (hF : ∀ k, F k → w0.heap.size ≤ k ∧ ¬ G k) : MNew T w0 w' G b cs :=
  ⟨h.1.keep hK (fun k hk hf => (hF k hf).2 hk), h.2.1, h.2.2.then hK fun k hk => .inr (hF k hk).1⟩

theorem MNew.quiet (h : MNew T w0 w G b cs) (hK : Keep (fun _ => False) w w') : MNew T w0 w' G b cs := h.keep hK fun _ h => h.elim

theorem StepM.same (h : MNew T w0 w G b cs) (hK : Keep (fun _ => False) w w') : StepM T w0 G w w' b cs :=
  ⟨G, h.quiet hK, fun _ hk => .inl hk, hK.mono fun _ _ e => e.elim⟩

theorem StepM.trans {w'' : World} {G' : Nat → Prop} (h : MNew T w0 w' G' b cs ∧ (∀ k, G' k → G k ∨ w.heap.size ≤ k) ∧ Keep G w w') (h' : StepM T w0 G' w' w'' b cs') : StepM T w0 G w w'' b cs' := by
  obtain ⟨_, h2, h3⟩ := h
  obtain ⟨G'', i1, i2, i3⟩ := h'
  exact ⟨G'', i1, fun k hk => (i2 k hk).elim (h2 k) (fun h => .inr (Nat.le_trans h3.size h)), h3.then i3 h2⟩
end

/-- A list that can be read and lies apart from an object: in blocks of G's or new ones, but none of G' s. -/
def Apart (G G' : Nat → Prop) (w w' : World) (v : Value) : Prop := ∀ k, v.ownBlock = some k → (G k ∨ w.heap.size ≤ k) ∧ k < w'.heap.size ∧ ¬ G' k

end Go.Proofs.Ytegpoocmhamlpaa
