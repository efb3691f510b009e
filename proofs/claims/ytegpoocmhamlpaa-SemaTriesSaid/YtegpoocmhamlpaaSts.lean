/- A drawn region, by its states: what is known when some of its operations are done, whatever their order was. -/
import Derived.Test.YtegpoocmhamlpaaTxt
namespace Go.Proofs.Ytegpoocmhamlpaa
open Go

section
variable {P : Program} {ops : Array Oper} {N : Act → World → Prop}

theorem count_ready {l : Array Bool} {i : Nat} (hi : i ∈ Region.ready .any ops l) : i < l.size ∧ l.toList.count false = (l.setIfInBounds i true).toList.count false + 1 := by
  obtain ⟨hun, _⟩ := mem_ready.1 hi
  have hlt : i < l.size := by
    rcases Nat.lt_or_ge i l.size with h | h
    · exact h
    · simp [Array.getD, Nat.not_lt.2 h] at hun
  have hv : l.toList[i]'(by simpa using hlt) = false := by
    simp [Array.getD, hlt] at hun
    simpa using hun
  refine ⟨hlt, ?_⟩
  rw [Array.toList_setIfInBounds, List.count_set (h := by simpa using hlt), hv]
  have hpos : 0 < l.toList.count false := List.count_pos_iff.2 (by rw [← hv]; exact List.getElem_mem _)
  rw [if_pos (by rfl), if_neg (by decide)]
  omega

theorem any_states (I : Array Bool → Act → World → Prop)
    (h : ∀ l a w, I l a w → wpAny P .any ops (OnlyN N) (l.toList.count false) l a w ∨ (Region.ready .any ops l ≠ [] ∧ ∀ i ∈ Region.ready .any ops l, wpOp P ops (OnlyN N) i (I (l.setIfInBounds i true)) a w)) :
    ∀ n l a w, l.toList.count false = n → I l a w → wpAny P .any ops (OnlyN N) n l a w := by
  intro n
  induction n with
  | zero =>
    intro l a w hn hI
    rcases h l a w hI with h1 | ⟨hne, _⟩
    · rw [hn] at h1; exact h1
    · obtain ⟨i, hi⟩ := List.exists_mem_of_ne_nil _ hne
      have := (count_ready hi).2
      omega
  | succ n ih =>
    intro l a w hn hI
    rcases h l a w hI with h1 | ⟨hne, hr⟩
    · rw [hn] at h1; exact h1
    · refine ⟨fun e => absurd e hne, fun i hi => wpOp_mono (fun a' w' h' => ih _ a' w' ?_ h') (hr i hi)⟩
      have := (count_ready hi).2
      omega

/-- From a state on. -/
theorem anyY_states {fuel : Nat} {listed : Array Bool} {A : Act} {w : World} (I : Act → Array Bool → Act → World → Prop) (hI : I A listed A w) (hf : (listed.toList.count false == fuel) = true)
    (h : ∀ l a w, I A l a w → wpAny P .any ops (OnlyN N) (l.toList.count false) l a w ∨ (Region.ready .any ops l ≠ [] ∧ ∀ i ∈ Region.ready .any ops l, wpOp P ops (OnlyN N) i (I A (l.setIfInBounds i true)) a w)) :
    wpAnyY P ops N fuel listed A w :=
  fun _ => any_states (I A) h fuel listed A w (by simpa using hf) hI

theorem wpOp_go {i : Nat} {o : Oper} {K : Act → World → Prop} {a : Act} {w : World} (ho : ops[i]? = some o) (hw : Region.wanted o (yielded ops a.tmps) = true)
    (hQ : ∀ K' : Act → World → Prop, (∀ a' w', K a' w' → K' a' w') → o.wp P a w K' (OnlyN N)) : wpOp P ops (OnlyN N) i K a w := by
  unfold wpOp
  simp only [ho, hw, if_true]
  exact .inl (hQ _ fun _ _ h => h)

/-- What must be listed ahead of an operation. -/
theorem ready_deps {l : Array Bool} {i : Nat} (hi : i ∈ Region.ready .any ops l) : i < ops.size ∧ l.getD i true = false ∧ ∀ o, ops[i]? = some o → ∀ e ∈ o.after, Region.binds .any e = true → l.getD e.on false = true := by
  obtain ⟨h1, o, h2, h3⟩ := mem_ready.1 hi
  exact ⟨(Array.getElem?_eq_some_iff.1 h2).1, h1, fun o' ho' => by rw [h2] at ho'; cases ho'; exact h3⟩

/-- The same, reckoned. -/
def depsB (ops : Array Oper) (i : Nat) (l : Array Bool) : Bool := match ops[i]? with
  | some o => o.after.all fun e => !(Region.binds .any e) || l.getD e.on false
  | none => false
theorem ready_depsB {l : Array Bool} {i : Nat} (hi : i ∈ Region.ready .any ops l) : i < ops.size ∧ l.getD i true = false ∧ depsB ops i l = true := by
  obtain ⟨h1, o, h2, h3⟩ := mem_ready.1 hi
  refine ⟨(Array.getElem?_eq_some_iff.1 h2).1, h1, ?_⟩
  unfold depsB
  rw [h2]
  simp only [Array.all_eq_true', Bool.or_eq_true, Bool.not_eq_true']
  intro e he
  cases hb : Region.binds .any e
  · exact .inl rfl
  · exact .inr (h3 e he hb)

def closedB (ops : Array Oper) (l : Array Bool) : Bool := (List.range ops.size).all fun j => !(l.getD j false) || depsB ops j l
theorem closed_of {l : Array Bool} (h : closedB ops l = true) : Closed ops l := by
  intro j oj hj hl e he hb
  have hlt := (Array.getElem?_eq_some_iff.1 hj).1
  simp only [closedB, List.all_eq_true, List.mem_range, Bool.or_eq_true, Bool.not_eq_true'] at h
  rcases h j hlt with h1 | h1
  · rw [hl] at h1; cases h1
  · unfold depsB at h1
    rw [hj] at h1
    simp only [Array.all_eq_true', Bool.or_eq_true, Bool.not_eq_true'] at h1
    rcases h1 e he with h2 | h2
    · rw [hb] at h2; cases h2
    · exact h2
/-- All of them are done: on with the others. -/
theorem any_exit {n : Nat} {l : Array Bool} {a : Act} {w : World} (hc : closedB ops l = true) (hn : (l.toList.count false == n) = true) (h : wpAnyY P ops N n l a w) : wpAny P .any ops (OnlyN N) (l.toList.count false) l a w := by
  have e : l.toList.count false = n := by simpa using hn
  rw [e]
  exact h (closed_of hc)
theorem mem_of_depsB {l : Array Bool} {i : Nat} (h1 : l.getD i true = false) (h2 : depsB ops i l = true) : Region.ready .any ops l ≠ [] := by
  have : i ∈ Region.ready .any ops l := by
    unfold depsB at h2
    cases ho : ops[i]? with
    | none => rw [ho] at h2; cases h2
    | some o =>
      rw [ho] at h2
      simp only [Array.all_eq_true', Bool.or_eq_true, Bool.not_eq_true'] at h2
      exact mem_ready.2 ⟨h1, o, ho, fun e he hb => (h2 e he).elim (fun h => by rw [hb] at h; cases h) id⟩
  exact List.ne_nil_of_mem this
def hasDep (ops : Array Oper) (i k : Nat) : Bool := match ops[i]? with
  | some o => o.after.any fun e => Region.binds .any e && e.on == k
  | none => false
theorem dep_on {l : Array Bool} {i : Nat} (k : Nat) (hi : i ∈ Region.ready .any ops l) (h : hasDep ops i k = true) : l.getD k false = true := by
  obtain ⟨_, o, h2, h3⟩ := mem_ready.1 hi
  unfold hasDep at h
  rw [h2] at h
  simp only [Array.any_eq_true', Bool.and_eq_true, beq_iff_eq] at h
  obtain ⟨e, he, hb, rfl⟩ := h
  exact h3 e he hb
theorem not_true_of {b : Bool} (h : b = false) : ¬ b = true := fun e => by rw [h] at e; cases e
theorem ne_nil_of {l : List Nat} (h : l.isEmpty = false) : l ≠ [] := fun e => by rw [e] at h; cases h
end
end Go.Proofs.Ytegpoocmhamlpaa
