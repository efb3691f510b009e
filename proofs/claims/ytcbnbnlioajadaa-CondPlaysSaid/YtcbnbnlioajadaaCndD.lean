/- The plain law of CondPlays: all that ever waited, and whether each of them still does. -/
import Derived.Test.YtcbnbnlioajadaaCndA
namespace Go.Proofs.Ytcbnbnlioajadaa
open Go Go.RowKit

def eA (E : List (Int × Bool)) (i : Nat) : Int := nth (E.map (·.1)) i
def eH (E : List (Int × Bool)) (i : Nat) : Bool := (E.map (·.2)).getD i false
def liveE (E : List (Int × Bool)) : List Int := (E.filter (·.2)).map (·.1)
def InvE (E : List (Int × Bool)) : Prop := E.Pairwise fun p q => p.2 = true → p.1 ≠ q.1

theorem eA_get (E : List (Int × Bool)) (i : Nat) (h : i < E.length) : eA E i = E[i].1 := by simp [eA, nth, h]
theorem eH_get (E : List (Int × Bool)) (i : Nat) (h : i < E.length) : eH E i = E[i].2 := by simp [eH, h]

theorem live_cons (p : Int × Bool) (E : List (Int × Bool)) : liveE (p :: E) = (if p.2 then [p.1] else []) ++ liveE E := by
  unfold liveE
  rw [List.filter_cons]
  cases p.2 <;> simp
theorem live_append (E F : List (Int × Bool)) : liveE (E ++ F) = liveE E ++ liveE F := by simp [liveE]
theorem live_len (E : List (Int × Bool)) : (liveE E).length ≤ E.length := by
  unfold liveE; rw [List.length_map]; exact List.length_filter_le _ _
theorem live_take (E : List (Int × Bool)) (k : Nat) (h : k < E.length) : liveE (E.take (k + 1)) = liveE (E.take k) ++ if eH E k then [eA E k] else [] := by
  rw [List.take_succ_eq_append_getElem h, live_append, live_cons, eA_get E k h, eH_get E k h]
  simp [liveE]

theorem live_mem {E : List (Int × Bool)} {t : Int} : t ∈ liveE E ↔ ∃ i, i < E.length ∧ eA E i = t ∧ eH E i = true := by
  unfold liveE
  simp only [List.mem_map, List.mem_filter]
  constructor
  · rintro ⟨p, ⟨hp, h2⟩, rfl⟩
    obtain ⟨i, hi, rfl⟩ := List.mem_iff_getElem.1 hp
    exact ⟨i, hi, eA_get E i hi, by rw [eH_get E i hi]; exact h2⟩
  · rintro ⟨i, hi, h1, h2⟩
    rw [eA_get E i hi] at h1
    rw [eH_get E i hi] at h2
    exact ⟨E[i], ⟨List.getElem_mem hi, h2⟩, h1⟩

theorem live_set : ∀ (E : List (Int × Bool)) (t : Int) (i : Nat), i < E.length → eA E i = t → eH E i = true → (∀ j, j < i → ¬ (eH E j = true ∧ eA E j = t)) → liveE (E.set i (t, false)) = dropT (liveE E) t
  | [], _, _, h, _, _, _ => by cases h
  | p :: E, t, 0, _, h1, h2, _ => by
    have h1' : p.1 = t := h1
    have h2' : p.2 = true := h2
    rw [List.set_cons_zero, live_cons, live_cons, h2', h1']
    simp [dropT]
  | p :: E, t, i + 1, h, h1, h2, h3 => by
    have hi : i < E.length := by simpa using h
    have ih := live_set E t i hi h1 h2 (fun j hj => h3 (j + 1) (by omega))
    have h0 : ¬ (p.2 = true ∧ p.1 = t) := h3 0 (by omega)
    have hm : t ∈ liveE E := live_mem.2 ⟨i, hi, h1, h2⟩
    rw [List.set_cons_succ, live_cons, live_cons, ih]
    cases hp : p.2
    · simp
    · have hne : p.1 ≠ t := fun e => h0 ⟨hp, e⟩
      have hc : t ∈ ([p.1] ++ liveE E) := List.mem_append_right _ hm
      simp only [if_true]
      rw [dropT_in hc, dropT_in hm]
      show p.1 :: _ = (p.1 :: liveE E).eraseIdx ((p.1 :: liveE E).idxOf t)
      rw [List.idxOf_cons, (by simp [hne] : (p.1 == t) = false)]
      simp only [cond_false]
      rw [List.eraseIdx_cons_succ]; rfl

theorem inv_iff {E : List (Int × Bool)} : InvE E ↔ ∀ i j, i < j → j < E.length → eH E i = true → eA E i ≠ eA E j := by
  unfold InvE
  rw [List.pairwise_iff_getElem]
  constructor
  · intro h i j hij hj
    have := h i j (by omega) hj hij
    rw [eH_get E i (by omega), eA_get E i (by omega), eA_get E j hj]
    exact this
  · intro h i j hi hj hij
    have := h i j hij hj
    rw [eH_get E i hi, eA_get E i hi, eA_get E j hj] at this
    exact this

theorem eA_set (E : List (Int × Bool)) (i : Nat) (t : Int) (b : Bool) (hi : i < E.length) (h : eA E i = t) (j : Nat) : eA (E.set i (t, b)) j = eA E j := by
  unfold eA nth
  rw [List.map_set]
  by_cases e : i = j
  · subst e
    have := eA_get E i hi
    rw [h] at this
    simp [hi, this]
  · simp [List.getD, List.getElem?_set_ne e]
theorem eH_set (E : List (Int × Bool)) (i : Nat) (t : Int) (b : Bool) (hi : i < E.length) (j : Nat) : eH (E.set i (t, b)) j = if i = j then b else eH E j := by
  unfold eH
  rw [List.map_set]
  by_cases e : i = j
  · subst e; simp [hi]
  · simp [List.getD, List.getElem?_set_ne e, e]

theorem inv_set {E : List (Int × Bool)} (h : InvE E) (i : Nat) (t : Int) (hi : i < E.length) (ht : eA E i = t) : InvE (E.set i (t, false)) := by
  rw [inv_iff] at h ⊢
  intro a c hac hc hh
  rw [List.length_set] at hc
  rw [eH_set E i t false hi] at hh
  rw [eA_set E i t false hi ht, eA_set E i t false hi ht]
  split at hh
  · cases hh
  · exact h a c hac hc hh

theorem inv_more {E : List (Int × Bool)} (h : InvE E) {t : Int} (ht : t ∉ liveE E) : InvE (E ++ [(t, true)]) := by
  unfold InvE at h ⊢
  rw [List.pairwise_append]
  refine ⟨h, by simp, fun p hp q hq => ?_⟩
  simp only [List.mem_singleton] at hq
  subst hq
  intro hp2 e
  refine ht ?_
  unfold liveE
  rw [List.mem_map]
  exact ⟨p, List.mem_filter.2 ⟨hp, hp2⟩, e⟩

/-- Where the one lies that is to be dropped. -/
theorem drop_cases (E : List (Int × Bool)) (t : Int) :
    (t ∈ liveE E ∧ ∃ i, i < E.length ∧ eA E i = t ∧ eH E i = true ∧ (∀ j, j < i → ¬ (eH E j = true ∧ eA E j = t)) ∧ liveE (E.set i (t, false)) = dropT (liveE E) t) ∨
    (t ∉ liveE E ∧ ∀ j, j < E.length → ¬ (eH E j = true ∧ eA E j = t)) := by
  by_cases hm : t ∈ liveE E
  · refine .inl ⟨hm, ?_⟩
    obtain ⟨i, hi⟩ := live_mem.1 hm
    have : ∃ i, (i < E.length ∧ eA E i = t ∧ eH E i = true) ∧ ∀ j, j < i → ¬ (j < E.length ∧ eA E j = t ∧ eH E j = true) := by
      induction i using Nat.strongRecOn with
      | _ i ih =>
        by_cases h : ∃ j, j < i ∧ (j < E.length ∧ eA E j = t ∧ eH E j = true)
        · obtain ⟨j, hj, hj2⟩ := h
          exact ih j hj hj2
        · exact ⟨i, hi, fun j hj hj2 => h ⟨j, hj, hj2⟩⟩
    obtain ⟨i, ⟨h1, h2, h3⟩, h4⟩ := this
    have h5 : ∀ j, j < i → ¬ (eH E j = true ∧ eA E j = t) := fun j hj ⟨a, b⟩ => h4 j hj ⟨by omega, b, a⟩
    exact ⟨i, h1, h2, h3, h5, live_set E t i h1 h2 h3 h5⟩
  · exact .inr ⟨hm, fun j hj ⟨a, b⟩ => hm (live_mem.2 ⟨j, hj, b, a⟩)⟩
end Go.Proofs.Ytcbnbnlioajadaa
