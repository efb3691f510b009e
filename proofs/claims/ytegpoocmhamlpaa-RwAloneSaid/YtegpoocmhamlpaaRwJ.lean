/- The plain law of RwPlays: the document's one list, and the program's three lists and a writer. -/
import Derived.Test.YtegpoocmhamlpaaRwI
namespace Go.Proofs.Ytegpoocmhamlpaa
open Go Go.RowKit

/-- One says what the other does. -/
structure Rel (S : RS) (E : List On) : Prop where
  tt : tsk E true true = if S.d = 0 then [] else [S.d]
  ft : tsk E false true = S.r
  tf : tsk E true false = S.w
  ff : tsk E false false = S.q
  nd : (E.map (·.1)).Nodup
  pos : ∀ x ∈ E.map (·.1), 1 ≤ x

theorem tsk_iff {E : List On} {x : Int} : x ∈ E.map (·.1) ↔ x ∈ tsk E true true ∨ x ∈ tsk E false true ∨ x ∈ tsk E true false ∨ x ∈ tsk E false false := by
  constructor
  · intro h
    obtain ⟨p, hp, he⟩ := List.mem_map.1 h
    have key : ∀ a c, p.2.1 = a → p.2.2 = c → x ∈ tsk E a c := fun a c h1 h2 => List.mem_map.2 ⟨p, List.mem_filter.2 ⟨hp, by simp [h1, h2]⟩, he⟩
    cases h1 : p.2.1 <;> cases h2 : p.2.2
    · exact .inr (.inr (.inr (key _ _ h1 h2)))
    · exact .inr (.inl (key _ _ h1 h2))
    · exact .inr (.inr (.inl (key _ _ h1 h2)))
    · exact .inl (key _ _ h1 h2)
  · intro h
    rcases h with h | h | h | h <;> exact tsk_mem h

theorem tsk_snoc (E : List On) (t : Int) (y z a c : Bool) : tsk (E ++ [(t, y, z)]) a c = tsk E a c ++ (if y = a ∧ z = c then [t] else []) := by
  unfold tsk
  rw [List.filter_append, List.map_append]
  congr 1
  by_cases h : y = a ∧ z = c
  · rw [if_pos h, List.filter_cons_of_pos (by simp [h.1, h.2])]; rfl
  · rw [if_neg h, List.filter_cons_of_neg (by simpa using h)]; rfl

section
variable {S : RS} {E : List On}

theorem Rel.mem (h : Rel S E) (t : Int) (ht : 1 ≤ t) : t ∈ E.map (·.1) ↔ S.d = t ∨ t ∈ S.r ∨ t ∈ S.w ∨ t ∈ S.q := by
  rw [tsk_iff, h.tt, h.ft, h.tf, h.ff]
  by_cases hd : S.d = 0
  · rw [if_pos hd]
    constructor
    · rintro (h | h)
      · cases h
      · exact .inr h
    · rintro (h | h)
      · omega
      · exact .inr h
  · rw [if_neg hd]
    constructor
    · rintro (h | h)
      · exact .inl (List.mem_singleton.1 h).symm
      · exact .inr h
    · rintro (h | h)
      · exact .inl (by rw [h]; simp)
      · exact .inr h

theorem Rel.head (h : Rel S E) : (tsk E true true).headD 0 = S.d := by
  rw [h.tt]
  split
  · rename_i e; rw [e]; rfl
  · rfl

theorem Rel.snoc (h : Rel S E) {t : Int} (ht : 1 ≤ t) (hm : t ∉ E.map (·.1)) (y z : Bool) : ((E ++ [(t, y, z)]).map (·.1)).Nodup ∧ ∀ x ∈ (E ++ [(t, y, z)]).map (·.1), 1 ≤ x := by
  rw [List.map_append]
  refine ⟨List.nodup_append.2 ⟨h.nd, by simp, fun a ha b hb e => ?_⟩, fun x hx => ?_⟩
  · simp only [List.map_cons, List.map_nil, List.mem_singleton] at hb
    exact hm (by rw [← hb, ← e]; exact ha)
  · rcases List.mem_append.1 hx with hx | hx
    · exact h.pos x hx
    · simp only [List.map_cons, List.map_nil, List.mem_singleton] at hx
      rw [hx]; exact ht

/-- A task wants to read. -/
theorem rel_read (h : Rel S E) (t : Int) (wait : Bool) : (wnt E t false wait).1 = (if wait then rlr S t else rtr S t).1 ∧ Rel (if wait then rlr S t else rtr S t).2 (wnt E t false wait).2 := by
  by_cases h1 : t < 1
  · have e : rwr S t = 1 := by unfold rwr; rw [if_pos h1]
    have e2 : rtr S t = (1, S) := by unfold rtr; rw [e, if_neg (by decide)]
    have e3 : rlr S t = (1, S) := by unfold rlr; rw [e2, if_neg (by simp)]
    unfold wnt
    rw [if_pos h1, e2, e3]
    cases wait <;> exact ⟨rfl, h⟩
  by_cases hm : t ∈ E.map (·.1)
  · have hm2 := (h.mem t (by omega)).1 hm
    have e : rwr S t = 11 := by unfold rwr; rw [if_neg h1, if_pos hm2]
    have e2 : rtr S t = (11, S) := by unfold rtr; rw [e, if_neg (by decide)]
    have e3 : rlr S t = (11, S) := by unfold rlr; rw [e2, if_neg (by simp)]
    unfold wnt
    rw [if_neg h1, if_pos hm, e2, e3]
    cases wait <;> exact ⟨rfl, h⟩
  have hm2 : ¬ (S.d = t ∨ t ∈ S.r ∨ t ∈ S.w ∨ t ∈ S.q) := fun hh => hm ((h.mem t (by omega)).2 hh)
  have e : rwr S t = 0 := by unfold rwr; rw [if_neg h1, if_neg hm2]
  have hf : fre E false = decide (S.d = 0 ∧ S.w = []) := by
    unfold fre
    rw [h.head]
    show (decide (S.d = 0) && decide ((tsk E true false).length = 0)) = _
    rw [h.tf, ← Bool.decide_and]
    simp [List.length_eq_zero_iff]
  obtain ⟨s1, s2⟩ := h.snoc (by omega : 1 ≤ t) hm false (fre E false)
  unfold wnt
  rw [if_neg h1, if_neg hm]
  by_cases hb : S.d = 0 ∧ S.w = []
  · rw [decide_eq_true hb] at hf
    have e2 : rtr S t = (0, { S with r := S.r ++ [t] }) := by unfold rtr; rw [e, if_pos rfl, if_pos hb]
    have e3 : rlr S t = (0, { S with r := S.r ++ [t] }) := by unfold rlr; rw [e2, if_neg (by simp)]
    rw [hf] at s1 s2 ⊢
    rw [e2, e3, if_neg (by simp)]
    have R : Rel { S with r := S.r ++ [t] } (E ++ [(t, false, true)]) := ⟨by rw [tsk_snoc, h.tt]; simp, by rw [tsk_snoc, h.ft]; simp, by rw [tsk_snoc, h.tf]; simp, by rw [tsk_snoc, h.ff]; simp, s1, s2⟩
    cases wait <;> exact ⟨rfl, R⟩
  · rw [decide_eq_false hb] at hf
    have e2 : rtr S t = (12, S) := by unfold rtr; rw [e, if_pos rfl, if_neg hb]
    have e3 : rlr S t = (14, { S with q := S.q ++ [t] }) := by unfold rlr; rw [e2, if_pos rfl]
    rw [hf] at s1 s2 ⊢
    rw [e2, e3]
    cases wait
    · exact ⟨rfl, h⟩
    · exact ⟨rfl, ⟨by show tsk (E ++ [(t, false, false)]) true true = _; rw [tsk_snoc, h.tt]; simp, by show tsk (E ++ [(t, false, false)]) false true = _; rw [tsk_snoc, h.ft]; simp, by show tsk (E ++ [(t, false, false)]) true false = _; rw [tsk_snoc, h.tf]; simp, by show tsk (E ++ [(t, false, false)]) false false = _; rw [tsk_snoc, h.ff]; simp, s1, s2⟩⟩

/-- A task wants to write. -/
theorem rel_write (h : Rel S E) (t : Int) (wait : Bool) : (wnt E t true wait).1 = (if wait then rlw S t else rtw S t).1 ∧ Rel (if wait then rlw S t else rtw S t).2 (wnt E t true wait).2 := by
  by_cases h1 : t < 1
  · have e : rwr S t = 1 := by unfold rwr; rw [if_pos h1]
    have e2 : rtw S t = (1, S) := by unfold rtw; rw [e, if_neg (by decide)]
    have e3 : rlw S t = (1, S) := by unfold rlw; rw [e2, if_neg (by simp)]
    unfold wnt
    rw [if_pos h1, e2, e3]
    cases wait <;> exact ⟨rfl, h⟩
  by_cases hm : t ∈ E.map (·.1)
  · have hm2 := (h.mem t (by omega)).1 hm
    have e : rwr S t = 11 := by unfold rwr; rw [if_neg h1, if_pos hm2]
    have e2 : rtw S t = (11, S) := by unfold rtw; rw [e, if_neg (by decide)]
    have e3 : rlw S t = (11, S) := by unfold rlw; rw [e2, if_neg (by simp)]
    unfold wnt
    rw [if_neg h1, if_pos hm, e2, e3]
    cases wait <;> exact ⟨rfl, h⟩
  have hm2 : ¬ (S.d = t ∨ t ∈ S.r ∨ t ∈ S.w ∨ t ∈ S.q) := fun hh => hm ((h.mem t (by omega)).2 hh)
  have e : rwr S t = 0 := by unfold rwr; rw [if_neg h1, if_neg hm2]
  have hf : fre E true = decide (S.d = 0 ∧ S.r = []) := by
    unfold fre
    rw [h.head]
    show (decide (S.d = 0) && decide ((tsk E false true).length = 0)) = _
    rw [h.ft, ← Bool.decide_and]
    simp [List.length_eq_zero_iff]
  obtain ⟨s1, s2⟩ := h.snoc (by omega : 1 ≤ t) hm true (fre E true)
  unfold wnt
  rw [if_neg h1, if_neg hm]
  by_cases hb : S.d = 0 ∧ S.r = []
  · rw [decide_eq_true hb] at hf
    have e2 : rtw S t = (0, { S with d := t }) := by unfold rtw; rw [e, if_pos rfl, if_pos hb]
    have e3 : rlw S t = (0, { S with d := t }) := by unfold rlw; rw [e2, if_neg (by simp)]
    rw [hf] at s1 s2 ⊢
    rw [e2, e3, if_neg (by simp)]
    have R : Rel { S with d := t } (E ++ [(t, true, true)]) := ⟨by rw [tsk_snoc, h.tt, if_pos hb.1]; simp; omega, by rw [tsk_snoc, h.ft]; simp, by rw [tsk_snoc, h.tf]; simp, by rw [tsk_snoc, h.ff]; simp, s1, s2⟩
    cases wait <;> exact ⟨rfl, R⟩
  · rw [decide_eq_false hb] at hf
    have e2 : rtw S t = (12, S) := by unfold rtw; rw [e, if_pos rfl, if_neg hb]
    have e3 : rlw S t = (14, { S with w := S.w ++ [t] }) := by unfold rlw; rw [e2, if_pos rfl]
    rw [hf] at s1 s2 ⊢
    rw [e2, e3]
    cases wait
    · exact ⟨rfl, h⟩
    · exact ⟨rfl, ⟨by show tsk (E ++ [(t, true, false)]) true true = _; rw [tsk_snoc, h.tt]; simp, by show tsk (E ++ [(t, true, false)]) false true = _; rw [tsk_snoc, h.ft]; simp, by show tsk (E ++ [(t, true, false)]) true false = _; rw [tsk_snoc, h.tf]; simp, by show tsk (E ++ [(t, true, false)]) false false = _; rw [tsk_snoc, h.ff]; simp, s1, s2⟩⟩
end
end Go.Proofs.Ytegpoocmhamlpaa
