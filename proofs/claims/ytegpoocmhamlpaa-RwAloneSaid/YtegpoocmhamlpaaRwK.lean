/- The plain law of RwPlays: who goes, and who is let in. -/
import Derived.Test.YtegpoocmhamlpaaRwJ
namespace Go.Proofs.Ytegpoocmhamlpaa
open Go Go.RowKit

theorem filter_ne_self {l : List Int} {t : Int} (h : t ∉ l) : l.filter (fun x => x != t) = l :=
  List.filter_eq_self.2 fun x hx => by simp; intro e; exact h (e ▸ hx)

theorem dropT_filter : ∀ {l : List Int} {t : Int}, l.Nodup → dropT l t = l.filter (fun x => x != t)
  | [], t, _ => by simp [dropT]
  | x :: l, t, h => by
    rw [List.nodup_cons] at h
    by_cases e : x = t
    · subst e
      rw [dropT_in (by simp), List.idxOf_cons_self, List.eraseIdx_cons_zero, List.filter_cons_of_neg (by simp), filter_ne_self h.1]
    · rw [List.filter_cons_of_pos (by simp [e]), ← dropT_filter h.2]
      unfold dropT
      have hb : (x == t) = false := by simp [e]
      by_cases hm : t ∈ l
      · rw [if_pos (by simp [hm]), if_pos hm, List.idxOf_cons, hb]; rfl
      · rw [if_neg (by simp [hm]; exact fun h => e h.symm), if_neg hm]

theorem erase_filter : ∀ {E : List On} {t : Int}, (E.map (·.1)).Nodup → t ∈ E.map (·.1) → E.eraseIdx ((E.map (·.1)).idxOf t) = E.filter (fun p => p.1 != t)
  | [], t, _, h => by cases h
  | p :: E, t, h, hm => by
    rw [List.map_cons, List.nodup_cons] at h
    rw [List.map_cons]
    by_cases e : p.1 = t
    · subst e
      rw [List.idxOf_cons_self, List.eraseIdx_cons_zero, List.filter_cons_of_neg (by simp)]
      refine (List.filter_eq_self.2 fun q hq => ?_).symm
      simp only [bne_iff_ne, ne_eq]
      intro e2
      exact h.1 (by rw [← e2]; exact List.mem_map.2 ⟨q, hq, rfl⟩)
    · have hm2 : t ∈ E.map (·.1) := by
        rcases List.mem_cons.1 hm with h | h
        · exact absurd h.symm e
        · exact h
      have hb : (p.1 == t) = false := by simp [e]
      rw [List.idxOf_cons, hb, List.filter_cons_of_pos (by simp [e]), ← erase_filter h.2 hm2]; rfl

theorem tsk_filter (E : List On) (t : Int) (a c : Bool) : tsk (E.filter fun p => p.1 != t) a c = (tsk E a c).filter (fun x => x != t) := by
  unfold tsk
  rw [List.filter_map, List.filter_filter, List.filter_filter]
  congr 1
  refine List.filter_congr fun p _ => ?_
  simp only [Function.comp]
  exact Bool.and_comm _ _

theorem tsk_nodup {E : List On} (h : (E.map (·.1)).Nodup) (a c : Bool) : (tsk E a c).Nodup := h.sublist (List.Sublist.map _ List.filter_sublist)

theorem tsk_kind {E : List On} {t : Int} (h : (E.map (·.1)).Nodup) (hm : t ∈ E.map (·.1)) (a c : Bool) : t ∈ tsk E a c ↔ (at3 E ((E.map (·.1)).idxOf t)).2.1 = a ∧ (at3 E ((E.map (·.1)).idxOf t)).2.2 = c := by
  have hi' : (E.map (·.1)).idxOf t < (E.map (·.1)).length := List.idxOf_lt_length_iff.2 hm
  have hi : (E.map (·.1)).idxOf t < E.length := by simpa using hi'
  have hat : at3 E ((E.map (·.1)).idxOf t) = E[(E.map (·.1)).idxOf t] := by simp [at3, hi]
  constructor
  · intro ht
    obtain ⟨p, hp, he⟩ := List.mem_map.1 ht
    obtain ⟨hp, hk⟩ := List.mem_filter.1 hp
    obtain ⟨j, hj, rfl⟩ := List.mem_iff_getElem.1 hp
    have e : (E.map (·.1)).idxOf t = j := by
      have h1 : (E.map (·.1))[j]'(by simpa using hj) = (E.map (·.1))[(E.map (·.1)).idxOf t] := by rw [List.getElem_idxOf hi']; simpa using he
      exact ((List.getElem_inj h).1 h1).symm
    have e2 : at3 E ((E.map (·.1)).idxOf t) = E[j] := by rw [e]; simp [at3, hj]
    rw [e2]
    simpa using hk
  · intro hk
    refine List.mem_map.2 ⟨_, List.mem_filter.2 ⟨List.getElem_mem hi, ?_⟩, ?_⟩
    · rw [← hat]; simp [hk.1, hk.2]
    · have := List.getElem_idxOf hi'
      rw [List.getElem_map] at this
      exact this

section
variable {S : RS} {E : List On}

/-- A task of one kind goes. -/
theorem Rel.gone (h : Rel S E) {t : Int} {a c : Bool} (ht : t ∈ tsk E a c) : (∀ a' c', tsk (E.eraseIdx ((E.map (·.1)).idxOf t)) a' c' = if a' = a ∧ c' = c then dropT (tsk E a' c') t else tsk E a' c') ∧
    ((E.eraseIdx ((E.map (·.1)).idxOf t)).map (·.1)).Nodup ∧ (∀ x ∈ (E.eraseIdx ((E.map (·.1)).idxOf t)).map (·.1), 1 ≤ x) ∧ t ∉ (E.eraseIdx ((E.map (·.1)).idxOf t)).map (·.1) := by
  have hm := tsk_mem ht
  rw [erase_filter h.nd hm]
  refine ⟨fun a' c' => ?_, h.nd.sublist (List.Sublist.map _ List.filter_sublist), fun x hx => h.pos x ((List.Sublist.map _ List.filter_sublist).subset hx), fun hx => ?_⟩
  · rw [tsk_filter]
    by_cases e : a' = a ∧ c' = c
    · rw [if_pos e, dropT_filter (tsk_nodup h.nd _ _)]
    · rw [if_neg e]
      refine filter_ne_self fun h2 => e ?_
      have k1 := (tsk_kind h.nd hm a c).1 ht
      have k2 := (tsk_kind h.nd hm a' c').1 h2
      exact ⟨k2.1.symm.trans k1.1, k2.2.symm.trans k1.2⟩
  · obtain ⟨p, hp, he⟩ := List.mem_map.1 hx
    have := (List.mem_filter.1 hp).2
    simp [he] at this

theorem dropT_head (x : Int) (l : List Int) : dropT (x :: l) x = l := by simp [dropT]

theorem mv_eq (h : Rel S E) {x : Int} {a : Bool} (hx : x ∈ tsk E a false) : mv E x = E.eraseIdx ((E.map (·.1)).idxOf x) ++ [(x, a, true)] := by
  have hm := tsk_mem hx
  have hi' : (E.map (·.1)).idxOf x < (E.map (·.1)).length := List.idxOf_lt_length_iff.2 hm
  have hi : (E.map (·.1)).idxOf x < E.length := by simpa using hi'
  have e1 : (at3 E ((E.map (·.1)).idxOf x)).1 = x := by rw [← at3_fst E _ hi, nth_get _ _ hi']; exact List.getElem_idxOf hi'
  have e2 := (tsk_kind h.nd hm a false).1 hx
  unfold mv
  rw [e1, e2.1]

theorem snoc_nd {F : List On} {x : Int} (hn : (F.map (·.1)).Nodup) (hp : ∀ y ∈ F.map (·.1), 1 ≤ y) (hx : x ∉ F.map (·.1)) (h1 : 1 ≤ x) (y z : Bool) : ((F ++ [(x, y, z)]).map (·.1)).Nodup ∧ ∀ v ∈ (F ++ [(x, y, z)]).map (·.1), 1 ≤ v := by
  rw [List.map_append]
  refine ⟨List.nodup_append.2 ⟨hn, by simp, fun a ha b hb e => ?_⟩, fun v hv => ?_⟩
  · simp only [List.map_cons, List.map_nil, List.mem_singleton] at hb
    exact hx (by rw [← hb, ← e]; exact ha)
  · rcases List.mem_append.1 hv with hv | hv
    · exact hp v hv
    · simp only [List.map_cons, List.map_nil, List.mem_singleton] at hv
      rw [hv]; exact h1

theorem rel_mv_read (h : Rel S E) {x : Int} {l : List Int} (hq : S.q = x :: l) : Rel { S with r := S.r ++ [x], q := l } (mv E x) := by
  have hx : x ∈ tsk E false false := by rw [h.ff, hq]; simp
  obtain ⟨g1, g2, g3, g4⟩ := h.gone hx
  obtain ⟨s1, s2⟩ := snoc_nd g2 g3 g4 (h.pos x (tsk_mem hx)) false true
  rw [mv_eq h hx]
  refine ⟨?_, ?_, ?_, ?_, s1, s2⟩
  · rw [tsk_snoc, g1, if_neg (by simp), h.tt]; simp
  · rw [tsk_snoc, g1, if_neg (by simp), h.ft]; simp
  · rw [tsk_snoc, g1, if_neg (by simp), h.tf]; simp
  · rw [tsk_snoc, g1, if_pos ⟨rfl, rfl⟩, h.ff, hq, dropT_head]; simp

theorem rel_mv_write (h : Rel S E) (hd : S.d = 0) {x : Int} {l : List Int} (hw : S.w = x :: l) : Rel { S with d := x, w := l } (mv E x) := by
  have hx : x ∈ tsk E true false := by rw [h.tf, hw]; simp
  have hp := h.pos x (tsk_mem hx)
  obtain ⟨g1, g2, g3, g4⟩ := h.gone hx
  obtain ⟨s1, s2⟩ := snoc_nd g2 g3 g4 hp true true
  rw [mv_eq h hx]
  refine ⟨?_, ?_, ?_, ?_, s1, s2⟩
  · have hx0 : ¬ x = 0 := by omega
    show _ = if x = 0 then [] else [x]
    rw [if_neg hx0, tsk_snoc, g1, if_neg (by simp), h.tt, if_pos hd]; simp
  · rw [tsk_snoc, g1, if_neg (by simp), h.ft]; simp
  · rw [tsk_snoc, g1, if_pos ⟨rfl, rfl⟩, h.tf, hw, dropT_head]; simp
  · rw [tsk_snoc, g1, if_neg (by simp), h.ff]; simp

theorem rel_fold : ∀ (l : List Int) {S : RS} {E : List On}, Rel S E → S.q = l → Rel { S with r := S.r ++ l, q := [] } (l.foldl mv E)
  | [], S, E, h, hq => by
    rw [List.foldl_nil, List.append_nil, ← hq]
    exact h
  | x :: l, S, E, h, hq => by
    have h1 := rel_mv_read h hq
    have h2 := rel_fold l h1 rfl
    rw [List.foldl_cons]
    simpa using h2

/-- It is handed on. -/
theorem rel_hand (h : Rel S E) : tho E = (rhd S).1 ∧ Rel (rhd S).2 ((tho E).foldl mv E) := by
  by_cases hd : S.d = 0
  · have t1 : tho E = if S.w.length = 0 then S.q else if S.r.length = 0 then S.w.take 1 else [] := by
      unfold tho
      rw [h.head, h.tf, h.ff, h.ft, if_neg (fun hh => hh hd)]
    have r1 : rhd S = match S.w with
        | [] => (S.q, { S with r := S.r ++ S.q, q := [] })
        | x :: l => if S.r = [] then ([x], { S with d := x, w := l }) else ([], S) := by
      unfold rhd
      rw [if_neg (fun hh => hh hd)]
      first | rfl | (cases S.w <;> rfl)
    cases hw : S.w with
    | nil =>
      rw [hw] at t1 r1
      rw [t1, r1, if_pos (by rfl)]
      have := rel_fold S.q h rfl
      rw [hw] at this
      exact ⟨rfl, this⟩
    | cons x l =>
      rw [hw] at t1 r1
      rw [if_neg (by simp)] at t1
      dsimp only at r1
      by_cases hr : S.r = []
      · rw [if_pos (by rw [hr]; rfl)] at t1
        rw [if_pos hr] at r1
        rw [t1, r1]
        exact ⟨rfl, rel_mv_write h hd hw⟩
      · rw [if_neg (by simpa using hr)] at t1
        rw [if_neg hr] at r1
        rw [t1, r1]
        exact ⟨rfl, h⟩
  · have t1 : tho E = [] := by
      unfold tho
      rw [h.head, if_pos hd]
    have r1 : rhd S = ([], S) := by
      unfold rhd
      rw [if_pos hd]
    rw [t1, r1]
    exact ⟨rfl, h⟩

theorem Rel.idx_mem (h : Rel S E) {t : Int} (a c : Bool) (hm : t ∈ E.map (·.1)) : t ∈ tsk E a c ↔ (at3 E ((E.map (·.1)).idxOf t)).2.1 = a ∧ (at3 E ((E.map (·.1)).idxOf t)).2.2 = c := tsk_kind h.nd hm a c

/-- A reader gives it back. -/
theorem rel_rgive (h : Rel S E) (t : Int) : (tgv E t false).1 = (rru S t).1 ∧ (tgv E t false).2.1 = (rru S t).2.1 ∧ Rel (rru S t).2.2 (tgv E t false).2.2 := by
  unfold tgv rru
  by_cases h1 : t < 1
  · rw [if_pos h1, if_pos h1]; exact ⟨rfl, rfl, h⟩
  rw [if_neg h1, if_neg h1]
  by_cases hr : t ∈ S.r
  · have ht : t ∈ tsk E false true := by rw [h.ft]; exact hr
    have hm := tsk_mem ht
    have hk := (h.idx_mem false true hm).1 ht
    rw [if_pos hr, if_pos ⟨hm, hk.2, hk.1⟩]
    obtain ⟨g1, g2, g3, g4⟩ := h.gone ht
    have R1 : Rel { S with r := dropT S.r t } (E.eraseIdx ((E.map (·.1)).idxOf t)) := ⟨by rw [g1, if_neg (by simp), h.tt], by rw [g1, if_pos ⟨rfl, rfl⟩, h.ft], by rw [g1, if_neg (by simp), h.tf], by rw [g1, if_neg (by simp), h.ff], g2, g3⟩
    obtain ⟨q1, q2⟩ := rel_hand R1
    exact ⟨q1, rfl, q2⟩
  · rw [if_neg hr, if_neg (fun hh => hr (by rw [← h.ft]; exact (h.idx_mem false true hh.1).2 ⟨hh.2.2, hh.2.1⟩))]
    exact ⟨rfl, rfl, h⟩

/-- The writer gives it back. -/
theorem rel_wgive (h : Rel S E) (t : Int) : (tgv E t true).1 = (rwu S t).1 ∧ (tgv E t true).2.1 = (rwu S t).2.1 ∧ Rel (rwu S t).2.2 (tgv E t true).2.2 := by
  unfold tgv rwu
  by_cases h1 : t < 1
  · rw [if_pos h1, if_pos h1]; exact ⟨rfl, rfl, h⟩
  rw [if_neg h1, if_neg h1]
  by_cases hr : S.d = t
  · have htt : tsk E true true = [t] := by rw [h.tt, if_neg (by omega), hr]
    have ht : t ∈ tsk E true true := by rw [htt]; simp
    have hm := tsk_mem ht
    have hk := (h.idx_mem true true hm).1 ht
    rw [if_pos hr, if_pos ⟨hm, hk.2, hk.1⟩]
    obtain ⟨g1, g2, g3, g4⟩ := h.gone ht
    have R1 : Rel { S with d := 0 } (E.eraseIdx ((E.map (·.1)).idxOf t)) := ⟨by rw [g1, if_pos ⟨rfl, rfl⟩, htt, dropT_head]; rfl, by rw [g1, if_neg (by simp), h.ft], by rw [g1, if_neg (by simp), h.tf], by rw [g1, if_neg (by simp), h.ff], g2, g3⟩
    obtain ⟨q1, q2⟩ := rel_hand R1
    exact ⟨q1, rfl, q2⟩
  · rw [if_neg hr, if_neg (fun hh => hr (by
      have := (h.idx_mem true true hh.1).2 ⟨hh.2.2, hh.2.1⟩
      rw [h.tt] at this
      split at this
      · cases this
      · exact (List.mem_singleton.1 this).symm))]
    exact ⟨rfl, rfl, h⟩

/-- Who waits does no more. -/
theorem rel_drop (h : Rel S E) (t : Int) : (tdr E t).1 = (rdp S t).1 ∧ (tdr E t).2.1 = (rdp S t).2.1 ∧ Rel (rdp S t).2.2 (tdr E t).2.2 := by
  unfold tdr rdp
  by_cases hw : t ∈ S.w
  · have ht : t ∈ tsk E true false := by rw [h.tf]; exact hw
    have hm := tsk_mem ht
    have hk := (h.idx_mem true false hm).1 ht
    rw [if_pos hw, if_pos ⟨hm, hk.2⟩]
    obtain ⟨g1, g2, g3, g4⟩ := h.gone ht
    have R1 : Rel { S with w := dropT S.w t } (E.eraseIdx ((E.map (·.1)).idxOf t)) := ⟨by rw [g1, if_neg (by simp), h.tt], by rw [g1, if_neg (by simp), h.ft], by rw [g1, if_pos ⟨rfl, rfl⟩, h.tf], by rw [g1, if_neg (by simp), h.ff], g2, g3⟩
    obtain ⟨q1, q2⟩ := rel_hand R1
    exact ⟨q1, rfl, q2⟩
  rw [if_neg hw]
  by_cases hq : t ∈ S.q
  · have ht : t ∈ tsk E false false := by rw [h.ff]; exact hq
    have hm := tsk_mem ht
    have hk := (h.idx_mem false false hm).1 ht
    rw [if_pos hq, if_pos ⟨hm, hk.2⟩]
    obtain ⟨g1, g2, g3, g4⟩ := h.gone ht
    have R1 : Rel { S with q := dropT S.q t } (E.eraseIdx ((E.map (·.1)).idxOf t)) := ⟨by rw [g1, if_neg (by simp), h.tt], by rw [g1, if_neg (by simp), h.ft], by rw [g1, if_neg (by simp), h.tf], by rw [g1, if_pos ⟨rfl, rfl⟩, h.ff], g2, g3⟩
    obtain ⟨q1, q2⟩ := rel_hand R1
    exact ⟨q1, rfl, q2⟩
  · rw [if_neg hq, if_neg (fun hh => by
      cases hy : (at3 E ((E.map (·.1)).idxOf t)).2.1
      · exact hq (by rw [← h.ff]; exact (h.idx_mem false false hh.1).2 ⟨hy, hh.2⟩)
      · exact hw (by rw [← h.tf]; exact (h.idx_mem true false hh.1).2 ⟨hy, hh.2⟩))]
    exact ⟨rfl, rfl, h⟩
end
end Go.Proofs.Ytegpoocmhamlpaa
