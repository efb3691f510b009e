/- What an act comes to, of both: law 12's does. -/
import Derived.Test.YtegpoocmhamlpaaRwK
namespace Go.Proofs.Ytegpoocmhamlpaa
open Go Go.RowKit

section
variable {w W W3 : World} {G1 G2 G3 : Nat → Prop} {b r : Nat} {cs cs2 : List Cel} {T T2 : Nat}

theorem mstep1 (h1 : MNew T w W G1 b cs) (h2 : MNew T2 w W G2 r cs2) (hd : ∀ k, G1 k → ¬ G2 k) (J : ∀ k, G3 k → G1 k ∨ W.heap.size ≤ k) (K : Keep G1 W W3) :
    MNew T2 w W3 G2 r cs2 ∧ ∀ k, G3 k → ¬ G2 k :=
  ⟨h2.keep K fun k hk => ⟨h1.2.1 k hk, hd k hk⟩, fun k hk hg => (J k hk).elim (fun h => hd k h hg) (fun h => by have := h2.1.2.1 k hg; omega)⟩

theorem mstep2 (h1 : MNew T w W G1 b cs) (h2 : MNew T2 w W G2 r cs2) (hd : ∀ k, G1 k → ¬ G2 k) (J : ∀ k, G3 k → G2 k ∨ W.heap.size ≤ k) (K : Keep G2 W W3) :
    MNew T w W3 G1 b cs ∧ ∀ k, G1 k → ¬ G3 k :=
  ⟨h1.keep K fun k hk => ⟨h2.2.1 k hk, fun h => hd k h hk⟩, fun k hk hg => (J k hg).elim (fun h => hd k hk h) (fun h => by have := h1.1.2.1 k hk; omega)⟩
end

/-- How many there are in all. -/
def RS.all (S : RS) : Nat := S.r.length + S.w.length + S.q.length

theorem all_rtr (S : RS) (t : Int) : (rtr S t).2.all ≤ S.all + 1 := by
  unfold rtr
  split
  · split
    · simp only [RS.all, List.length_append, List.length_cons, List.length_nil]; omega
    · exact Nat.le_succ _
  · exact Nat.le_succ _
theorem all_rtw (S : RS) (t : Int) : (rtw S t).2.all ≤ S.all + 1 := by
  unfold rtw
  split
  · split <;> exact Nat.le_succ _
  · exact Nat.le_succ _
theorem all_rlr (S : RS) (t : Int) : (rlr S t).2.all ≤ S.all + 1 := by
  unfold rlr
  split
  · simp only [RS.all, List.length_append, List.length_cons, List.length_nil]; omega
  · exact all_rtr S t
theorem all_rlw (S : RS) (t : Int) : (rlw S t).2.all ≤ S.all + 1 := by
  unfold rlw
  split
  · simp only [RS.all, List.length_append, List.length_cons, List.length_nil]; omega
  · exact all_rtw S t
theorem all_rhd (S : RS) : (rhd S).2.all ≤ S.all := by
  unfold rhd
  split
  · exact Nat.le_refl _
  · split
    · rename_i h; simp only [RS.all, List.length_append, List.length_nil, h]; omega
    · rename_i h
      split
      · simp only [RS.all, h, List.length_cons]; omega
      · exact Nat.le_refl _
theorem all_rru (S : RS) (t : Int) : (rru S t).2.2.all ≤ S.all + 1 := by
  unfold rru
  split
  · exact Nat.le_succ _
  · split
    · refine Nat.le_trans (all_rhd _) ?_
      have := dropT_len S.r t
      simp only [RS.all]; omega
    · exact Nat.le_succ _
theorem all_rwu (S : RS) (t : Int) : (rwu S t).2.2.all ≤ S.all + 1 := by
  unfold rwu
  split
  · exact Nat.le_succ _
  · split
    · exact Nat.le_trans (all_rhd _) (Nat.le_succ _)
    · exact Nat.le_succ _
theorem all_rdp (S : RS) (t : Int) : (rdp S t).2.2.all ≤ S.all + 1 := by
  unfold rdp
  split
  · refine Nat.le_trans (all_rhd _) ?_
    have := dropT_len S.w t
    simp only [RS.all]; omega
  · split
    · refine Nat.le_trans (all_rhd _) ?_
      have := dropT_len S.q t
      simp only [RS.all]; omega
    · exact Nat.le_succ _

/-- What is kept beside it. -/
structure Rin (S : RS) : Prop where
  a : S.d ≠ 0 → S.r = []
  b : S.d = 0 → S.r = [] → S.w = [] ∧ S.q = []
  c : S.d = 0 → S.w = [] → S.q = []

theorem rin_rtr {S : RS} (h : Rin S) (t : Int) : Rin (rtr S t).2 := by
  unfold rtr
  split
  · split
    · rename_i hb
      exact ⟨fun e => absurd hb.1 e, fun _ e => by simp at e, h.c⟩
    · exact h
  · exact h
theorem rin_rlr {S : RS} (h : Rin S) (t : Int) : Rin (rlr S t).2 := by
  unfold rlr
  split
  · rename_i h12
    have hb : ¬ (S.d = 0 ∧ S.w = []) := by
      intro hb
      unfold rtr at h12
      split at h12
      · simp at h12
      · unfold rwr at h12
        split at h12
        · simp at h12
        · split at h12
          · simp at h12
          · simp at h12
    refine ⟨h.a, fun h1 h2 => ?_, fun h1 h2 => absurd ⟨h1, h2⟩ hb⟩
    exact absurd ⟨h1, (h.b h1 h2).1⟩ hb
  · exact rin_rtr h t

theorem tsk_count : ∀ (E : List On), E.length = (tsk E true true).length + (tsk E false true).length + (tsk E true false).length + (tsk E false false).length
  | [] => rfl
  | (t, y, z) :: E => by
    have ih := tsk_count E
    have key : ∀ a c, (tsk ((t, y, z) :: E) a c).length = (tsk E a c).length + (if y = a ∧ z = c then 1 else 0) := fun a c => by
      unfold tsk
      by_cases h : y = a ∧ z = c
      · rw [if_pos h, List.filter_cons_of_pos (by simp [h.1, h.2])]; simp
      · rw [if_neg h, List.filter_cons_of_neg (by simpa using h)]; rfl
    rw [List.length_cons, key, key, key, key]
    cases y <;> cases z <;> simp <;> omega

theorem Rel.len {S : RS} {E : List On} (h : Rel S E) : E.length ≤ S.all + 1 := by
  rw [tsk_count, h.tt, h.ft, h.tf, h.ff]
  simp only [RS.all]
  split
  · simp only [List.length_nil]; omega
  · simp only [List.length_cons, List.length_nil]; omega
end Go.Proofs.Ytegpoocmhamlpaa
