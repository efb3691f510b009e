/- The walk of RwAlone. -/
import Derived.Test.YtegpoocmhamlpaaRwN
namespace Go.Proofs.Ytegpoocmhamlpaa
open Go Go.RowKit

theorem rin_rtw {S : RS} (h : Rin S) (t : Int) (ht : rwr S t = 0 → 1 ≤ t) : Rin (rtw S t).2 := by
  unfold rtw
  split
  · rename_i hw
    split
    · rename_i hb
      have := h.b hb.1 hb.2
      have h1 := ht hw
      exact ⟨fun _ => hb.2, fun e => by (have e : t = 0 := e); omega, fun e => by (have e : t = 0 := e); omega⟩
    · exact h
  · exact h

theorem rwr_pos {S : RS} {t : Int} (h : rwr S t = 0) : 1 ≤ t := by
  unfold rwr at h
  split at h
  · cases h
  · omega

theorem rtw_12 {S : RS} {t : Int} (h : (rtw S t).1 = 12) : ¬ (S.d = 0 ∧ S.r = []) := by
  intro hb
  unfold rtw at h
  split at h
  · simp at h
  · unfold rwr at h
    split at h
    · simp at h
    · split at h
      · simp at h
      · simp at h

theorem rin_rlw {S : RS} (h : Rin S) (t : Int) : Rin (rlw S t).2 := by
  unfold rlw
  split
  · rename_i h12
    have hb := rtw_12 h12
    exact ⟨h.a, fun h1 h2 => absurd ⟨h1, h2⟩ hb, fun _ h2 => by simp at h2⟩
  · exact rin_rtw h t rwr_pos

/-- What is handed on is as it should be, if it was so but for one who went. -/
theorem rin_rhd {S : RS} (ha : S.d ≠ 0 → S.r = []) (hp : ∀ x ∈ S.w, 1 ≤ x) : Rin (rhd S).2 := by
  unfold rhd
  split
  · rename_i hd
    exact ⟨ha, fun h => absurd h hd, fun h => absurd h hd⟩
  · rename_i hd
    split
    · rename_i hw
      refine ⟨fun h => absurd h hd, fun _ h2 => ⟨hw, rfl⟩, fun _ _ => rfl⟩
    · rename_i x l hw
      have h1 := hp x (by rw [hw]; simp)
      split
      · rename_i hr
        exact ⟨fun _ => hr, fun e => by (have e : x = 0 := e); omega, fun e => by (have e : x = 0 := e); omega⟩
      · rename_i hr
        exact ⟨fun h => absurd h hd, fun _ h2 => absurd h2 hr, fun _ h2 => by rw [hw] at h2; cases h2⟩

theorem rin_all {S S' : RS} {E : List On} (h : Rin S) (hR : Rel S E) (t : Int)
    (hS : S' = (rdp S t).2.2 ∨ S' = (rtr S t).2 ∨ S' = (rlr S t).2 ∨ S' = (rtw S t).2 ∨ S' = (rlw S t).2 ∨ S' = (rru S t).2.2 ∨ S' = (rwu S t).2.2) : Rin S' := by
  have hp : ∀ x ∈ S.w, 1 ≤ x := fun x hx => hR.pos x (tsk_mem (a := true) (c := false) (by rw [hR.tf]; exact hx))
  have hdrop : ∀ (l : List Int) (u x : Int), x ∈ dropT l u → x ∈ l := fun l u x hx => by
    unfold dropT at hx
    split at hx
    · exact List.mem_of_mem_eraseIdx hx
    · exact hx
  rcases hS with rfl | rfl | rfl | rfl | rfl | rfl | rfl
  · unfold rdp
    split
    · exact rin_rhd h.a fun x hx => hp x (hdrop _ _ _ hx)
    · split
      · exact rin_rhd h.a hp
      · exact h
  · exact rin_rtr h t
  · exact rin_rlr h t
  · exact rin_rtw h t rwr_pos
  · exact rin_rlw h t
  · unfold rru
    split
    · exact h
    · split
      · rename_i hm
        refine rin_rhd (fun hd => ?_) hp
        rw [h.a hd] at hm; cases hm
      · exact h
  · unfold rwu
    split
    · exact h
    · split
      · exact rin_rhd (fun hd => absurd rfl hd) hp
      · exact h
end Go.Proofs.Ytegpoocmhamlpaa
