/- The walk of the reference's Deliver. -/
import Derived.Test.YteobmdkghdjapaaBufE
namespace Go.Proofs.Yteobmdkghdjapaa
open Go.RowKit

def lenV : Value → Nat | .slice _ n _ => n | _ => 0

theorem zeros_succ (l : List (Int × Int)) (k : Nat) (h : l.length ≤ k) : flat2 (l ++ zeros2 (k - l.length)) ++ [.int .i64 0, .int .i64 0] = flat2 (l ++ zeros2 (k + 1 - l.length)) := by
  have e : k + 1 - l.length = (k - l.length) + 1 := by omega
  rw [e, zeros2, zeros2, List.replicate_succ', ← List.append_assoc, flat2_append (l ++ _) [(0, 0)]]
  rfl

set_option maxHeartbeats 1000000 in
theorem rdeliver_any {b : Nat} {v : Value} {l : List (Int × Int)} {m : Nat} {w : World} (h : IsRef w b v l m) (hle : l.length ≤ m) (hm : m ≤ 8) :
    Calls Try.prog 19 #[.pointer (some ⟨b, 0, none⟩)] w fun en w' => ∃ v', en = .returned v' ∧ Wakes w' v' (l ++ zeros2 (m - l.length)) ∧ (∀ k, v'.ownBlock = some k → v.ownBlock = some k ∨ w.heap.size ≤ k) ∧ IsRef w' b (.slice none 0 0) [] m ∧ Keep (fun k => k = b ∨ v.ownBlock = some k) w w' := by
  have hb : b < w.heap.size := h.lt
  have h1 := h.list
  have h2 := h.most
  have hf0 := h.fro 0
  have hm8 : (m : Int) ≤ 8 := by omega
  have hl8 : (l.length : Int) ≤ 8 := by omega
  obtain ⟨a0, c0, hv⟩ := owns_form h.own
  have H := hid h
  have HV := hid hv
  rw [hv] at h1
  have h3 : (w.setCell ⟨b, 0, none⟩ (.slice none 0 0)).cell? ⟨b, 1, none⟩ = some (.int .i64 m) := by
    rw [World.cell?_setCell_other _ _ _ _ (by simp)]; exact h2
  obtain ⟨i0, hi, hz0, hz1, hz2⟩ := info_parts Try.info31
  have hi := hid hi
  have hz0 := hid hz0
  have hz1 := hid hz1
  have hz2 := hid hz2
  have HL := hid hle
  clear h hv hle
  go_enter Try.func19, Try.ntmps19
  go_wp2
  go_outline
  go_loopw [3] (fun o wr => ∃ (k : Nat) (v' : Value), o = v' ∧ l.length ≤ k ∧ k ≤ m ∧ wr.ownsRow 0 31 2 v' k (flat2 (l ++ zeros2 (k - l.length))) ∧ (∀ j, v'.ownBlock = some j → v.ownBlock = some j ∨ w.heap.size ≤ j) ∧
      Keep (fun j => v.ownBlock = some j) (w.setCell ⟨b, 0, none⟩ (.slice none 0 0)) wr) (fun o _ => m - lenV o)
  case atStart =>
    refine ⟨l.length, v, ?_, Nat.le_refl _, HL.out, ?_, fun j h => .inl h, Keep.refl _ _⟩
    · rw [HV.out]
    · rw [Nat.sub_self]
      show World.ownsRow _ _ _ _ _ _ (flat2 (l ++ []))
      rw [List.append_nil]
      refine owns_block H.out.own fun k hk => Below.heap_setCell _ _ _ _ fun e => ?_
      subst e
      exact H.out.ne hk
  case round =>
    obtain ⟨k, v', rfl, hk1, hk2, ho, hf, hK⟩ := hrel
    obtain ⟨a3, c3, rfl⟩ := owns_form ho
    have hbs : ¬ (v.ownBlock = some b) := H.out.ne
    have r1 : wr.cell? ⟨b, 1, none⟩ = some (.int .i64 m) := (hK.cell (p := ⟨b, 1, none⟩) (by simpa [World.setCell] using hb) hbs).trans h3
    have HK := hid hK
    have HO := hid ho
    have HF := hid hf
    clear hK hf ho h1 h2 h3 hf0
    by_cases hlt : k < m
    · have hlt' : (k : Int) < (m : Int) := by omega
      go_wp2_with (at_builtin; refine wpList_plain rfl (fun K hK => wp_append_src _ (.tmp 18) (.tmp 20) 22 rfl 0 31 i0 (.agg #[.int .i64 0, .int .i64 0]) 2 16 Try.underlying22 hi.out hz0.out hz1.out hz2.out rfl (by decide) _ k _ rfl (HO.out.alloc _) _ 1 _ rfl (one_src wr 0 0) (by unfold maxLen; omega) (by omega) (Nat.zero_le _) ?_))
      intro v1 w1 o1 g1 f1
      refine hK _ _ ?_
      clear hK K
      rw [zeros_succ l k hk1] at o1
      obtain ⟨a4, c4, rfl⟩ := owns_form o1
      have O1 := hid o1
      have F1 := hid f1
      have G1 := hid g1
      clear o1 f1 g1
      go_wp2
      go_roundw
      case rel =>
        refine ⟨k + 1, _, rfl, by omega, by omega, O1.out, fun j hj => ?_, ?_⟩
        · rcases F1.out j hj with h | h
          · exact HF.out j h
          · have := HK.out.size
            simp [World.setCell] at this h
            exact .inr (by omega)
        · refine (HK.out.alloc _).grown G1.out fun j hj => ?_
          rcases HF.out j hj with h | h
          · exact .inl h
          · exact .inr (by simpa [World.setCell] using h)
      case measure => simp [lenV]; omega
    · have e : k = m := by omega
      subst e
      have hf0 := H.out.fro 0
      go_wp2
      go_ret
      refine ⟨_, rfl, ?_, HF.out, ?_, ?_⟩
      · have := HO.out
        unfold Wakes
        have el : (l ++ zeros2 (k - l.length)).length = k := by simp [zeros2]; omega
        rw [el]
        exact this
      · have hK := HK.out
        have hbl := hK.block b (by simpa [World.setCell] using hb) hbs
        obtain ⟨c, hc⟩ := H.out.row
        refine ⟨⟨c.setIfInBounds 0 (.slice none 0 0), by rw [hbl]; simp [World.setCell, Array.getElem?_modify, hc]⟩, ?_, r1, World.ownsRow_nil _ _ _ _, by simp [Value.ownBlock]⟩
        rw [hK.cell (p := ⟨b, 0, none⟩) (by simpa [World.setCell] using hb) hbs]
        exact World.cell?_setCell_same _ _ _ H.out.list
      · exact (((Keep.refl (fun k => k = b) w).setOwn _).mono (fun _ _ h => .inl h)).then (HK.out) (fun j hj => .inl (.inr hj))

end Go.Proofs.Yteobmdkghdjapaa
