/- The walks of the reference's Once. -/
import Derived.Test.YtacogkmnmeekfaaObl
import Derived.Test.YtacogkmnmeekfaaRfB
namespace Go.Proofs.Ytacogkmnmeekfaa
open Go Go.RowKit

section
variable {w0 w : World} {G : Nat → Prop} {b : Nat} {o : Bool} {l : List Int}

set_option maxHeartbeats 1000000 in
theorem qat_any (t : Int) (h : LNew 51 w0 w G b [.bool o] l) (hn : l.length ≤ 1000) :
    Calls Try.prog 41 #[.pointer (some ⟨b, 0, none⟩), .int .i64 t] w fun e w' => e = .returned (.int .i64 (idx l t)) ∧ w = w' := by
  obtain ⟨⟨_, _, v, h, _⟩, _⟩ := h
  have h1 : w.cell? ⟨b, 0, none⟩ = some v := h.list
  have H := hid h.own.reads
  obtain ⟨a, c, hv⟩ := h.own.form
  have V := hid hv
  rw [hv] at h1
  clear h hv
  go_enter Try.func41, Try.ntmps41
  go_wp2_with fail
  go_loop [5] (fun i => ∃ k : Nat, k ≤ l.length ∧ i = .int .i64 k ∧ (∀ j, j < k → nth l j ≠ t)) (fun i => l.length - (intOf i).toNat)
  case atStart => exact ⟨0, by omega, rfl, fun j h => absurd h (Nat.not_lt_zero j)⟩
  case round =>
    obtain ⟨k, hk, rfl, hno⟩ := hrel
    have N := hid hno
    by_cases hlt : k < l.length
    · obtain ⟨g, off, hav, hcell, hmax⟩ : ∃ g off, a = some ⟨g, off, none⟩ ∧ w.cell? ⟨g, off + k, none⟩ = some (.int .i64 (nth l k)) ∧ l.length ≤ maxLen := by
        obtain ⟨_, _, _, h0⟩ | ⟨g, off, c', h1, _, hm, hc⟩ := H.out
        · rw [h0] at hlt; simp at hlt
        · rw [V.out] at h1; cases h1; exact ⟨g, off, rfl, hc k hlt, hm⟩
      subst hav
      unfold maxLen at hmax
      clear hno
      go_wp2
      · have ht : (nth l k == t) = true := by assumption
        have e : idx l t = k := idx_some hlt (by have := ht; simp at this; exact this) N.out
        have E := hid e
        go_ret
        exact ⟨by rw [E.out]; rfl, rfl⟩
      · have ht : (nth l k == t) = false := by assumption
        go_round
        case rel =>
          refine ⟨k + 1, by omega, by go_num, fun j hj => ?_⟩
          by_cases e : j = k
          · subst e; intro h; simp [h] at ht
          · exact N.out j (by omega)
        case measure => simp [intOf]; omega
    · have e : idx l t = -1 := idx_none (fun i hi => hno i (by omega))
      have E := hid e
      clear hno e
      go_wp2
      go_ret
      exact ⟨by rw [E.out]; rfl, rfl⟩


end
end Go.Proofs.Ytacogkmnmeekfaa
