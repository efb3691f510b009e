/- The walks of package buffer's inner functions: what slices.IndexFunc and ContainsFunc answer over the buffer's array. -/
import Derived.Test.YteobmdkghdjapaaRows
import Derived.Test.YteobmdkghdjapaaTxt
import Derived.Test.YteobmdkghdjapaaFrm
import Derived.WalkKit
import Derived.WalkSpells
import Derived.WalkLawsBesides

namespace Go.Proofs.Yteobmdkghdjapaa
open Go.RowKit

set_option maxHeartbeats 400000 in
theorem put1_any (c : Nat) (x e t : Int) (w : World) (hc : w.cell? ⟨c, 0, none⟩ = some (.int .i64 t)) :
    Calls Try.prog 32 #[.agg #[.int .i64 x, .int .i64 e], .pointer (some ⟨c, 0, none⟩)] w fun en w' => en = .returned (.bool (x == t)) ∧ Keep (fun _ => False) w w' := by
  have hb := World.block_lt_of_cell? _ _ hc
  have n1 : ∀ o, (w.alloc o).cell? ⟨c, 0, none⟩ = some (.int .i64 t) := fun o => by rw [World.cell?_alloc_lt _ _ _ (by exact hb)]; exact hc
  go_enter Try.func32, Try.ntmps32
  go_wp2
  go_ret
  exact ⟨rfl, (Keep.refl _ _).alloc _⟩

/-- What a search over f 0 .. f (n - 1) answers. -/
def Found (f : Nat → Int) (t : Int) (n : Nat) (r : Int) : Prop := (r = -1 ∧ ∀ i, i < n → f i ≠ t) ∨ (0 ≤ r ∧ ∃ i, i < n ∧ f i = t)

set_option maxHeartbeats 400000 in
theorem indexFunc_any (b c n : Nat) (f g : Nat → Int) (t : Int) (w : World) (hn : n ≤ 8) (hb : b < w.heap.size) (hs : ∀ i, i < n → w.cell? ⟨b, i * 2, none⟩ = some (.int .i64 (f i)) ∧ w.cell? ⟨b, i * 2 + 1, none⟩ = some (.int .i64 (g i)))
    (hc : w.cell? ⟨c, 0, none⟩ = some (.int .i64 t)) :
    Calls Try.prog 36 #[.slice (some ⟨b, 0, none⟩) n 8, .func (.func 32) #[] #[.pointer (some ⟨c, 0, none⟩)]] w fun en w' => (∃ r : Int, en = .returned (.int .i64 r) ∧ Found f t n r) ∧ Keep (fun _ => False) w w' := by
  have hcb := World.block_lt_of_cell? _ _ hc
  go_enter Try.func36, Try.ntmps36
  go_wp2
  go_loopw [5, 8] (fun _ i wr => ∃ k : Nat, k ≤ n ∧ i = .int .i64 k ∧ (∀ j, j < k → f j ≠ t) ∧ Keep (fun _ => False) w wr) (fun _ i _ => n - (intOf i).toNat)
  case atStart => exact ⟨0, by omega, rfl, fun j h => absurd h (Nat.not_lt_zero j), Keep.refl _ _⟩
  case round =>
    obtain ⟨k, hk, rfl, hno, hK⟩ := hrel
    by_cases hlt : k < n
    · have hk0 := (hs k hlt).1
      have hk1 := (hs k hlt).2
      rw [← hK.cell (p := ⟨b, k * 2, none⟩) hb (fun h => h)] at hk0
      rw [← hK.cell (p := ⟨b, k * 2 + 1, none⟩) hb (fun h => h)] at hk1
      have hcr := hc
      rw [← hK.cell (p := ⟨c, 0, none⟩) hcb (fun h => h)] at hcr
      have HK := hid hK
      have HN := hid hno
      clear hs hc hK hno
      go_wp2_with (go_at_call 32; refine (put1_any c (f k) (g k) t wr hcr).mono ?_; rintro e w1 ⟨rfl, hK1⟩)
      · have ht : (f k == t) = true := by assumption
        go_ret
        exact ⟨⟨_, rfl, .inr ⟨by omega, k, hlt, by simpa using ht⟩⟩, HK.out.trans hK1⟩
      · have ht : (f k == t) = false := by assumption
        go_roundw
        case rel =>
          refine ⟨k + 1, by omega, by go_num, fun j hj => ?_, HK.out.trans hK1⟩
          by_cases e : j = k
          · subst e; simpa using ht
          · exact HN.out j (by omega)
        case measure => simp [intOf]; omega
    · have HK := hid hK
      have HN := hid hno
      clear hs hc hK hno
      go_wp2
      go_ret
      exact ⟨⟨_, rfl, .inl ⟨rfl, fun i hi => HN.out i (by omega)⟩⟩, HK.out⟩

set_option maxHeartbeats 400000 in
theorem containsFunc_any (b c n : Nat) (f g : Nat → Int) (t : Int) (w : World) (hn : n ≤ 8) (hb : b < w.heap.size) (hs : ∀ i, i < n → w.cell? ⟨b, i * 2, none⟩ = some (.int .i64 (f i)) ∧ w.cell? ⟨b, i * 2 + 1, none⟩ = some (.int .i64 (g i)))
    (hc : w.cell? ⟨c, 0, none⟩ = some (.int .i64 t)) :
    Calls Try.prog 31 #[.slice (some ⟨b, 0, none⟩) n 8, .func (.func 32) #[] #[.pointer (some ⟨c, 0, none⟩)]] w fun en w' => (∃ v : Bool, en = .returned (.bool v) ∧ (v = true ↔ ∃ i, i < n ∧ f i = t)) ∧ Keep (fun _ => False) w w' := by
  go_enter Try.func31, Try.ntmps31
  go_wp2_with fail
  refine (indexFunc_any b c n f g t w hn hb hs hc).mono ?_
  rintro e w1 ⟨⟨r, rfl, hr⟩, hK⟩
  have HR := hid hr
  clear hr hs hc
  go_wp2
  go_ret
  refine ⟨⟨_, rfl, ?_⟩, hK⟩
  rcases HR.out with ⟨rfl, h⟩ | ⟨h0, h⟩
  · simp; exact h
  · simp [h0]; exact h

end Go.Proofs.Yteobmdkghdjapaa
