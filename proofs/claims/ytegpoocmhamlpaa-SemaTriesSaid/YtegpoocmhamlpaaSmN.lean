/- The walk of SemaPlays. -/
import Derived.Test.YtegpoocmhamlpaaSmM
import Derived.Test.YtegpoocmhamlpaaArg
namespace Go.Proofs.Ytegpoocmhamlpaa
open Go Go.RowKit

theorem arg_act4 {w : World} {v : Value} {n : Nat} {f : Nat → Nat → Int} (h : ArgRows w v [.u8, .i64, .i64] n f) (hn : 0 < n) : ∃ g off c, v = .slice (some ⟨g, off, none⟩) n c ∧ g < w.heap.size ∧ n ≤ maxLen ∧
    ∀ k, k < n → (w.cell? ⟨g, off + k * 3, none⟩ = some (.int .u8 (f k 0)) ∧ w.cell? ⟨g, off + k * 3 + 1, none⟩ = some (.int .i64 (f k 1)) ∧ w.cell? ⟨g, off + k * 3 + 2, none⟩ = some (.int .i64 (f k 2))) ∧ (Lit.int .u8 (f k 0)).wf = true := by
  obtain ⟨hm, ⟨h0, _⟩ | ⟨g, off, c, hv, hg, hc⟩⟩ := h
  · omega
  · refine ⟨g, off, c, hv, hg, hm, fun k hk => ⟨⟨?_, ?_, ?_⟩, ?_⟩⟩
    · simpa using (hc k hk 0 .u8 rfl).1
    · simpa [Nat.add_assoc] using (hc k hk 1 .i64 rfl).1
    · simpa [Nat.add_assoc] using (hc k hk 2 .i64 rfl).1
    · exact (hc k hk 0 .u8 rfl).2

set_option maxHeartbeats 1000000 in
theorem snew_any (n : Int) (w : World) :
    Calls Try.prog 20 #[.int .i64 n] w fun e w' => e = .returned (.pointer (some ⟨w.heap.size, 0, none⟩)) ∧ MNew 46 w w' (fun k => k = w.heap.size) w.heap.size (rscs ⟨szOf n, szOf n, []⟩) ∧ Keep (fun _ => False) w w' := by
  have fin : ∀ k : Int, MobAt 46 (w.alloc (.cells #[.int .i64 k, .int .i64 0, .slice none 0 0, .slice none 0 0] 46)) w.heap.size (rscs ⟨k, k, []⟩) [.int .i64 k, .int .i64 0, .slice none 0 0, .slice none 0 0] := by
    intro k
    have e : rscs ⟨k, k, []⟩ = [.sc (.int .i64 k), .sc (.int .i64 0), .ci [], .ci []] := by
      show [_, Cel.sc (.int .i64 (k - k)), _, _] = _
      rw [Int.sub_self]; rfl
    rw [e]
    refine ⟨heap_alloc_new w _, rfl, fun i c v hc hv => ?_, fun i j vi vj k hi hj hne hk => ?_⟩
    · match i, hc, hv with
      | 0, hc, hv => cases hc; cases hv; exact ⟨rfl, rfl⟩
      | 1, hc, hv => cases hc; cases hv; exact ⟨rfl, rfl⟩
      | 2, hc, hv => cases hc; cases hv; exact ⟨World.ownsRow_nil _ _ _ _, by simp [Value.ownBlock]⟩
      | 3, hc, hv => cases hc; cases hv; exact ⟨World.ownsRow_nil _ _ _ _, by simp [Value.ownBlock]⟩
    · match i, hi with
      | 0, hi => cases hi; cases hk
      | 1, hi => cases hi; cases hk
      | 2, hi => cases hi; cases hk
      | 3, hi => cases hi; cases hk
  have F := hid fin
  clear fin
  have fin2 : ∀ k : Int, MNew 46 w (w.alloc (.cells #[.int .i64 k, .int .i64 0, .slice none 0 0, .slice none 0 0] 46)) (fun k => k = w.heap.size) w.heap.size (rscs ⟨k, k, []⟩) ∧ Keep (fun _ => False) w (w.alloc (.cells #[.int .i64 k, .int .i64 0, .slice none 0 0, .slice none 0 0] 46)) := fun k => by
    refine ⟨⟨⟨rfl, fun k hk => by subst hk; exact (F.out _).lt, _, F.out k, fun v hv k hk => ?_⟩, fun k hk => Nat.le_of_eq hk.symm, (Keep.refl _ _).alloc _⟩, (Keep.refl _ _).alloc _⟩
    simp only [List.mem_cons, List.not_mem_nil, or_false] at hv
    rcases hv with rfl | rfl | rfl | rfl <;> cases hk
  have F2 := hid fin2
  clear fin2
  by_cases h1 : n < 1
  · have e : Hid (szOf n = 1) := hid (if_pos h1)
    rw [e.out]
    have h2 : n < 16 := by omega
    go_enter Try.func20, Try.ntmps20
    go_wp2
    go_ret
    exact ⟨rfl, F2.out 1⟩
  by_cases h2 : n > 16
  · have e : Hid (szOf n = 16) := hid (by unfold szOf; rw [if_neg h1, if_pos h2])
    rw [e.out]
    go_enter Try.func20, Try.ntmps20
    go_wp2
    go_ret
    exact ⟨rfl, F2.out 16⟩
  have e : Hid (szOf n = n) := hid (by unfold szOf; rw [if_neg h1, if_neg h2])
  rw [e.out]
  rcases (by omega : n < 16 ∧ 1 < n ∨ n = 16 ∨ n = 1) with ⟨h3, h4⟩ | rfl | rfl
  all_goals
    clear h1 h2
    go_enter Try.func20, Try.ntmps20
    go_wp2
    go_ret
    exact ⟨rfl, F2.out _⟩

theorem szOf_in (n : Int) : 1 ≤ szOf n ∧ szOf n ≤ 16 := by
  unfold szOf
  split
  · omega
  split <;> omega
end Go.Proofs.Ytegpoocmhamlpaa
