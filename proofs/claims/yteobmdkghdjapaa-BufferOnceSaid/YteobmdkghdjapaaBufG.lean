/- The fixed fact of layer 10's statements: it is so. -/
import Derived.Test.YteobmdkghdjapaaBufF
namespace Go.Proofs.Yteobmdkghdjapaa
open Go.RowKit

theorem put_yes {b : Nat} {l : List (Int × Int)} {m : Nat} {w : World} (t e : Int) (h : IsBuf w b l m) (hq : l.length < m) (hno : ∀ i, i < l.length → (at2 l i).1 ≠ t) :
    Calls Try.prog 14 #[.pointer (some ⟨b, 0, none⟩), .agg #[.int .i64 t, .int .i64 e]] w fun en w' => en = .returned (.bool true) ∧ IsBuf w' b (l ++ [(t, e)]) m ∧ Keep (fun k => k = b) w w' := by
  refine (put_room t e h hq).mono ?_
  rintro en w' ⟨v, rfl, hK, ⟨rfl, hc | ⟨i, hi, he⟩, _⟩ | ⟨rfl, _, _, hI⟩⟩
  · omega
  · exact absurd he (hno i hi)
  · exact ⟨rfl, hI, hK⟩

theorem put_twice {b : Nat} {l : List (Int × Int)} {m : Nat} {w : World} (t e : Int) (h : IsBuf w b l m) (hd : ∃ i, i < l.length ∧ (at2 l i).1 = t) :
    Calls Try.prog 14 #[.pointer (some ⟨b, 0, none⟩), .agg #[.int .i64 t, .int .i64 e]] w fun en w' => en = .returned (.bool false) ∧ IsBuf w' b l m ∧ Keep (fun k => k = b) w w' := by
  by_cases hq : l.length = m
  · refine (put_full t e h hq).mono ?_
    rintro en w' ⟨rfl, hK⟩
    exact ⟨rfl, h.keep hK (fun h => h), hK.mono fun _ _ h => h.elim⟩
  · refine (put_room t e h (by have := h.le; omega)).mono ?_
    rintro en w' ⟨v, rfl, hK, ⟨rfl, _, hI⟩ | ⟨rfl, _, hn, _⟩⟩
    · exact ⟨rfl, hI, hK⟩
    · obtain ⟨i, hi, he⟩ := hd
      exact absurd he (hn i hi)

/-- A new row of wake-ups. -/
theorem made_wakes (w : World) (l : List (Int × Int)) (h : l.length ≤ maxLen) : Wakes (w.alloc (.cells (flat2 l).toArray 31)) (.slice (some ⟨w.heap.size, 0, none⟩) l.length l.length) l :=
  ⟨flat2_length l, .inr ⟨w.heap.size, l.length, _, rfl, Nat.zero_le _, heap_alloc_new w _, Nat.le_refl _, h, by simp [flat2_length], by
    rw [List.take_of_length_le (by simp [flat2_length])]⟩⟩

set_option maxHeartbeats 1000000 in
theorem awake_any (w : World) : Calls Try.prog 20 #[] w fun en w' => en = .returned (.bool true) ∧ Keep (fun _ => False) w w' := by
  have e3 : mostOf 3 = 3 := rfl
  go_enter Try.func20, Try.ntmps20
  go_wp2_with fail
  refine (new_any 3 w).mono ?_
  rintro e w1 ⟨rfl, hI, hK⟩
  rw [e3] at hI
  have K1 := hid hK
  clear hK
  go_wp2_with fail
  refine (put_yes 5 0 hI (by decide) (fun i h => absurd h (Nat.not_lt_zero i))).mono ?_
  rintro e w2 ⟨rfl, hI2, hK2⟩
  have K2 := hid (K1.out.then hK2 (fun i (h : i = _) => .inr (Nat.le_of_eq h.symm)))
  clear hI hK2 K1
  go_wp2_with fail
  refine (put_yes 2 15 hI2 (by decide) (fun i h => ?_)).mono ?_
  · have : i = 0 := by simpa using h
    subst this; decide
  rintro e w3 ⟨rfl, hI3, hK3⟩
  have K3 := hid (K2.out.then hK3 (fun i (h : i = _) => .inr (Nat.le_of_eq h.symm)))
  clear hI2 hK3 K2
  go_wp2_with fail
  refine (put_twice 5 16 hI3 ⟨0, by decide, rfl⟩).mono ?_
  rintro e w4 ⟨rfl, hI4, hK4⟩
  have K4 := hid (K3.out.then hK4 (fun i (h : i = _) => .inr (Nat.le_of_eq h.symm)))
  clear hI3 hK4 K3
  go_wp2_with fail
  refine (deliver_any hI4).mono ?_
  rintro e w5 ⟨v5, rfl, hW5, hF5, hI5, hK5⟩
  have K5 := hid (K4.out.then hK5 (fun i (h : i = _) => .inr (Nat.le_of_eq h.symm)))
  have hb4 := hI4.lt
  have hne5 : ∀ k, v5.ownBlock = some k → ¬ k = w.heap.size := fun k h e => by have := hF5 k h; omega
  have hL5 : w5.ownsRow 0 31 2 v5 3 (flat2 [(5, 0), (2, 15), (0, 0)]) := hW5
  clear hI4 hK5 K4 hW5 hF5
  go_wp2_with fail
  refine (deliver_any hI5).mono ?_
  rintro e w6 ⟨v6, rfl, hW6, hF6, hI6, hK6⟩
  have K6 := hid (K5.out.then hK6 (fun i (h : i = _) => .inr (Nat.le_of_eq h.symm)))
  have hL5' := owns_keep hL5 hK6 hne5
  have hL6 : w6.ownsRow 0 31 2 v6 3 (flat2 [(0, 0), (0, 0), (0, 0)]) := hW6
  clear hI5 hK6 K5 hW6 hF6 hL5 hne5 hb4
  obtain ⟨a5, c5, rfl⟩ := owns_form hL5'
  obtain ⟨a6, c6, rfl⟩ := owns_form hL6
  have hs6 := hI6.size
  have hlt6 := hI6.lt
  have L5 := hid hL5'
  have L6 := hid hL6
  have I6 := hid hI6
  clear hL5' hL6 hI6
  go_wp2_with fail
  refine (alike_any (l := [(5, 0), (2, 15), (0, 0)]) (m := [(5, 0), (2, 15), (0, 0)]) (Wakes.reads (owns_keep L5.out (F := fun _ => False) ((Keep.refl _ _).alloc _) (fun _ _ h => h))) (made_wakes w6 [(5, 0), (2, 15), (0, 0)] (by decide)).reads).mono ?_
  rintro e w7 ⟨rfl, hK7⟩
  have k7 : Keep (fun _ => False) w6 w7 := ((Keep.refl _ _).alloc _).trans hK7
  have K7 := hid (K6.out.trans k7)
  have L7 := hid (owns_keep L6.out k7 (fun _ _ h => h))
  have I7 := hid (I6.out.keep k7 (fun h => h))
  have ea : alikeB [(5, 0), (2, 15), (0, 0)] [(5, 0), (2, 15), (0, 0)] = true := rfl
  rw [ea]
  clear hK7 k7 hs6 hlt6 ea
  go_wp2_with fail
  refine (alike_any (l := [(0, 0), (0, 0), (0, 0)]) (m := [(0, 0), (0, 0), (0, 0)]) (Wakes.reads (owns_keep L7.out (F := fun _ => False) ((Keep.refl _ _).alloc _) (fun _ _ h => h))) (made_wakes w7 [(0, 0), (0, 0), (0, 0)] (by decide)).reads).mono ?_
  rintro e w8 ⟨rfl, hK8⟩
  have k8 : Keep (fun _ => False) w7 w8 := ((Keep.refl _ _).alloc _).trans hK8
  have K8 := hid (K7.out.trans k8)
  have I8 := hid (I7.out.keep k8 (fun h => h))
  have ea : alikeB [(0, 0), (0, 0), (0, 0)] [(0, 0), (0, 0), (0, 0)] = true := rfl
  rw [ea]
  clear hK8 k8 ea
  go_wp2_with fail
  refine (len_any I8.out).mono ?_
  rintro e w9 ⟨rfl, rfl⟩
  go_wp2
  go_ret
  exact ⟨rfl, K8.out⟩

end Go.Proofs.Yteobmdkghdjapaa
