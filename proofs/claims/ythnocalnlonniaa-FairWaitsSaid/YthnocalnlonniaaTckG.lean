/- Layer 5's fixed fact; TickAt, TickNext, TickAdds. -/
import Derived.Test.YthnocalnlonniaaTckF
import Derived.Test.YthnocalnlonniaaArs
namespace Go.Proofs.Ythnocalnlonniaa
open Go Go.RowKit

theorem keep_below {w w' : World} (h : Below w.heap.size w w') : Keep (fun _ => False) w w' := Keep.of_below h _

set_option maxRecDepth 10000 in
set_option maxHeartbeats 1000000 in
theorem tawake_any (w : World) : Calls Try.prog 14 #[] w fun en w' => en = .returned (.bool true) ∧ Keep (fun _ => False) w w' := by
  have K0 : Keep (fun _ => False) w (w.alloc (.cells #[.int .i64 0, .int .i64 2, .int .i64 1, .int .i64 1, .int .i64 0, .int .i64 1] 35)) := (Keep.refl _ _).alloc _
  have S0 : SlotsR (w.alloc (.cells #[.int .i64 0, .int .i64 2, .int .i64 1, .int .i64 1, .int .i64 0, .int .i64 1] 35)) (.slice (some ⟨w.heap.size, 0, none⟩) 3 3) [(0, 2), (1, 1), (0, 1)] := by
    refine .inr ⟨w.heap.size, 0, 3, rfl, by simp, by decide, by decide, fun i p hp => ?_⟩
    rw [World.cell?_alloc_new, World.cell?_alloc_new]
    match i, hp with
    | 0, hp => cases hp; exact ⟨rfl, rfl⟩
    | 1, hp => cases hp; exact ⟨rfl, rfl⟩
    | 2, hp => cases hp; exact ⟨rfl, rfl⟩
    | n + 3, hp => simp at hp
  have S0 := hid S0
  have K0 := hid K0
  go_enter Try.func14, Try.ntmps14
  go_wp2_with fail
  refine (tat_any 5 S0.out).mono ?_
  rintro e w1 ⟨rfl, B1⟩
  have k1 := keep_below B1
  have S1 := hid (S0.out.keep k1 (fun _ _ h => h))
  have K1 := hid (K0.out.trans k1)
  rw [show atOf [(0, 2), (1, 1), (0, 1)] 5 = (0, 4) from by decide +kernel]
  clear B1 k1
  go_wp2_with fail
  refine (tat_any 6 S1.out).mono ?_
  rintro e w2 ⟨rfl, B2⟩
  have k2 := keep_below B2
  have S2 := hid (S1.out.keep k2 (fun _ _ h => h))
  have K2 := hid (K1.out.trans k2)
  rw [show atOf [(0, 2), (1, 1), (0, 1)] 6 = (1, 6) from by decide +kernel]
  clear B2 k2
  go_wp2_with fail
  refine (tnext_any 0 5 S2.out).mono ?_
  rintro e w3 ⟨rfl, B3⟩
  have k3 := keep_below B3
  have S3 := hid (S2.out.keep k3 (fun _ _ h => h))
  have K3 := hid (K2.out.trans k3)
  rw [show nextOf [(0, 2), (1, 1), (0, 1)] 0 5 = (7, true) from by decide +kernel]
  clear B3 k3
  go_wp2_with fail
  refine (tnext_any 2 5 S3.out).mono ?_
  rintro e w4 ⟨rfl, B4⟩
  have k4 := keep_below B4
  have S4 := hid (S3.out.keep k4 (fun _ _ h => h))
  have K4 := hid (K3.out.trans k4)
  rw [show nextOf [(0, 2), (1, 1), (0, 1)] 2 5 = (0, false) from by decide +kernel]
  clear B4 k4
  go_wp2_with fail
  refine (cycle_any S4.out).mono ?_
  rintro e w5 ⟨rfl, B5⟩
  have K5 := hid (K4.out.trans (keep_below B5))
  rw [show cyc [(0, 2), (1, 1), (0, 1)] = 4 from by decide +kernel]
  clear B5
  go_wp2_with fail
  refine (tadd_any 4611686018427387903 5 w5).mono ?_
  rintro _ _ ⟨rfl, rfl⟩
  rw [show addOf 4611686018427387903 5 = 4611686018427387904 from by decide +kernel]
  go_wp2_with fail
  refine (tadd_any 3 (-4) w5).mono ?_
  rintro _ _ ⟨rfl, rfl⟩
  rw [show addOf 3 (-4) = 3 from by decide +kernel]
  go_wp2
  go_ret
  exact ⟨rfl, K5.out⟩

set_option maxRecDepth 10000 in
set_option maxHeartbeats 1000000 in
theorem walk_TickAt (w : World) (v : Value) (s : List (Int × Int)) (h : SlotsR w v s) (t : Int) (_ : (Lit.int .i64 t).wf = true) : Calls Try.prog 3 #[v, .int .i64 t] w fun en w' => en = .returned (.bool true) ∧ Below w.heap.size w w' := by
  obtain ⟨a0, c0, hv⟩ := h.form
  subst hv
  have H := hid h
  obtain ⟨⟨p, q⟩, hpq⟩ : ∃ p, atOf s t = p := ⟨_, rfl⟩
  have HPQ := hid hpq
  clear h hpq
  go_enter Try.func3, Try.ntmps3
  go_wp2_with fail
  refine (tat_any t H.out).mono ?_
  rintro e w1 ⟨rfl, B1⟩
  have k1 := keep_below B1
  have S1 := hid (H.out.keep k1 (fun _ _ h => h))
  have K1 := hid k1
  rw [HPQ.out]
  clear B1 k1
  go_wp2_with fail
  refine (rat_any t S1.out).mono ?_
  rintro e w2 ⟨rfl, k2⟩
  have S2 := hid (S1.out.keep k2 (fun _ _ h => h))
  have K2 := hid (K1.out.trans k2)
  rw [HPQ.out]
  clear k2
  go_wp2_with fail
  refine (tawake_any w2).mono ?_
  rintro e w3 ⟨rfl, k3⟩
  have S3 := hid (S2.out.keep k3 (fun _ _ h => h))
  have K3 := hid (K2.out.trans k3)
  clear k3
  go_wp2_with fail
  refine (cycle_any S3.out).mono ?_
  rintro e w4 ⟨rfl, B4⟩
  have k4 := keep_below B4
  have S4 := hid (S3.out.keep k4 (fun _ _ h => h))
  have K4 := hid (K3.out.trans k4)
  clear B4 k4
  go_wp2_with fail
  refine (rcycle_any S4.out).mono ?_
  rintro e w5 ⟨rfl, k5⟩
  have K5 := hid (K4.out.trans k5)
  clear k5
  go_wp2
  go_ret
  exact ⟨rfl, K5.out.below (fun _ h => h.elim) (Nat.le_refl _)⟩

set_option maxRecDepth 10000 in
set_option maxHeartbeats 1000000 in
theorem walk_TickNext (w : World) (v : Value) (s : List (Int × Int)) (h : SlotsR w v s) (dom : Int) (_ : (Lit.int .i64 dom).wf = true) (t : Int) (_ : (Lit.int .i64 t).wf = true) : Calls Try.prog 4 #[v, .int .i64 dom, .int .i64 t] w fun en w' => en = .returned (.bool true) ∧ Below w.heap.size w w' := by
  obtain ⟨a0, c0, hv⟩ := h.form
  subst hv
  have H := hid h
  obtain ⟨⟨p, q⟩, hpq⟩ : ∃ p, nextOf s dom t = p := ⟨_, rfl⟩
  have HPQ := hid hpq
  clear h hpq
  go_enter Try.func4, Try.ntmps4
  go_wp2_with fail
  refine (tnext_any dom t H.out).mono ?_
  rintro e w1 ⟨rfl, B1⟩
  have k1 := keep_below B1
  have S1 := hid (H.out.keep k1 (fun _ _ h => h))
  have K1 := hid k1
  rw [HPQ.out]
  clear B1 k1
  go_wp2_with fail
  refine (rnext_any dom t S1.out).mono ?_
  rintro e w2 ⟨rfl, k2⟩
  have K2 := hid (K1.out.trans k2)
  rw [HPQ.out]
  clear k2
  go_wp2_with fail
  refine (tawake_any w2).mono ?_
  rintro e w3 ⟨rfl, k3⟩
  have K3 := hid (K2.out.trans k3)
  clear k3
  go_wp2
  go_ret
  exact ⟨rfl, K3.out.below (fun _ h => h.elim) (Nat.le_refl _)⟩

theorem add_held (t x y : Int) (hx : 0 ≤ x) (hx2 : x ≤ 4611686018427387904) (hy : 0 ≤ y) (hy2 : y ≤ 4611686018427387904) : addOf (addOf t x) y = addOf t (addOf x y) := by
  unfold addOf heldOf; omega
theorem add_ge (t a : Int) : addOf t a ≥ heldOf t := by unfold addOf; omega

set_option maxRecDepth 10000 in
set_option maxHeartbeats 1000000 in
theorem walk_TickAdds (w : World) (t : Int) (_ : (Lit.int .i64 t).wf = true) (a : Int) (_ : (Lit.int .i64 a).wf = true) (b : Int) (_ : (Lit.int .i64 b).wf = true) : Calls Try.prog 5 #[.int .i64 t, .int .i64 a, .int .i64 b] w fun en w' => en = .returned (.bool true) ∧ Below w.heap.size w w' := by
  have hx := heldOf_bd a
  have hy := heldOf_bd b
  have E1 := hid (add_held t (heldOf a) (heldOf b) hx.1 hx.2 hy.1 hy.2)
  have E2 := hid (add_ge t a)
  clear hx hy
  go_enter Try.func5, Try.ntmps5
  go_wp2_with fail
  refine (tadd_any t a w).mono ?_
  rintro _ _ ⟨rfl, rfl⟩
  go_wp2_with fail
  refine (radd_any t a w).mono ?_
  rintro _ _ ⟨rfl, rfl⟩
  go_wp2_with fail
  refine (rheld_any a w).mono ?_
  rintro _ _ ⟨rfl, rfl⟩
  go_wp2_with fail
  refine (rheld_any b w).mono ?_
  rintro _ _ ⟨rfl, rfl⟩
  go_wp2_with fail
  refine (tawake_any w).mono ?_
  rintro e w3 ⟨rfl, k3⟩
  have K3 := hid k3
  clear k3
  go_wp2_with fail
  refine (tadd_any t (heldOf a) w3).mono ?_
  rintro _ _ ⟨rfl, rfl⟩
  go_wp2_with fail
  refine (tadd_any (addOf t (heldOf a)) (heldOf b) w3).mono ?_
  rintro _ _ ⟨rfl, rfl⟩
  go_wp2_with fail
  refine (radd_any (heldOf a) (heldOf b) w3).mono ?_
  rintro _ _ ⟨rfl, rfl⟩
  go_wp2_with fail
  refine (tadd_any t (addOf (heldOf a) (heldOf b)) w3).mono ?_
  rintro _ _ ⟨rfl, rfl⟩
  rw [E1.out]
  go_wp2_with fail
  refine (tadd_any t a w3).mono ?_
  rintro _ _ ⟨rfl, rfl⟩
  go_wp2_with fail
  refine (rheld_any t w3).mono ?_
  rintro _ _ ⟨rfl, rfl⟩
  have e2 := E2.out
  have hd : decide (addOf t a ≥ heldOf t) = true := decide_eq_true e2
  generalize addOf t a = p at *
  generalize heldOf t = q at *
  go_wp2
  go_ret
  exact ⟨rfl, K3.out.below (fun _ h => h.elim) (Nat.le_refl _)⟩
end Go.Proofs.Ythnocalnlonniaa
