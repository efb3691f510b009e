/- Layer 14's fixed fact; CondNone; CondOnce. -/
import Derived.Test.YtcbnbnlioajadaaCndA
namespace Go.Proofs.Ytcbnbnlioajadaa
open Go Go.RowKit

set_option maxRecDepth 10000 in
set_option maxHeartbeats 1000000 in
theorem cawake_any (w : World) : Calls Try.prog 23 #[] w fun en w' => en = .returned (.bool true) ∧ Keep (fun _ => False) w w' := by
  go_enter Try.func23, Try.ntmps23
  go_wp2_with fail
  refine (cnew_any w).mono ?_
  rintro e w1 ⟨rfl, G1, N1⟩
  go_wp2_with fail
  refine (cwait_any 3 N1 (by decide) (e := 14) (l' := [3]) (by decide)).mono ?_
  rintro e w2 ⟨rfl, G2, N2, -, -⟩
  clear N1
  go_wp2_with fail
  refine (cwait_any 1 N2 (by decide) (e := 14) (l' := [3, 1]) (by decide)).mono ?_
  rintro e w3 ⟨rfl, G3, N3, -, -⟩
  clear N2
  go_wp2_with fail
  refine (cwait_any 2 N3 (by decide) (e := 14) (l' := [3, 1, 2]) (by decide)).mono ?_
  rintro e w4 ⟨rfl, G4, N4, -, -⟩
  clear N3
  go_wp2_with fail
  refine (cdrop_any 1 N4 (by decide)).mono ?_
  rintro e w5 ⟨rfl, G5, N5, -, -⟩
  rw [show dropT [3, 1, 2] 1 = [(3 : Int), 2] from by decide] at N5
  rw [show decide ((1 : Int) ∈ [(3 : Int), 1, 2]) = true from by decide]
  clear N4
  go_wp2_with fail
  refine (csignal_cons 3 N5 (by decide)).mono ?_
  rintro e w6 ⟨rfl, G6, N6, -, -⟩
  clear N5
  go_wp2_with fail
  refine (cbroad_any N6 (by decide)).mono ?_
  rintro e w7 ⟨a7, m7, rfl, R7, -, G7, N7, -, Q7⟩
  have R8 := hid R7
  have N8 := hid N7
  clear N6 R7 Q7 N7
  go_wp2_with fail
  refine (csignal_nil N8.out).mono ?_
  rintro e _ ⟨rfl, rfl⟩
  go_wp2_with fail
  refine (ints_any (l := [2]) (m := [2]) (R8.out.keep ((Keep.refl (fun _ => False) _).alloc _) (fun _ _ h => h)) (made_ints w7 [2] (by decide)).reads).mono ?_
  rintro e w9 ⟨rfl, K9⟩
  have k9 : Keep (fun _ => False) w7 w9 := ((Keep.refl _ _).alloc _).trans K9
  have N9 := hid (N8.out.keep k9 (fun k h => h.elim))
  rw [show decide ([2] = [(2 : Int)]) = true from by decide]
  clear K9 k9
  go_wp2_with fail
  refine (cwait_any 0 N9.out (by decide) (e := 1) (l' := []) (by decide)).mono ?_
  rintro e w10 ⟨rfl, G10, N10, -, -⟩
  have N10 := hid N10
  go_wp2
  go_ret
  exact ⟨rfl, N10.out.2.2⟩

set_option maxRecDepth 10000 in
set_option maxHeartbeats 400000 in
theorem walk_CondNone (w : World) (t : Int) (_ : (Lit.int .i64 t).wf = true) : Calls Try.prog 6 #[.int .i64 t] w fun en w' => en = .returned (.bool true) ∧ Below w.heap.size w w' := by
  go_enter Try.func6, Try.ntmps6
  go_wp2_with fail
  refine (csignal_none w).mono ?_
  rintro e _ ⟨rfl, rfl⟩
  go_wp2_with fail
  refine (cawake_any w).mono ?_
  rintro e w2 ⟨rfl, K⟩
  have K := hid K
  go_wp2_with fail
  refine (cwait_nil t w2).mono ?_
  rintro e _ ⟨rfl, rfl⟩
  go_wp2_with fail
  refine (cdrop_nil t w2).mono ?_
  rintro e _ ⟨rfl, rfl⟩
  go_wp2_with fail
  refine (cbroad_nil w2).mono ?_
  rintro e _ ⟨rfl, rfl⟩
  go_wp2_with fail
  refine (cwaits_nil w2).mono ?_
  rintro e _ ⟨rfl, rfl⟩
  go_wp2
  go_ret
  exact ⟨rfl, K.out.below (fun _ h => h.elim) (Nat.le_refl _)⟩

set_option maxRecDepth 10000 in
set_option maxHeartbeats 4000000 in
theorem walk_CondOnce (w : World) (t : Int) (_ : (Lit.int .i64 t).wf = true) (u : Int) (_ : (Lit.int .i64 u).wf = true) (drop : Bool) : Calls Try.prog 5 #[.int .i64 t, .int .i64 u, .bool drop] w fun en w' => en = .returned (.bool true) ∧ Below w.heap.size w w' := by
  go_enter Try.func5, Try.ntmps5
  go_wp2_with fail
  refine (cnew_any w).mono ?_
  rintro e w1 ⟨rfl, G1, N1⟩
  have N1 := hid N1
  by_cases ht : t < 1
  · go_wp2_with fail
    refine (cawake_any w1).mono ?_
    rintro e w2 ⟨rfl, K⟩
    have N2 := hid (N1.out.keep K fun _ h => h.elim)
    clear K
    go_wp2_with fail
    refine (cwait_any t N2.out (by decide) (cwt_lo ht)).mono ?_
    rintro e w3 ⟨rfl, G3, N3, -, -⟩
    have N3 := hid N3
    go_wp2
    go_ret
    exact ⟨rfl, N3.out.2.2.below (fun _ h => h.elim) (Nat.le_refl _)⟩
  by_cases hu : u < 1
  · go_wp2_with fail
    refine (cawake_any w1).mono ?_
    rintro e w2 ⟨rfl, K⟩
    have N2 := hid (N1.out.keep K fun _ h => h.elim)
    clear K
    go_wp2
    go_ret
    exact ⟨rfl, N2.out.2.2.below (fun _ h => h.elim) (Nat.le_refl _)⟩
  by_cases htu : t = u
  · have htu1 : (t == u) = true := by simp [htu]
    clear htu
    go_wp2_with fail
    refine (cawake_any w1).mono ?_
    rintro e w2 ⟨rfl, K⟩
    have N2 := hid (N1.out.keep K fun _ h => h.elim)
    clear K
    go_wp2
    go_ret
    exact ⟨rfl, N2.out.2.2.below (fun _ h => h.elim) (Nat.le_refl _)⟩
  have htu1 : (t == u) = false := by simp [htu]
  have p1 := hid (cwt_on (l := []) (t := t) (by omega) (by simp))
  have p2 := hid (cwt_on (l := [] ++ [t]) (t := u) (by omega) (by simp; omega))
  have p3 := hid (cwt_in (l := [] ++ [t] ++ [u]) (t := t) (by omega) (by simp))
  have p4 := hid (cwt_on (l := [u]) (t := t) (by omega) (by simp; omega))
  have p5 : Hid (decide (t ∈ [t, u]) = true) := hid (by simp)
  have p6 : Hid (decide (t ∈ [u]) = false) := hid (by simp; omega)
  have p7 : Hid (dropT [t, u] t = [u]) := hid (by rw [dropT_in (by simp)]; simp)
  have p8 : Hid (dropT [u] t = [u]) := hid (dropT_no (by simp; omega))
  clear htu
  go_wp2_with fail
  refine (cwait_any t N1.out (by decide) p1.out).mono ?_
  rintro e w2 ⟨rfl, G2, N2, -, -⟩
  have N2 := hid N2
  go_wp2_with fail
  refine (cwait_any u N2.out (by simp) p2.out).mono ?_
  rintro e w3 ⟨rfl, G3, N3, -, -⟩
  have N3 := hid N3
  go_wp2_with fail
  refine (cwait_any t N3.out (by simp) p3.out).mono ?_
  rintro e w4 ⟨rfl, G4, N4, -, -⟩
  have N4 : Hid (ONew 63 w w4 G4 w.heap.size [] [t, u]) := hid N4
  clear N1 N2 N3 p1 p2 p3
  cases drop
  all_goals go_wp2_with fail
  · refine (csignal_cons t N4.out (by simp)).mono ?_
    rintro e w5 ⟨rfl, G5, N5, -, -⟩
    have N5 := hid N5
    go_wp2_with fail
    refine (cwait_any t N5.out (by simp) p4.out).mono ?_
    rintro e w6 ⟨rfl, G6, N6, -, -⟩
    have N6 := hid N6
    go_wp2_with fail
    refine (cawake_any w6).mono ?_
    rintro e w7 ⟨rfl, K⟩
    have N7 := hid (N6.out.keep K fun _ h => h.elim)
    clear K
    go_wp2_with fail
    refine (cwaits_any N7.out (by simp)).mono ?_
    rintro e w8 ⟨a8, n8, rfl, R8, N8, K8⟩
    have R8 := hid R8
    have N8 := hid N8
    clear K8
    go_wp2_with fail
    refine (ints_any (l := [u, t]) (m := [u, t]) (R8.out.keep ((Keep.refl (fun _ => False) _).alloc _) (fun _ _ h => h)) (made_ints w8 [u, t] (by simp [maxLen])).reads).mono ?_
    rintro e w9 ⟨rfl, K9⟩
    have k9 : Keep (fun _ => False) w8 w9 := ((Keep.refl _ _).alloc _).trans K9
    have N9 := hid (N8.out.keep k9 (fun k h => h.elim))
    rw [show decide ([u, t] = [u, t]) = true from decide_eq_true rfl]
    clear K9 k9
    go_wp2
    go_ret
    exact ⟨rfl, N9.out.2.2.below (fun _ h => h.elim) (Nat.le_refl _)⟩
  · refine (cdrop_any t N4.out (by simp)).mono ?_
    rintro e w4a ⟨rfl, G4a, N4a, -, -⟩
    rw [p7.out] at N4a
    rw [p5.out]
    have N4a := hid N4a
    go_wp2_with fail
    refine (cdrop_any t N4a.out (by simp)).mono ?_
    rintro e w5 ⟨rfl, G5, N5, -, -⟩
    rw [p8.out] at N5
    rw [p6.out]
    have N5 := hid N5
    go_wp2_with fail
    refine (cwait_any t N5.out (by simp) p4.out).mono ?_
    rintro e w6 ⟨rfl, G6, N6, -, -⟩
    have N6 := hid N6
    go_wp2_with fail
    refine (cawake_any w6).mono ?_
    rintro e w7 ⟨rfl, K⟩
    have N7 := hid (N6.out.keep K fun _ h => h.elim)
    clear K
    go_wp2_with fail
    refine (cwaits_any N7.out (by simp)).mono ?_
    rintro e w8 ⟨a8, n8, rfl, R8, N8, K8⟩
    have R8 := hid R8
    have N8 := hid N8
    clear K8
    go_wp2_with fail
    refine (ints_any (l := [u, t]) (m := [u, t]) (R8.out.keep ((Keep.refl (fun _ => False) _).alloc _) (fun _ _ h => h)) (made_ints w8 [u, t] (by simp [maxLen])).reads).mono ?_
    rintro e w9 ⟨rfl, K9⟩
    have k9 : Keep (fun _ => False) w8 w9 := ((Keep.refl _ _).alloc _).trans K9
    have N9 := hid (N8.out.keep k9 (fun k h => h.elim))
    rw [show decide ([u, t] = [u, t]) = true from decide_eq_true rfl]
    clear K9 k9
    go_wp2
    go_ret
    exact ⟨rfl, N9.out.2.2.below (fun _ h => h.elim) (Nat.le_refl _)⟩
end Go.Proofs.Ytcbnbnlioajadaa
