/- The walk of SemaOrder. -/
import Derived.Test.YtegpoocmhamlpaaSmE
namespace Go.Proofs.Ytegpoocmhamlpaa
open Go Go.RowKit

set_option maxRecDepth 10000 in
set_option maxHeartbeats 800000 in
theorem walk_SemaOrder (w : World) (s : Int) (hs : (Lit.int .u8 s).wf = true) (v1 : Value) (n1 : Nat) (f1 : Nat → Nat → Int) (w1 : ArgRows w v1 [.u8] n1 f1) :
    Calls Try.prog 3 #[.int .u8 s, v1] w fun en w' => en = .returned (.bool true) ∧ Below w.heap.size w w' := by
  obtain ⟨a1, c1, hv1⟩ := w1.form
  have A1 := hid w1
  have V1 := hid hv1
  rw [hv1]
  clear w1 hv1
  obtain ⟨M, hM, hM16⟩ := u8_mod s 16 hs (by decide)
  obtain ⟨N, hN⟩ : ∃ N : Int, 1 + (M : Int) = N := ⟨_, rfl⟩
  have HN := hid hN
  have hN1 : 1 ≤ N := by omega
  have hN16 : N ≤ 16 := by omega
  have hN0 : ¬ N = 0 := by omega
  have hnd : ∃ nd : Nat → Int, (∀ i, 1 ≤ nd i ∧ nd i ≤ N) ∧ ∀ i, i < n1 → nd i = 1 + (f1 i 0).tmod N := by
    refine ⟨fun i => if i < n1 then 1 + (f1 i 0).tmod N else 1, fun i => ?_, fun i hi => if_pos hi⟩
    dsimp only
    split
    · rename_i hi
      obtain ⟨g, off, c, _, _, _, hc⟩ := arg_u8s A1.out (by omega)
      have hw := (u8_bd _ (hc i hi).2).1
      have p1 := Int.tmod_nonneg N hw
      have p2 := Int.tmod_lt_of_pos (f1 i 0) (by omega : 0 < N)
      omega
    · omega
  obtain ⟨nd, hn1, hn2⟩ := hnd
  have ND := hid hn1
  have NF := hid hn2
  have SB := hid (sm_bd nd N hn1)
  have HM16 : Hid ((M : Int) < 16) := hid hM16
  clear hn1 hn2 hN
  go_enter Try.func3, Try.ntmps3
  go_wp2_with fail
  refine (mnew_any (1 + M) w).mono ?_
  rintro e W1 ⟨rfl, G1, N1⟩
  rw [HN.out] at N1
  obtain ⟨b, hb⟩ : ∃ x, w.heap.size = x := ⟨_, rfl⟩
  rw [show szOf N = N by unfold szOf; rw [if_neg (by omega), if_neg (by omega)]] at N1
  rw [hb] at N1 ⊢
  try rw [HN.out]
  clear hM hM16
  go_wp2_with fail
  refine (macq_any 99 N N1 (good_0 N hN1 hN16) (by simp) (e := 0) (S' := ⟨N, N - N, pairs nd 0 0⟩) (order_first nd N hN1)).mono ?_
  rintro e W2 ⟨rfl, G2, N2, -, -⟩
  have N2 := hid N2
  clear N1
  go_wp2_with fail
  go_loopw [7] (fun i wr => ∃ (q : Nat) (G : Nat → Prop), q ≤ n1 ∧ q ≤ 20 ∧ i = .int .i64 q ∧ MNew 69 w wr G b (scs ⟨N, N - N, pairs nd 0 q⟩)) (fun i _ => 60 - (intOf i).toNat)
  case atStart => exact ⟨0, G2, Nat.zero_le _, by omega, rfl, N2.out⟩
  case round =>
    obtain ⟨q, G, hq, hq20, rfl, hI⟩ := hrel
    have I := hid hI
    clear hI N2
    by_cases hlt : q < n1 ∧ q < 20
    · obtain ⟨g, off, cc, hv, hg, hmx, hc⟩ := arg_u8s A1.out (by omega)
      have hav : a1 = some ⟨g, off, none⟩ ∧ c1 = cc := by rw [V1.out] at hv; cases hv; exact ⟨rfl, rfl⟩
      obtain ⟨rfl, rfl⟩ := hav
      obtain ⟨k1, u1⟩ := hc q hlt.1
      have k1 := (I.out.2.2.cell (p := ⟨g, off + q, none⟩) hg (fun h => h)).trans k1
      have hlt1 : (q : Int) < (n1 : Int) := by omega
      have hlt2 : (q : Int) < 20 := by omega
      have y0 : 0 ≤ f1 q 0 := (u8_bd _ u1).1
      have y1 : f1 q 0 ≤ 255 := (u8_bd _ u1).2
      have NQ := hid (NF.out q hlt.1)
      have z0 := Int.tmod_nonneg N y0
      have z1 := Int.tmod_lt_of_pos (f1 q 0) (by omega : 0 < N)
      obtain ⟨z, hz⟩ : ∃ z, (f1 q 0).tmod N = z := ⟨_, rfl⟩
      rw [hz] at NQ z0 z1
      have hz2 : f1 q 0 % N = z := by rw [← hz, Int.tmod_eq_emod_of_nonneg y0]
      generalize f1 q 0 = y at k1 y0 y1 hz hz2
      clear hc hv u1
      unfold maxLen at hmx
      go_wp2_with fail
      rw [← NQ.out]
      refine (macq_any (1 + q) (nd q) I.out (order_good nd N N 0 q hN1 hN16 (by omega) (Int.le_refl _) ND.out) (by show (pairs nd 0 q).length ≤ 1000; rw [pairs_length]; omega) (order_wait nd N q ND.out)).mono ?_
      rintro e W4 ⟨rfl, G4, N4, -, -⟩
      have N4 := hid N4
      clear k1
      go_wp2_with fail
      go_roundw
      case rel => exact ⟨q + 1, G4, by omega, by omega, by go_num, N4.out⟩
      case measure => simp [intOf]; omega
    have hge : ¬ ((q : Int) < (n1 : Int)) ∨ (q : Int) < (n1 : Int) ∧ ¬ ((q : Int) < 20) := by omega
    clear hlt
    rcases hge with hge1 | ⟨hge1, hge2⟩
    all_goals
      go_wp2_with fail
      go_loopw [8, 9, 10] (fun nx o_ i wr => ∃ (p iN : Nat) (o : Int) (G : Nat → Prop), p ≤ q ∧ nx = .int .i64 (p + 1) ∧ o_ = .int .i64 o ∧ i = .int .i64 iN ∧ 0 ≤ o ∧ o ≤ N ∧ (iN : Int) = N + sm nd p - o ∧ (p = q ∨ nd p > N - o) ∧ MNew 69 w wr G b (scs ⟨N, N - o, pairs nd p q⟩)) (fun _ _ i _ => 400 - (intOf i).toNat)
      case atStart => exact ⟨0, 0, N, G, Nat.zero_le _, rfl, rfl, rfl, by omega, Int.le_refl _, by simp only [sm]; omega, .inr (by have := (ND.out 0).1; omega), I.out⟩
      case round =>
        obtain ⟨p, iN, o, G3, hp, rfl, rfl, rfl, ho0, hoN, hiN, hmax, hI3⟩ := hrel
        have I3 := hid hI3
        have HIN := hid hiN
        have HMAX := hid hmax
        clear hI3 hiN hmax I
        by_cases hpq : p < q
        · have o1 : 1 ≤ o := by
            rcases HMAX.out with h | h
            · omega
            · have := (ND.out p).2; omega
          have hsm := SB.out p
          have hpN : (p : Int) * N ≤ 20 * 16 := Int.mul_le_mul (by omega) hN16 (by omega) (by omega)
          have i4 : (iN : Int) < 400 := by have := HIN.out; omega
          have p4 : (p : Int) + 1 ≤ (q : Int) := by omega
          have oz : (o == 0) = false := by simp; omega
          obtain ⟨m, hm, hrel, hoN', hmax'⟩ := order_rel nd N o p q hN1 o1 hoN hp
          have hrel := hid hrel
          have HMAX' := hid hmax'
          have HON' := hid hoN'
          have o2 : o ≤ 16 := by omega
          clear hmax' hoN' hpN hsm
          go_wp2_with fail
          refine (mrel_any 1 I3.out (order_good nd N o p q hN1 hN16 ho0 hoN ND.out) (by show (pairs nd p q).length ≤ 1000; rw [pairs_length]; omega) hrel.out).mono ?_
          rintro e W5 ⟨a5, m5, rfl, R5, -, G5, N5, -, -⟩
          rw [run_length] at R5 ⊢
          have R5 := hid R5
          have N5 := hid N5
          clear hrel I3
          go_wp2_with fail
          go_loop [8, 9, 13] (fun nx o_ jv => ∃ (j t : Nat), t = p + j ∧ j ≤ m ∧ jv = .int .i64 j ∧ nx = .int .i64 (t + 1) ∧ o_ = .int .i64 (o - 1 + (sm nd t - sm nd p))) (fun _ _ jv => m - (intOf jv).toNat)
          case atStart => exact ⟨0, p, rfl, Nat.zero_le _, rfl, rfl, by rw [Int.sub_self, Int.add_zero]⟩
          case round =>
            obtain ⟨j, t, ht, hj, rfl, rfl, rfl⟩ := hrel
            have hs1 := SB.out t
            have hs2 := SB.out p
            have hs3 : (t : Int) * N ≤ 20 * 16 := Int.mul_le_mul (by omega) hN16 (by omega) (by omega)
            have hs4 : (p : Int) * N ≤ 20 * 16 := Int.mul_le_mul (by omega) hN16 (by omega) (by omega)
            by_cases hjm : j < m
            · have hjm' : (j : Int) < (m : Int) := by omega
              have htn : t < n1 := by omega
              obtain ⟨gR, offR, cR, hgR, hRc⟩ : ∃ gR offR cR, Value.slice a5 m m5 = .slice (some ⟨gR, offR, none⟩) m cR ∧ W5.cell? ⟨gR, offR + j, none⟩ = some (.int .i64 (t + 1)) := by
                rcases R5.out with ⟨_, _, _, h0⟩ | ⟨g, off, c, h1, _, _, hc⟩
                · have := run_length ((p : Int) + 1) m; rw [h0] at this; simp at this; omega
                · rw [run_length] at h1 hc
                  refine ⟨g, off, c, h1, ?_⟩
                  rw [hc j hjm, run_nth _ _ _ hjm, ht]
                  congr 2; omega
              cases hgR
              obtain ⟨g, off, cc, hv, hg, hmx, hc⟩ := arg_u8s A1.out (by omega)
              have hav : a1 = some ⟨g, off, none⟩ ∧ c1 = cc := by rw [V1.out] at hv; cases hv; exact ⟨rfl, rfl⟩
              obtain ⟨rfl, rfl⟩ := hav
              obtain ⟨k1, u1⟩ := hc t htn
              have k1 := (N5.out.2.2.cell (p := ⟨g, off + t, none⟩) hg (fun h => h)).trans k1
              have htn1 : (t : Int) < (n1 : Int) := by omega
              have ht20 : (t : Int) < 20 := by omega
              have y0 : 0 ≤ f1 t 0 := (u8_bd _ u1).1
              have y1 : f1 t 0 ≤ 255 := (u8_bd _ u1).2
              have NQ := NF.out t htn
              have z0 := Int.tmod_nonneg N y0
              have z1 := Int.tmod_lt_of_pos (f1 t 0) (by omega : 0 < N)
              obtain ⟨z, hz⟩ : ∃ z, (f1 t 0).tmod N = z := ⟨_, rfl⟩
              rw [hz] at NQ z0 z1
              have hz2 : f1 t 0 % N = z := by rw [← hz, Int.tmod_eq_emod_of_nonneg y0]
              generalize f1 t 0 = y at k1 y0 y1 hz hz2
              clear hc hv u1
              unfold maxLen at hmx
              obtain ⟨X, hX⟩ : ∃ X, o - 1 + (sm nd t - sm nd p) = X := ⟨_, rfl⟩
              rw [hX]
              have X0 : -400 ≤ X := by omega
              have X1 : X ≤ 400 := by omega
              have HX := hid hX
              have HT := hid ht
              have NQ := hid NQ
              clear hs1 hs2 hs3 hs4 hX ht
              go_wp2
              go_round
              case rel => exact ⟨j + 1, t + 1, by have := HT.out; omega, by omega, by go_num, by go_num, by rw [← HX.out]; simp only [sm]; rw [NQ.out]; congr 1; omega⟩
              case measure => simp [intOf]; omega
            obtain rfl : j = m := by omega
            have hjm' : ¬ ((j : Int) < (j : Int)) := by omega
            subst ht
            obtain ⟨X, hX⟩ : ∃ X, o - 1 + (sm nd (p + j) - sm nd p) = X := ⟨_, rfl⟩
            have HX := hid hX
            have N6 := N5.out
            have M6 := HMAX'.out
            have O6 := HON'.out
            rw [hX] at N6 M6 O6 ⊢
            have N6 := hid N6
            have M6 := hid M6
            have O6 := hid O6
            have X0 : 0 ≤ X := by have := sm_mono nd N ND.out p j; have := HX.out; omega
            have hIN := HIN.out
            have HS := hid (And.intro hs1 hs2)
            clear hs1 hs2 hs3 hs4 hX N5
            go_wp2_with fail
            go_roundw
            case rel => exact ⟨p + j, iN + 1, X, G5, hm, rfl, rfl, by go_num, X0, O6.out, by rw [← HX.out]; omega, M6.out, N6.out⟩
            case measure => simp [intOf]; omega
        · obtain rfl : p = q := by omega
          have p4 : ¬ ((p : Int) + 1 ≤ (p : Int)) := by omega
          have hsm := SB.out p
          have hpN : (p : Int) * N ≤ 20 * 16 := Int.mul_le_mul (by omega) hN16 (by omega) (by omega)
          have i4 : (iN : Int) < 400 := by have := HIN.out; omega
          have I4 := I3.out
          rw [pairs_end] at I4
          have I4 := hid I4
          clear I3 hsm hpN
          go_wp2_with fail
          refine (mawake_any _).mono ?_
          rintro _ W6 ⟨rfl, K6⟩
          have N6 := hid (I4.out.quiet K6)
          clear K6
          go_wp2_with fail
          refine (mfree_any N6.out).mono ?_
          rintro _ _ ⟨rfl, rfl⟩
          go_wp2_with fail
          refine (mwaits_any N6.out (by simp)).mono ?_
          rintro _ W7 ⟨a7, n7, rfl, -, N7, -, -⟩
          have N7 := hid N7
          go_wp2
          go_ret
          exact ⟨rfl, N7.out.2.2.below (fun _ h => h.elim) (Nat.le_refl _)⟩
end Go.Proofs.Ytegpoocmhamlpaa
