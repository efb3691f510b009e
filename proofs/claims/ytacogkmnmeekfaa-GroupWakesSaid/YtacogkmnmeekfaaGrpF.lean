/- The walk of GroupWakes. -/
import Derived.Test.YtacogkmnmeekfaaGrpE
namespace Go.Proofs.Ytacogkmnmeekfaa
open Go Go.RowKit

/-- 1, 2, .., n. -/
def upTo (n : Nat) : List Int := (List.range n).map fun (i : Nat) => (i : Int) + 1

theorem upTo_length (n : Nat) : (upTo n).length = n := by simp [upTo]
theorem upTo_succ (n : Nat) : upTo n ++ [(n : Int) + 1] = upTo (n + 1) := by simp [upTo, List.range_succ]
theorem upTo_in (n : Nat) (t : Int) : t ∈ upTo n ↔ 1 ≤ t ∧ t ≤ n := by
  simp only [upTo, List.mem_map, List.mem_range]
  constructor
  · rintro ⟨i, hi, rfl⟩; omega
  · intro h; exact ⟨(t - 1).toNat, by omega, by omega⟩

theorem u8_mod (n q : Int) (h : (Lit.int .u8 n).wf = true) (hq : 0 < q) : ∃ K : Nat, n.tmod q = K ∧ (K : Int) < q := by
  have h0 : 0 ≤ n := by
    simp only [Lit.wf, Bool.and_eq_true, decide_eq_true_eq] at h
    exact Int.le_trans (by decide) h.1
  refine ⟨(n.tmod q).toNat, ?_, ?_⟩
  · rw [Int.toNat_of_nonneg (Int.tmod_nonneg _ h0)]
  · rw [Int.toNat_of_nonneg (Int.tmod_nonneg _ h0)]
    exact Int.tmod_lt_of_pos _ hq

set_option maxRecDepth 10000 in
set_option maxHeartbeats 2000000 in
theorem walk_GroupWakes (w : World) (n : Int) (hn : (Lit.int .u8 n).wf = true) (m : Int) (hm : (Lit.int .u8 m).wf = true) :
    Calls Try.prog 4 #[.int .u8 n, .int .u8 m] w fun en w' => en = .returned (.bool true) ∧ Below w.heap.size w w' := by
  obtain ⟨K, hK, hK20⟩ := u8_mod n 20 hn (by decide)
  obtain ⟨M, hM, hM10⟩ := u8_mod m 10 hm (by decide)
  go_enter Try.func4, Try.ntmps4
  go_wp2_with fail
  refine (gnew_n w).mono ?_
  rintro e W1 ⟨rfl, G1, N1⟩
  have N1 := hid N1
  obtain ⟨b, hb⟩ : ∃ x, w.heap.size = x := ⟨_, rfl⟩
  rw [hb] at N1 ⊢
  obtain ⟨B, hB⟩ : ∃ x, w.heap.size = x := ⟨_, rfl⟩
  go_wp2_with fail
  refine (gadd_n (1 + K) N1.out (e := 0) (c' := K + 1) (o := []) (l' := []) (by unfold addE; rw [if_neg (by omega), if_neg (by omega)]) (by unfold addC; rw [if_neg (by omega), if_neg (by omega)]; omega) (by unfold addO; split <;> rfl) (by unfold addL; split <;> rfl)).mono ?_
  rintro e W2 ⟨a2, m2, rfl, -, -, G2, N2, -, -⟩
  have N2 := hid N2
  clear N1
  go_wp2_with fail
  go_loopw [9, 10] (fun v i wr => ∃ (q : Nat) (G : Nat → Prop), q ≤ M ∧ i = .int .i64 (q + 1) ∧ GNew w wr G b (K + 1) (upTo q) ∧ OwnI wr v (upTo q) ∧ ∀ k, v.ownBlock = some k → ¬ G k ∧ w.heap.size ≤ k) (fun _ i _ => 60 - (intOf i).toNat)
  case atStart =>
    refine ⟨0, G2, Nat.zero_le _, rfl, N2.out.keep ((Keep.refl (fun _ => False) W2).alloc _) (fun _ h => h.elim), made_rowI W2, fun k hk => ?_⟩
    have hk : W2.heap.size = k := Option.some.inj hk
    exact ⟨fun h => by have := N2.out.1.2.1 _ h; omega, by rw [← hk]; exact N2.out.2.2.size⟩
  case round =>
    obtain ⟨q, G, hq, rfl, hN, hO, hD⟩ := hrel
    obtain ⟨a0, n0, rfl⟩ := hO.form
    have N := hid hN
    have O := hid hO
    have D := hid hD
    have L := hid (upTo_length q)
    clear hN hO hD N2
    by_cases hlt : q < M
    · have hlt' : (q : Int) + 1 ≤ (M : Int) := by omega
      go_wp2_with fail
      refine (gwait_n (q + 1) N.out (by rw [L.out]; omega) (waitE_on (by omega) (by rw [upTo_in]; omega) (by omega)) ((waitL_on (by omega) (by rw [upTo_in]; omega) (by omega)).trans (upTo_succ q))).mono ?_
      rintro e W4 ⟨rfl, G4, N4, J4, K4⟩
      go_wp2_with fail
      refine (gwait_n (q + 1) N4 (by rw [upTo_length]; omega) (waitE_in (by omega) (by rw [upTo_in]; omega)) (waitL_in (by rw [upTo_in]; omega))).mono ?_
      rintro e W5 ⟨rfl, G5, N5, J5, K5⟩
      have O5 := hid ((O.out.keep K4 (fun k hk => (D.out k hk).1)).keep K5 (fun k hk h => (J4 k h).elim (D.out k hk).1 (fun h' => by have := own_lt O.out hk; omega)))
      have D5 : Hid (∀ k, (Value.slice a0 (upTo q).length n0).ownBlock = some k → ¬ G5 k ∧ w.heap.size ≤ k) := fun k hk => ⟨fun h => (J5 k h).elim (fun h => (J4 k h).elim (D.out k hk).1 (fun h' => by have := own_lt O.out hk; omega)) (fun h' => by have := own_lt O.out hk; have := K4.size; omega), (D.out k hk).2⟩
      have N5 := hid N5
      clear N4 J4 K4 J5 K5 N O D
      have K6 : Keep (fun _ => False) W5 (W5.alloc (.cells #[.int .i64 (q + 1)] 3)) := (Keep.refl _ _).alloc _
      have hown := O5.out.keep K6 (fun _ _ h => h)
      have hsrc := one_srcI W5 (q + 1)
      go_wp2_with (at_builtin; refine wpList_plain rfl (fun K hK => wp_append_ints _ (.tmp 47) (.tmp 49) rfl (.slice a0 (upTo q).length n0) (upTo q) rfl hown _ 1 _ rfl hsrc (by rw [L.out]; omega) ?_))
      intro v1 w1 o1 f1 k1
      rw [upTo_succ] at o1
      obtain ⟨a1, n1, hv1⟩ := o1.form
      generalize (upTo (q + 1)).length = m1 at hv1
      subst hv1
      refine hK _ _ ?_
      clear hK K
      have O7 := hid o1
      have K7 : Keep (fun k => (Value.slice a0 (upTo q).length n0).ownBlock = some k) W5 w1 := (K6.mono fun _ _ h => h.elim).trans k1
      have N7 := hid (N5.out.keep K7 fun k hk => ⟨(D5.out k hk).2, (D5.out k hk).1⟩)
      have D7 : Hid (∀ k, (Value.slice a1 m1 n1).ownBlock = some k → ¬ G5 k ∧ w.heap.size ≤ k) := fun k hk => (f1 k hk).elim (D5.out k) fun h => ⟨fun hg => by have := N5.out.1.2.1 k hg; omega, by have := N5.out.2.2.size; omega⟩
      clear o1 f1 k1 K6 K7 hown hsrc N5 O5 D5
      go_wp2_with fail
      go_roundw
      case rel => exact ⟨q + 1, G5, by omega, by go_num, N7.out, O7.out, D7.out⟩
      case measure => simp [intOf]; omega
    · obtain rfl : q = M := by omega
      have hlt' : ¬ ((q : Int) + 1 ≤ (q : Int)) := by omega
      go_wp2_with fail
      go_loopw [11] (fun i wr => ∃ (p : Nat) (l : List Int) (G : Nat → Prop), p ≤ K + 1 ∧ i = .int .i64 (p + 1) ∧ (p < K + 1 → l = upTo q) ∧ (p = K + 1 → l = []) ∧ GNew w wr G b (K + 1 - p) l ∧ OwnI wr (.slice a0 (upTo q).length n0) (upTo q) ∧ ∀ k, (Value.slice a0 (upTo q).length n0).ownBlock = some k → ¬ G k) (fun i _ => 60 - (intOf i).toNat)
      case atStart => exact ⟨0, upTo q, G, Nat.zero_le _, rfl, fun _ => rfl, fun h => absurd h (by omega), by simpa using N.out, O.out, fun k hk => (D.out k hk).1⟩
      case round =>
        obtain ⟨p, l, G6, hp, rfl, hl1, hl2, hN, hO, hD⟩ := hrel
        have hK4 := hN.2.2
        have N6 := hid hN
        have O6 := hid hO
        have D6 := hid hD
        clear hN hO hD N O D
        by_cases hlt : p < K + 1
        · have hlt2 : (p : Int) + 1 ≤ 1 + (K : Int) := by omega
          obtain rfl := hl1 hlt
          clear hl1 hl2
          by_cases hpk : p < K
          · have hpk' : (p : Int) + 1 < 1 + (K : Int) := by omega
            have hpk2 : ((p : Int) + 1 == 1 + (K : Int)) = false := by simp; omega
            go_wp2_with fail
            refine (gadd_n (-1) N6.out (e := 0) (c' := K + 1 - (p + 1 : Nat)) (o := []) (l' := upTo q) (by unfold addE; rw [if_neg (by omega), if_neg (by omega)]) (by unfold addC; rw [if_neg (by omega), if_neg (by omega)]; omega) (by unfold addO; rw [if_neg (by omega)]) (by unfold addL; rw [if_neg (by omega)])).mono ?_
            rintro e W7 ⟨a7, m7, rfl, -, K7, G7, N7, J7, -⟩
            have N8 := hid N7
            have O8 := hid (O6.out.keep K7 D6.out)
            have D8 : Hid (∀ k, (Value.slice a0 (upTo q).length n0).ownBlock = some k → ¬ G7 k) := fun k hk h => D6.out k hk (J7 k h)
            clear N7 K7 J7 N6 O6 D6
            go_wp2_with fail
            go_roundw
            case rel => exact ⟨p + 1, upTo q, G7, by omega, by go_num, fun _ => rfl, fun h => absurd h (by omega), N8.out, O8.out, D8.out⟩
            case measure => simp [intOf]; omega
          · obtain rfl : p = K := by omega
            have hpk' : ¬ ((p : Int) + 1 < 1 + (p : Int)) := by omega
            have hpk2 : ((p : Int) + 1 == 1 + (p : Int)) = true := by simp; omega
            go_wp2_with fail
            refine (gadd_n (-1) N6.out (e := 0) (c' := p + 1 - (p + 1 : Nat)) (o := upTo q) (l' := []) (by unfold addE; rw [if_neg (by omega), if_neg (by omega)]) (by unfold addC; rw [if_neg (by omega), if_neg (by omega)]; omega) (by unfold addO; rw [if_pos (by omega)]) (by unfold addL; rw [if_pos (by omega)])).mono ?_
            rintro e W7 ⟨a7, m7, rfl, R7, K7, G7, N7, J7, -⟩
            have N8 := hid N7
            have O8 := hid (O6.out.keep K7 D6.out)
            have R8 := hid R7
            have D8 : Hid (∀ k, (Value.slice a0 (upTo q).length n0).ownBlock = some k → ¬ G7 k) := fun k hk h => D6.out k hk (J7 k h)
            clear N7 K7 J7 N6 O6 D6 R7
            go_wp2_with fail
            refine (ints_any R8.out O8.out.reads).mono ?_
            rintro e W9 ⟨rfl, K9⟩
            have N9 := hid (N8.out.keep K9 fun _ h => h.elim)
            have O9 := hid (O8.out.keep K9 fun _ _ h => h)
            rw [show decide (upTo q = upTo q) = true from decide_eq_true rfl]
            clear K9
            go_wp2_with fail
            go_roundw
            case rel => exact ⟨p + 1, [], G7, by omega, by go_num, fun h => absurd h (by omega), fun _ => rfl, N9.out, O9.out, D8.out⟩
            case measure => simp [intOf]; omega
        · obtain rfl : p = K + 1 := by omega
          obtain rfl := hl2 rfl
          have hlt2 : ¬ (((K + 1 : Nat) : Int) + 1 ≤ 1 + (K : Int)) := by omega
          have hN := N6.out
          rw [show (K : Int) + 1 - ((K + 1 : Nat) : Int) = 0 by omega] at hN
          have N7 := hid hN
          clear hN N6 hl1 hl2
          go_wp2_with fail
          refine (gadd_n (-1) N7.out (e := 11) (c' := 0) (o := []) (l' := []) (by decide) (by decide) (by decide) (by decide)).mono ?_
          rintro e W8 ⟨a8, m8, rfl, -, -, G8, N8, -, -⟩
          have N8 := hid N8
          go_wp2_with fail
          refine (gawake_any _).mono ?_
          rintro e W9 ⟨rfl, K9⟩
          have N9 := hid (N8.out.keep K9 fun _ h => h.elim)
          clear K9
          go_wp2_with fail
          refine (gcount_n N9.out).mono ?_
          rintro e _ ⟨rfl, rfl⟩
          go_wp2_with fail
          refine (gwait_n 3 N9.out (by decide) (e := 0) (l' := []) (by decide) (by decide)).mono ?_
          rintro e W10 ⟨rfl, G10, N10, -, -⟩
          have N10 := hid N10
          go_wp2
          go_ret
          exact ⟨rfl, N10.out.2.2.below (fun _ h => h.elim) (Nat.le_refl _)⟩
end Go.Proofs.Ytacogkmnmeekfaa
