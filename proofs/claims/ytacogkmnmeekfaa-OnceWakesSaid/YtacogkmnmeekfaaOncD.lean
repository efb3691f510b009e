/- The walk of OnceWakes. -/
import Derived.Test.YtacogkmnmeekfaaOncC
namespace Go.Proofs.Ytacogkmnmeekfaa
open Go Go.RowKit

/-- 1, 2, .., n without p. -/
def less (n : Nat) (p : Int) : List Int := (upTo n).filter (fun t => t != p)

theorem less_length (n : Nat) (p : Int) : (less n p).length ≤ n := by
  have := List.length_filter_le (fun t => t != p) (upTo n)
  rw [upTo_length] at this
  exact this
theorem less_in (n : Nat) (p t : Int) : t ∈ less n p ↔ (1 ≤ t ∧ t ≤ n) ∧ t ≠ p := by simp [less, upTo_in]
theorem less_on (n : Nat) (p : Int) (h : (n : Int) + 1 ≠ p) : less n p ++ [(n : Int) + 1] = less (n + 1) p := by
  unfold less; rw [← upTo_succ, List.filter_append]; simp [h]
theorem less_off (n : Nat) (p : Int) (h : (n : Int) + 1 = p) : less n p = less (n + 1) p := by
  unfold less; rw [← upTo_succ, List.filter_append]; simp [h]
theorem dropT_last (l : List Int) (t : Int) (h : t ∉ l) : dropT (l ++ [t]) t = l := by
  rw [dropT_in (by simp)]
  have : (l ++ [t]).idxOf t = l.length := by rw [List.idxOf_append, if_neg h]; simp
  rw [this, List.eraseIdx_append_of_length_le (Nat.le_refl _)]; simp

theorem beg_wait (l : List Int) (t : Int) (h1 : 1 ≤ t) (h2 : t ≠ 99) (h3 : t ∉ l) : beg 99 false l t = (false, 14, 99, l ++ [t]) := by
  unfold beg
  rw [if_neg (by omega), if_neg (by decide), if_neg (by simp [h3]; omega), if_neg (by decide)]

set_option maxRecDepth 10000 in
set_option maxHeartbeats 4000000 in
theorem walk_OnceWakes (w : World) (n : Int) (hn : (Lit.int .u8 n).wf = true) (m : Int) (hm : (Lit.int .u8 m).wf = true) (late : Int) (hlate : (Lit.int .i64 late).wf = true) :
    Calls Try.prog 7 #[.int .u8 n, .int .u8 m, .int .i64 late] w fun en w' => en = .returned (.bool true) ∧ Below w.heap.size w w' := by
  obtain ⟨N, hN, hN10⟩ := u8_mod n 10 hn (by decide)
  obtain ⟨P, hP, hP12⟩ := u8_mod m 12 hm (by decide)
  go_enter Try.func7, Try.ntmps7
  go_wp2_with fail
  refine (onew_any w).mono ?_
  rintro e W1 ⟨rfl, G1, N1⟩
  have N1 := hid N1
  obtain ⟨b, hb⟩ : ∃ x, w.heap.size = x := ⟨_, rfl⟩
  rw [hb] at N1 ⊢
  go_wp2_with fail
  refine (obegin_any 99 N1.out (by decide) (r := true) (e := 0) (d' := 99) (l' := []) (by decide)).mono ?_
  rintro e W2 ⟨rfl, G2, N2, -, -⟩
  have N2 := hid N2
  clear N1
  go_wp2_with fail
  go_loopw [10, 11] (fun v i wr => ∃ (q : Nat) (G : Nat → Prop), q ≤ N ∧ i = .int .i64 (q + 1) ∧ ONew 61 w wr G b (opre 99 false) (less q P) ∧ OwnI wr v (less q P) ∧ ∀ k, v.ownBlock = some k → ¬ G k ∧ w.heap.size ≤ k) (fun _ i _ => 60 - (intOf i).toNat)
  case atStart =>
    refine ⟨0, G2, Nat.zero_le _, rfl, N2.out.keep ((Keep.refl (fun _ => False) W2).alloc _) (fun _ h => h.elim), made_rowI W2, fun k hk => ?_⟩
    have hk : W2.heap.size = k := Option.some.inj hk
    exact ⟨fun h => by have := N2.out.1.2.1 _ h; omega, by rw [← hk]; exact N2.out.2.2.size⟩
  case round =>
    obtain ⟨q, G, hq, rfl, hI, hO, hD⟩ := hrel
    obtain ⟨a0, n0, rfl⟩ := hO.form
    have I := hid hI
    have O := hid hO
    have D := hid hD
    have L := hid (less_length q P)
    clear hI hO hD N2
    by_cases hlt : q < N
    · have hlt' : (q : Int) + 1 ≤ (N : Int) := by omega
      have hnot : ((q : Int) + 1) ∉ less q P := fun h => by have := (less_in q P _).1 h; omega
      have hnot := hid hnot
      go_wp2_with fail
      refine (obegin_any (q + 1) I.out (by have := L.out; omega) (beg_wait _ _ (by omega) (by omega) hnot.out)).mono ?_
      rintro e W4 ⟨rfl, G4, N4, J4, K4⟩
      have O4 := hid (O.out.keep K4 (fun k hk => (D.out k hk).1))
      have D4 : Hid (∀ k, (Value.slice a0 (less q P).length n0).ownBlock = some k → ¬ G4 k ∧ w.heap.size ≤ k) := fun k hk => ⟨fun h => (J4 k h).elim (D.out k hk).1 (fun h' => by have := own_lt O.out hk; omega), (D.out k hk).2⟩
      have N4 := hid N4
      clear J4 K4 I O D
      by_cases hgone : (q : Int) + 1 = P
      · have hgone1 : ((q : Int) + 1 == (P : Int)) = true := by simp [hgone]
        have hin : decide ((q : Int) + 1 ∈ less q P ++ [(q : Int) + 1]) = true := decide_eq_true (by simp)
        have hdl := hid (dropT_last (less q P) ((q : Int) + 1) hnot.out)
        have hoff := hid (less_off q P hgone)
        clear hgone
        go_wp2_with fail
        refine (odrop_any (q + 1) N4.out (by have := L.out; simp; omega)).mono ?_
        rintro e W5 ⟨rfl, G5, N5, J5, K5⟩
        rw [hdl.out] at N5
        rw [hin]
        have O5 := hid (O4.out.keep K5 (fun k hk => (D4.out k hk).1))
        have D5 : Hid (∀ k, (Value.slice a0 (less q P).length n0).ownBlock = some k → ¬ G5 k ∧ w.heap.size ≤ k) := fun k hk => ⟨fun h => (J5 k h).elim (D4.out k hk).1 (fun h' => by have := own_lt O4.out hk; omega), (D4.out k hk).2⟩
        have N5 := hid N5
        clear J5 K5 N4 O4 D4 hin
        go_wp2_with fail
        go_roundw
        case rel => exact ⟨q + 1, G5, by omega, by go_num, by rw [← hoff.out]; exact N5.out, by rw [← hoff.out]; exact O5.out, D5.out⟩
        case measure => simp [intOf]; omega
      · have hgone1 : ((q : Int) + 1 == (P : Int)) = false := by simp [hgone]
        have hon := hid (less_on q P hgone)
        clear hgone
        have K6 : Keep (fun _ => False) W4 (W4.alloc (.cells #[.int .i64 (q + 1)] 3)) := (Keep.refl _ _).alloc _
        have hown := O4.out.keep K6 (fun _ _ h => h)
        have hsrc := one_srcI W4 (q + 1)
        go_wp2_with (at_builtin; refine wpList_plain rfl (fun K hK => wp_append_ints _ (.tmp 52) (.tmp 54) rfl (.slice a0 (less q P).length n0) (less q P) rfl hown _ 1 _ rfl hsrc (by have := L.out; omega) ?_))
        intro v1 w1 o1 f1 k1
        rw [hon.out] at o1
        obtain ⟨a1, n1, hv1⟩ := o1.form
        generalize (less (q + 1) P).length = m1 at hv1
        subst hv1
        refine hK _ _ ?_
        clear hK K
        have O7 := hid o1
        have K7 : Keep (fun k => (Value.slice a0 (less q P).length n0).ownBlock = some k) W4 w1 := (K6.mono fun _ _ h => h.elim).trans k1
        have N7 := hid (N4.out.keep K7 fun k hk => ⟨(D4.out k hk).2, (D4.out k hk).1⟩)
        have D7 : Hid (∀ k, (Value.slice a1 m1 n1).ownBlock = some k → ¬ G4 k ∧ w.heap.size ≤ k) := fun k hk => (f1 k hk).elim (D4.out k) fun h => ⟨fun hg => by have := N4.out.1.2.1 k hg; omega, by have := N4.out.2.2.size; omega⟩
        clear o1 f1 k1 K6 K7 hown hsrc N4 O4 D4
        go_wp2_with fail
        go_roundw
        case rel => exact ⟨q + 1, G4, by omega, by go_num, by rw [← hon.out]; exact N7.out, O7.out, D7.out⟩
        case measure => simp [intOf]; omega
    · obtain rfl : q = N := by omega
      have hlt' : ¬ ((q : Int) + 1 ≤ (q : Int)) := by omega
      go_wp2_with fail
      refine (odone_any 99 I.out (e := 0) (d' := 0) (o' := true) (q := less q P) (l' := []) (by unfold don; rfl)).mono ?_
      rintro e W5 ⟨a5, m5, rfl, R5, K5, G5, N5, J5, Q5⟩
      have O5 := hid (O.out.keep K5 (fun k hk => (D.out k hk).1))
      have D5 : Hid (∀ k, (Value.slice a0 (less q P).length n0).ownBlock = some k → ¬ G5 k) := fun k hk h => (J5 k h).elim (D.out k hk).1 (fun h' => by have := own_lt O.out hk; omega)
      have N5 := hid N5
      have R5 := hid R5
      have Q5 := hid Q5
      clear J5 K5 I O D
      by_cases hl : late < 1
      · go_wp2_with fail
        refine (obegin_any late N5.out (by decide) (r := false) (e := 1) (d' := 0) (l' := []) (by unfold beg; rw [if_pos hl])).mono ?_
        rintro e W6 ⟨rfl, G6, N6, -, -⟩
        have N6 := hid N6
        go_wp2_with fail
        refine (oawake_any _).mono ?_
        rintro _ W7 ⟨rfl, K7⟩
        have N7 := hid (N6.out.keep K7 (fun _ h => h.elim))
        clear K7
        go_wp2
        go_ret
        exact ⟨rfl, N7.out.2.2.below (fun _ h => h.elim) (Nat.le_refl _)⟩
      · go_wp2_with fail
        refine (obegin_any late N5.out (by decide) (r := false) (e := 0) (d' := 0) (l' := []) (by unfold beg; rw [if_neg (by omega), if_pos rfl])).mono ?_
        rintro e W6 ⟨rfl, G6, N6, -, K6⟩
        have O6 := hid (O5.out.keep K6 D5.out)
        have R6 := hid (R5.out.keep K6 fun k hk => (Q5.out k hk).2.2)
        have N6 := hid N6
        clear K6 O5 D5 R5 Q5 N5
        go_wp2_with fail
        refine (oawake_any _).mono ?_
        rintro _ W7 ⟨rfl, K7⟩
        have N7 := hid (N6.out.keep K7 (fun _ h => h.elim))
        have O7 := hid (O6.out.keep K7 (fun _ _ h => h))
        have R7 := hid (R6.out.keep K7 (fun _ _ h => h))
        clear K7
        go_wp2_with fail
        refine (ints_any R7.out O7.out.reads).mono ?_
        rintro e W9 ⟨rfl, K9⟩
        have N9 := hid (N7.out.keep K9 fun _ h => h.elim)
        rw [show decide (less q P = less q P) = true from decide_eq_true rfl]
        clear K9
        go_wp2_with fail
        refine (owaits_any N9.out (by decide)).mono ?_
        rintro e W10 ⟨a10, n10, rfl, -, N10, -⟩
        have N10 := hid N10
        go_wp2
        go_ret
        exact ⟨rfl, N10.out.2.2.below (fun _ h => h.elim) (Nat.le_refl _)⟩
end Go.Proofs.Ytacogkmnmeekfaa
