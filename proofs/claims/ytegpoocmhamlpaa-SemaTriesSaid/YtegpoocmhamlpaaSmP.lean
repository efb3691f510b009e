/- The walk of SemaTries. -/
import Derived.Test.YtegpoocmhamlpaaSmN
namespace Go.Proofs.Ytegpoocmhamlpaa
open Go Go.RowKit

set_option maxRecDepth 10000 in
set_option maxHeartbeats 4000000 in
theorem walk_SemaTries (w : World) (s : Int) (hs : (Lit.int .u8 s).wf = true) (v1 : Value) (n1 : Nat) (f1 : Nat → Nat → Int) (w1 : ArgRows w v1 [.u8, .i64, .i64] n1 f1) (t : Int) (_ : (Lit.int .i64 t).wf = true) (n : Int) (_ : (Lit.int .i64 n).wf = true) :
    Calls Try.prog 5 #[.int .u8 s, v1, .int .i64 t, .int .i64 n] w fun en w' => en = .returned (.bool true) ∧ Below w.heap.size w w' := by
  obtain ⟨a1, c1, hv1⟩ := w1.form
  have A1 := hid w1
  have V1 := hid hv1
  rw [hv1]
  clear w1 hv1
  obtain ⟨M, hM, hM16⟩ := u8_mod s 16 hs (by decide)
  go_enter Try.func5, Try.ntmps5
  go_wp2_with fail
  refine (mnew_any (1 + M) w).mono ?_
  rintro e W1 ⟨rfl, G1, N1⟩
  go_wp2_with fail
  refine (snew_any (1 + M) W1).mono ?_
  rintro e W2 ⟨rfl, R2, K2⟩
  have z1 := szOf_in (1 + M)
  obtain ⟨Z, hN⟩ : ∃ Z : Int, szOf (1 + M) = Z := ⟨_, rfl⟩
  rw [hN] at N1 R2 z1
  have hd2 : ∀ k, G1 k → ¬ k = W1.heap.size := fun k hk e => by have := N1.1.2.1 k hk; omega
  have hsz : w.heap.size < W1.heap.size := N1.1.2.1 _ N1.1.1
  have R2' : MNew 46 w W2 (fun k => k = W1.heap.size) W1.heap.size (rscs ⟨Z, Z, []⟩) := ⟨R2.1, fun k hk => by have := R2.2.1 k hk; omega, N1.2.2.trans R2.2.2⟩
  have N2 := hid (N1.quiet K2)
  have R2 := hid R2'
  have D2 := hid hd2
  have Z1 := hid z1
  clear hd2 N1 K2 R2' hN z1 hM hM16
  obtain ⟨r, hr⟩ : ∃ x, W1.heap.size = x := ⟨_, rfl⟩
  rw [hr] at R2 D2 ⊢
  obtain ⟨b, hb⟩ : ∃ x, w.heap.size = x := ⟨_, rfl⟩
  rw [hb] at N2 ⊢
  clear hsz
  go_wp2_with fail
  go_loopw [11] (fun i wr => ∃ (k : Nat) (S : SS) (G1 G2 : Nat → Prop), k ≤ n1 ∧ k ≤ 30 ∧ i = .int .i64 k ∧ S.l.length ≤ k ∧ S.size = Z ∧ SGood S ∧ MNew 69 w wr G1 b (scs S) ∧ MNew 46 w wr G2 r (rscs S) ∧ ∀ k, G1 k → ¬ G2 k) (fun i _ => 30 - (intOf i).toNat)
  case atStart => exact ⟨0, ⟨Z, Z, []⟩, G1, _, Nat.zero_le _, by omega, rfl, Nat.le_refl _, rfl, good_0 Z Z1.out.1 Z1.out.2, N2.out, R2.out, D2.out⟩
  case round =>
    obtain ⟨k, S, G1, G2, hk, hk60, rfl, hl, hSz, hG, hN, hR, hD⟩ := hrel
    have GD := hid hG
    have SZ := hid hSz
    have N := hid hN
    have R := hid hR
    have D := hid hD
    clear N2 R2 D2 hN hR hD hG hSz
    by_cases hlt : k < n1 ∧ k < 30
    · obtain ⟨g, off, cc, hv, hg, hmx, hc⟩ := arg_act4 A1.out (by omega)
      have hav : a1 = some ⟨g, off, none⟩ ∧ c1 = cc := by rw [V1.out] at hv; cases hv; exact ⟨rfl, rfl⟩
      obtain ⟨rfl, rfl⟩ := hav
      obtain ⟨⟨k1, k2, k3⟩, u1⟩ := hc k hlt.1
      have k1 := (N.out.2.2.cell (p := ⟨g, off + k * 3, none⟩) hg (fun h => h)).trans k1
      have k2 := (N.out.2.2.cell (p := ⟨g, off + k * 3 + 1, none⟩) hg (fun h => h)).trans k2
      have k3 := (N.out.2.2.cell (p := ⟨g, off + k * 3 + 2, none⟩) hg (fun h => h)).trans k3
      have hlt1 : (k : Int) < (n1 : Int) := by omega
      have hlt2 : (k : Int) < 30 := by omega
      have hA : S.l.length ≤ 100 := by omega
      unfold maxLen at hmx
      clear hc hv
      generalize f1 k 0 = c at k1 u1
      generalize f1 k 1 = t1 at k2
      generalize f1 k 2 = m1 at k3
      have U1 := hid u1
      clear u1
      go_wp2_with fail
      refine (sdoes_any c t1 m1 U1.out N.out R.out D.out GD.out hA).mono ?_
      rintro _ W3 ⟨rfl, S', G1', G2', hG', hSz', hl', N', R', D'⟩
      have N1 := hid N'
      have R1 := hid R'
      have D1 := hid D'
      have GD' := hid hG'
      have SZ' := hid (hSz'.trans SZ.out)
      clear hSz' N' R' D' hG' k1 k2 k3
      go_wp2_with fail
      go_roundw
      case rel => exact ⟨k + 1, S', _, _, by omega, by omega, by go_num, by omega, SZ'.out, GD'.out, N1.out, R1.out, D1.out⟩
      case measure => simp [intOf]; omega
    · have hge : ¬ ((k : Int) < (n1 : Int)) ∨ (k : Int) < (n1 : Int) ∧ ¬ ((k : Int) < 30) := by omega
      clear hlt
      have lA : S.l.length ≤ 1000 := by omega
      have g1 := GD.out.s16
      have g2 := GD.out.f0
      have g3 := GD.out.f1
      have wl := hid S.who_len
      clear hl
      rcases hge with hge1 | ⟨hge1, hge2⟩
      all_goals
        go_wp2_with fail
        refine (mfree_any N.out).mono ?_
        rintro _ _ ⟨rfl, rfl⟩
        go_wp2_with fail
        refine (mwaits_any N.out lA).mono ?_
        rintro _ W4 ⟨a4, m4, rfl, R4, N4, K4, Q4⟩
        obtain ⟨e0, S', hb0⟩ : ∃ e0 S', mtr S t n = (e0, S') := ⟨_, _, rfl⟩
        have B0 := hid hb0
        have R4 := hid R4
        have N4 := hid N4
        have Q4 := hid Q4
        have K4 := hid K4
        clear hb0
        go_wp2_with fail
        refine (mtry_any t n N4.out GD.out B0.out).mono ?_
        rintro _ W5 ⟨rfl, G5, N5, J5, K5⟩
        have N5 := hid N5
        have R5 := hid (R4.out.keep K5 fun x hx => fun hg => by have := (Q4.out x hx).1; have := N.out.1.2.1 x hg; omega)
        clear J5 K5
        have cs := hid B0.out
        by_cases he : e0 = 0
        · have ne0 : ¬ (t < 1 ∨ n < 1 ∨ n > S.size) := fun hb => by
            have := cs.out; unfold mtr at this; rw [if_pos hb] at this; cases this; exact absurd he (by decide)
          have ne1 : t ∉ S.who := fun hb => by
            have := cs.out; unfold mtr at this; rw [if_neg ne0, if_pos hb] at this; cases this; exact absurd he (by decide)
          have ne2 : ¬ (S.l ≠ [] ∨ n > S.free) := fun hb => by
            have := cs.out; unfold mtr at this; rw [if_neg ne0, if_neg ne1, if_pos hb] at this; cases this; exact absurd he (by decide)
          have hS' : S' = { S with free := S.free - n } := by
            have := cs.out; unfold mtr at this; rw [if_neg ne0, if_neg ne1, if_neg ne2] at this; cases this; rfl
          have hl0 : S.l.length = 0 := by
            rcases Nat.eq_zero_or_pos S.l.length with h | h
            · exact h
            · exact absurd (Or.inl (List.length_pos_iff.1 h)) ne2
          subst hS'
          subst he
          have nf : n ≤ S.free := by
            have : ¬ n > S.free := fun h => ne2 (.inr h)
            omega
          have n1' : 1 ≤ n := by omega
          have t1' : 1 ≤ t := by omega
          have hsub : IntKind.i64.wrap (S.free - n) = S.free - n := IntWalk.i64_in _ ⟨by omega, by omega⟩
          rw [hl0]
          clear ne0 ne1 ne2 hl0 R5
          go_wp2_with fail
          refine (mawake_any _).mono ?_
          rintro _ W6 ⟨rfl, K6⟩
          have N6 := hid (N5.out.quiet K6)
          clear K6
          go_wp2_with fail
          refine (mfree_any N6.out).mono ?_
          rintro _ _ ⟨rfl, rfl⟩
          go_wp2
          go_ret
          exact ⟨rfl, N6.out.2.2.below (fun _ h => h.elim) (Nat.le_refl _)⟩
        · have hS' : S' = S ∧ (e0 = 12 → 0 < S.l.length ∨ n > S.free) ∧ e0 ≠ 14 := by
            have := cs.out
            unfold mtr at this
            split at this
            · cases this; exact ⟨rfl, fun h => absurd h (by decide), by decide⟩
            split at this
            · cases this; exact ⟨rfl, fun h => absurd h (by decide), by decide⟩
            split at this
            · rename_i hc
              cases this
              exact ⟨rfl, fun _ => hc.elim (fun h => .inl (List.length_pos_iff.2 h)) .inr, by decide⟩
            · cases this; exact absurd rfl he
          obtain ⟨rfl, h12, h14⟩ := hS'
          have he0 : (e0 == 0) = false := by simp [he]
          have he14 : (e0 != 14) = true := by simp [h14]
          go_wp2_with fail
          refine (mawake_any _).mono ?_
          rintro _ W6 ⟨rfl, K6⟩
          have N6 := hid (N5.out.quiet K6)
          have R6 := hid (R5.out.keep K6 fun _ _ h => h)
          clear K6
          go_wp2_with fail
          refine (mfree_any N6.out).mono ?_
          rintro _ _ ⟨rfl, rfl⟩
          go_wp2_with fail
          refine (mwaits_any N6.out lA).mono ?_
          rintro _ W7 ⟨a7, m7, rfl, R7, N7, K7, Q7⟩
          have R8 := hid (R6.out.keep K7 fun _ _ h => h)
          have R7 := hid R7
          have N7 := hid N7
          clear K7 Q7
          go_wp2_with fail
          refine (ints_any R7.out R8.out).mono ?_
          rintro _ W8 ⟨rfl, K8⟩
          have N8 := hid (N7.out.quiet K8)
          clear K8
          rw [show decide (S'.who = S'.who) = true from decide_eq_true rfl]
          by_cases hx : e0 = 12
          · subst hx
            rcases h12 rfl with hp | hp
            · have hp' : (0 : Int) < (S'.l.length : Int) := by omega
              go_wp2
              go_ret
              exact ⟨rfl, N8.out.2.2.below (fun _ h => h.elim) (Nat.le_refl _)⟩
            · rcases Nat.eq_zero_or_pos S'.l.length with hq | hq
              · have hp' : S'.free < n := hp
                rw [hq]
                clear hp
                go_wp2
                go_ret
                exact ⟨rfl, N8.out.2.2.below (fun _ h => h.elim) (Nat.le_refl _)⟩
              · have hp' : (0 : Int) < (S'.l.length : Int) := by omega
                clear hp
                go_wp2
                go_ret
                exact ⟨rfl, N8.out.2.2.below (fun _ h => h.elim) (Nat.le_refl _)⟩
          · have he12 : (e0 != 12) = true := by simp [hx]
            go_wp2
            go_ret
            exact ⟨rfl, N8.out.2.2.below (fun _ h => h.elim) (Nat.le_refl _)⟩
end Go.Proofs.Ytegpoocmhamlpaa
