/- The walk of RwAlone. -/
import Derived.Test.YtegpoocmhamlpaaRwO
namespace Go.Proofs.Ytegpoocmhamlpaa
open Go Go.RowKit

set_option maxRecDepth 10000 in
set_option maxHeartbeats 2000000 in
theorem walk_RwAlone (w : World) (v1 : Value) (n1 : Nat) (f1 : Nat → Nat → Int) (w1 : ArgRows w v1 [.u8, .i64] n1 f1) :
    Calls Try.prog 11 #[v1] w fun en w' => en = .returned (.bool true) ∧ Below w.heap.size w w' := by
  obtain ⟨a1, c1, hv1⟩ := w1.form
  have A1 := hid w1
  have V1 := hid hv1
  rw [hv1]
  clear w1 hv1
  go_enter Try.func11, Try.ntmps11
  go_wp2_with fail
  refine (rnew_any w).mono ?_
  rintro e W1 ⟨rfl, G1, N1⟩
  have hsz : w.heap.size < W1.heap.size := N1.1.2.1 _ N1.1.1
  have k2 : Keep (fun _ => False) W1 (W1.alloc (.cells #[.slice none 0 0] 58)) := (Keep.refl _ _).alloc _
  have N2 := N1.quiet k2
  have OA : MobAt 58 (W1.alloc (.cells #[.slice none 0 0] 58)) W1.heap.size (tcs []) [.slice none 0 0] := by
    refine ⟨heap_alloc_new W1 _, rfl, fun i c v hc hv => ?_, fun i j vi vj k hi hj hne hk => ?_⟩
    · match i, hc, hv with
      | 0, hc, hv => cases hc; cases hv; exact ⟨World.ownsRow_nil _ _ _ _, by simp [Value.ownBlock]⟩
    · match i, hi with
      | 0, hi => cases hi; cases hk
  have R2 : MNew 58 w (W1.alloc (.cells #[.slice none 0 0] 58)) (fun k => k = W1.heap.size) W1.heap.size (tcs []) :=
    ⟨⟨rfl, fun k hk => hk ▸ OA.lt, _, OA, fun v hv k hk => by obtain rfl := List.mem_singleton.1 hv; simp [Value.ownBlock] at hk⟩, fun k hk => by rw [hk]; omega, N2.2.2⟩
  have hd2 : ∀ k, G1 k → ¬ k = W1.heap.size := fun k hk e => by have := N1.1.2.1 k hk; omega
  have N2 := hid N2
  have R2 := hid R2
  have D2 := hid hd2
  clear OA hd2 N1 k2
  obtain ⟨r, hr⟩ : ∃ x, W1.heap.size = x := ⟨_, rfl⟩
  rw [hr] at R2 D2
  obtain ⟨b, hb⟩ : ∃ x, w.heap.size = x := ⟨_, rfl⟩
  rw [hb] at N2 ⊢
  clear hsz
  go_wp2_with fail
  try rw [hr]
  go_loopw [5] (fun i wr => ∃ (k : Nat) (S : RS) (E : List On) (G1 G2 : Nat → Prop), k ≤ n1 ∧ k ≤ 60 ∧ i = .int .i64 k ∧ S.all ≤ k ∧ Rin S ∧ Rel S E ∧ MNew 79 w wr G1 b (rcs S) ∧ MNew 58 w wr G2 r (tcs E) ∧ ∀ k, G1 k → ¬ G2 k) (fun i _ => 60 - (intOf i).toNat)
  case atStart => exact ⟨0, ⟨0, [], [], []⟩, [], G1, _, Nat.zero_le _, by omega, rfl, Nat.le_refl _, ⟨fun _ => rfl, fun _ _ => ⟨rfl, rfl⟩, fun _ _ => rfl⟩, ⟨rfl, rfl, rfl, rfl, List.nodup_nil, by simp⟩, N2.out, R2.out, D2.out⟩
  case round =>
    obtain ⟨k, S, E, G1, G2, hk, hk60, rfl, hl, hIn, hRl, hN, hR, hD⟩ := hrel
    have IN := hid hIn
    clear hIn
    have RL := hid hRl
    have N := hid hN
    have R := hid hR
    have D := hid hD
    clear N2 R2 D2 hN hR hD hRl
    by_cases hlt : k < n1 ∧ k < 60
    · obtain ⟨g, off, cc, hv, hg, hmx, hc⟩ := arg_act2 A1.out (by omega)
      have hav : a1 = some ⟨g, off, none⟩ ∧ c1 = cc := by rw [V1.out] at hv; cases hv; exact ⟨rfl, rfl⟩
      obtain ⟨rfl, rfl⟩ := hav
      obtain ⟨⟨k1, k2⟩, u1, u2⟩ := hc k hlt.1
      have k1 := (N.out.2.2.cell (p := ⟨g, off + k * 2, none⟩) hg (fun h => h)).trans k1
      have k2 := (N.out.2.2.cell (p := ⟨g, off + k * 2 + 1, none⟩) hg (fun h => h)).trans k2
      have hlt1 : (k : Int) < (n1 : Int) := by omega
      have hlt2 : (k : Int) < 60 := by omega
      have hA : S.all ≤ 100 := by omega
      unfold maxLen at hmx
      clear hc hv
      generalize f1 k 0 = c at k1 u1
      generalize f1 k 1 = t at k2 u2
      have U1 := hid u1
      clear u1 u2
      go_wp2_with fail
      refine (rdoes_any c t U1.out N.out R.out D.out RL.out hA).mono ?_
      rintro _ W3 ⟨rfl, S', E', G1', G2', hwh, hA', hR', N', R', D'⟩
      have hin := rin_all IN.out RL.out t hwh
      have IN' := hid hin
      have RL' := hid hR'
      have N' := hid N'
      have R' := hid R'
      have D' := hid D'
      have AL := hid hA'
      have ls : S'.w.length ≤ 1000 ∧ S'.r.length ≤ 1000 ∧ S'.q.length ≤ 1000 := by
        simp only [RS.all] at hA' hA
        omega
      obtain ⟨l2, l3, l4⟩ := ls
      clear hR' hA' k1 k2 hwh
      go_wp2_with fail
      refine (rwaits_any N'.out l2 l4).mono ?_
      rintro _ W4 ⟨a1', n1', a2', n2', rfl, -, -, N4, K4⟩
      have N4 := hid N4
      have R4 := hid (R'.out.quiet K4)
      clear K4
      go_wp2_with fail
      refine (rreaders_any N4.out l3).mono ?_
      rintro _ W5 ⟨a3', n3', rfl, -, N5, K5, -⟩
      have N5 := hid N5
      have R5 := hid (R4.out.quiet K5)
      clear K5
      obtain ⟨dd, hdd⟩ : ∃ x, S'.d = x := ⟨_, rfl⟩
      obtain ⟨lr, hlr⟩ : ∃ x, S'.r.length = x := ⟨_, rfl⟩
      obtain ⟨lw, hlw⟩ : ∃ x, S'.w.length = x := ⟨_, rfl⟩
      obtain ⟨lq, hlq⟩ : ∃ x, S'.q.length = x := ⟨_, rfl⟩
      have HD := hid hdd
      rw [hlr, hlw, hlq]
      have cases4 : (dd ≠ 0 ∧ lr = 0) ∨ (dd = 0 ∧ 0 < lr ∧ 0 < lw) ∨ (dd = 0 ∧ 0 < lr ∧ lw = 0 ∧ lq = 0) ∨ (dd = 0 ∧ lr = 0 ∧ lw = 0 ∧ lq = 0) := by
        by_cases hd : dd = 0
        · by_cases hr : lr = 0
          · have := hin.b (hdd.trans hd) (List.eq_nil_of_length_eq_zero (hlr.trans hr))
            refine .inr (.inr (.inr ⟨hd, hr, ?_, ?_⟩))
            · rw [← hlw, this.1]; rfl
            · rw [← hlq, this.2]; rfl
          · by_cases hw : lw = 0
            · have := hin.c (hdd.trans hd) (List.eq_nil_of_length_eq_zero (hlw.trans hw))
              exact .inr (.inr (.inl ⟨hd, by omega, hw, by rw [← hlq, this]; rfl⟩))
            · exact .inr (.inl ⟨hd, by omega, by omega⟩)
        · have := hin.a (fun e => hd (hdd.symm.trans e))
          exact .inl ⟨hd, by rw [← hlr, this]; rfl⟩
      clear hin hdd hlr hlw hlq l2 l3 l4
      rcases cases4 with ⟨h1, rfl⟩ | ⟨rfl, h2, h3⟩ | ⟨rfl, h2, rfl, rfl⟩ | ⟨rfl, rfl, rfl, rfl⟩
      · have z1 : (dd != 0) = true := by simp [h1]
        have z2 : (dd == 0) = false := by simp [h1]
        clear h1
        go_wp2_with fail
        refine (rwriter_any N5.out).mono ?_
        rintro _ _ ⟨rfl, rfl⟩
        rw [HD.out]
        go_wp2_with fail
        refine (rwriter_any N5.out).mono ?_
        rintro _ _ ⟨rfl, rfl⟩
        rw [HD.out]
        go_wp2_with fail
        refine (rwriter_any N5.out).mono ?_
        rintro _ _ ⟨rfl, rfl⟩
        rw [HD.out]
        go_wp2_with fail
        go_roundw
        case rel => exact ⟨k + 1, S', E', _, _, by omega, by omega, by go_num, by have := AL.out; omega, IN'.out, RL'.out, N5.out, R5.out, D'.out⟩
        case measure => simp [intOf]; omega
      · have z3 : ((lr : Int) == 0) = false := by simp; omega
        have z4 : ((lw : Int) == 0) = false := by simp; omega
        go_wp2_with fail
        refine (rwriter_any N5.out).mono ?_
        rintro _ _ ⟨rfl, rfl⟩
        rw [HD.out]
        go_wp2_with fail
        refine (rwriter_any N5.out).mono ?_
        rintro _ _ ⟨rfl, rfl⟩
        rw [HD.out]
        go_wp2_with fail
        refine (rwriter_any N5.out).mono ?_
        rintro _ _ ⟨rfl, rfl⟩
        rw [HD.out]
        go_wp2_with fail
        go_roundw
        case rel => exact ⟨k + 1, S', E', _, _, by omega, by omega, by go_num, by have := AL.out; omega, IN'.out, RL'.out, N5.out, R5.out, D'.out⟩
        case measure => simp [intOf]; omega
      · have z3 : ((lr : Int) == 0) = false := by simp; omega
        go_wp2_with fail
        refine (rwriter_any N5.out).mono ?_
        rintro _ _ ⟨rfl, rfl⟩
        rw [HD.out]
        go_wp2_with fail
        refine (rwriter_any N5.out).mono ?_
        rintro _ _ ⟨rfl, rfl⟩
        rw [HD.out]
        go_wp2_with fail
        refine (rwriter_any N5.out).mono ?_
        rintro _ _ ⟨rfl, rfl⟩
        rw [HD.out]
        go_wp2_with fail
        go_roundw
        case rel => exact ⟨k + 1, S', E', _, _, by omega, by omega, by go_num, by have := AL.out; omega, IN'.out, RL'.out, N5.out, R5.out, D'.out⟩
        case measure => simp [intOf]; omega
      · go_wp2_with fail
        refine (rwriter_any N5.out).mono ?_
        rintro _ _ ⟨rfl, rfl⟩
        rw [HD.out]
        go_wp2_with fail
        refine (rwriter_any N5.out).mono ?_
        rintro _ _ ⟨rfl, rfl⟩
        rw [HD.out]
        go_wp2_with fail
        refine (rwriter_any N5.out).mono ?_
        rintro _ _ ⟨rfl, rfl⟩
        rw [HD.out]
        go_wp2_with fail
        go_roundw
        case rel => exact ⟨k + 1, S', E', _, _, by omega, by omega, by go_num, by have := AL.out; omega, IN'.out, RL'.out, N5.out, R5.out, D'.out⟩
        case measure => simp [intOf]; omega
    · have hge : ¬ ((k : Int) < (n1 : Int)) ∨ (k : Int) < (n1 : Int) ∧ ¬ ((k : Int) < 60) := by omega
      clear hlt
      rcases hge with hge1 | ⟨hge1, hge2⟩
      all_goals
        go_wp2_with fail
        refine (rawake_any _).mono ?_
        rintro _ W4 ⟨rfl, K4⟩
        have N4 := hid (N.out.quiet K4)
        clear K4
        go_wp2
        go_ret
        exact ⟨rfl, N4.out.2.2.below (fun _ h => h.elim) (Nat.le_refl _)⟩
end Go.Proofs.Ytegpoocmhamlpaa
