/- The walk of RwPlays. -/
import Derived.Test.YtegpoocmhamlpaaRwM
import Derived.Test.YtegpoocmhamlpaaArg
namespace Go.Proofs.Ytegpoocmhamlpaa
open Go Go.RowKit

set_option maxRecDepth 10000 in
set_option maxHeartbeats 2000000 in
theorem ralike_any {w0 w : World} {G1 G2 : Nat → Prop} {b r : Nat} {S : RS} {E : List On} (h1 : MNew 79 w0 w G1 b (rcs S)) (h2 : MNew 58 w0 w G2 r (tcs E)) (hR : Rel S E) (hA : S.all ≤ 100) :
    Calls Try.prog 35 #[.pointer (some ⟨b, 0, none⟩), .pointer (some ⟨r, 0, none⟩)] w fun en w' => en = .returned (.bool true) ∧ Keep (fun _ => False) w w' := by
  have N := hid h1
  have R := hid h2
  have RL := hid hR
  have ls : S.w.length ≤ 1000 ∧ S.r.length ≤ 1000 ∧ S.q.length ≤ 1000 ∧ E.length ≤ 1000 := by
    have := hR.len
    simp only [RS.all] at hA this
    omega
  obtain ⟨l2, l3, l4, l5⟩ := ls
  clear h1 h2 hR
  go_enter Try.func35, Try.ntmps35
  go_wp2_with fail
  refine (rwaits_any N.out l2 l4).mono ?_
  rintro _ W1 ⟨a1, n1, a2, n2, rfl, RW1, RQ1, N1, K1⟩
  have RW1 := hid RW1
  have RQ1 := hid RQ1
  have N1 := hid N1
  have R1 := hid (R.out.quiet K1)
  have KK1 := hid K1
  clear K1
  go_wp2_with fail
  refine (rwriter_any N1.out).mono ?_
  rintro _ _ ⟨rfl, rfl⟩
  go_wp2_with fail
  refine (twriter_any R1.out l5).mono ?_
  rintro _ W2 ⟨rfl, K2⟩
  rw [RL.out.head]
  have RW2 := hid (RW1.out.keep K2 fun _ _ h => h)
  have RQ2 := hid (RQ1.out.keep K2 fun _ _ h => h)
  have N2 := hid (N1.out.quiet K2)
  have R2 := hid (R1.out.quiet K2)
  have KK2 := hid (KK1.out.trans K2)
  clear K2
  go_wp2_with fail
  refine (rreaders_any N2.out l3).mono ?_
  rintro _ W3 ⟨a3, n3, rfl, Q3, N3, K3, -⟩
  have RW3 := hid (RW2.out.keep K3 fun _ _ h => h)
  have RQ3 := hid (RQ2.out.keep K3 fun _ _ h => h)
  have Q3 := hid Q3
  have R3 := hid (R2.out.quiet K3)
  have KK3 := hid (KK2.out.trans K3)
  clear K3
  go_wp2_with fail
  refine (ttasks_any false true R3.out l5).mono ?_
  rintro _ W4 ⟨a4, n4, rfl, O4, K4, -⟩
  rw [RL.out.ft] at O4 ⊢
  have O4 := hid O4.reads
  have RW4 := hid (RW3.out.keep K4 fun _ _ h => h)
  have RQ4 := hid (RQ3.out.keep K4 fun _ _ h => h)
  have Q4 := hid (Q3.out.keep K4 fun _ _ h => h)
  have R4 := hid (R3.out.quiet K4)
  have KK4 := hid (KK3.out.trans K4)
  clear K4
  go_wp2_with fail
  refine (ints_any Q4.out O4.out).mono ?_
  rintro _ W5 ⟨rfl, K5⟩
  rw [show decide (S.r = S.r) = true from decide_eq_true rfl]
  have RW5 := hid (RW4.out.keep K5 fun _ _ h => h)
  have RQ5 := hid (RQ4.out.keep K5 fun _ _ h => h)
  have R5 := hid (R4.out.quiet K5)
  have KK5 := hid (KK4.out.trans K5)
  clear K5
  go_wp2_with fail
  refine (ttasks_any true false R5.out l5).mono ?_
  rintro _ W6 ⟨a6, n6, rfl, O6, K6, -⟩
  rw [RL.out.tf] at O6 ⊢
  have O6 := hid O6.reads
  have RW6 := hid (RW5.out.keep K6 fun _ _ h => h)
  have RQ6 := hid (RQ5.out.keep K6 fun _ _ h => h)
  have R6 := hid (R5.out.quiet K6)
  have KK6 := hid (KK5.out.trans K6)
  clear K6
  go_wp2_with fail
  refine (ints_any RW6.out O6.out).mono ?_
  rintro _ W7 ⟨rfl, K7⟩
  rw [show decide (S.w = S.w) = true from decide_eq_true rfl]
  have RQ7 := hid (RQ6.out.keep K7 fun _ _ h => h)
  have R7 := hid (R6.out.quiet K7)
  have KK7 := hid (KK6.out.trans K7)
  clear K7
  go_wp2_with fail
  refine (ttasks_any false false R7.out l5).mono ?_
  rintro _ W8 ⟨a8, n8, rfl, O8, K8, -⟩
  rw [RL.out.ff] at O8 ⊢
  have O8 := hid O8.reads
  have RQ8 := hid (RQ7.out.keep K8 fun _ _ h => h)
  have KK8 := hid (KK7.out.trans K8)
  clear K8
  go_wp2_with fail
  refine (ints_any RQ8.out O8.out).mono ?_
  rintro _ W9 ⟨rfl, K9⟩
  rw [show decide (S.q = S.q) = true from decide_eq_true rfl]
  have KK9 := hid (KK8.out.trans K9)
  clear K9
  go_wp2
  go_ret
  exact ⟨rfl, KK9.out⟩

theorem arg_act2 {w : World} {v : Value} {n : Nat} {f : Nat → Nat → Int} (h : ArgRows w v [.u8, .i64] n f) (hn : 0 < n) : ∃ g off c, v = .slice (some ⟨g, off, none⟩) n c ∧ g < w.heap.size ∧ n ≤ maxLen ∧
    ∀ k, k < n → (w.cell? ⟨g, off + k * 2, none⟩ = some (.int .u8 (f k 0)) ∧ w.cell? ⟨g, off + k * 2 + 1, none⟩ = some (.int .i64 (f k 1))) ∧ ((Lit.int .u8 (f k 0)).wf = true ∧ (Lit.int .i64 (f k 1)).wf = true) := by
  obtain ⟨hm, ⟨h0, _⟩ | ⟨g, off, c, hv, hg, hc⟩⟩ := h
  · omega
  · refine ⟨g, off, c, hv, hg, hm, fun k hk => ⟨⟨?_, ?_⟩, ?_, ?_⟩⟩
    · simpa using (hc k hk 0 .u8 rfl).1
    · simpa [Nat.add_assoc] using (hc k hk 1 .i64 rfl).1
    · exact (hc k hk 0 .u8 rfl).2
    · exact (hc k hk 1 .i64 rfl).2

set_option maxRecDepth 10000 in
set_option maxHeartbeats 2000000 in
theorem walk_RwPlays (w : World) (v1 : Value) (n1 : Nat) (f1 : Nat → Nat → Int) (w1 : ArgRows w v1 [.u8, .i64] n1 f1) :
    Calls Try.prog 10 #[v1] w fun en w' => en = .returned (.bool true) ∧ Below w.heap.size w w' := by
  obtain ⟨a1, c1, hv1⟩ := w1.form
  have A1 := hid w1
  have V1 := hid hv1
  rw [hv1]
  clear w1 hv1
  go_enter Try.func10, Try.ntmps10
  go_wp2_with fail
  refine (rnew_any w).mono ?_
  rintro e W1 ⟨rfl, G1, N1⟩
  have hsz : w.heap.size < W1.heap.size := N1.1.2.1 _ N1.1.1
  have k2 : Keep (fun _ => False) W1 (W1.alloc (.cells #[.slice none 0 0] 58)) := (Keep.refl _ _).alloc _
  have N2 := N1.quiet k2
  have OA : MobAt 58 (W1.alloc (.cells #[.slice none 0 0] 58)) W1.heap.size (tcs []) [.slice none 0 0] := by
    refine ⟨heap_alloc_new W1 _, rfl, fun i c v hc hv => ?_, fun i j vi vj k hi hj hne hk => ?_⟩
    · match i, hc, hv with
      | 0, hc, hv => cases hc; cases hv; exact ⟨World.ownsRow_nil _ _ _ _, by simp [Value.ownBlock]⟩
    · match i, hi with
      | 0, hi => cases hi; cases hk
  have R2 : MNew 58 w (W1.alloc (.cells #[.slice none 0 0] 58)) (fun k => k = W1.heap.size) W1.heap.size (tcs []) :=
    ⟨⟨rfl, fun k hk => hk ▸ OA.lt, _, OA, fun v hv k hk => by obtain rfl := List.mem_singleton.1 hv; simp [Value.ownBlock] at hk⟩, fun k hk => by rw [hk]; omega, N2.2.2⟩
  have hd2 : ∀ k, G1 k → ¬ k = W1.heap.size := fun k hk e => by have := N1.1.2.1 k hk; omega
  have N2 := hid N2
  have R2 := hid R2
  have D2 := hid hd2
  clear OA hd2 N1 k2
  obtain ⟨r, hr⟩ : ∃ x, W1.heap.size = x := ⟨_, rfl⟩
  rw [hr] at R2 D2
  obtain ⟨b, hb⟩ : ∃ x, w.heap.size = x := ⟨_, rfl⟩
  rw [hb] at N2 ⊢
  clear hsz
  go_wp2_with fail
  try rw [hr]
  go_loopw [5] (fun i wr => ∃ (k : Nat) (S : RS) (E : List On) (G1 G2 : Nat → Prop), k ≤ n1 ∧ k ≤ 60 ∧ i = .int .i64 k ∧ S.all ≤ k ∧ Rel S E ∧ MNew 79 w wr G1 b (rcs S) ∧ MNew 58 w wr G2 r (tcs E) ∧ ∀ k, G1 k → ¬ G2 k) (fun i _ => 60 - (intOf i).toNat)
  case atStart => exact ⟨0, ⟨0, [], [], []⟩, [], G1, _, Nat.zero_le _, by omega, rfl, Nat.le_refl _, ⟨rfl, rfl, rfl, rfl, List.nodup_nil, by simp⟩, N2.out, R2.out, D2.out⟩
  case round =>
    obtain ⟨k, S, E, G1, G2, hk, hk60, rfl, hl, hRl, hN, hR, hD⟩ := hrel
    have RL := hid hRl
    have N := hid hN
    have R := hid hR
    have D := hid hD
    clear N2 R2 D2 hN hR hD hRl
    by_cases hlt : k < n1 ∧ k < 60
    · obtain ⟨g, off, cc, hv, hg, hmx, hc⟩ := arg_act2 A1.out (by omega)
      have hav : a1 = some ⟨g, off, none⟩ ∧ c1 = cc := by rw [V1.out] at hv; cases hv; exact ⟨rfl, rfl⟩
      obtain ⟨rfl, rfl⟩ := hav
      obtain ⟨⟨k1, k2⟩, u1, u2⟩ := hc k hlt.1
      have k1 := (N.out.2.2.cell (p := ⟨g, off + k * 2, none⟩) hg (fun h => h)).trans k1
      have k2 := (N.out.2.2.cell (p := ⟨g, off + k * 2 + 1, none⟩) hg (fun h => h)).trans k2
      have hlt1 : (k : Int) < (n1 : Int) := by omega
      have hlt2 : (k : Int) < 60 := by omega
      have hA : S.all ≤ 100 := by omega
      unfold maxLen at hmx
      clear hc hv
      generalize f1 k 0 = c at k1 u1
      generalize f1 k 1 = t at k2 u2
      have U1 := hid u1
      clear u1 u2
      go_wp2_with fail
      refine (rdoes_any c t U1.out N.out R.out D.out RL.out hA).mono ?_
      rintro _ W3 ⟨rfl, S', E', G1', G2', -, hA', hR', N', R', D'⟩
      have RL' := hid hR'
      have N' := hid N'
      have R' := hid R'
      have D' := hid D'
      have hA2 : S'.all ≤ 100 := by omega
      have AL := hid hA'
      clear hR' hA' k1 k2
      go_wp2_with fail
      refine (ralike_any N'.out R'.out RL'.out hA2).mono ?_
      rintro _ W4 ⟨rfl, K4⟩
      have N4 := hid (N'.out.quiet K4)
      have R4 := hid (R'.out.quiet K4)
      clear K4
      go_wp2_with fail
      go_roundw
      case rel => exact ⟨k + 1, S', E', _, _, by omega, by omega, by go_num, by have := AL.out; omega, RL'.out, N4.out, R4.out, D'.out⟩
      case measure => simp [intOf]; omega
    · have hge : ¬ ((k : Int) < (n1 : Int)) ∨ (k : Int) < (n1 : Int) ∧ ¬ ((k : Int) < 60) := by omega
      clear hlt
      rcases hge with hge1 | ⟨hge1, hge2⟩
      all_goals
        go_wp2_with fail
        refine (rawake_any _).mono ?_
        rintro _ W4 ⟨rfl, K4⟩
        have N4 := hid (N.out.quiet K4)
        clear K4
        go_wp2
        go_ret
        exact ⟨rfl, N4.out.2.2.below (fun _ h => h.elim) (Nat.le_refl _)⟩
end Go.Proofs.Ytegpoocmhamlpaa
