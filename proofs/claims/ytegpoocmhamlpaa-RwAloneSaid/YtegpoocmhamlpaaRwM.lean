/- The walk of law 12's does. -/
import Derived.Test.YtegpoocmhamlpaaRwL
namespace Go.Proofs.Ytegpoocmhamlpaa
open Go Go.RowKit

set_option maxRecDepth 10000 in
set_option maxHeartbeats 4000000 in
theorem rdoes_any {w0 w : World} {G1 G2 : Nat → Prop} {b r : Nat} {S : RS} {E : List On} (c t : Int) (hc : (Lit.int .u8 c).wf = true) (h1 : MNew 79 w0 w G1 b (rcs S)) (h2 : MNew 58 w0 w G2 r (tcs E)) (hd : ∀ k, G1 k → ¬ G2 k) (hR : Rel S E) (hA : S.all ≤ 100) :
    Calls Try.prog 34 #[.pointer (some ⟨b, 0, none⟩), .pointer (some ⟨r, 0, none⟩), .agg #[.int .u8 c, .int .i64 t]] w fun en w' => en = .returned (.bool true) ∧ ∃ S' E' G1' G2', (S' = (rdp S t).2.2 ∨ S' = (rtr S t).2 ∨ S' = (rlr S t).2 ∨ S' = (rtw S t).2 ∨ S' = (rlw S t).2 ∨ S' = (rru S t).2.2 ∨ S' = (rwu S t).2.2) ∧ S'.all ≤ S.all + 1 ∧ Rel S' E' ∧ MNew 79 w0 w' G1' b (rcs S') ∧ MNew 58 w0 w' G2' r (tcs E') ∧ ∀ k, G1' k → ¬ G2' k := by
  obtain ⟨Q, hQ, hQ12⟩ := u8_mod c 12 hc (by decide)
  have c0 : 0 ≤ c ∧ c ≤ 255 := by
    simp only [Lit.wf, Bool.and_eq_true, decide_eq_true_eq] at hc
    exact ⟨Int.le_trans (by decide) hc.1, Int.le_trans hc.2 (by decide)⟩
  obtain ⟨c0, c1⟩ := c0
  have hqm : c % 12 = (Q : Int) := by rw [← hQ, Int.tmod_eq_emod_of_nonneg c0]
  have kx : Keep (fun _ => False) w (w.alloc (.cells #[.int .u8 c, .int .i64 t] 61)) := (Keep.refl _ _).alloc _
  have N := hid (h1.quiet kx)
  have R := hid (h2.quiet kx)
  have x1 : (w.alloc (.cells #[.int .u8 c, .int .i64 t] 61)).cell? ⟨w.heap.size, 1, none⟩ = some (.int .i64 t) := by rw [World.cell?_alloc_new]; rfl
  have xl : w.heap.size < (w.alloc (.cells #[.int .u8 c, .int .i64 t] 61)).heap.size := by rw [World.size_alloc]; exact Nat.lt_succ_self _
  have xg : ¬ G1 w.heap.size := fun h => by have := h1.1.2.1 _ h; omega
  have xr : ¬ G2 w.heap.size := fun h => by have := h2.1.2.1 _ h; omega
  have D := hid hd
  have RL := hid hR
  have EL := hid hR.len
  have ls : S.r.length + S.q.length ≤ 1000 ∧ S.w.length ≤ 1000 ∧ S.r.length ≤ 1000 ∧ S.q.length ≤ 1000 ∧ E.length ≤ 1000 := by
    have := hR.len
    simp only [RS.all] at hA this
    omega
  obtain ⟨l1, l2, l3, l4, l5⟩ := ls
  have X1 := hid x1
  clear h1 h2 hd hR x1 kx hc
  rcases (by omega : Q = 0 ∨ Q = 1 ∨ Q = 2 ∨ (Q = 3 ∨ Q = 4) ∨ (Q = 5 ∨ Q = 6) ∨ (Q = 7 ∨ Q = 8) ∨ 9 ≤ Q) with rfl | rfl | rfl | hq | hq | hq | hq
  · obtain ⟨o, e, S', hb0⟩ : ∃ o e S', rdp S t = (o, e, S') := ⟨_, _, _, rfl⟩
    have hq0 := rel_drop RL.out t
    rw [hb0] at hq0
    obtain ⟨q1, q2, q3⟩ := hq0
    obtain ⟨E', hE'⟩ : ∃ E', (tdr E t).2.2 = E' := ⟨_, rfl⟩
    have hw0 : tdr E t = (o, e, E') := Prod.ext q1 (Prod.ext q2 hE')
    rw [hE'] at q3
    have B0 := hid hb0
    have W0 := hid hw0
    have RR := hid q3
    have AL := hid (all_rdp S t)
    rw [hb0] at AL
    clear hb0 hw0 q1 q2 q3 hE'
    go_enter Try.func34, Try.ntmps34
    go_wp2_with fail
    refine (rdrop_any t N.out l1 l2 B0.out).mono ?_
    rintro _ W3 ⟨a3, m3, rfl, R3, K3, G3, N3, J3, Q3⟩
    have y3 := (K3.cell (p := ⟨w.heap.size, 1, none⟩) xl xg).trans X1.out
    have s1 := mstep1 N.out R.out D.out J3 K3
    have QL := hid (fun k hk => (Q3 k hk).2.1 : ∀ k, (Value.slice a3 o.length m3).ownBlock = some k → k < W3.heap.size)
    have QN := hid (fun k hk hg => (Q3 k hk).1.elim (fun h => D.out k h hg) (fun h => by have := R.out.1.2.1 k hg; omega) : ∀ k, (Value.slice a3 o.length m3).ownBlock = some k → ¬ G2 k)
    have R3 := hid R3
    have N3 := hid N3
    have S1 := hid s1.1
    have D1 := hid s1.2
    clear s1 J3 K3 Q3
    go_wp2_with fail
    refine (tdrop_any t S1.out l5 W0.out).mono ?_
    rintro _ W4 ⟨a4, m4, rfl, R4, K4, G4, N4, J4, Q4⟩
    have s2 := mstep2 N3.out S1.out D1.out J4 K4
    have R3' := hid (R3.out.keep K4 fun k hk => QN.out k hk)
    have R4 := hid R4
    have NN := hid s2.1
    have N4 := hid N4
    have DD := hid s2.2
    clear s2 J4 K4 Q4 y3
    go_wp2_with fail
    refine (ints_any R3'.out R4.out).mono ?_
    rintro _ W5 ⟨rfl, K5⟩
    rw [show decide (o = o) = true from decide_eq_true rfl]
    have N5 := hid (NN.out.quiet K5)
    have R5 := hid (N4.out.quiet K5)
    clear K5
    go_wp2
    go_ret
    refine ⟨rfl, S', E', _, _, ?_, AL.out, RR.out, N5.out, R5.out, DD.out⟩
    rw [show S' = (rdp S t).2.2 by rw [B0.out]]
    simp
  · obtain ⟨e0, S', hb0⟩ : ∃ e0 S', rtw S t = (e0, S') := ⟨_, _, rfl⟩
    have hq0 := rel_write RL.out t false
    simp only [Bool.false_eq_true, if_false, if_true] at hq0
    rw [hb0] at hq0
    obtain ⟨q1, q2⟩ := hq0
    obtain ⟨E', hE'⟩ : ∃ E', (wnt E t true false).2 = E' := ⟨_, rfl⟩
    have hw0 : wnt E t true false = (e0, E') := Prod.ext q1 hE'
    rw [hE'] at q2
    have B0 := hid hb0
    have W0 := hid hw0
    have RR := hid q2
    have AL := hid (all_rtw S t)
    rw [hb0] at AL
    clear hb0 hw0 q1 q2 hE'
    go_enter Try.func34, Try.ntmps34
    go_wp2_with fail
    refine wp_region_text [0,0,0,2,0,0,0,2,0,0] (fun W => W.cell? ⟨w.heap.size, 1, none⟩ = some (.int .i64 t)) (by kernel_rfl) (by kernel_rfl) X1.out ?_
    repeat (first
      | (refine' wpT_calm (v := _) (by rfl) (fun W hW => ?_) ?_; rotate_left
         · ((try dsimp only at hW); go_simp; first | done | rfl)
         simp only [Act.put, List.setIfInBounds_toArray, List.set_cons_zero, List.set_cons_succ])
      | (refine' wpT_reads (v := _) (by rfl) ?_ ?_; rotate_left
         · (go_simp; first | done | rfl)
         simp only [Act.put, List.setIfInBounds_toArray, List.set_cons_zero, List.set_cons_succ])
      | (refine wpT_skip (by rfl) rfl ?_; simp only [Act.put, List.setIfInBounds_toArray, List.set_cons_zero, List.set_cons_succ])
      | (refine wpT_does (by rfl) (fun K hK => ?_); go_simp; refine hK _ _ ?_ ?_
         · (trivial)
         clear hK K; try simp only [Act.put, List.setIfInBounds_toArray, List.set_cons_zero, List.set_cons_succ])
      | (refine wpT_last (by rfl) (fun K hK => ?_); go_simp; refine hK _ _ ?_; clear hK K)
      | (refine wpT_nil ?_))
    refine wpT_does (by rfl) (fun K hK => ?_)
    go_simp
    have N1 := N.out.quiet ((Keep.refl _ _).drew)
    have R1 := R.out.quiet ((Keep.refl _ _).drew)
    refine (rtry_any t N1 l3 B0.out).mono ?_
    rintro _ W3 ⟨rfl, G3, N3, J3, K3⟩
    have y3 := (K3.cell (p := ⟨w.heap.size, 1, none⟩) xl xg).trans X1.out
    have KSZ := hid K3.size
    have s1 := mstep1 N1 R1 D.out J3 K3
    have N3' := hid N3
    have S1 := hid s1.1
    have D1 := hid s1.2
    refine hK _ _ y3 ?_
    clear hK K J3 K3 N3 s1 N1 R1
    try simp only [Act.put, List.setIfInBounds_toArray, List.set_cons_zero, List.set_cons_succ]
    repeat (first
      | (refine' wpT_calm (v := _) (by rfl) (fun W hW => ?_) ?_; rotate_left
         · ((try dsimp only at hW); go_simp; first | done | rfl)
         simp only [Act.put, List.setIfInBounds_toArray, List.set_cons_zero, List.set_cons_succ])
      | (refine' wpT_reads (v := _) (by rfl) ?_ ?_; rotate_left
         · (go_simp; first | done | rfl)
         simp only [Act.put, List.setIfInBounds_toArray, List.set_cons_zero, List.set_cons_succ])
      | (refine wpT_skip (by rfl) rfl ?_; simp only [Act.put, List.setIfInBounds_toArray, List.set_cons_zero, List.set_cons_succ])
      | (refine wpT_does (by rfl) (fun K hK => ?_); go_simp; refine hK _ _ ?_ ?_
         · (trivial)
         clear hK K; try simp only [Act.put, List.setIfInBounds_toArray, List.set_cons_zero, List.set_cons_succ])
      | (refine wpT_last (by rfl) (fun K hK => ?_); go_simp; refine hK _ _ ?_; clear hK K)
      | (refine wpT_nil ?_))
    refine wpT_does (by rfl) (fun K hK => ?_)
    go_simp
    refine (twant_any t true false S1.out l5 W0.out).mono ?_
    rintro _ W4 ⟨rfl, G4, N4, J4, K4⟩
    have s2 := mstep2 N3'.out S1.out D1.out J4 K4
    have hx4 : W4.cell? ⟨w.heap.size, 1, none⟩ = some (.int .i64 t) := (K4.cell (p := ⟨w.heap.size, 1, none⟩) (Nat.lt_of_lt_of_le xl (by exact KSZ.out)) xr).trans y3
    have NN := hid s2.1
    have R4 := hid N4
    have DD := hid s2.2
    refine hK _ _ hx4 ?_
    clear hK K J4 K4 N4 s2 hx4 y3 N3' S1 D1 KSZ
    try simp only [Act.put, List.setIfInBounds_toArray, List.set_cons_zero, List.set_cons_succ]
    repeat (first
      | (refine' wpT_calm (v := _) (by rfl) (fun W hW => ?_) ?_; rotate_left
         · ((try dsimp only at hW); go_simp; first | done | rfl)
         simp only [Act.put, List.setIfInBounds_toArray, List.set_cons_zero, List.set_cons_succ])
      | (refine' wpT_reads (v := _) (by rfl) ?_ ?_; rotate_left
         · (go_simp; first | done | rfl)
         simp only [Act.put, List.setIfInBounds_toArray, List.set_cons_zero, List.set_cons_succ])
      | (refine wpT_skip (by rfl) rfl ?_; simp only [Act.put, List.setIfInBounds_toArray, List.set_cons_zero, List.set_cons_succ])
      | (refine wpT_does (by rfl) (fun K hK => ?_); go_simp; refine hK _ _ ?_ ?_
         · (trivial)
         clear hK K; try simp only [Act.put, List.setIfInBounds_toArray, List.set_cons_zero, List.set_cons_succ])
      | (refine wpT_last (by rfl) (fun K hK => ?_); go_simp; refine hK _ _ ?_; clear hK K)
      | (refine wpT_nil ?_))
    go_wp2
    go_ret
    refine ⟨rfl, S', E', _, _, ?_, AL.out, RR.out, NN.out, R4.out, DD.out⟩
    rw [show S' = (rtw S t).2 by rw [B0.out]]
    simp
  · obtain ⟨e0, S', hb0⟩ : ∃ e0 S', rtr S t = (e0, S') := ⟨_, _, rfl⟩
    have hq0 := rel_read RL.out t false
    simp only [Bool.false_eq_true, if_false, if_true] at hq0
    rw [hb0] at hq0
    obtain ⟨q1, q2⟩ := hq0
    obtain ⟨E', hE'⟩ : ∃ E', (wnt E t false false).2 = E' := ⟨_, rfl⟩
    have hw0 : wnt E t false false = (e0, E') := Prod.ext q1 hE'
    rw [hE'] at q2
    have B0 := hid hb0
    have W0 := hid hw0
    have RR := hid q2
    have AL := hid (all_rtr S t)
    rw [hb0] at AL
    clear hb0 hw0 q1 q2 hE'
    go_enter Try.func34, Try.ntmps34
    go_wp2_with fail
    refine wp_region_text [0,0,0,2,0,0,0,2,0,0] (fun W => W.cell? ⟨w.heap.size, 1, none⟩ = some (.int .i64 t)) (by kernel_rfl) (by kernel_rfl) X1.out ?_
    repeat (first
      | (refine' wpT_calm (v := _) (by rfl) (fun W hW => ?_) ?_; rotate_left
         · ((try dsimp only at hW); go_simp; first | done | rfl)
         simp only [Act.put, List.setIfInBounds_toArray, List.set_cons_zero, List.set_cons_succ])
      | (refine' wpT_reads (v := _) (by rfl) ?_ ?_; rotate_left
         · (go_simp; first | done | rfl)
         simp only [Act.put, List.setIfInBounds_toArray, List.set_cons_zero, List.set_cons_succ])
      | (refine wpT_skip (by rfl) rfl ?_; simp only [Act.put, List.setIfInBounds_toArray, List.set_cons_zero, List.set_cons_succ])
      | (refine wpT_does (by rfl) (fun K hK => ?_); go_simp; refine hK _ _ ?_ ?_
         · (trivial)
         clear hK K; try simp only [Act.put, List.setIfInBounds_toArray, List.set_cons_zero, List.set_cons_succ])
      | (refine wpT_last (by rfl) (fun K hK => ?_); go_simp; refine hK _ _ ?_; clear hK K)
      | (refine wpT_nil ?_))
    refine wpT_does (by rfl) (fun K hK => ?_)
    go_simp
    have N1 := N.out.quiet ((Keep.refl _ _).drew)
    have R1 := R.out.quiet ((Keep.refl _ _).drew)
    refine (rtryr_any t N1 l3 B0.out).mono ?_
    rintro _ W3 ⟨rfl, G3, N3, J3, K3⟩
    have y3 := (K3.cell (p := ⟨w.heap.size, 1, none⟩) xl xg).trans X1.out
    have KSZ := hid K3.size
    have s1 := mstep1 N1 R1 D.out J3 K3
    have N3' := hid N3
    have S1 := hid s1.1
    have D1 := hid s1.2
    refine hK _ _ y3 ?_
    clear hK K J3 K3 N3 s1 N1 R1
    try simp only [Act.put, List.setIfInBounds_toArray, List.set_cons_zero, List.set_cons_succ]
    repeat (first
      | (refine' wpT_calm (v := _) (by rfl) (fun W hW => ?_) ?_; rotate_left
         · ((try dsimp only at hW); go_simp; first | done | rfl)
         simp only [Act.put, List.setIfInBounds_toArray, List.set_cons_zero, List.set_cons_succ])
      | (refine' wpT_reads (v := _) (by rfl) ?_ ?_; rotate_left
         · (go_simp; first | done | rfl)
         simp only [Act.put, List.setIfInBounds_toArray, List.set_cons_zero, List.set_cons_succ])
      | (refine wpT_skip (by rfl) rfl ?_; simp only [Act.put, List.setIfInBounds_toArray, List.set_cons_zero, List.set_cons_succ])
      | (refine wpT_does (by rfl) (fun K hK => ?_); go_simp; refine hK _ _ ?_ ?_
         · (trivial)
         clear hK K; try simp only [Act.put, List.setIfInBounds_toArray, List.set_cons_zero, List.set_cons_succ])
      | (refine wpT_last (by rfl) (fun K hK => ?_); go_simp; refine hK _ _ ?_; clear hK K)
      | (refine wpT_nil ?_))
    refine wpT_does (by rfl) (fun K hK => ?_)
    go_simp
    refine (twant_any t false false S1.out l5 W0.out).mono ?_
    rintro _ W4 ⟨rfl, G4, N4, J4, K4⟩
    have s2 := mstep2 N3'.out S1.out D1.out J4 K4
    have hx4 : W4.cell? ⟨w.heap.size, 1, none⟩ = some (.int .i64 t) := (K4.cell (p := ⟨w.heap.size, 1, none⟩) (Nat.lt_of_lt_of_le xl (by exact KSZ.out)) xr).trans y3
    have NN := hid s2.1
    have R4 := hid N4
    have DD := hid s2.2
    refine hK _ _ hx4 ?_
    clear hK K J4 K4 N4 s2 hx4 y3 N3' S1 D1 KSZ
    try simp only [Act.put, List.setIfInBounds_toArray, List.set_cons_zero, List.set_cons_succ]
    repeat (first
      | (refine' wpT_calm (v := _) (by rfl) (fun W hW => ?_) ?_; rotate_left
         · ((try dsimp only at hW); go_simp; first | done | rfl)
         simp only [Act.put, List.setIfInBounds_toArray, List.set_cons_zero, List.set_cons_succ])
      | (refine' wpT_reads (v := _) (by rfl) ?_ ?_; rotate_left
         · (go_simp; first | done | rfl)
         simp only [Act.put, List.setIfInBounds_toArray, List.set_cons_zero, List.set_cons_succ])
      | (refine wpT_skip (by rfl) rfl ?_; simp only [Act.put, List.setIfInBounds_toArray, List.set_cons_zero, List.set_cons_succ])
      | (refine wpT_does (by rfl) (fun K hK => ?_); go_simp; refine hK _ _ ?_ ?_
         · (trivial)
         clear hK K; try simp only [Act.put, List.setIfInBounds_toArray, List.set_cons_zero, List.set_cons_succ])
      | (refine wpT_last (by rfl) (fun K hK => ?_); go_simp; refine hK _ _ ?_; clear hK K)
      | (refine wpT_nil ?_))
    go_wp2
    go_ret
    refine ⟨rfl, S', E', _, _, ?_, AL.out, RR.out, NN.out, R4.out, DD.out⟩
    rw [show S' = (rtr S t).2 by rw [B0.out]]
    simp
  · rcases hq with rfl | rfl
    all_goals
      obtain ⟨e0, S', hb0⟩ : ∃ e0 S', rlw S t = (e0, S') := ⟨_, _, rfl⟩
      have hq0 := rel_write RL.out t true
      simp only [Bool.false_eq_true, if_false, if_true] at hq0
      rw [hb0] at hq0
      obtain ⟨q1, q2⟩ := hq0
      obtain ⟨E', hE'⟩ : ∃ E', (wnt E t true true).2 = E' := ⟨_, rfl⟩
      have hw0 : wnt E t true true = (e0, E') := Prod.ext q1 hE'
      rw [hE'] at q2
      have B0 := hid hb0
      have W0 := hid hw0
      have RR := hid q2
      have AL := hid (all_rlw S t)
      rw [hb0] at AL
      clear hb0 hw0 q1 q2 hE'
      go_enter Try.func34, Try.ntmps34
      go_wp2_with fail
      refine wp_region_text [0,0,0,2,0,0,0,2,0,0] (fun W => W.cell? ⟨w.heap.size, 1, none⟩ = some (.int .i64 t)) (by kernel_rfl) (by kernel_rfl) X1.out ?_
      repeat (first
        | (refine' wpT_calm (v := _) (by rfl) (fun W hW => ?_) ?_; rotate_left
           · ((try dsimp only at hW); go_simp; first | done | rfl)
           simp only [Act.put, List.setIfInBounds_toArray, List.set_cons_zero, List.set_cons_succ])
        | (refine' wpT_reads (v := _) (by rfl) ?_ ?_; rotate_left
           · (go_simp; first | done | rfl)
           simp only [Act.put, List.setIfInBounds_toArray, List.set_cons_zero, List.set_cons_succ])
        | (refine wpT_skip (by rfl) rfl ?_; simp only [Act.put, List.setIfInBounds_toArray, List.set_cons_zero, List.set_cons_succ])
        | (refine wpT_does (by rfl) (fun K hK => ?_); go_simp; refine hK _ _ ?_ ?_
           · (trivial)
           clear hK K; try simp only [Act.put, List.setIfInBounds_toArray, List.set_cons_zero, List.set_cons_succ])
        | (refine wpT_last (by rfl) (fun K hK => ?_); go_simp; refine hK _ _ ?_; clear hK K)
        | (refine wpT_nil ?_))
      refine wpT_does (by rfl) (fun K hK => ?_)
      go_simp
      have N1 := N.out.quiet ((Keep.refl _ _).drew)
      have R1 := R.out.quiet ((Keep.refl _ _).drew)
      refine (rlock_any t N1 l3 l2 B0.out).mono ?_
      rintro _ W3 ⟨rfl, G3, N3, J3, K3⟩
      have y3 := (K3.cell (p := ⟨w.heap.size, 1, none⟩) xl xg).trans X1.out
      have KSZ := hid K3.size
      have s1 := mstep1 N1 R1 D.out J3 K3
      have N3' := hid N3
      have S1 := hid s1.1
      have D1 := hid s1.2
      refine hK _ _ y3 ?_
      clear hK K J3 K3 N3 s1 N1 R1
      try simp only [Act.put, List.setIfInBounds_toArray, List.set_cons_zero, List.set_cons_succ]
      repeat (first
        | (refine' wpT_calm (v := _) (by rfl) (fun W hW => ?_) ?_; rotate_left
           · ((try dsimp only at hW); go_simp; first | done | rfl)
           simp only [Act.put, List.setIfInBounds_toArray, List.set_cons_zero, List.set_cons_succ])
        | (refine' wpT_reads (v := _) (by rfl) ?_ ?_; rotate_left
           · (go_simp; first | done | rfl)
           simp only [Act.put, List.setIfInBounds_toArray, List.set_cons_zero, List.set_cons_succ])
        | (refine wpT_skip (by rfl) rfl ?_; simp only [Act.put, List.setIfInBounds_toArray, List.set_cons_zero, List.set_cons_succ])
        | (refine wpT_does (by rfl) (fun K hK => ?_); go_simp; refine hK _ _ ?_ ?_
           · (trivial)
           clear hK K; try simp only [Act.put, List.setIfInBounds_toArray, List.set_cons_zero, List.set_cons_succ])
        | (refine wpT_last (by rfl) (fun K hK => ?_); go_simp; refine hK _ _ ?_; clear hK K)
        | (refine wpT_nil ?_))
      refine wpT_does (by rfl) (fun K hK => ?_)
      go_simp
      refine (twant_any t true true S1.out l5 W0.out).mono ?_
      rintro _ W4 ⟨rfl, G4, N4, J4, K4⟩
      have s2 := mstep2 N3'.out S1.out D1.out J4 K4
      have hx4 : W4.cell? ⟨w.heap.size, 1, none⟩ = some (.int .i64 t) := (K4.cell (p := ⟨w.heap.size, 1, none⟩) (Nat.lt_of_lt_of_le xl (by exact KSZ.out)) xr).trans y3
      have NN := hid s2.1
      have R4 := hid N4
      have DD := hid s2.2
      refine hK _ _ hx4 ?_
      clear hK K J4 K4 N4 s2 hx4 y3 N3' S1 D1 KSZ
      try simp only [Act.put, List.setIfInBounds_toArray, List.set_cons_zero, List.set_cons_succ]
      repeat (first
        | (refine' wpT_calm (v := _) (by rfl) (fun W hW => ?_) ?_; rotate_left
           · ((try dsimp only at hW); go_simp; first | done | rfl)
           simp only [Act.put, List.setIfInBounds_toArray, List.set_cons_zero, List.set_cons_succ])
        | (refine' wpT_reads (v := _) (by rfl) ?_ ?_; rotate_left
           · (go_simp; first | done | rfl)
           simp only [Act.put, List.setIfInBounds_toArray, List.set_cons_zero, List.set_cons_succ])
        | (refine wpT_skip (by rfl) rfl ?_; simp only [Act.put, List.setIfInBounds_toArray, List.set_cons_zero, List.set_cons_succ])
        | (refine wpT_does (by rfl) (fun K hK => ?_); go_simp; refine hK _ _ ?_ ?_
           · (trivial)
           clear hK K; try simp only [Act.put, List.setIfInBounds_toArray, List.set_cons_zero, List.set_cons_succ])
        | (refine wpT_last (by rfl) (fun K hK => ?_); go_simp; refine hK _ _ ?_; clear hK K)
        | (refine wpT_nil ?_))
      go_wp2
      go_ret
      refine ⟨rfl, S', E', _, _, ?_, AL.out, RR.out, NN.out, R4.out, DD.out⟩
      rw [show S' = (rlw S t).2 by rw [B0.out]]
      simp
  · rcases hq with rfl | rfl
    all_goals
      obtain ⟨o, e, S', hb0⟩ : ∃ o e S', rwu S t = (o, e, S') := ⟨_, _, _, rfl⟩
      have hq0 := rel_wgive RL.out t
      rw [hb0] at hq0
      obtain ⟨q1, q2, q3⟩ := hq0
      obtain ⟨E', hE'⟩ : ∃ E', (tgv E t true).2.2 = E' := ⟨_, rfl⟩
      have hw0 : tgv E t true = (o, e, E') := Prod.ext q1 (Prod.ext q2 hE')
      rw [hE'] at q3
      have B0 := hid hb0
      have W0 := hid hw0
      have RR := hid q3
      have AL := hid (all_rwu S t)
      rw [hb0] at AL
      clear hb0 hw0 q1 q2 q3 hE'
      go_enter Try.func34, Try.ntmps34
      go_wp2_with fail
      refine (runlock_any t N.out l1 l2 B0.out).mono ?_
      rintro _ W3 ⟨a3, m3, rfl, R3, K3, G3, N3, J3, Q3⟩
      have y3 := (K3.cell (p := ⟨w.heap.size, 1, none⟩) xl xg).trans X1.out
      have s1 := mstep1 N.out R.out D.out J3 K3
      have QL := hid (fun k hk => (Q3 k hk).2.1 : ∀ k, (Value.slice a3 o.length m3).ownBlock = some k → k < W3.heap.size)
      have QN := hid (fun k hk hg => (Q3 k hk).1.elim (fun h => D.out k h hg) (fun h => by have := R.out.1.2.1 k hg; omega) : ∀ k, (Value.slice a3 o.length m3).ownBlock = some k → ¬ G2 k)
      have R3 := hid R3
      have N3 := hid N3
      have S1 := hid s1.1
      have D1 := hid s1.2
      clear s1 J3 K3 Q3
      go_wp2_with fail
      refine (tgive_any t true S1.out l5 W0.out).mono ?_
      rintro _ W4 ⟨a4, m4, rfl, R4, K4, G4, N4, J4, Q4⟩
      have s2 := mstep2 N3.out S1.out D1.out J4 K4
      have R3' := hid (R3.out.keep K4 fun k hk => QN.out k hk)
      have R4 := hid R4
      have NN := hid s2.1
      have N4 := hid N4
      have DD := hid s2.2
      clear s2 J4 K4 Q4 y3
      go_wp2_with fail
      refine (ints_any R3'.out R4.out).mono ?_
      rintro _ W5 ⟨rfl, K5⟩
      rw [show decide (o = o) = true from decide_eq_true rfl]
      have N5 := hid (NN.out.quiet K5)
      have R5 := hid (N4.out.quiet K5)
      clear K5
      go_wp2
      go_ret
      refine ⟨rfl, S', E', _, _, ?_, AL.out, RR.out, N5.out, R5.out, DD.out⟩
      rw [show S' = (rwu S t).2.2 by rw [B0.out]]
      simp
  · rcases hq with rfl | rfl
    all_goals
      obtain ⟨o, e, S', hb0⟩ : ∃ o e S', rru S t = (o, e, S') := ⟨_, _, _, rfl⟩
      have hq0 := rel_rgive RL.out t
      rw [hb0] at hq0
      obtain ⟨q1, q2, q3⟩ := hq0
      obtain ⟨E', hE'⟩ : ∃ E', (tgv E t false).2.2 = E' := ⟨_, rfl⟩
      have hw0 : tgv E t false = (o, e, E') := Prod.ext q1 (Prod.ext q2 hE')
      rw [hE'] at q3
      have B0 := hid hb0
      have W0 := hid hw0
      have RR := hid q3
      have AL := hid (all_rru S t)
      rw [hb0] at AL
      clear hb0 hw0 q1 q2 q3 hE'
      go_enter Try.func34, Try.ntmps34
      go_wp2_with fail
      refine (rrunlock_any t N.out l1 l2 B0.out).mono ?_
      rintro _ W3 ⟨a3, m3, rfl, R3, K3, G3, N3, J3, Q3⟩
      have y3 := (K3.cell (p := ⟨w.heap.size, 1, none⟩) xl xg).trans X1.out
      have s1 := mstep1 N.out R.out D.out J3 K3
      have QL := hid (fun k hk => (Q3 k hk).2.1 : ∀ k, (Value.slice a3 o.length m3).ownBlock = some k → k < W3.heap.size)
      have QN := hid (fun k hk hg => (Q3 k hk).1.elim (fun h => D.out k h hg) (fun h => by have := R.out.1.2.1 k hg; omega) : ∀ k, (Value.slice a3 o.length m3).ownBlock = some k → ¬ G2 k)
      have R3 := hid R3
      have N3 := hid N3
      have S1 := hid s1.1
      have D1 := hid s1.2
      clear s1 J3 K3 Q3
      go_wp2_with fail
      refine (tgive_any t false S1.out l5 W0.out).mono ?_
      rintro _ W4 ⟨a4, m4, rfl, R4, K4, G4, N4, J4, Q4⟩
      have s2 := mstep2 N3.out S1.out D1.out J4 K4
      have R3' := hid (R3.out.keep K4 fun k hk => QN.out k hk)
      have R4 := hid R4
      have NN := hid s2.1
      have N4 := hid N4
      have DD := hid s2.2
      clear s2 J4 K4 Q4 y3
      go_wp2_with fail
      refine (ints_any R3'.out R4.out).mono ?_
      rintro _ W5 ⟨rfl, K5⟩
      rw [show decide (o = o) = true from decide_eq_true rfl]
      have N5 := hid (NN.out.quiet K5)
      have R5 := hid (N4.out.quiet K5)
      clear K5
      go_wp2
      go_ret
      refine ⟨rfl, S', E', _, _, ?_, AL.out, RR.out, N5.out, R5.out, DD.out⟩
      rw [show S' = (rru S t).2.2 by rw [B0.out]]
      simp
  · have q0 : ((Q : Int) == 0) = false := by simp; omega
    have q1 : ((Q : Int) == 1) = false := by simp; omega
    have q2 : ((Q : Int) == 2) = false := by simp; omega
    have q3 : ((Q : Int) == 3) = false := by simp; omega
    have q4 : ((Q : Int) == 4) = false := by simp; omega
    have q5 : ((Q : Int) == 5) = false := by simp; omega
    have q6 : ((Q : Int) == 6) = false := by simp; omega
    have q7 : ((Q : Int) == 7) = false := by simp; omega
    have q8 : ((Q : Int) == 8) = false := by simp; omega
    obtain ⟨e0, S', hb0⟩ : ∃ e0 S', rlr S t = (e0, S') := ⟨_, _, rfl⟩
    have hq0 := rel_read RL.out t true
    simp only [Bool.false_eq_true, if_false, if_true] at hq0
    rw [hb0] at hq0
    obtain ⟨q1, q2⟩ := hq0
    obtain ⟨E', hE'⟩ : ∃ E', (wnt E t false true).2 = E' := ⟨_, rfl⟩
    have hw0 : wnt E t false true = (e0, E') := Prod.ext q1 hE'
    rw [hE'] at q2
    have B0 := hid hb0
    have W0 := hid hw0
    have RR := hid q2
    have AL := hid (all_rlr S t)
    rw [hb0] at AL
    clear hb0 hw0 q1 q2 hE'
    go_enter Try.func34, Try.ntmps34
    go_wp2_with fail
    refine wp_region_text [0,0,0,2,0,0,0,2,0,0] (fun W => W.cell? ⟨w.heap.size, 1, none⟩ = some (.int .i64 t)) (by kernel_rfl) (by kernel_rfl) X1.out ?_
    repeat (first
      | (refine' wpT_calm (v := _) (by rfl) (fun W hW => ?_) ?_; rotate_left
         · ((try dsimp only at hW); go_simp; first | done | rfl)
         simp only [Act.put, List.setIfInBounds_toArray, List.set_cons_zero, List.set_cons_succ])
      | (refine' wpT_reads (v := _) (by rfl) ?_ ?_; rotate_left
         · (go_simp; first | done | rfl)
         simp only [Act.put, List.setIfInBounds_toArray, List.set_cons_zero, List.set_cons_succ])
      | (refine wpT_skip (by rfl) rfl ?_; simp only [Act.put, List.setIfInBounds_toArray, List.set_cons_zero, List.set_cons_succ])
      | (refine wpT_does (by rfl) (fun K hK => ?_); go_simp; refine hK _ _ ?_ ?_
         · (trivial)
         clear hK K; try simp only [Act.put, List.setIfInBounds_toArray, List.set_cons_zero, List.set_cons_succ])
      | (refine wpT_last (by rfl) (fun K hK => ?_); go_simp; refine hK _ _ ?_; clear hK K)
      | (refine wpT_nil ?_))
    refine wpT_does (by rfl) (fun K hK => ?_)
    go_simp
    have N1 := N.out.quiet ((Keep.refl _ _).drew)
    have R1 := R.out.quiet ((Keep.refl _ _).drew)
    refine (rrlock_any t N1 l3 l4 B0.out).mono ?_
    rintro _ W3 ⟨rfl, G3, N3, J3, K3⟩
    have y3 := (K3.cell (p := ⟨w.heap.size, 1, none⟩) xl xg).trans X1.out
    have KSZ := hid K3.size
    have s1 := mstep1 N1 R1 D.out J3 K3
    have N3' := hid N3
    have S1 := hid s1.1
    have D1 := hid s1.2
    refine hK _ _ y3 ?_
    clear hK K J3 K3 N3 s1 N1 R1
    try simp only [Act.put, List.setIfInBounds_toArray, List.set_cons_zero, List.set_cons_succ]
    repeat (first
      | (refine' wpT_calm (v := _) (by rfl) (fun W hW => ?_) ?_; rotate_left
         · ((try dsimp only at hW); go_simp; first | done | rfl)
         simp only [Act.put, List.setIfInBounds_toArray, List.set_cons_zero, List.set_cons_succ])
      | (refine' wpT_reads (v := _) (by rfl) ?_ ?_; rotate_left
         · (go_simp; first | done | rfl)
         simp only [Act.put, List.setIfInBounds_toArray, List.set_cons_zero, List.set_cons_succ])
      | (refine wpT_skip (by rfl) rfl ?_; simp only [Act.put, List.setIfInBounds_toArray, List.set_cons_zero, List.set_cons_succ])
      | (refine wpT_does (by rfl) (fun K hK => ?_); go_simp; refine hK _ _ ?_ ?_
         · (trivial)
         clear hK K; try simp only [Act.put, List.setIfInBounds_toArray, List.set_cons_zero, List.set_cons_succ])
      | (refine wpT_last (by rfl) (fun K hK => ?_); go_simp; refine hK _ _ ?_; clear hK K)
      | (refine wpT_nil ?_))
    refine wpT_does (by rfl) (fun K hK => ?_)
    go_simp
    refine (twant_any t false true S1.out l5 W0.out).mono ?_
    rintro _ W4 ⟨rfl, G4, N4, J4, K4⟩
    have s2 := mstep2 N3'.out S1.out D1.out J4 K4
    have hx4 : W4.cell? ⟨w.heap.size, 1, none⟩ = some (.int .i64 t) := (K4.cell (p := ⟨w.heap.size, 1, none⟩) (Nat.lt_of_lt_of_le xl (by exact KSZ.out)) xr).trans y3
    have NN := hid s2.1
    have R4 := hid N4
    have DD := hid s2.2
    refine hK _ _ hx4 ?_
    clear hK K J4 K4 N4 s2 hx4 y3 N3' S1 D1 KSZ
    try simp only [Act.put, List.setIfInBounds_toArray, List.set_cons_zero, List.set_cons_succ]
    repeat (first
      | (refine' wpT_calm (v := _) (by rfl) (fun W hW => ?_) ?_; rotate_left
         · ((try dsimp only at hW); go_simp; first | done | rfl)
         simp only [Act.put, List.setIfInBounds_toArray, List.set_cons_zero, List.set_cons_succ])
      | (refine' wpT_reads (v := _) (by rfl) ?_ ?_; rotate_left
         · (go_simp; first | done | rfl)
         simp only [Act.put, List.setIfInBounds_toArray, List.set_cons_zero, List.set_cons_succ])
      | (refine wpT_skip (by rfl) rfl ?_; simp only [Act.put, List.setIfInBounds_toArray, List.set_cons_zero, List.set_cons_succ])
      | (refine wpT_does (by rfl) (fun K hK => ?_); go_simp; refine hK _ _ ?_ ?_
         · (trivial)
         clear hK K; try simp only [Act.put, List.setIfInBounds_toArray, List.set_cons_zero, List.set_cons_succ])
      | (refine wpT_last (by rfl) (fun K hK => ?_); go_simp; refine hK _ _ ?_; clear hK K)
      | (refine wpT_nil ?_))
    go_wp2
    go_ret
    refine ⟨rfl, S', E', _, _, ?_, AL.out, RR.out, NN.out, R4.out, DD.out⟩
    rw [show S' = (rlr S t).2 by rw [B0.out]]
    simp
end Go.Proofs.Ytegpoocmhamlpaa
