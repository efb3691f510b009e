/- The walk of law 13's does. -/
import Derived.Test.YtegpoocmhamlpaaSmL
namespace Go.Proofs.Ytegpoocmhamlpaa
open Go Go.RowKit

theorem srv_good {z : Int} : ∀ (l : List (Int × Int)) (f : Int), SGood ⟨z, f, l⟩ → SGood ⟨z, (srv f l).2.1, (srv f l).2.2⟩ ∧ (srv f l).2.2.length ≤ l.length
  | [], f, h => ⟨h, Nat.le_refl _⟩
  | p :: l, f, h => by
    by_cases hp : p.2 ≤ f
    · rw [srv_cons_yes hp]
      have hp1 := (h.l p (by simp)).2.1
      have := srv_good l (f - p.2) ⟨h.s1, h.s16, by show 0 ≤ f - p.2; omega, by have h1 : f ≤ z := h.f1; show f - p.2 ≤ z; omega, fun q hq => h.l q (List.mem_cons_of_mem _ hq)⟩
      exact ⟨this.1, Nat.le_trans this.2 (by simp)⟩
    · rw [srv_cons_no hp]
      exact ⟨h, Nat.le_refl _⟩

theorem good_mtr {S : SS} (h : SGood S) (t n : Int) : SGood (mtr S t n).2 ∧ (mtr S t n).2.l.length ≤ S.l.length + 1 := by
  unfold mtr
  split
  · exact ⟨h, Nat.le_succ _⟩
  rename_i hb
  split
  · exact ⟨h, Nat.le_succ _⟩
  split
  · exact ⟨h, Nat.le_succ _⟩
  · rename_i hc
    have hf : ¬ n > S.free := fun e => hc (.inr e)
    exact ⟨⟨h.s1, h.s16, by show 0 ≤ S.free - n; omega, by have := h.f1; show S.free - n ≤ S.size; omega, h.l⟩, by show S.l.length ≤ _; omega⟩
theorem good_maq {S : SS} (h : SGood S) (t n : Int) : SGood (maq S t n).2 ∧ (maq S t n).2.l.length ≤ S.l.length + 1 := by
  unfold maq
  split
  · rename_i he
    have hb : ¬ (t < 1 ∨ n < 1 ∨ n > S.size) := fun hb => by
      have : mtr S t n = (1, S) := by unfold mtr; rw [if_pos hb]
      rw [this] at he; cases he
    refine ⟨⟨h.s1, h.s16, h.f0, h.f1, fun p hp => ?_⟩, by simp⟩
    rcases List.mem_append.1 hp with hp | hp
    · exact h.l p hp
    · obtain rfl := List.mem_singleton.1 hp
      exact ⟨by show 1 ≤ t; omega, by show 1 ≤ n; omega, by show n ≤ S.size; omega⟩
  · exact good_mtr h t n
theorem good_mrl {S : SS} (h : SGood S) (n : Int) : SGood (mrl S n).2.2 ∧ (mrl S n).2.2.l.length ≤ S.l.length + 1 := by
  unfold mrl
  split
  · exact ⟨h, Nat.le_succ _⟩
  split
  · exact ⟨h, Nat.le_succ _⟩
  · rename_i h1 h2
    have := srv_good S.l (S.free + n) (z := S.size) ⟨h.s1, h.s16, by have := h.f0; show 0 ≤ S.free + n; omega, by show S.free + n ≤ S.size; omega, h.l⟩
    exact ⟨this.1, Nat.le_trans this.2 (by omega)⟩
theorem good_mdp {S : SS} (h : SGood S) (t : Int) : SGood (mdp S t).2.2 ∧ (mdp S t).2.2.l.length ≤ S.l.length + 1 := by
  unfold mdp
  split
  · have := srv_good (S.l.eraseIdx (S.who.idxOf t)) S.free (z := S.size) ⟨h.s1, h.s16, h.f0, h.f1, fun p hp => h.l p (List.mem_of_mem_eraseIdx hp)⟩
    exact ⟨this.1, Nat.le_trans this.2 (Nat.le_trans (List.length_eraseIdx_le _ _) (by omega))⟩
  · exact ⟨h, Nat.le_succ _⟩

theorem size_mtr (S : SS) (t n : Int) : (mtr S t n).2.size = S.size := by
  unfold mtr
  split
  · rfl
  split
  · rfl
  split <;> rfl
theorem size_maq (S : SS) (t n : Int) : (maq S t n).2.size = S.size := by
  unfold maq
  split
  · rfl
  · exact size_mtr S t n
theorem size_mrl (S : SS) (n : Int) : (mrl S n).2.2.size = S.size := by
  unfold mrl
  split
  · rfl
  split <;> rfl
theorem size_mdp (S : SS) (t : Int) : (mdp S t).2.2.size = S.size := by unfold mdp; split <;> rfl

section
variable {T T2 : Nat} {w W W3 : World} {b r : Nat} {cs cs2 : List Cel} {G1 G2 G3 : Nat → Prop}
theorem sstep1 (h1 : MNew T w W G1 b cs) (h2 : MNew T2 w W G2 r cs2) (hd : ∀ k, G1 k → ¬ G2 k) (J : ∀ k, G3 k → G1 k ∨ W.heap.size ≤ k) (K : Keep G1 W W3) :
    MNew T2 w W3 G2 r cs2 ∧ ∀ k, G3 k → ¬ G2 k :=
  ⟨h2.keep K fun k hk => ⟨h1.2.1 k hk, hd k hk⟩, fun k hk hg => (J k hk).elim (fun h => hd k h hg) (fun h => by have := h2.1.2.1 k hg; omega)⟩
theorem sstep2 (h1 : MNew T w W G1 b cs) (h2 : MNew T2 w W G2 r cs2) (hd : ∀ k, G1 k → ¬ G2 k) (J : ∀ k, G3 k → G2 k ∨ W.heap.size ≤ k) (K : Keep G2 W W3) :
    MNew T w W3 G1 b cs ∧ ∀ k, G1 k → ¬ G3 k :=
  ⟨h1.keep K fun k hk => ⟨h2.2.1 k hk, fun h => hd k h hk⟩, fun k hk hg => (J k hg).elim (fun h => hd k hk h) (fun h => by have := h1.1.2.1 k hk; omega)⟩
end

set_option maxRecDepth 10000 in
set_option maxHeartbeats 4000000 in
theorem sdoes_any {w0 w : World} {G1 G2 : Nat → Prop} {b r : Nat} {S : SS} (c t n : Int) (hc : (Lit.int .u8 c).wf = true) (h1 : MNew 69 w0 w G1 b (scs S)) (h2 : MNew 46 w0 w G2 r (rscs S)) (hd : ∀ k, G1 k → ¬ G2 k) (hG : SGood S) (hA : S.l.length ≤ 100) :
    Calls Try.prog 21 #[.pointer (some ⟨b, 0, none⟩), .pointer (some ⟨r, 0, none⟩), .agg #[.int .u8 c, .int .i64 t, .int .i64 n]] w fun en w' => en = .returned (.bool true) ∧ ∃ S' G1' G2', SGood S' ∧ S'.size = S.size ∧ S'.l.length ≤ S.l.length + 1 ∧ MNew 69 w0 w' G1' b (scs S') ∧ MNew 46 w0 w' G2' r (rscs S') ∧ ∀ k, G1' k → ¬ G2' k := by
  obtain ⟨Q, hQ, hQ12⟩ := u8_mod c 8 hc (by decide)
  have c0 : 0 ≤ c ∧ c ≤ 255 := by
    simp only [Lit.wf, Bool.and_eq_true, decide_eq_true_eq] at hc
    exact ⟨Int.le_trans (by decide) hc.1, Int.le_trans hc.2 (by decide)⟩
  obtain ⟨c0, c1⟩ := c0
  have hqm : c % 8 = (Q : Int) := by rw [← hQ, Int.tmod_eq_emod_of_nonneg c0]
  have kx : Keep (fun _ => False) w (w.alloc (.cells #[.int .u8 c, .int .i64 t, .int .i64 n] 36)) := (Keep.refl _ _).alloc _
  have N := hid (h1.quiet kx)
  have R := hid (h2.quiet kx)
  have x1 : (w.alloc (.cells #[.int .u8 c, .int .i64 t, .int .i64 n] 36)).cell? ⟨w.heap.size, 1, none⟩ = some (.int .i64 t) := by rw [World.cell?_alloc_new]; rfl
  have x2 : (w.alloc (.cells #[.int .u8 c, .int .i64 t, .int .i64 n] 36)).cell? ⟨w.heap.size, 2, none⟩ = some (.int .i64 n) := by rw [World.cell?_alloc_new]; rfl
  have xl : w.heap.size < (w.alloc (.cells #[.int .u8 c, .int .i64 t, .int .i64 n] 36)).heap.size := by rw [World.size_alloc]; exact Nat.lt_succ_self _
  have xg : ¬ G1 w.heap.size := fun h => by have := h1.1.2.1 _ h; omega
  have xr : ¬ G2 w.heap.size := fun h => by have := h2.1.2.1 _ h; omega
  have D := hid hd
  have GD := hid hG
  have l1 : S.l.length ≤ 1000 := by omega
  have l9 : S.l.length ≤ 900 := by omega
  have X1 := hid x1
  have X2 := hid x2
  clear h1 h2 hd hG x1 x2 kx hc
  rcases (by omega : Q = 0 ∨ Q = 1 ∨ (Q = 2 ∨ Q = 3 ∨ Q = 4) ∨ 5 ≤ Q) with rfl | rfl | hq | hq
  · obtain ⟨o, e, S', hb0⟩ : ∃ o e S', mdp S t = (o, e, S') := ⟨_, _, _, rfl⟩
    have B0 := hid hb0
    have AL := hid (good_mdp GD.out t)
    rw [hb0] at AL
    have SZ := hid (size_mdp S t)
    rw [hb0] at SZ
    have X1o := X1.out
    have X2o := X2.out
    clear hb0
    go_enter Try.func21, Try.ntmps21
    go_wp2_with fail
    refine (mdrop_any t N.out GD.out l1 B0.out).mono ?_
    rintro _ W3 ⟨a3, m3, rfl, R3, K3, G3, N3, J3, Q3⟩
    have y3 := (K3.cell (p := ⟨w.heap.size, 1, none⟩) xl xg).trans X1.out
    have z3 := (K3.cell (p := ⟨w.heap.size, 2, none⟩) xl xg).trans X2.out
    have s1 := sstep1 N.out R.out D.out J3 K3
    have QL := hid (fun k hk => (Q3 k hk).2.1 : ∀ k, (Value.slice a3 o.length m3).ownBlock = some k → k < W3.heap.size)
    have QN := hid (fun k hk hg => (Q3 k hk).1.elim (fun h => D.out k h hg) (fun h => by have := R.out.1.2.1 k hg; omega) : ∀ k, (Value.slice a3 o.length m3).ownBlock = some k → ¬ G2 k)
    have R3 := hid R3
    have N3 := hid N3
    have S1 := hid s1.1
    have D1 := hid s1.2
    clear s1 J3 K3 Q3
    go_wp2_with fail
    refine (sdrop_any t S1.out GD.out l9 B0.out).mono ?_
    rintro _ W4 ⟨a4, m4, rfl, R4, K4, G4, N4, J4, Q4⟩
    have s2 := sstep2 N3.out S1.out D1.out J4 K4
    have R3' := hid (R3.out.keep K4 fun k hk => QN.out k hk)
    have R4 := hid R4
    have NN := hid s2.1
    have N4 := hid N4
    have DD := hid s2.2
    clear s2 J4 K4 Q4 y3 z3
    go_wp2_with fail
    refine (ints_any R3'.out R4.out).mono ?_
    rintro _ W5 ⟨rfl, K5⟩
    rw [show decide (o = o) = true from decide_eq_true rfl]
    have N5 := hid (NN.out.quiet K5)
    have R5 := hid (N4.out.quiet K5)
    clear K5
    go_wp2
    go_ret
    exact ⟨rfl, S', _, _, AL.out.1, SZ.out, AL.out.2, N5.out, R5.out, DD.out⟩
  · obtain ⟨e0, S', hb0⟩ : ∃ e0 S', mtr S t n = (e0, S') := ⟨_, _, rfl⟩
    have hw0 : mwn S t n false = (e0, S') := hb0
    have B0 := hid hb0
    have W0 := hid hw0
    have AL := hid (good_mtr GD.out t n)
    rw [hb0] at AL
    have SZ := hid (size_mtr S t n)
    rw [hb0] at SZ
    clear hb0 hw0
    go_enter Try.func21, Try.ntmps21
    go_wp2_with fail
    refine wp_region_text [0,0,0,0,0,2,0,0,0,0,0,2,0,0] (fun W => W.cell? ⟨w.heap.size, 1, none⟩ = some (.int .i64 t) ∧ W.cell? ⟨w.heap.size, 2, none⟩ = some (.int .i64 n)) (by kernel_rfl) (by kernel_rfl) ⟨X1.out, X2.out⟩ ?_
    repeat (first
      | (refine' wpT_calm (v := _) (by rfl) (fun W hW => ?_) ?_; rotate_left
         · ((try dsimp only at hW); go_simp; first | done | rfl)
         simp only [Act.put, List.setIfInBounds_toArray, List.set_cons_zero, List.set_cons_succ])
      | (refine' wpT_reads (v := _) (by rfl) ?_ ?_; rotate_left
         · (go_simp; first | done | rfl)
         simp only [Act.put, List.setIfInBounds_toArray, List.set_cons_zero, List.set_cons_succ])
      | (refine wpT_skip (by rfl) rfl ?_; simp only [Act.put, List.setIfInBounds_toArray, List.set_cons_zero, List.set_cons_succ])
      | (refine wpT_does (by rfl) (fun K hK => ?_); go_simp; refine hK _ _ ?_ ?_
         · (trivial)
         clear hK K; try simp only [Act.put, List.setIfInBounds_toArray, List.set_cons_zero, List.set_cons_succ])
      | (refine wpT_last (by rfl) (fun K hK => ?_); go_simp; refine hK _ _ ?_; clear hK K)
      | (refine wpT_nil ?_))
    refine wpT_does (by rfl) (fun K hK => ?_)
    go_simp
    have N1 := N.out.quiet ((Keep.refl _ _).drew)
    have R1 := R.out.quiet ((Keep.refl _ _).drew)
    refine (mtry_any t n N1 GD.out B0.out).mono ?_
    rintro _ W3 ⟨rfl, G3, N3, J3, K3⟩
    have y3 := (K3.cell (p := ⟨w.heap.size, 1, none⟩) xl xg).trans X1.out
    have z3 := (K3.cell (p := ⟨w.heap.size, 2, none⟩) xl xg).trans X2.out
    have KSZ := hid K3.size
    have s1 := sstep1 N1 R1 D.out J3 K3
    have N3' := hid N3
    have S1 := hid s1.1
    have D1 := hid s1.2
    refine hK _ _ ⟨y3, z3⟩ ?_
    clear hK K J3 K3 N3 s1 N1 R1
    try simp only [Act.put, List.setIfInBounds_toArray, List.set_cons_zero, List.set_cons_succ]
    repeat (first
      | (refine' wpT_calm (v := _) (by rfl) (fun W hW => ?_) ?_; rotate_left
         · ((try dsimp only at hW); go_simp; first | done | rfl)
         simp only [Act.put, List.setIfInBounds_toArray, List.set_cons_zero, List.set_cons_succ])
      | (refine' wpT_reads (v := _) (by rfl) ?_ ?_; rotate_left
         · (go_simp; first | done | rfl)
         simp only [Act.put, List.setIfInBounds_toArray, List.set_cons_zero, List.set_cons_succ])
      | (refine wpT_skip (by rfl) rfl ?_; simp only [Act.put, List.setIfInBounds_toArray, List.set_cons_zero, List.set_cons_succ])
      | (refine wpT_does (by rfl) (fun K hK => ?_); go_simp; refine hK _ _ ?_ ?_
         · (trivial)
         clear hK K; try simp only [Act.put, List.setIfInBounds_toArray, List.set_cons_zero, List.set_cons_succ])
      | (refine wpT_last (by rfl) (fun K hK => ?_); go_simp; refine hK _ _ ?_; clear hK K)
      | (refine wpT_nil ?_))
    refine wpT_does (by rfl) (fun K hK => ?_)
    go_simp
    refine (swant_any t n false S1.out GD.out l9 W0.out).mono ?_
    rintro _ W4 ⟨rfl, G4, N4, J4, K4⟩
    have s2 := sstep2 N3'.out S1.out D1.out J4 K4
    have lx := Nat.lt_of_lt_of_le xl (by exact KSZ.out)
    have hx4 : W4.cell? ⟨w.heap.size, 1, none⟩ = some (.int .i64 t) := (K4.cell (p := ⟨w.heap.size, 1, none⟩) lx xr).trans y3
    have hz4 : W4.cell? ⟨w.heap.size, 2, none⟩ = some (.int .i64 n) := (K4.cell (p := ⟨w.heap.size, 2, none⟩) lx xr).trans z3
    have NN := hid s2.1
    have R4 := hid N4
    have DD := hid s2.2
    refine hK _ _ ⟨hx4, hz4⟩ ?_
    clear hK K J4 K4 N4 s2 hx4 hz4 y3 z3 N3' S1 D1 KSZ lx
    try simp only [Act.put, List.setIfInBounds_toArray, List.set_cons_zero, List.set_cons_succ]
    repeat (first
      | (refine' wpT_calm (v := _) (by rfl) (fun W hW => ?_) ?_; rotate_left
         · ((try dsimp only at hW); go_simp; first | done | rfl)
         simp only [Act.put, List.setIfInBounds_toArray, List.set_cons_zero, List.set_cons_succ])
      | (refine' wpT_reads (v := _) (by rfl) ?_ ?_; rotate_left
         · (go_simp; first | done | rfl)
         simp only [Act.put, List.setIfInBounds_toArray, List.set_cons_zero, List.set_cons_succ])
      | (refine wpT_skip (by rfl) rfl ?_; simp only [Act.put, List.setIfInBounds_toArray, List.set_cons_zero, List.set_cons_succ])
      | (refine wpT_does (by rfl) (fun K hK => ?_); go_simp; refine hK _ _ ?_ ?_
         · (trivial)
         clear hK K; try simp only [Act.put, List.setIfInBounds_toArray, List.set_cons_zero, List.set_cons_succ])
      | (refine wpT_last (by rfl) (fun K hK => ?_); go_simp; refine hK _ _ ?_; clear hK K)
      | (refine wpT_nil ?_))
    go_wp2
    go_ret
    exact ⟨rfl, S', _, _, AL.out.1, SZ.out, AL.out.2, NN.out, R4.out, DD.out⟩
  · rcases hq with rfl | rfl | rfl
    all_goals
      obtain ⟨o, e, S', hb0⟩ : ∃ o e S', mrl S n = (o, e, S') := ⟨_, _, _, rfl⟩
      have B0 := hid hb0
      have AL := hid (good_mrl GD.out n)
      rw [hb0] at AL
      have SZ := hid (size_mrl S n)
      rw [hb0] at SZ
      have X1o := X1.out
      have X2o := X2.out
      clear hb0
      go_enter Try.func21, Try.ntmps21
      go_wp2_with fail
      refine (mrel_any n N.out GD.out l1 B0.out).mono ?_
      rintro _ W3 ⟨a3, m3, rfl, R3, K3, G3, N3, J3, Q3⟩
      have y3 := (K3.cell (p := ⟨w.heap.size, 1, none⟩) xl xg).trans X1.out
      have z3 := (K3.cell (p := ⟨w.heap.size, 2, none⟩) xl xg).trans X2.out
      have s1 := sstep1 N.out R.out D.out J3 K3
      have QL := hid (fun k hk => (Q3 k hk).2.1 : ∀ k, (Value.slice a3 o.length m3).ownBlock = some k → k < W3.heap.size)
      have QN := hid (fun k hk hg => (Q3 k hk).1.elim (fun h => D.out k h hg) (fun h => by have := R.out.1.2.1 k hg; omega) : ∀ k, (Value.slice a3 o.length m3).ownBlock = some k → ¬ G2 k)
      have R3 := hid R3
      have N3 := hid N3
      have S1 := hid s1.1
      have D1 := hid s1.2
      clear s1 J3 K3 Q3
      go_wp2_with fail
      refine (srel_any n S1.out GD.out l9 B0.out).mono ?_
      rintro _ W4 ⟨a4, m4, rfl, R4, K4, G4, N4, J4, Q4⟩
      have s2 := sstep2 N3.out S1.out D1.out J4 K4
      have R3' := hid (R3.out.keep K4 fun k hk => QN.out k hk)
      have R4 := hid R4
      have NN := hid s2.1
      have N4 := hid N4
      have DD := hid s2.2
      clear s2 J4 K4 Q4 y3 z3
      go_wp2_with fail
      refine (ints_any R3'.out R4.out).mono ?_
      rintro _ W5 ⟨rfl, K5⟩
      rw [show decide (o = o) = true from decide_eq_true rfl]
      have N5 := hid (NN.out.quiet K5)
      have R5 := hid (N4.out.quiet K5)
      clear K5
      go_wp2
      go_ret
      exact ⟨rfl, S', _, _, AL.out.1, SZ.out, AL.out.2, N5.out, R5.out, DD.out⟩
  · have q0 : ((Q : Int) == 0) = false := by simp; omega
    have q1 : ((Q : Int) == 1) = false := by simp; omega
    have q2 : ((Q : Int) == 2) = false := by simp; omega
    have q3 : ((Q : Int) == 3) = false := by simp; omega
    have q4 : ((Q : Int) == 4) = false := by simp; omega
    obtain ⟨e0, S', hb0⟩ : ∃ e0 S', maq S t n = (e0, S') := ⟨_, _, rfl⟩
    have hw0 : mwn S t n true = (e0, S') := hb0
    have B0 := hid hb0
    have W0 := hid hw0
    have AL := hid (good_maq GD.out t n)
    rw [hb0] at AL
    have SZ := hid (size_maq S t n)
    rw [hb0] at SZ
    clear hb0 hw0
    go_enter Try.func21, Try.ntmps21
    go_wp2_with fail
    refine wp_region_text [0,0,0,0,0,2,0,0,0,0,0,2,0,0] (fun W => W.cell? ⟨w.heap.size, 1, none⟩ = some (.int .i64 t) ∧ W.cell? ⟨w.heap.size, 2, none⟩ = some (.int .i64 n)) (by kernel_rfl) (by kernel_rfl) ⟨X1.out, X2.out⟩ ?_
    repeat (first
      | (refine' wpT_calm (v := _) (by rfl) (fun W hW => ?_) ?_; rotate_left
         · ((try dsimp only at hW); go_simp; first | done | rfl)
         simp only [Act.put, List.setIfInBounds_toArray, List.set_cons_zero, List.set_cons_succ])
      | (refine' wpT_reads (v := _) (by rfl) ?_ ?_; rotate_left
         · (go_simp; first | done | rfl)
         simp only [Act.put, List.setIfInBounds_toArray, List.set_cons_zero, List.set_cons_succ])
      | (refine wpT_skip (by rfl) rfl ?_; simp only [Act.put, List.setIfInBounds_toArray, List.set_cons_zero, List.set_cons_succ])
      | (refine wpT_does (by rfl) (fun K hK => ?_); go_simp; refine hK _ _ ?_ ?_
         · (trivial)
         clear hK K; try simp only [Act.put, List.setIfInBounds_toArray, List.set_cons_zero, List.set_cons_succ])
      | (refine wpT_last (by rfl) (fun K hK => ?_); go_simp; refine hK _ _ ?_; clear hK K)
      | (refine wpT_nil ?_))
    refine wpT_does (by rfl) (fun K hK => ?_)
    go_simp
    have N1 := N.out.quiet ((Keep.refl _ _).drew)
    have R1 := R.out.quiet ((Keep.refl _ _).drew)
    refine (macq_any t n N1 GD.out l1 B0.out).mono ?_
    rintro _ W3 ⟨rfl, G3, N3, J3, K3⟩
    have y3 := (K3.cell (p := ⟨w.heap.size, 1, none⟩) xl xg).trans X1.out
    have z3 := (K3.cell (p := ⟨w.heap.size, 2, none⟩) xl xg).trans X2.out
    have KSZ := hid K3.size
    have s1 := sstep1 N1 R1 D.out J3 K3
    have N3' := hid N3
    have S1 := hid s1.1
    have D1 := hid s1.2
    refine hK _ _ ⟨y3, z3⟩ ?_
    clear hK K J3 K3 N3 s1 N1 R1
    try simp only [Act.put, List.setIfInBounds_toArray, List.set_cons_zero, List.set_cons_succ]
    repeat (first
      | (refine' wpT_calm (v := _) (by rfl) (fun W hW => ?_) ?_; rotate_left
         · ((try dsimp only at hW); go_simp; first | done | rfl)
         simp only [Act.put, List.setIfInBounds_toArray, List.set_cons_zero, List.set_cons_succ])
      | (refine' wpT_reads (v := _) (by rfl) ?_ ?_; rotate_left
         · (go_simp; first | done | rfl)
         simp only [Act.put, List.setIfInBounds_toArray, List.set_cons_zero, List.set_cons_succ])
      | (refine wpT_skip (by rfl) rfl ?_; simp only [Act.put, List.setIfInBounds_toArray, List.set_cons_zero, List.set_cons_succ])
      | (refine wpT_does (by rfl) (fun K hK => ?_); go_simp; refine hK _ _ ?_ ?_
         · (trivial)
         clear hK K; try simp only [Act.put, List.setIfInBounds_toArray, List.set_cons_zero, List.set_cons_succ])
      | (refine wpT_last (by rfl) (fun K hK => ?_); go_simp; refine hK _ _ ?_; clear hK K)
      | (refine wpT_nil ?_))
    refine wpT_does (by rfl) (fun K hK => ?_)
    go_simp
    refine (swant_any t n true S1.out GD.out l9 W0.out).mono ?_
    rintro _ W4 ⟨rfl, G4, N4, J4, K4⟩
    have s2 := sstep2 N3'.out S1.out D1.out J4 K4
    have lx := Nat.lt_of_lt_of_le xl (by exact KSZ.out)
    have hx4 : W4.cell? ⟨w.heap.size, 1, none⟩ = some (.int .i64 t) := (K4.cell (p := ⟨w.heap.size, 1, none⟩) lx xr).trans y3
    have hz4 : W4.cell? ⟨w.heap.size, 2, none⟩ = some (.int .i64 n) := (K4.cell (p := ⟨w.heap.size, 2, none⟩) lx xr).trans z3
    have NN := hid s2.1
    have R4 := hid N4
    have DD := hid s2.2
    refine hK _ _ ⟨hx4, hz4⟩ ?_
    clear hK K J4 K4 N4 s2 hx4 hz4 y3 z3 N3' S1 D1 KSZ lx
    try simp only [Act.put, List.setIfInBounds_toArray, List.set_cons_zero, List.set_cons_succ]
    repeat (first
      | (refine' wpT_calm (v := _) (by rfl) (fun W hW => ?_) ?_; rotate_left
         · ((try dsimp only at hW); go_simp; first | done | rfl)
         simp only [Act.put, List.setIfInBounds_toArray, List.set_cons_zero, List.set_cons_succ])
      | (refine' wpT_reads (v := _) (by rfl) ?_ ?_; rotate_left
         · (go_simp; first | done | rfl)
         simp only [Act.put, List.setIfInBounds_toArray, List.set_cons_zero, List.set_cons_succ])
      | (refine wpT_skip (by rfl) rfl ?_; simp only [Act.put, List.setIfInBounds_toArray, List.set_cons_zero, List.set_cons_succ])
      | (refine wpT_does (by rfl) (fun K hK => ?_); go_simp; refine hK _ _ ?_ ?_
         · (trivial)
         clear hK K; try simp only [Act.put, List.setIfInBounds_toArray, List.set_cons_zero, List.set_cons_succ])
      | (refine wpT_last (by rfl) (fun K hK => ?_); go_simp; refine hK _ _ ?_; clear hK K)
      | (refine wpT_nil ?_))
    go_wp2
    go_ret
    exact ⟨rfl, S', _, _, AL.out.1, SZ.out, AL.out.2, NN.out, R4.out, DD.out⟩
end Go.Proofs.Ytegpoocmhamlpaa
