/- The walk of GroupPlays. -/
import Derived.Test.YtacogkmnmeekfaaRfB
namespace Go.Proofs.Ytacogkmnmeekfaa
open Go Go.RowKit

section
variable {w W W3 : World} {G1 G2 G3 : Nat → Prop} {b r : Nat} {c c' : Int} {l l' l2 l3 : List Int} {p p' : List Value}

theorem step1 (h1 : GNew w W G1 b c l) (h2 : ONew 58 w W G2 r p l2) (hd : ∀ k, G1 k → ¬ G2 k) (J : ∀ k, G3 k → G1 k ∨ W.heap.size ≤ k) (K : Keep G1 W W3) :
    ONew 58 w W3 G2 r p l2 ∧ ∀ k, G3 k → ¬ G2 k :=
  ⟨h2.keep K fun k hk => ⟨h1.2.1 k hk, hd k hk⟩, fun k hk hg => (J k hk).elim (fun h => hd k h hg) (fun h => by have := h2.1.2.1 k hg; omega)⟩

theorem step2 (h1 : GNew w W G1 b c l) (h2 : ONew 58 w W G2 r p l2) (hd : ∀ k, G1 k → ¬ G2 k) (J : ∀ k, G3 k → G2 k ∨ W.heap.size ≤ k) (K : Keep G2 W W3) :
    GNew w W3 G1 b c l ∧ ∀ k, G1 k → ¬ G3 k :=
  ⟨h1.keep K fun k hk => ⟨h2.2.1 k hk, fun h => hd k h hk⟩, fun k hk hg => (J k hg).elim (fun h => hd k hk h) (fun h => by have := h1.1.2.1 k hk; omega)⟩

theorem GNew.bounds (h : GNew w W G1 b c l) : 0 ≤ c ∧ c ≤ 1048576 := by
  obtain ⟨⟨_, _, v, h, _⟩, _⟩ := h
  exact ⟨h.lo, h.hi⟩
end

theorem waitL_len (c : Int) (l : List Int) (t : Int) : (waitL c l t).length ≤ l.length + 1 := by
  unfold waitL; split <;> simp
theorem addL_len (c : Int) (l : List Int) (n : Int) : (addL c l n).length ≤ l.length := by
  unfold addL; split <;> simp

set_option maxRecDepth 10000 in
set_option maxHeartbeats 8000000 in
theorem walk_GroupPlays (w : World) (v1 : Value) (n1 : Nat) (f1 : Nat → Nat → Int) (w1 : ArgRows w v1 [.u8, .i64, .i64] n1 f1) :
    Calls Try.prog 10 #[v1] w fun en w' => en = .returned (.bool true) ∧ Below w.heap.size w w' := by
  obtain ⟨a1, c1, hv1⟩ := w1.form
  have A1 := hid w1
  have V1 := hid hv1
  rw [hv1]
  clear w1 hv1
  go_enter Try.func10, Try.ntmps10
  go_wp2_with fail
  refine (gnew_n w).mono ?_
  rintro e W1 ⟨rfl, G1, N1⟩
  have hsz : w.heap.size < W1.heap.size := N1.1.2.1 _ N1.1.1
  have N2 := N1.keep ((Keep.refl (fun _ => False) W1).alloc (.cells #[.int .i64 0, .int .i64 0, .slice none 0 0] 58)) (fun _ h => h.elim)
  have OA : ObjAt 58 (W1.alloc (.cells #[.int .i64 0, .int .i64 0, .slice none 0 0] 58)) W1.heap.size (rpre 0 0) (.slice none 0 0) [] :=
    ⟨heap_alloc_new W1 _, OwnI.nil _, by simp [Value.ownBlock]⟩
  have R2 : ONew 58 w (W1.alloc (.cells #[.int .i64 0, .int .i64 0, .slice none 0 0] 58)) (fun k => k = W1.heap.size) W1.heap.size (rpre 0 0) [] :=
    ⟨⟨rfl, fun k hk => hk ▸ OA.lt, _, OA, fun k hk => by simp [Value.ownBlock] at hk⟩, fun k hk => by rw [hk]; omega, N2.2.2⟩
  have hd2 : ∀ k, G1 k → ¬ k = W1.heap.size := fun k hk e => by have := N1.1.2.1 k hk; omega
  have N2 := hid N2
  have R2 := hid R2
  have D2 := hid hd2
  clear OA hd2 N1
  obtain ⟨r, hr⟩ : ∃ x, W1.heap.size = x := ⟨_, rfl⟩
  rw [hr] at R2 D2
  obtain ⟨b, hb⟩ : ∃ x, w.heap.size = x := ⟨_, rfl⟩
  rw [hb] at N2 ⊢
  clear hsz
  go_wp2_with fail
  try rw [hr]
  go_loopw [5] (fun i wr => ∃ (k : Nat) (c I O : Int) (l : List Int) (G1 G2 : Nat → Prop), k ≤ n1 ∧ k ≤ 60 ∧ i = .int .i64 k ∧ I - O = c ∧ 0 ≤ O ∧ I ≤ (k : Int) * 1048576 ∧ l.length ≤ k ∧ GNew w wr G1 b c l ∧ ONew 58 w wr G2 r (rpre I O) l ∧ ∀ k, G1 k → ¬ G2 k) (fun i _ => 60 - (intOf i).toNat)
  case atStart => first | exact ⟨0, 0, 0, 0, [], G1, _, Nat.zero_le _, by omega, rfl, by decide, by decide, by decide, Nat.le_refl _, N2.out, R2.out, D2.out⟩ | (rw [hr]; exact ⟨0, 0, 0, 0, [], G1, _, Nat.zero_le _, by omega, rfl, by decide, by decide, by decide, Nat.le_refl _, N2.out, R2.out, D2.out⟩)
  case round =>
    obtain ⟨k, c, I, O, l, G1, G2, hk, hk60, rfl, hIO, hO, hI, hl, hN, hR, hD⟩ := hrel
    have N := hid hN
    have R := hid hR
    have D := hid hD
    have HIO := hid hIO
    have hbd := hN.bounds
    obtain ⟨hc0, hc1⟩ := hbd
    clear N2 R2 D2 hN hR hD
    by_cases hlt : k < n1 ∧ k < 60
    · obtain ⟨g, off, cc, hv, hg, hmx, hc⟩ := arg_act A1.out (by omega)
      have hav : a1 = some ⟨g, off, none⟩ ∧ c1 = cc := by rw [V1.out] at hv; cases hv; exact ⟨rfl, rfl⟩
      obtain ⟨rfl, rfl⟩ := hav
      obtain ⟨⟨k1, k2, k3⟩, u1, u2, u3⟩ := hc k hlt.1
      have k1 := (N.out.2.2.cell (p := ⟨g, off + k * 3, none⟩) hg (fun h => h)).trans k1
      have k2 := (N.out.2.2.cell (p := ⟨g, off + k * 3 + 1, none⟩) hg (fun h => h)).trans k2
      have k3 := (N.out.2.2.cell (p := ⟨g, off + k * 3 + 2, none⟩) hg (fun h => h)).trans k3
      have hlt1 : (k : Int) < (n1 : Int) := by omega
      have hlt2 : (k : Int) < 60 := by omega
      clear hc hv
      generalize f1 k 0 = d at k1 u1
      generalize f1 k 1 = t at k2 u2
      generalize f1 k 2 = n at k3 u3
      have Nx := N.out.keep ((Keep.refl (fun _ => False) wr).alloc (.cells #[.int .u8 d, .int .i64 t, .int .i64 n] 44)) (fun _ h => h.elim)
      have Rx := R.out.keep ((Keep.refl (fun _ => False) wr).alloc (.cells #[.int .u8 d, .int .i64 t, .int .i64 n] 44)) (fun _ h => h.elim)
      have x1 : (wr.alloc (.cells #[.int .u8 d, .int .i64 t, .int .i64 n] 44)).cell? ⟨wr.heap.size, 1, none⟩ = some (.int .i64 t) := by rw [World.cell?_alloc_new]; rfl
      have x2 : (wr.alloc (.cells #[.int .u8 d, .int .i64 t, .int .i64 n] 44)).cell? ⟨wr.heap.size, 2, none⟩ = some (.int .i64 n) := by rw [World.cell?_alloc_new]; rfl
      have xl : wr.heap.size < (wr.alloc (.cells #[.int .u8 d, .int .i64 t, .int .i64 n] 44)).heap.size := by simp
      have xg : ¬ G1 wr.heap.size := fun h => by have := N.out.1.2.1 _ h; omega
      have xr : ¬ G2 wr.heap.size := fun h => by have := R.out.1.2.1 _ h; omega
      have NX := hid Nx
      have RX := hid Rx
      have X1 := hid x1
      have X2 := hid x2
      clear Nx Rx x1 x2 hIO
      go_wp2_with fail
      · refine wp_region_text [0,0,0,2,0,0,0,2,0,0] (fun W => W.cell? ⟨wr.heap.size, 1, none⟩ = some (.int .i64 t)) (by kernel_rfl) (by kernel_rfl) X1.out ?_
        repeat (first
          | (refine' wpT_calm (v := _) (by rfl) (fun W hW => ?_) ?_; rotate_left
             · ((try dsimp only at hW); go_simp; first | done | rfl)
             simp only [Act.put, List.setIfInBounds_toArray, List.set_cons_zero, List.set_cons_succ])
          | (refine' wpT_reads (v := _) (by rfl) ?_ ?_; rotate_left
             · (go_simp; first | done | rfl)
             simp only [Act.put, List.setIfInBounds_toArray, List.set_cons_zero, List.set_cons_succ])
          | (refine wpT_skip (by rfl) rfl ?_; simp only [Act.put, List.setIfInBounds_toArray, List.set_cons_zero, List.set_cons_succ])
          | (refine wpT_does (by rfl) (fun K hK => ?_); go_simp; refine hK _ _ ?_ ?_
             · (trivial)
             clear hK K; try simp only [Act.put, List.setIfInBounds_toArray, List.set_cons_zero, List.set_cons_succ])
          | (refine wpT_last (by rfl) (fun K hK => ?_); go_simp; refine hK _ _ ?_; clear hK K)
          | (refine wpT_nil ?_))
        refine wpT_does (by rfl) (fun K hK => ?_)
        go_simp
        have N1 := NX.out.keep (F := fun _ => False) ((Keep.refl _ _).drew) (fun _ h => h.elim)
        have R1 := RX.out.keep (F := fun _ => False) ((Keep.refl _ _).drew) (fun _ h => h.elim)
        refine (gdrop_n t N1 (by omega)).mono ?_
        rintro _ W3 ⟨rfl, G3, N3, J3, K3⟩
        have y3 := (K3.cell (p := ⟨wr.heap.size, 1, none⟩) xl xg).trans X1.out
        have KSZ := hid K3.size
        have s1 := step1 N1 R1 D.out J3 K3
        have N3' := hid N3
        have S1 := hid s1.1
        have D1 := hid s1.2
        refine hK _ _ y3 ?_
        clear hK K J3 K3 N3 s1 N1 R1
        try simp only [Act.put, List.setIfInBounds_toArray, List.set_cons_zero, List.set_cons_succ]
        repeat (first
          | (refine' wpT_calm (v := _) (by rfl) (fun W hW => ?_) ?_; rotate_left
             · ((try dsimp only at hW); go_simp; first | done | rfl)
             simp only [Act.put, List.setIfInBounds_toArray, List.set_cons_zero, List.set_cons_succ])
          | (refine' wpT_reads (v := _) (by rfl) ?_ ?_; rotate_left
             · (go_simp; first | done | rfl)
             simp only [Act.put, List.setIfInBounds_toArray, List.set_cons_zero, List.set_cons_succ])
          | (refine wpT_skip (by rfl) rfl ?_; simp only [Act.put, List.setIfInBounds_toArray, List.set_cons_zero, List.set_cons_succ])
          | (refine wpT_does (by rfl) (fun K hK => ?_); go_simp; refine hK _ _ ?_ ?_
             · (trivial)
             clear hK K; try simp only [Act.put, List.setIfInBounds_toArray, List.set_cons_zero, List.set_cons_succ])
          | (refine wpT_last (by rfl) (fun K hK => ?_); go_simp; refine hK _ _ ?_; clear hK K)
          | (refine wpT_nil ?_))
        refine wpT_does (by rfl) (fun K hK => ?_)
        go_simp
        refine (rdrop_any t S1.out (by omega)).mono ?_
        rintro _ W4 ⟨rfl, G4, N4, J4, K4⟩
        have s2 := step2 N3'.out S1.out D1.out J4 K4
        have hx4 : W4.cell? ⟨wr.heap.size, 1, none⟩ = some (.int .i64 t) := (K4.cell (p := ⟨wr.heap.size, 1, none⟩) (Nat.lt_of_lt_of_le xl (by exact KSZ.out)) xr).trans y3
        have NN := hid s2.1
        have RR := hid N4
        have DD := hid s2.2
        refine hK _ _ hx4 ?_
        clear hK K J4 K4 N4 s2 hx4 y3 N3' S1 D1 KSZ
        try simp only [Act.put, List.setIfInBounds_toArray, List.set_cons_zero, List.set_cons_succ]
        repeat (first
          | (refine' wpT_calm (v := _) (by rfl) (fun W hW => ?_) ?_; rotate_left
             · ((try dsimp only at hW); go_simp; first | done | rfl)
             simp only [Act.put, List.setIfInBounds_toArray, List.set_cons_zero, List.set_cons_succ])
          | (refine' wpT_reads (v := _) (by rfl) ?_ ?_; rotate_left
             · (go_simp; first | done | rfl)
             simp only [Act.put, List.setIfInBounds_toArray, List.set_cons_zero, List.set_cons_succ])
          | (refine wpT_skip (by rfl) rfl ?_; simp only [Act.put, List.setIfInBounds_toArray, List.set_cons_zero, List.set_cons_succ])
          | (refine wpT_does (by rfl) (fun K hK => ?_); go_simp; refine hK _ _ ?_ ?_
             · (trivial)
             clear hK K; try simp only [Act.put, List.setIfInBounds_toArray, List.set_cons_zero, List.set_cons_succ])
          | (refine wpT_last (by rfl) (fun K hK => ?_); go_simp; refine hK _ _ ?_; clear hK K)
          | (refine wpT_nil ?_))
  
        obtain ⟨⟨hGr, hGlt, vr, hvr, hvG⟩, _⟩ := RR.out
        have q0 := hvr.get 0 (u := .int .i64 I) rfl
        have q1 := hvr.get 1 (u := .int .i64 O) rfl
        have q2 : W4.cell? ⟨r, 2, none⟩ = some vr := hvr.list
        have hrl := hvr.lt
        obtain ⟨ar, nr, hvf⟩ := hvr.own.form
        rw [hvf] at q2
        have HV := hid hvf
        have HR := hid hvr
        have LL : Hid ((dropT l t).length ≤ k + 1) := hid (by have := dropT_len l t; omega)
        clear hvr hvf hvG hGlt hGr
        go_wp2_with fail
        refine wp_region_text [0,0,0,0,2,0,0,0,0,0,0,0,0,0,0,0,0,0,2,0,0,0,0,2,0,0] (fun W => W.cell? ⟨r, 0, none⟩ = some (.int .i64 (I)) ∧ W.cell? ⟨r, 1, none⟩ = some (.int .i64 (O)) ∧ W.cell? ⟨r, 2, none⟩ = some (.slice ar (dropT l t).length nr)) (by kernel_rfl) (by kernel_rfl) ⟨q0, q1, q2⟩ ?_
        repeat (first
          | (refine' wpT_calm (v := _) (by rfl) (fun W hW => ?_) ?_; rotate_left
             · ((try dsimp only at hW); go_simp; first | done | rfl)
             simp only [Act.put, List.setIfInBounds_toArray, List.set_cons_zero, List.set_cons_succ])
          | (refine' wpT_reads (v := _) (by rfl) ?_ ?_; rotate_left
             · (go_simp; first | done | rfl)
             simp only [Act.put, List.setIfInBounds_toArray, List.set_cons_zero, List.set_cons_succ])
          | (refine wpT_skip (by rfl) rfl ?_; simp only [Act.put, List.setIfInBounds_toArray, List.set_cons_zero, List.set_cons_succ])
          | (refine wpT_does (by rfl) (fun K hK => ?_); go_simp; refine hK _ _ ?_ ?_
             · (trivial)
             clear hK K; try simp only [Act.put, List.setIfInBounds_toArray, List.set_cons_zero, List.set_cons_succ])
          | (refine wpT_last (by rfl) (fun K hK => ?_); go_simp; refine hK _ _ ?_; clear hK K)
          | (refine wpT_nil ?_))
        refine wpT_does (by rfl) (fun K hK => ?_)
        go_simp
        have ND := NN.out.keep (F := fun _ => False) ((Keep.refl _ _).drew) (fun _ h => h.elim)
        have ND := hid ND
        refine (gcount_n ND.out).mono ?_
        rintro _ _ ⟨rfl, rfl⟩
        refine hK _ _ ⟨q0, q1, q2⟩ ?_
        clear hK K
        try simp only [Act.put, List.setIfInBounds_toArray, List.set_cons_zero, List.set_cons_succ]
        have sub : IntKind.i64.wrap ((I) - (O)) = c := by rw [wrap_plain _ (by have := HIO.out; omega) (by have := HIO.out; omega)]; exact HIO.out
        repeat (first
          | (refine' wpT_calm (v := _) (by rfl) (fun W hW => ?_) ?_; rotate_left
             · ((try dsimp only at hW); go_simp; first | done | rfl)
             simp only [Act.put, List.setIfInBounds_toArray, List.set_cons_zero, List.set_cons_succ])
          | (refine' wpT_reads (v := _) (by rfl) ?_ ?_; rotate_left
             · (go_simp; first | done | rfl)
             simp only [Act.put, List.setIfInBounds_toArray, List.set_cons_zero, List.set_cons_succ])
          | (refine wpT_skip (by rfl) rfl ?_; simp only [Act.put, List.setIfInBounds_toArray, List.set_cons_zero, List.set_cons_succ])
          | (refine wpT_does (by rfl) (fun K hK => ?_); go_simp; refine hK _ _ ?_ ?_
             · (trivial)
             clear hK K; try simp only [Act.put, List.setIfInBounds_toArray, List.set_cons_zero, List.set_cons_succ])
          | (refine wpT_last (by rfl) (fun K hK => ?_); go_simp; refine hK _ _ ?_; clear hK K)
          | (refine wpT_nil ?_))
        refine wpT_does (by rfl) (fun K hK => ?_)
        go_simp
        refine (gwaits_n ND.out (by have := LL.out; omega)).mono ?_
        rintro _ W6 ⟨a6, n6, rfl, N6, R6, K6⟩
        have K60 : Keep (fun _ => False) W4 W6 := ((Keep.refl _ _).drew).trans K6
        have p0 := (K60.cell (p := ⟨r, 0, none⟩) hrl (fun h => h)).trans q0
        have p1 := (K60.cell (p := ⟨r, 1, none⟩) hrl (fun h => h)).trans q1
        have p2 := (K60.cell (p := ⟨r, 2, none⟩) hrl (fun h => h)).trans q2
        have N6 := hid N6
        have R6 := hid R6
        have O6 := hid (HR.out.own.keep K60 (fun _ _ h => h)).reads
        have RN6 := hid (RR.out.keep K60 (fun _ h => h.elim))
        rw [HV.out] at O6
        refine hK _ _ ⟨p0, p1, p2⟩ ?_
        clear hK K K6 K60
        try simp only [Act.put, List.setIfInBounds_toArray, List.set_cons_zero, List.set_cons_succ]
        repeat (first
          | (refine' wpT_calm (v := _) (by rfl) (fun W hW => ?_) ?_; rotate_left
             · ((try dsimp only at hW); go_simp; first | done | rfl)
             simp only [Act.put, List.setIfInBounds_toArray, List.set_cons_zero, List.set_cons_succ])
          | (refine' wpT_reads (v := _) (by rfl) ?_ ?_; rotate_left
             · (go_simp; first | done | rfl)
             simp only [Act.put, List.setIfInBounds_toArray, List.set_cons_zero, List.set_cons_succ])
          | (refine wpT_skip (by rfl) rfl ?_; simp only [Act.put, List.setIfInBounds_toArray, List.set_cons_zero, List.set_cons_succ])
          | (refine wpT_does (by rfl) (fun K hK => ?_); go_simp; refine hK _ _ ?_ ?_
             · (trivial)
             clear hK K; try simp only [Act.put, List.setIfInBounds_toArray, List.set_cons_zero, List.set_cons_succ])
          | (refine wpT_last (by rfl) (fun K hK => ?_); go_simp; refine hK _ _ ?_; clear hK K)
          | (refine wpT_nil ?_))
        refine wpT_does (by rfl) (fun K hK => ?_)
        go_simp
        refine (ints_any R6.out O6.out).mono ?_
        rintro _ W7 ⟨rfl, K7⟩
        rw [show decide (dropT l t = dropT l t) = true from decide_eq_true rfl]
        have z0 := (K7.cell (p := ⟨r, 0, none⟩) (World.block_lt_of_cell? _ _ p0) (fun h => h)).trans p0
        have z1 := (K7.cell (p := ⟨r, 1, none⟩) (World.block_lt_of_cell? _ _ p1) (fun h => h)).trans p1
        have z2 := (K7.cell (p := ⟨r, 2, none⟩) (World.block_lt_of_cell? _ _ p2) (fun h => h)).trans p2
        have N7 := hid (N6.out.keep K7 (fun _ h => h.elim))
        have R7 := hid (RN6.out.keep K7 (fun _ h => h.elim))
        refine hK _ _ ⟨z0, z1, z2⟩ ?_
        clear hK K K7
        try simp only [Act.put, List.setIfInBounds_toArray, List.set_cons_zero, List.set_cons_succ]
        repeat (first
          | (refine' wpT_calm (v := _) (by rfl) (fun W hW => ?_) ?_; rotate_left
             · ((try dsimp only at hW); go_simp; first | done | rfl)
             simp only [Act.put, List.setIfInBounds_toArray, List.set_cons_zero, List.set_cons_succ])
          | (refine' wpT_reads (v := _) (by rfl) ?_ ?_; rotate_left
             · (go_simp; first | done | rfl)
             simp only [Act.put, List.setIfInBounds_toArray, List.set_cons_zero, List.set_cons_succ])
          | (refine wpT_skip (by rfl) rfl ?_; simp only [Act.put, List.setIfInBounds_toArray, List.set_cons_zero, List.set_cons_succ])
          | (refine wpT_does (by rfl) (fun K hK => ?_); go_simp; refine hK _ _ ?_ ?_
             · (trivial)
             clear hK K; try simp only [Act.put, List.setIfInBounds_toArray, List.set_cons_zero, List.set_cons_succ])
          | (refine wpT_last (by rfl) (fun K hK => ?_); go_simp; refine hK _ _ ?_; clear hK K)
          | (refine wpT_nil ?_))
        go_wp2_with fail
        go_roundw
        case rel => exact ⟨k + 1, c, I, O, dropT l t, _, _, by omega, by omega, by go_num, HIO.out, by omega, by omega, LL.out, N7.out, R7.out, DD.out⟩
        case measure => simp [intOf]; omega
      · refine wp_region_text [0,0,0,2,0,0,0,2,0,0] (fun W => W.cell? ⟨wr.heap.size, 1, none⟩ = some (.int .i64 t)) (by kernel_rfl) (by kernel_rfl) X1.out ?_
        repeat (first
          | (refine' wpT_calm (v := _) (by rfl) (fun W hW => ?_) ?_; rotate_left
             · ((try dsimp only at hW); go_simp; first | done | rfl)
             simp only [Act.put, List.setIfInBounds_toArray, List.set_cons_zero, List.set_cons_succ])
          | (refine' wpT_reads (v := _) (by rfl) ?_ ?_; rotate_left
             · (go_simp; first | done | rfl)
             simp only [Act.put, List.setIfInBounds_toArray, List.set_cons_zero, List.set_cons_succ])
          | (refine wpT_skip (by rfl) rfl ?_; simp only [Act.put, List.setIfInBounds_toArray, List.set_cons_zero, List.set_cons_succ])
          | (refine wpT_does (by rfl) (fun K hK => ?_); go_simp; refine hK _ _ ?_ ?_
             · (trivial)
             clear hK K; try simp only [Act.put, List.setIfInBounds_toArray, List.set_cons_zero, List.set_cons_succ])
          | (refine wpT_last (by rfl) (fun K hK => ?_); go_simp; refine hK _ _ ?_; clear hK K)
          | (refine wpT_nil ?_))
        refine wpT_does (by rfl) (fun K hK => ?_)
        go_simp
        have N1 := NX.out.keep (F := fun _ => False) ((Keep.refl _ _).drew) (fun _ h => h.elim)
        have R1 := RX.out.keep (F := fun _ => False) ((Keep.refl _ _).drew) (fun _ h => h.elim)
        refine (gwait_n t N1 (by omega) rfl rfl).mono ?_
        rintro _ W3 ⟨rfl, G3, N3, J3, K3⟩
        have y3 := (K3.cell (p := ⟨wr.heap.size, 1, none⟩) xl xg).trans X1.out
        have KSZ := hid K3.size
        have s1 := step1 N1 R1 D.out J3 K3
        have N3' := hid N3
        have S1 := hid s1.1
        have D1 := hid s1.2
        refine hK _ _ y3 ?_
        clear hK K J3 K3 N3 s1 N1 R1
        try simp only [Act.put, List.setIfInBounds_toArray, List.set_cons_zero, List.set_cons_succ]
        repeat (first
          | (refine' wpT_calm (v := _) (by rfl) (fun W hW => ?_) ?_; rotate_left
             · ((try dsimp only at hW); go_simp; first | done | rfl)
             simp only [Act.put, List.setIfInBounds_toArray, List.set_cons_zero, List.set_cons_succ])
          | (refine' wpT_reads (v := _) (by rfl) ?_ ?_; rotate_left
             · (go_simp; first | done | rfl)
             simp only [Act.put, List.setIfInBounds_toArray, List.set_cons_zero, List.set_cons_succ])
          | (refine wpT_skip (by rfl) rfl ?_; simp only [Act.put, List.setIfInBounds_toArray, List.set_cons_zero, List.set_cons_succ])
          | (refine wpT_does (by rfl) (fun K hK => ?_); go_simp; refine hK _ _ ?_ ?_
             · (trivial)
             clear hK K; try simp only [Act.put, List.setIfInBounds_toArray, List.set_cons_zero, List.set_cons_succ])
          | (refine wpT_last (by rfl) (fun K hK => ?_); go_simp; refine hK _ _ ?_; clear hK K)
          | (refine wpT_nil ?_))
        refine wpT_does (by rfl) (fun K hK => ?_)
        go_simp
        refine (rwait_any t S1.out (by omega) (by rw [HIO.out]) (by rw [HIO.out])).mono ?_
        rintro _ W4 ⟨rfl, G4, N4, J4, K4⟩
        have s2 := step2 N3'.out S1.out D1.out J4 K4
        have hx4 : W4.cell? ⟨wr.heap.size, 1, none⟩ = some (.int .i64 t) := (K4.cell (p := ⟨wr.heap.size, 1, none⟩) (Nat.lt_of_lt_of_le xl (by exact KSZ.out)) xr).trans y3
        have NN := hid s2.1
        have RR := hid N4
        have DD := hid s2.2
        refine hK _ _ hx4 ?_
        clear hK K J4 K4 N4 s2 hx4 y3 N3' S1 D1 KSZ
        try simp only [Act.put, List.setIfInBounds_toArray, List.set_cons_zero, List.set_cons_succ]
        repeat (first
          | (refine' wpT_calm (v := _) (by rfl) (fun W hW => ?_) ?_; rotate_left
             · ((try dsimp only at hW); go_simp; first | done | rfl)
             simp only [Act.put, List.setIfInBounds_toArray, List.set_cons_zero, List.set_cons_succ])
          | (refine' wpT_reads (v := _) (by rfl) ?_ ?_; rotate_left
             · (go_simp; first | done | rfl)
             simp only [Act.put, List.setIfInBounds_toArray, List.set_cons_zero, List.set_cons_succ])
          | (refine wpT_skip (by rfl) rfl ?_; simp only [Act.put, List.setIfInBounds_toArray, List.set_cons_zero, List.set_cons_succ])
          | (refine wpT_does (by rfl) (fun K hK => ?_); go_simp; refine hK _ _ ?_ ?_
             · (trivial)
             clear hK K; try simp only [Act.put, List.setIfInBounds_toArray, List.set_cons_zero, List.set_cons_succ])
          | (refine wpT_last (by rfl) (fun K hK => ?_); go_simp; refine hK _ _ ?_; clear hK K)
          | (refine wpT_nil ?_))
  
        obtain ⟨⟨hGr, hGlt, vr, hvr, hvG⟩, _⟩ := RR.out
        have q0 := hvr.get 0 (u := .int .i64 I) rfl
        have q1 := hvr.get 1 (u := .int .i64 O) rfl
        have q2 : W4.cell? ⟨r, 2, none⟩ = some vr := hvr.list
        have hrl := hvr.lt
        obtain ⟨ar, nr, hvf⟩ := hvr.own.form
        rw [hvf] at q2
        have HV := hid hvf
        have HR := hid hvr
        have LL : Hid ((waitL c l t).length ≤ k + 1) := hid (by have := waitL_len c l t; omega)
        clear hvr hvf hvG hGlt hGr
        go_wp2_with fail
        refine wp_region_text [0,0,0,0,2,0,0,0,0,0,0,0,0,0,0,0,0,0,2,0,0,0,0,2,0,0] (fun W => W.cell? ⟨r, 0, none⟩ = some (.int .i64 (I)) ∧ W.cell? ⟨r, 1, none⟩ = some (.int .i64 (O)) ∧ W.cell? ⟨r, 2, none⟩ = some (.slice ar (waitL c l t).length nr)) (by kernel_rfl) (by kernel_rfl) ⟨q0, q1, q2⟩ ?_
        repeat (first
          | (refine' wpT_calm (v := _) (by rfl) (fun W hW => ?_) ?_; rotate_left
             · ((try dsimp only at hW); go_simp; first | done | rfl)
             simp only [Act.put, List.setIfInBounds_toArray, List.set_cons_zero, List.set_cons_succ])
          | (refine' wpT_reads (v := _) (by rfl) ?_ ?_; rotate_left
             · (go_simp; first | done | rfl)
             simp only [Act.put, List.setIfInBounds_toArray, List.set_cons_zero, List.set_cons_succ])
          | (refine wpT_skip (by rfl) rfl ?_; simp only [Act.put, List.setIfInBounds_toArray, List.set_cons_zero, List.set_cons_succ])
          | (refine wpT_does (by rfl) (fun K hK => ?_); go_simp; refine hK _ _ ?_ ?_
             · (trivial)
             clear hK K; try simp only [Act.put, List.setIfInBounds_toArray, List.set_cons_zero, List.set_cons_succ])
          | (refine wpT_last (by rfl) (fun K hK => ?_); go_simp; refine hK _ _ ?_; clear hK K)
          | (refine wpT_nil ?_))
        refine wpT_does (by rfl) (fun K hK => ?_)
        go_simp
        have ND := NN.out.keep (F := fun _ => False) ((Keep.refl _ _).drew) (fun _ h => h.elim)
        have ND := hid ND
        refine (gcount_n ND.out).mono ?_
        rintro _ _ ⟨rfl, rfl⟩
        refine hK _ _ ⟨q0, q1, q2⟩ ?_
        clear hK K
        try simp only [Act.put, List.setIfInBounds_toArray, List.set_cons_zero, List.set_cons_succ]
        have sub : IntKind.i64.wrap ((I) - (O)) = c := by rw [wrap_plain _ (by have := HIO.out; omega) (by have := HIO.out; omega)]; exact HIO.out
        repeat (first
          | (refine' wpT_calm (v := _) (by rfl) (fun W hW => ?_) ?_; rotate_left
             · ((try dsimp only at hW); go_simp; first | done | rfl)
             simp only [Act.put, List.setIfInBounds_toArray, List.set_cons_zero, List.set_cons_succ])
          | (refine' wpT_reads (v := _) (by rfl) ?_ ?_; rotate_left
             · (go_simp; first | done | rfl)
             simp only [Act.put, List.setIfInBounds_toArray, List.set_cons_zero, List.set_cons_succ])
          | (refine wpT_skip (by rfl) rfl ?_; simp only [Act.put, List.setIfInBounds_toArray, List.set_cons_zero, List.set_cons_succ])
          | (refine wpT_does (by rfl) (fun K hK => ?_); go_simp; refine hK _ _ ?_ ?_
             · (trivial)
             clear hK K; try simp only [Act.put, List.setIfInBounds_toArray, List.set_cons_zero, List.set_cons_succ])
          | (refine wpT_last (by rfl) (fun K hK => ?_); go_simp; refine hK _ _ ?_; clear hK K)
          | (refine wpT_nil ?_))
        refine wpT_does (by rfl) (fun K hK => ?_)
        go_simp
        refine (gwaits_n ND.out (by have := LL.out; omega)).mono ?_
        rintro _ W6 ⟨a6, n6, rfl, N6, R6, K6⟩
        have K60 : Keep (fun _ => False) W4 W6 := ((Keep.refl _ _).drew).trans K6
        have p0 := (K60.cell (p := ⟨r, 0, none⟩) hrl (fun h => h)).trans q0
        have p1 := (K60.cell (p := ⟨r, 1, none⟩) hrl (fun h => h)).trans q1
        have p2 := (K60.cell (p := ⟨r, 2, none⟩) hrl (fun h => h)).trans q2
        have N6 := hid N6
        have R6 := hid R6
        have O6 := hid (HR.out.own.keep K60 (fun _ _ h => h)).reads
        have RN6 := hid (RR.out.keep K60 (fun _ h => h.elim))
        rw [HV.out] at O6
        refine hK _ _ ⟨p0, p1, p2⟩ ?_
        clear hK K K6 K60
        try simp only [Act.put, List.setIfInBounds_toArray, List.set_cons_zero, List.set_cons_succ]
        repeat (first
          | (refine' wpT_calm (v := _) (by rfl) (fun W hW => ?_) ?_; rotate_left
             · ((try dsimp only at hW); go_simp; first | done | rfl)
             simp only [Act.put, List.setIfInBounds_toArray, List.set_cons_zero, List.set_cons_succ])
          | (refine' wpT_reads (v := _) (by rfl) ?_ ?_; rotate_left
             · (go_simp; first | done | rfl)
             simp only [Act.put, List.setIfInBounds_toArray, List.set_cons_zero, List.set_cons_succ])
          | (refine wpT_skip (by rfl) rfl ?_; simp only [Act.put, List.setIfInBounds_toArray, List.set_cons_zero, List.set_cons_succ])
          | (refine wpT_does (by rfl) (fun K hK => ?_); go_simp; refine hK _ _ ?_ ?_
             · (trivial)
             clear hK K; try simp only [Act.put, List.setIfInBounds_toArray, List.set_cons_zero, List.set_cons_succ])
          | (refine wpT_last (by rfl) (fun K hK => ?_); go_simp; refine hK _ _ ?_; clear hK K)
          | (refine wpT_nil ?_))
        refine wpT_does (by rfl) (fun K hK => ?_)
        go_simp
        refine (ints_any R6.out O6.out).mono ?_
        rintro _ W7 ⟨rfl, K7⟩
        rw [show decide (waitL c l t = waitL c l t) = true from decide_eq_true rfl]
        have z0 := (K7.cell (p := ⟨r, 0, none⟩) (World.block_lt_of_cell? _ _ p0) (fun h => h)).trans p0
        have z1 := (K7.cell (p := ⟨r, 1, none⟩) (World.block_lt_of_cell? _ _ p1) (fun h => h)).trans p1
        have z2 := (K7.cell (p := ⟨r, 2, none⟩) (World.block_lt_of_cell? _ _ p2) (fun h => h)).trans p2
        have N7 := hid (N6.out.keep K7 (fun _ h => h.elim))
        have R7 := hid (RN6.out.keep K7 (fun _ h => h.elim))
        refine hK _ _ ⟨z0, z1, z2⟩ ?_
        clear hK K K7
        try simp only [Act.put, List.setIfInBounds_toArray, List.set_cons_zero, List.set_cons_succ]
        repeat (first
          | (refine' wpT_calm (v := _) (by rfl) (fun W hW => ?_) ?_; rotate_left
             · ((try dsimp only at hW); go_simp; first | done | rfl)
             simp only [Act.put, List.setIfInBounds_toArray, List.set_cons_zero, List.set_cons_succ])
          | (refine' wpT_reads (v := _) (by rfl) ?_ ?_; rotate_left
             · (go_simp; first | done | rfl)
             simp only [Act.put, List.setIfInBounds_toArray, List.set_cons_zero, List.set_cons_succ])
          | (refine wpT_skip (by rfl) rfl ?_; simp only [Act.put, List.setIfInBounds_toArray, List.set_cons_zero, List.set_cons_succ])
          | (refine wpT_does (by rfl) (fun K hK => ?_); go_simp; refine hK _ _ ?_ ?_
             · (trivial)
             clear hK K; try simp only [Act.put, List.setIfInBounds_toArray, List.set_cons_zero, List.set_cons_succ])
          | (refine wpT_last (by rfl) (fun K hK => ?_); go_simp; refine hK _ _ ?_; clear hK K)
          | (refine wpT_nil ?_))
        go_wp2_with fail
        go_roundw
        case rel => exact ⟨k + 1, c, I, O, waitL c l t, _, _, by omega, by omega, by go_num, HIO.out, by omega, by omega, LL.out, N7.out, R7.out, DD.out⟩
        case measure => simp [intOf]; omega
      · refine wp_region_text [0,0,0,2,0,0,0,2,0,0] (fun W => W.cell? ⟨wr.heap.size, 1, none⟩ = some (.int .i64 t)) (by kernel_rfl) (by kernel_rfl) X1.out ?_
        repeat (first
          | (refine' wpT_calm (v := _) (by rfl) (fun W hW => ?_) ?_; rotate_left
             · ((try dsimp only at hW); go_simp; first | done | rfl)
             simp only [Act.put, List.setIfInBounds_toArray, List.set_cons_zero, List.set_cons_succ])
          | (refine' wpT_reads (v := _) (by rfl) ?_ ?_; rotate_left
             · (go_simp; first | done | rfl)
             simp only [Act.put, List.setIfInBounds_toArray, List.set_cons_zero, List.set_cons_succ])
          | (refine wpT_skip (by rfl) rfl ?_; simp only [Act.put, List.setIfInBounds_toArray, List.set_cons_zero, List.set_cons_succ])
          | (refine wpT_does (by rfl) (fun K hK => ?_); go_simp; refine hK _ _ ?_ ?_
             · (trivial)
             clear hK K; try simp only [Act.put, List.setIfInBounds_toArray, List.set_cons_zero, List.set_cons_succ])
          | (refine wpT_last (by rfl) (fun K hK => ?_); go_simp; refine hK _ _ ?_; clear hK K)
          | (refine wpT_nil ?_))
        refine wpT_does (by rfl) (fun K hK => ?_)
        go_simp
        have N1 := NX.out.keep (F := fun _ => False) ((Keep.refl _ _).drew) (fun _ h => h.elim)
        have R1 := RX.out.keep (F := fun _ => False) ((Keep.refl _ _).drew) (fun _ h => h.elim)
        refine (gwait_n t N1 (by omega) rfl rfl).mono ?_
        rintro _ W3 ⟨rfl, G3, N3, J3, K3⟩
        have y3 := (K3.cell (p := ⟨wr.heap.size, 1, none⟩) xl xg).trans X1.out
        have KSZ := hid K3.size
        have s1 := step1 N1 R1 D.out J3 K3
        have N3' := hid N3
        have S1 := hid s1.1
        have D1 := hid s1.2
        refine hK _ _ y3 ?_
        clear hK K J3 K3 N3 s1 N1 R1
        try simp only [Act.put, List.setIfInBounds_toArray, List.set_cons_zero, List.set_cons_succ]
        repeat (first
          | (refine' wpT_calm (v := _) (by rfl) (fun W hW => ?_) ?_; rotate_left
             · ((try dsimp only at hW); go_simp; first | done | rfl)
             simp only [Act.put, List.setIfInBounds_toArray, List.set_cons_zero, List.set_cons_succ])
          | (refine' wpT_reads (v := _) (by rfl) ?_ ?_; rotate_left
             · (go_simp; first | done | rfl)
             simp only [Act.put, List.setIfInBounds_toArray, List.set_cons_zero, List.set_cons_succ])
          | (refine wpT_skip (by rfl) rfl ?_; simp only [Act.put, List.setIfInBounds_toArray, List.set_cons_zero, List.set_cons_succ])
          | (refine wpT_does (by rfl) (fun K hK => ?_); go_simp; refine hK _ _ ?_ ?_
             · (trivial)
             clear hK K; try simp only [Act.put, List.setIfInBounds_toArray, List.set_cons_zero, List.set_cons_succ])
          | (refine wpT_last (by rfl) (fun K hK => ?_); go_simp; refine hK _ _ ?_; clear hK K)
          | (refine wpT_nil ?_))
        refine wpT_does (by rfl) (fun K hK => ?_)
        go_simp
        refine (rwait_any t S1.out (by omega) (by rw [HIO.out]) (by rw [HIO.out])).mono ?_
        rintro _ W4 ⟨rfl, G4, N4, J4, K4⟩
        have s2 := step2 N3'.out S1.out D1.out J4 K4
        have hx4 : W4.cell? ⟨wr.heap.size, 1, none⟩ = some (.int .i64 t) := (K4.cell (p := ⟨wr.heap.size, 1, none⟩) (Nat.lt_of_lt_of_le xl (by exact KSZ.out)) xr).trans y3
        have NN := hid s2.1
        have RR := hid N4
        have DD := hid s2.2
        refine hK _ _ hx4 ?_
        clear hK K J4 K4 N4 s2 hx4 y3 N3' S1 D1 KSZ
        try simp only [Act.put, List.setIfInBounds_toArray, List.set_cons_zero, List.set_cons_succ]
        repeat (first
          | (refine' wpT_calm (v := _) (by rfl) (fun W hW => ?_) ?_; rotate_left
             · ((try dsimp only at hW); go_simp; first | done | rfl)
             simp only [Act.put, List.setIfInBounds_toArray, List.set_cons_zero, List.set_cons_succ])
          | (refine' wpT_reads (v := _) (by rfl) ?_ ?_; rotate_left
             · (go_simp; first | done | rfl)
             simp only [Act.put, List.setIfInBounds_toArray, List.set_cons_zero, List.set_cons_succ])
          | (refine wpT_skip (by rfl) rfl ?_; simp only [Act.put, List.setIfInBounds_toArray, List.set_cons_zero, List.set_cons_succ])
          | (refine wpT_does (by rfl) (fun K hK => ?_); go_simp; refine hK _ _ ?_ ?_
             · (trivial)
             clear hK K; try simp only [Act.put, List.setIfInBounds_toArray, List.set_cons_zero, List.set_cons_succ])
          | (refine wpT_last (by rfl) (fun K hK => ?_); go_simp; refine hK _ _ ?_; clear hK K)
          | (refine wpT_nil ?_))
  
        obtain ⟨⟨hGr, hGlt, vr, hvr, hvG⟩, _⟩ := RR.out
        have q0 := hvr.get 0 (u := .int .i64 I) rfl
        have q1 := hvr.get 1 (u := .int .i64 O) rfl
        have q2 : W4.cell? ⟨r, 2, none⟩ = some vr := hvr.list
        have hrl := hvr.lt
        obtain ⟨ar, nr, hvf⟩ := hvr.own.form
        rw [hvf] at q2
        have HV := hid hvf
        have HR := hid hvr
        have LL : Hid ((waitL c l t).length ≤ k + 1) := hid (by have := waitL_len c l t; omega)
        clear hvr hvf hvG hGlt hGr
        go_wp2_with fail
        refine wp_region_text [0,0,0,0,2,0,0,0,0,0,0,0,0,0,0,0,0,0,2,0,0,0,0,2,0,0] (fun W => W.cell? ⟨r, 0, none⟩ = some (.int .i64 (I)) ∧ W.cell? ⟨r, 1, none⟩ = some (.int .i64 (O)) ∧ W.cell? ⟨r, 2, none⟩ = some (.slice ar (waitL c l t).length nr)) (by kernel_rfl) (by kernel_rfl) ⟨q0, q1, q2⟩ ?_
        repeat (first
          | (refine' wpT_calm (v := _) (by rfl) (fun W hW => ?_) ?_; rotate_left
             · ((try dsimp only at hW); go_simp; first | done | rfl)
             simp only [Act.put, List.setIfInBounds_toArray, List.set_cons_zero, List.set_cons_succ])
          | (refine' wpT_reads (v := _) (by rfl) ?_ ?_; rotate_left
             · (go_simp; first | done | rfl)
             simp only [Act.put, List.setIfInBounds_toArray, List.set_cons_zero, List.set_cons_succ])
          | (refine wpT_skip (by rfl) rfl ?_; simp only [Act.put, List.setIfInBounds_toArray, List.set_cons_zero, List.set_cons_succ])
          | (refine wpT_does (by rfl) (fun K hK => ?_); go_simp; refine hK _ _ ?_ ?_
             · (trivial)
             clear hK K; try simp only [Act.put, List.setIfInBounds_toArray, List.set_cons_zero, List.set_cons_succ])
          | (refine wpT_last (by rfl) (fun K hK => ?_); go_simp; refine hK _ _ ?_; clear hK K)
          | (refine wpT_nil ?_))
        refine wpT_does (by rfl) (fun K hK => ?_)
        go_simp
        have ND := NN.out.keep (F := fun _ => False) ((Keep.refl _ _).drew) (fun _ h => h.elim)
        have ND := hid ND
        refine (gcount_n ND.out).mono ?_
        rintro _ _ ⟨rfl, rfl⟩
        refine hK _ _ ⟨q0, q1, q2⟩ ?_
        clear hK K
        try simp only [Act.put, List.setIfInBounds_toArray, List.set_cons_zero, List.set_cons_succ]
        have sub : IntKind.i64.wrap ((I) - (O)) = c := by rw [wrap_plain _ (by have := HIO.out; omega) (by have := HIO.out; omega)]; exact HIO.out
        repeat (first
          | (refine' wpT_calm (v := _) (by rfl) (fun W hW => ?_) ?_; rotate_left
             · ((try dsimp only at hW); go_simp; first | done | rfl)
             simp only [Act.put, List.setIfInBounds_toArray, List.set_cons_zero, List.set_cons_succ])
          | (refine' wpT_reads (v := _) (by rfl) ?_ ?_; rotate_left
             · (go_simp; first | done | rfl)
             simp only [Act.put, List.setIfInBounds_toArray, List.set_cons_zero, List.set_cons_succ])
          | (refine wpT_skip (by rfl) rfl ?_; simp only [Act.put, List.setIfInBounds_toArray, List.set_cons_zero, List.set_cons_succ])
          | (refine wpT_does (by rfl) (fun K hK => ?_); go_simp; refine hK _ _ ?_ ?_
             · (trivial)
             clear hK K; try simp only [Act.put, List.setIfInBounds_toArray, List.set_cons_zero, List.set_cons_succ])
          | (refine wpT_last (by rfl) (fun K hK => ?_); go_simp; refine hK _ _ ?_; clear hK K)
          | (refine wpT_nil ?_))
        refine wpT_does (by rfl) (fun K hK => ?_)
        go_simp
        refine (gwaits_n ND.out (by have := LL.out; omega)).mono ?_
        rintro _ W6 ⟨a6, n6, rfl, N6, R6, K6⟩
        have K60 : Keep (fun _ => False) W4 W6 := ((Keep.refl _ _).drew).trans K6
        have p0 := (K60.cell (p := ⟨r, 0, none⟩) hrl (fun h => h)).trans q0
        have p1 := (K60.cell (p := ⟨r, 1, none⟩) hrl (fun h => h)).trans q1
        have p2 := (K60.cell (p := ⟨r, 2, none⟩) hrl (fun h => h)).trans q2
        have N6 := hid N6
        have R6 := hid R6
        have O6 := hid (HR.out.own.keep K60 (fun _ _ h => h)).reads
        have RN6 := hid (RR.out.keep K60 (fun _ h => h.elim))
        rw [HV.out] at O6
        refine hK _ _ ⟨p0, p1, p2⟩ ?_
        clear hK K K6 K60
        try simp only [Act.put, List.setIfInBounds_toArray, List.set_cons_zero, List.set_cons_succ]
        repeat (first
          | (refine' wpT_calm (v := _) (by rfl) (fun W hW => ?_) ?_; rotate_left
             · ((try dsimp only at hW); go_simp; first | done | rfl)
             simp only [Act.put, List.setIfInBounds_toArray, List.set_cons_zero, List.set_cons_succ])
          | (refine' wpT_reads (v := _) (by rfl) ?_ ?_; rotate_left
             · (go_simp; first | done | rfl)
             simp only [Act.put, List.setIfInBounds_toArray, List.set_cons_zero, List.set_cons_succ])
          | (refine wpT_skip (by rfl) rfl ?_; simp only [Act.put, List.setIfInBounds_toArray, List.set_cons_zero, List.set_cons_succ])
          | (refine wpT_does (by rfl) (fun K hK => ?_); go_simp; refine hK _ _ ?_ ?_
             · (trivial)
             clear hK K; try simp only [Act.put, List.setIfInBounds_toArray, List.set_cons_zero, List.set_cons_succ])
          | (refine wpT_last (by rfl) (fun K hK => ?_); go_simp; refine hK _ _ ?_; clear hK K)
          | (refine wpT_nil ?_))
        refine wpT_does (by rfl) (fun K hK => ?_)
        go_simp
        refine (ints_any R6.out O6.out).mono ?_
        rintro _ W7 ⟨rfl, K7⟩
        rw [show decide (waitL c l t = waitL c l t) = true from decide_eq_true rfl]
        have z0 := (K7.cell (p := ⟨r, 0, none⟩) (World.block_lt_of_cell? _ _ p0) (fun h => h)).trans p0
        have z1 := (K7.cell (p := ⟨r, 1, none⟩) (World.block_lt_of_cell? _ _ p1) (fun h => h)).trans p1
        have z2 := (K7.cell (p := ⟨r, 2, none⟩) (World.block_lt_of_cell? _ _ p2) (fun h => h)).trans p2
        have N7 := hid (N6.out.keep K7 (fun _ h => h.elim))
        have R7 := hid (RN6.out.keep K7 (fun _ h => h.elim))
        refine hK _ _ ⟨z0, z1, z2⟩ ?_
        clear hK K K7
        try simp only [Act.put, List.setIfInBounds_toArray, List.set_cons_zero, List.set_cons_succ]
        repeat (first
          | (refine' wpT_calm (v := _) (by rfl) (fun W hW => ?_) ?_; rotate_left
             · ((try dsimp only at hW); go_simp; first | done | rfl)
             simp only [Act.put, List.setIfInBounds_toArray, List.set_cons_zero, List.set_cons_succ])
          | (refine' wpT_reads (v := _) (by rfl) ?_ ?_; rotate_left
             · (go_simp; first | done | rfl)
             simp only [Act.put, List.setIfInBounds_toArray, List.set_cons_zero, List.set_cons_succ])
          | (refine wpT_skip (by rfl) rfl ?_; simp only [Act.put, List.setIfInBounds_toArray, List.set_cons_zero, List.set_cons_succ])
          | (refine wpT_does (by rfl) (fun K hK => ?_); go_simp; refine hK _ _ ?_ ?_
             · (trivial)
             clear hK K; try simp only [Act.put, List.setIfInBounds_toArray, List.set_cons_zero, List.set_cons_succ])
          | (refine wpT_last (by rfl) (fun K hK => ?_); go_simp; refine hK _ _ ?_; clear hK K)
          | (refine wpT_nil ?_))
        go_wp2_with fail
        go_roundw
        case rel => exact ⟨k + 1, c, I, O, waitL c l t, _, _, by omega, by omega, by go_num, HIO.out, by omega, by omega, LL.out, N7.out, R7.out, DD.out⟩
        case measure => simp [intOf]; omega
      · refine wp_region_text [0,0,0,2,0,0,0,2,0,0] (fun W => W.cell? ⟨wr.heap.size, 1, none⟩ = some (.int .i64 t)) (by kernel_rfl) (by kernel_rfl) X1.out ?_
        repeat (first
          | (refine' wpT_calm (v := _) (by rfl) (fun W hW => ?_) ?_; rotate_left
             · ((try dsimp only at hW); go_simp; first | done | rfl)
             simp only [Act.put, List.setIfInBounds_toArray, List.set_cons_zero, List.set_cons_succ])
          | (refine' wpT_reads (v := _) (by rfl) ?_ ?_; rotate_left
             · (go_simp; first | done | rfl)
             simp only [Act.put, List.setIfInBounds_toArray, List.set_cons_zero, List.set_cons_succ])
          | (refine wpT_skip (by rfl) rfl ?_; simp only [Act.put, List.setIfInBounds_toArray, List.set_cons_zero, List.set_cons_succ])
          | (refine wpT_does (by rfl) (fun K hK => ?_); go_simp; refine hK _ _ ?_ ?_
             · (trivial)
             clear hK K; try simp only [Act.put, List.setIfInBounds_toArray, List.set_cons_zero, List.set_cons_succ])
          | (refine wpT_last (by rfl) (fun K hK => ?_); go_simp; refine hK _ _ ?_; clear hK K)
          | (refine wpT_nil ?_))
        refine wpT_does (by rfl) (fun K hK => ?_)
        go_simp
        have N1 := NX.out.keep (F := fun _ => False) ((Keep.refl _ _).drew) (fun _ h => h.elim)
        have R1 := RX.out.keep (F := fun _ => False) ((Keep.refl _ _).drew) (fun _ h => h.elim)
        refine (gwait_n t N1 (by omega) rfl rfl).mono ?_
        rintro _ W3 ⟨rfl, G3, N3, J3, K3⟩
        have y3 := (K3.cell (p := ⟨wr.heap.size, 1, none⟩) xl xg).trans X1.out
        have KSZ := hid K3.size
        have s1 := step1 N1 R1 D.out J3 K3
        have N3' := hid N3
        have S1 := hid s1.1
        have D1 := hid s1.2
        refine hK _ _ y3 ?_
        clear hK K J3 K3 N3 s1 N1 R1
        try simp only [Act.put, List.setIfInBounds_toArray, List.set_cons_zero, List.set_cons_succ]
        repeat (first
          | (refine' wpT_calm (v := _) (by rfl) (fun W hW => ?_) ?_; rotate_left
             · ((try dsimp only at hW); go_simp; first | done | rfl)
             simp only [Act.put, List.setIfInBounds_toArray, List.set_cons_zero, List.set_cons_succ])
          | (refine' wpT_reads (v := _) (by rfl) ?_ ?_; rotate_left
             · (go_simp; first | done | rfl)
             simp only [Act.put, List.setIfInBounds_toArray, List.set_cons_zero, List.set_cons_succ])
          | (refine wpT_skip (by rfl) rfl ?_; simp only [Act.put, List.setIfInBounds_toArray, List.set_cons_zero, List.set_cons_succ])
          | (refine wpT_does (by rfl) (fun K hK => ?_); go_simp; refine hK _ _ ?_ ?_
             · (trivial)
             clear hK K; try simp only [Act.put, List.setIfInBounds_toArray, List.set_cons_zero, List.set_cons_succ])
          | (refine wpT_last (by rfl) (fun K hK => ?_); go_simp; refine hK _ _ ?_; clear hK K)
          | (refine wpT_nil ?_))
        refine wpT_does (by rfl) (fun K hK => ?_)
        go_simp
        refine (rwait_any t S1.out (by omega) (by rw [HIO.out]) (by rw [HIO.out])).mono ?_
        rintro _ W4 ⟨rfl, G4, N4, J4, K4⟩
        have s2 := step2 N3'.out S1.out D1.out J4 K4
        have hx4 : W4.cell? ⟨wr.heap.size, 1, none⟩ = some (.int .i64 t) := (K4.cell (p := ⟨wr.heap.size, 1, none⟩) (Nat.lt_of_lt_of_le xl (by exact KSZ.out)) xr).trans y3
        have NN := hid s2.1
        have RR := hid N4
        have DD := hid s2.2
        refine hK _ _ hx4 ?_
        clear hK K J4 K4 N4 s2 hx4 y3 N3' S1 D1 KSZ
        try simp only [Act.put, List.setIfInBounds_toArray, List.set_cons_zero, List.set_cons_succ]
        repeat (first
          | (refine' wpT_calm (v := _) (by rfl) (fun W hW => ?_) ?_; rotate_left
             · ((try dsimp only at hW); go_simp; first | done | rfl)
             simp only [Act.put, List.setIfInBounds_toArray, List.set_cons_zero, List.set_cons_succ])
          | (refine' wpT_reads (v := _) (by rfl) ?_ ?_; rotate_left
             · (go_simp; first | done | rfl)
             simp only [Act.put, List.setIfInBounds_toArray, List.set_cons_zero, List.set_cons_succ])
          | (refine wpT_skip (by rfl) rfl ?_; simp only [Act.put, List.setIfInBounds_toArray, List.set_cons_zero, List.set_cons_succ])
          | (refine wpT_does (by rfl) (fun K hK => ?_); go_simp; refine hK _ _ ?_ ?_
             · (trivial)
             clear hK K; try simp only [Act.put, List.setIfInBounds_toArray, List.set_cons_zero, List.set_cons_succ])
          | (refine wpT_last (by rfl) (fun K hK => ?_); go_simp; refine hK _ _ ?_; clear hK K)
          | (refine wpT_nil ?_))
  
        obtain ⟨⟨hGr, hGlt, vr, hvr, hvG⟩, _⟩ := RR.out
        have q0 := hvr.get 0 (u := .int .i64 I) rfl
        have q1 := hvr.get 1 (u := .int .i64 O) rfl
        have q2 : W4.cell? ⟨r, 2, none⟩ = some vr := hvr.list
        have hrl := hvr.lt
        obtain ⟨ar, nr, hvf⟩ := hvr.own.form
        rw [hvf] at q2
        have HV := hid hvf
        have HR := hid hvr
        have LL : Hid ((waitL c l t).length ≤ k + 1) := hid (by have := waitL_len c l t; omega)
        clear hvr hvf hvG hGlt hGr
        go_wp2_with fail
        refine wp_region_text [0,0,0,0,2,0,0,0,0,0,0,0,0,0,0,0,0,0,2,0,0,0,0,2,0,0] (fun W => W.cell? ⟨r, 0, none⟩ = some (.int .i64 (I)) ∧ W.cell? ⟨r, 1, none⟩ = some (.int .i64 (O)) ∧ W.cell? ⟨r, 2, none⟩ = some (.slice ar (waitL c l t).length nr)) (by kernel_rfl) (by kernel_rfl) ⟨q0, q1, q2⟩ ?_
        repeat (first
          | (refine' wpT_calm (v := _) (by rfl) (fun W hW => ?_) ?_; rotate_left
             · ((try dsimp only at hW); go_simp; first | done | rfl)
             simp only [Act.put, List.setIfInBounds_toArray, List.set_cons_zero, List.set_cons_succ])
          | (refine' wpT_reads (v := _) (by rfl) ?_ ?_; rotate_left
             · (go_simp; first | done | rfl)
             simp only [Act.put, List.setIfInBounds_toArray, List.set_cons_zero, List.set_cons_succ])
          | (refine wpT_skip (by rfl) rfl ?_; simp only [Act.put, List.setIfInBounds_toArray, List.set_cons_zero, List.set_cons_succ])
          | (refine wpT_does (by rfl) (fun K hK => ?_); go_simp; refine hK _ _ ?_ ?_
             · (trivial)
             clear hK K; try simp only [Act.put, List.setIfInBounds_toArray, List.set_cons_zero, List.set_cons_succ])
          | (refine wpT_last (by rfl) (fun K hK => ?_); go_simp; refine hK _ _ ?_; clear hK K)
          | (refine wpT_nil ?_))
        refine wpT_does (by rfl) (fun K hK => ?_)
        go_simp
        have ND := NN.out.keep (F := fun _ => False) ((Keep.refl _ _).drew) (fun _ h => h.elim)
        have ND := hid ND
        refine (gcount_n ND.out).mono ?_
        rintro _ _ ⟨rfl, rfl⟩
        refine hK _ _ ⟨q0, q1, q2⟩ ?_
        clear hK K
        try simp only [Act.put, List.setIfInBounds_toArray, List.set_cons_zero, List.set_cons_succ]
        have sub : IntKind.i64.wrap ((I) - (O)) = c := by rw [wrap_plain _ (by have := HIO.out; omega) (by have := HIO.out; omega)]; exact HIO.out
        repeat (first
          | (refine' wpT_calm (v := _) (by rfl) (fun W hW => ?_) ?_; rotate_left
             · ((try dsimp only at hW); go_simp; first | done | rfl)
             simp only [Act.put, List.setIfInBounds_toArray, List.set_cons_zero, List.set_cons_succ])
          | (refine' wpT_reads (v := _) (by rfl) ?_ ?_; rotate_left
             · (go_simp; first | done | rfl)
             simp only [Act.put, List.setIfInBounds_toArray, List.set_cons_zero, List.set_cons_succ])
          | (refine wpT_skip (by rfl) rfl ?_; simp only [Act.put, List.setIfInBounds_toArray, List.set_cons_zero, List.set_cons_succ])
          | (refine wpT_does (by rfl) (fun K hK => ?_); go_simp; refine hK _ _ ?_ ?_
             · (trivial)
             clear hK K; try simp only [Act.put, List.setIfInBounds_toArray, List.set_cons_zero, List.set_cons_succ])
          | (refine wpT_last (by rfl) (fun K hK => ?_); go_simp; refine hK _ _ ?_; clear hK K)
          | (refine wpT_nil ?_))
        refine wpT_does (by rfl) (fun K hK => ?_)
        go_simp
        refine (gwaits_n ND.out (by have := LL.out; omega)).mono ?_
        rintro _ W6 ⟨a6, n6, rfl, N6, R6, K6⟩
        have K60 : Keep (fun _ => False) W4 W6 := ((Keep.refl _ _).drew).trans K6
        have p0 := (K60.cell (p := ⟨r, 0, none⟩) hrl (fun h => h)).trans q0
        have p1 := (K60.cell (p := ⟨r, 1, none⟩) hrl (fun h => h)).trans q1
        have p2 := (K60.cell (p := ⟨r, 2, none⟩) hrl (fun h => h)).trans q2
        have N6 := hid N6
        have R6 := hid R6
        have O6 := hid (HR.out.own.keep K60 (fun _ _ h => h)).reads
        have RN6 := hid (RR.out.keep K60 (fun _ h => h.elim))
        rw [HV.out] at O6
        refine hK _ _ ⟨p0, p1, p2⟩ ?_
        clear hK K K6 K60
        try simp only [Act.put, List.setIfInBounds_toArray, List.set_cons_zero, List.set_cons_succ]
        repeat (first
          | (refine' wpT_calm (v := _) (by rfl) (fun W hW => ?_) ?_; rotate_left
             · ((try dsimp only at hW); go_simp; first | done | rfl)
             simp only [Act.put, List.setIfInBounds_toArray, List.set_cons_zero, List.set_cons_succ])
          | (refine' wpT_reads (v := _) (by rfl) ?_ ?_; rotate_left
             · (go_simp; first | done | rfl)
             simp only [Act.put, List.setIfInBounds_toArray, List.set_cons_zero, List.set_cons_succ])
          | (refine wpT_skip (by rfl) rfl ?_; simp only [Act.put, List.setIfInBounds_toArray, List.set_cons_zero, List.set_cons_succ])
          | (refine wpT_does (by rfl) (fun K hK => ?_); go_simp; refine hK _ _ ?_ ?_
             · (trivial)
             clear hK K; try simp only [Act.put, List.setIfInBounds_toArray, List.set_cons_zero, List.set_cons_succ])
          | (refine wpT_last (by rfl) (fun K hK => ?_); go_simp; refine hK _ _ ?_; clear hK K)
          | (refine wpT_nil ?_))
        refine wpT_does (by rfl) (fun K hK => ?_)
        go_simp
        refine (ints_any R6.out O6.out).mono ?_
        rintro _ W7 ⟨rfl, K7⟩
        rw [show decide (waitL c l t = waitL c l t) = true from decide_eq_true rfl]
        have z0 := (K7.cell (p := ⟨r, 0, none⟩) (World.block_lt_of_cell? _ _ p0) (fun h => h)).trans p0
        have z1 := (K7.cell (p := ⟨r, 1, none⟩) (World.block_lt_of_cell? _ _ p1) (fun h => h)).trans p1
        have z2 := (K7.cell (p := ⟨r, 2, none⟩) (World.block_lt_of_cell? _ _ p2) (fun h => h)).trans p2
        have N7 := hid (N6.out.keep K7 (fun _ h => h.elim))
        have R7 := hid (RN6.out.keep K7 (fun _ h => h.elim))
        refine hK _ _ ⟨z0, z1, z2⟩ ?_
        clear hK K K7
        try simp only [Act.put, List.setIfInBounds_toArray, List.set_cons_zero, List.set_cons_succ]
        repeat (first
          | (refine' wpT_calm (v := _) (by rfl) (fun W hW => ?_) ?_; rotate_left
             · ((try dsimp only at hW); go_simp; first | done | rfl)
             simp only [Act.put, List.setIfInBounds_toArray, List.set_cons_zero, List.set_cons_succ])
          | (refine' wpT_reads (v := _) (by rfl) ?_ ?_; rotate_left
             · (go_simp; first | done | rfl)
             simp only [Act.put, List.setIfInBounds_toArray, List.set_cons_zero, List.set_cons_succ])
          | (refine wpT_skip (by rfl) rfl ?_; simp only [Act.put, List.setIfInBounds_toArray, List.set_cons_zero, List.set_cons_succ])
          | (refine wpT_does (by rfl) (fun K hK => ?_); go_simp; refine hK _ _ ?_ ?_
             · (trivial)
             clear hK K; try simp only [Act.put, List.setIfInBounds_toArray, List.set_cons_zero, List.set_cons_succ])
          | (refine wpT_last (by rfl) (fun K hK => ?_); go_simp; refine hK _ _ ?_; clear hK K)
          | (refine wpT_nil ?_))
        go_wp2_with fail
        go_roundw
        case rel => exact ⟨k + 1, c, I, O, waitL c l t, _, _, by omega, by omega, by go_num, HIO.out, by omega, by omega, LL.out, N7.out, R7.out, DD.out⟩
        case measure => simp [intOf]; omega
      · have N0 := NX.out
        refine (gadd_n n N0 rfl rfl rfl rfl).mono ?_
        rintro _ W3 ⟨a3, m3, rfl, L3, K3, G3, N3, J3, Q3⟩
        have y3 := (K3.cell (p := ⟨wr.heap.size, 2, none⟩) xl xg).trans X2.out
        have s1 := step1 N0 RX.out D.out (fun k hk => .inl (J3 k hk)) K3
        have N3' := hid N3
        have S1 := hid s1.1
        have D1 := hid s1.2
        have L3' := hid L3
        have Q3' : Hid (∀ k, (Value.slice a3 (addO c l n).length m3).ownBlock = some k → ¬ G2 k) := fun k hk => D.out k (Q3 k hk).1
        have ra := radd_any n S1.out hO (by have := HIO.out; omega) (by have := HIO.out; omega) (by omega)
        rw [HIO.out] at ra
        have RA := hid ra
        have AL := hid (addL_len c l n)
        clear s1 K3 J3 Q3 N3 L3 N0 NX RX ra
        go_wp2_with fail
        refine RA.out.mono ?_
        rintro _ W4 ⟨a4, m4, I4, O4, rfl, hIO4, hO4, hI4, L4, K4, G4, N4, J4, Q4⟩
        have s2 := step2 N3'.out S1.out D1.out J4 K4
        have NN3 := hid s2.1
        have RR3 := hid N4
        have DD := hid s2.2
        have L5 := hid (L3'.out.keep K4 Q3'.out)
        have L6 := hid L4
        have HIO4 := hid hIO4
        clear s2 N4 L4 K4 J4 Q4 RA L3' Q3' N3' S1 D1 hIO4
        generalize addO c l n = q at *
        generalize addL c l n = la at *
        go_wp2_with fail
        refine (ints_any L5.out L6.out).mono ?_
        rintro _ W5 ⟨rfl, K5⟩
        rw [show decide (q = q) = true from decide_eq_true rfl]
        have NN := hid (NN3.out.keep K5 (fun _ h => h.elim))
        have RR := hid (RR3.out.keep K5 (fun _ h => h.elim))
        clear K5 NN3 RR3 L5 L6
        have hcb := NN.out.bounds
        obtain ⟨hcb0, hcb1⟩ := hcb
        generalize addC c n = cn at *
  
        obtain ⟨⟨hGr, hGlt, vr, hvr, hvG⟩, _⟩ := RR.out
        have q0 := hvr.get 0 (u := .int .i64 I4) rfl
        have q1 := hvr.get 1 (u := .int .i64 O4) rfl
        have q2 : W5.cell? ⟨r, 2, none⟩ = some vr := hvr.list
        have hrl := hvr.lt
        obtain ⟨ar, nr, hvf⟩ := hvr.own.form
        rw [hvf] at q2
        have HV := hid hvf
        have HR := hid hvr
        have LL : Hid ((la).length ≤ k + 1) := hid (by have := AL.out; omega)
        clear hvr hvf hvG hGlt hGr
        go_wp2_with fail
        refine wp_region_text [0,0,0,0,2,0,0,0,0,0,0,0,0,0,0,0,0,0,2,0,0,0,0,2,0,0] (fun W => W.cell? ⟨r, 0, none⟩ = some (.int .i64 (I4)) ∧ W.cell? ⟨r, 1, none⟩ = some (.int .i64 (O4)) ∧ W.cell? ⟨r, 2, none⟩ = some (.slice ar (la).length nr)) (by kernel_rfl) (by kernel_rfl) ⟨q0, q1, q2⟩ ?_
        repeat (first
          | (refine' wpT_calm (v := _) (by rfl) (fun W hW => ?_) ?_; rotate_left
             · ((try dsimp only at hW); go_simp; first | done | rfl)
             simp only [Act.put, List.setIfInBounds_toArray, List.set_cons_zero, List.set_cons_succ])
          | (refine' wpT_reads (v := _) (by rfl) ?_ ?_; rotate_left
             · (go_simp; first | done | rfl)
             simp only [Act.put, List.setIfInBounds_toArray, List.set_cons_zero, List.set_cons_succ])
          | (refine wpT_skip (by rfl) rfl ?_; simp only [Act.put, List.setIfInBounds_toArray, List.set_cons_zero, List.set_cons_succ])
          | (refine wpT_does (by rfl) (fun K hK => ?_); go_simp; refine hK _ _ ?_ ?_
             · (trivial)
             clear hK K; try simp only [Act.put, List.setIfInBounds_toArray, List.set_cons_zero, List.set_cons_succ])
          | (refine wpT_last (by rfl) (fun K hK => ?_); go_simp; refine hK _ _ ?_; clear hK K)
          | (refine wpT_nil ?_))
        refine wpT_does (by rfl) (fun K hK => ?_)
        go_simp
        have ND := NN.out.keep (F := fun _ => False) ((Keep.refl _ _).drew) (fun _ h => h.elim)
        have ND := hid ND
        refine (gcount_n ND.out).mono ?_
        rintro _ _ ⟨rfl, rfl⟩
        refine hK _ _ ⟨q0, q1, q2⟩ ?_
        clear hK K
        try simp only [Act.put, List.setIfInBounds_toArray, List.set_cons_zero, List.set_cons_succ]
        have sub : IntKind.i64.wrap ((I4) - (O4)) = cn := by rw [wrap_plain _ (by have := HIO4.out; omega) (by have := HIO4.out; omega)]; exact HIO4.out
        repeat (first
          | (refine' wpT_calm (v := _) (by rfl) (fun W hW => ?_) ?_; rotate_left
             · ((try dsimp only at hW); go_simp; first | done | rfl)
             simp only [Act.put, List.setIfInBounds_toArray, List.set_cons_zero, List.set_cons_succ])
          | (refine' wpT_reads (v := _) (by rfl) ?_ ?_; rotate_left
             · (go_simp; first | done | rfl)
             simp only [Act.put, List.setIfInBounds_toArray, List.set_cons_zero, List.set_cons_succ])
          | (refine wpT_skip (by rfl) rfl ?_; simp only [Act.put, List.setIfInBounds_toArray, List.set_cons_zero, List.set_cons_succ])
          | (refine wpT_does (by rfl) (fun K hK => ?_); go_simp; refine hK _ _ ?_ ?_
             · (trivial)
             clear hK K; try simp only [Act.put, List.setIfInBounds_toArray, List.set_cons_zero, List.set_cons_succ])
          | (refine wpT_last (by rfl) (fun K hK => ?_); go_simp; refine hK _ _ ?_; clear hK K)
          | (refine wpT_nil ?_))
        refine wpT_does (by rfl) (fun K hK => ?_)
        go_simp
        refine (gwaits_n ND.out (by have := LL.out; omega)).mono ?_
        rintro _ W6 ⟨a6, n6, rfl, N6, R6, K6⟩
        have K60 : Keep (fun _ => False) W5 W6 := ((Keep.refl _ _).drew).trans K6
        have p0 := (K60.cell (p := ⟨r, 0, none⟩) hrl (fun h => h)).trans q0
        have p1 := (K60.cell (p := ⟨r, 1, none⟩) hrl (fun h => h)).trans q1
        have p2 := (K60.cell (p := ⟨r, 2, none⟩) hrl (fun h => h)).trans q2
        have N6 := hid N6
        have R6 := hid R6
        have O6 := hid (HR.out.own.keep K60 (fun _ _ h => h)).reads
        have RN6 := hid (RR.out.keep K60 (fun _ h => h.elim))
        rw [HV.out] at O6
        refine hK _ _ ⟨p0, p1, p2⟩ ?_
        clear hK K K6 K60
        try simp only [Act.put, List.setIfInBounds_toArray, List.set_cons_zero, List.set_cons_succ]
        repeat (first
          | (refine' wpT_calm (v := _) (by rfl) (fun W hW => ?_) ?_; rotate_left
             · ((try dsimp only at hW); go_simp; first | done | rfl)
             simp only [Act.put, List.setIfInBounds_toArray, List.set_cons_zero, List.set_cons_succ])
          | (refine' wpT_reads (v := _) (by rfl) ?_ ?_; rotate_left
             · (go_simp; first | done | rfl)
             simp only [Act.put, List.setIfInBounds_toArray, List.set_cons_zero, List.set_cons_succ])
          | (refine wpT_skip (by rfl) rfl ?_; simp only [Act.put, List.setIfInBounds_toArray, List.set_cons_zero, List.set_cons_succ])
          | (refine wpT_does (by rfl) (fun K hK => ?_); go_simp; refine hK _ _ ?_ ?_
             · (trivial)
             clear hK K; try simp only [Act.put, List.setIfInBounds_toArray, List.set_cons_zero, List.set_cons_succ])
          | (refine wpT_last (by rfl) (fun K hK => ?_); go_simp; refine hK _ _ ?_; clear hK K)
          | (refine wpT_nil ?_))
        refine wpT_does (by rfl) (fun K hK => ?_)
        go_simp
        refine (ints_any R6.out O6.out).mono ?_
        rintro _ W7 ⟨rfl, K7⟩
        rw [show decide (la = la) = true from decide_eq_true rfl]
        have z0 := (K7.cell (p := ⟨r, 0, none⟩) (World.block_lt_of_cell? _ _ p0) (fun h => h)).trans p0
        have z1 := (K7.cell (p := ⟨r, 1, none⟩) (World.block_lt_of_cell? _ _ p1) (fun h => h)).trans p1
        have z2 := (K7.cell (p := ⟨r, 2, none⟩) (World.block_lt_of_cell? _ _ p2) (fun h => h)).trans p2
        have N7 := hid (N6.out.keep K7 (fun _ h => h.elim))
        have R7 := hid (RN6.out.keep K7 (fun _ h => h.elim))
        refine hK _ _ ⟨z0, z1, z2⟩ ?_
        clear hK K K7
        try simp only [Act.put, List.setIfInBounds_toArray, List.set_cons_zero, List.set_cons_succ]
        repeat (first
          | (refine' wpT_calm (v := _) (by rfl) (fun W hW => ?_) ?_; rotate_left
             · ((try dsimp only at hW); go_simp; first | done | rfl)
             simp only [Act.put, List.setIfInBounds_toArray, List.set_cons_zero, List.set_cons_succ])
          | (refine' wpT_reads (v := _) (by rfl) ?_ ?_; rotate_left
             · (go_simp; first | done | rfl)
             simp only [Act.put, List.setIfInBounds_toArray, List.set_cons_zero, List.set_cons_succ])
          | (refine wpT_skip (by rfl) rfl ?_; simp only [Act.put, List.setIfInBounds_toArray, List.set_cons_zero, List.set_cons_succ])
          | (refine wpT_does (by rfl) (fun K hK => ?_); go_simp; refine hK _ _ ?_ ?_
             · (trivial)
             clear hK K; try simp only [Act.put, List.setIfInBounds_toArray, List.set_cons_zero, List.set_cons_succ])
          | (refine wpT_last (by rfl) (fun K hK => ?_); go_simp; refine hK _ _ ?_; clear hK K)
          | (refine wpT_nil ?_))
        go_wp2_with fail
        go_roundw
        case rel => exact ⟨k + 1, cn, I4, O4, la, _, _, by omega, by omega, by go_num, HIO4.out, by omega, by omega, LL.out, N7.out, R7.out, DD.out⟩
        case measure => simp [intOf]; omega
    · have hge : ¬ ((k : Int) < (n1 : Int)) ∨ (k : Int) < (n1 : Int) ∧ ¬ ((k : Int) < 60) := by omega
      clear hIO
      rcases hge with hge1 | ⟨hge1, hge2⟩
      all_goals
        go_wp2_with fail
        refine (gawake_any _).mono ?_
        rintro _ W4 ⟨rfl, K4⟩
        have N4 := hid (N.out.keep K4 (fun _ h => h.elim))
        clear K4
        go_wp2
        go_ret
        exact ⟨rfl, N4.out.2.2.below (fun _ h => h.elim) (Nat.le_refl _)⟩
end Go.Proofs.Ytacogkmnmeekfaa
