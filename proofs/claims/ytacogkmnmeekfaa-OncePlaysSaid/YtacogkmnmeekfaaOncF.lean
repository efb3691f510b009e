/- The walk of OncePlays. -/
import Derived.Test.YtacogkmnmeekfaaOncE
import Derived.Test.YtacogkmnmeekfaaRfF
namespace Go.Proofs.Ytacogkmnmeekfaa
open Go Go.RowKit

section
variable {w W W3 : World} {G1 G2 G3 : Nat → Prop} {b r : Nat} {l l2 : List Int} {p p2 : List Value} {T T2 : Nat}

theorem ostep1 (h1 : ONew T w W G1 b p l) (h2 : LNew T2 w W G2 r p2 l2) (hd : ∀ k, G1 k → ¬ G2 k) (J : ∀ k, G3 k → G1 k ∨ W.heap.size ≤ k) (K : Keep G1 W W3) :
    LNew T2 w W3 G2 r p2 l2 ∧ ∀ k, G3 k → ¬ G2 k :=
  ⟨h2.keep K fun k hk => ⟨h1.2.1 k hk, hd k hk⟩, fun k hk hg => (J k hk).elim (fun h => hd k h hg) (fun h => by have := h2.1.2.1 k hg; omega)⟩

theorem ostep2 (h1 : ONew T w W G1 b p l) (h2 : LNew T2 w W G2 r p2 l2) (hd : ∀ k, G1 k → ¬ G2 k) (J : ∀ k, G3 k → G2 k ∨ W.heap.size ≤ k) (K : Keep G2 W W3) :
    ONew T w W3 G1 b p l ∧ ∀ k, G1 k → ¬ G3 k :=
  ⟨h1.keep K fun k hk => ⟨h2.2.1 k hk, fun h => hd k h hk⟩, fun k hk hg => (J k hg).elim (fun h => hd k hk h) (fun h => by have := h1.1.2.1 k hk; omega)⟩
end

theorem rowOf_head {d : Int} (lw : List Int) : (rowOf d lw).headD 0 = d := by
  unfold rowOf; split
  · rename_i h; rw [h]; rfl
  · rfl
theorem rowOf_tail {o : Bool} {d : Int} {lw : List Int} (h : Sane o d lw) : (rowOf d lw).tail = lw := by
  unfold rowOf; split
  · rename_i e; rw [h.none e]; rfl
  · rfl
theorem rowOf_len (d : Int) (lw : List Int) : (rowOf d lw).length ≤ lw.length + 1 := by
  unfold rowOf; split <;> simp
theorem Sane.drop {o : Bool} {d : Int} {lw : List Int} (h : Sane o d lw) (t : Int) : Sane o d (dropT lw t) := by
  refine ⟨fun e => by rw [h.none e]; rfl, ?_, h.lo, h.over⟩
  have hs := h.once
  unfold rowOf at hs ⊢
  split
  · simp
  · rename_i e
    rw [if_neg e] at hs
    refine hs.sublist (List.Sublist.cons_cons _ ?_)
    unfold dropT; split
    · exact List.eraseIdx_sublist _ _
    · exact List.Sublist.refl _

set_option maxRecDepth 10000 in
set_option maxHeartbeats 8000000 in
theorem walk_OncePlays (w : World) (v1 : Value) (n1 : Nat) (f1 : Nat → Nat → Int) (w1 : ArgRows w v1 [.u8, .i64] n1 f1) :
    Calls Try.prog 8 #[v1] w fun en w' => en = .returned (.bool true) ∧ Below w.heap.size w w' := by
  obtain ⟨a1, c1, hv1⟩ := w1.form
  have A1 := hid w1
  have V1 := hid hv1
  rw [hv1]
  clear w1 hv1
  go_enter Try.func8, Try.ntmps8
  go_wp2_with fail
  refine (onew_any w).mono ?_
  rintro e W1 ⟨rfl, G1, N1⟩
  have hsz : w.heap.size < W1.heap.size := N1.1.2.1 _ N1.1.1
  have N2 := N1.keep ((Keep.refl (fun _ => False) W1).alloc (.cells #[.slice none 0 0, .bool false] 51)) (fun _ h => h.elim)
  have OA : OblAt 51 (W1.alloc (.cells #[.slice none 0 0, .bool false] 51)) W1.heap.size [.bool false] (.slice none 0 0) [] :=
    ⟨heap_alloc_new W1 _, OwnI.nil _, by simp [Value.ownBlock]⟩
  have R2 : LNew 51 w (W1.alloc (.cells #[.slice none 0 0, .bool false] 51)) (fun k => k = W1.heap.size) W1.heap.size [.bool false] (rowOf 0 []) :=
    ⟨⟨rfl, fun k hk => hk ▸ OA.lt, _, OA, fun k hk => by simp [Value.ownBlock] at hk⟩, fun k hk => by rw [hk]; omega, N2.2.2⟩
  have hd2 : ∀ k, G1 k → ¬ k = W1.heap.size := fun k hk e => by have := N1.1.2.1 k hk; omega
  have N2 := hid N2
  have R2 := hid R2
  have D2 := hid hd2
  clear OA hd2 N1
  obtain ⟨r, hr⟩ : ∃ x, W1.heap.size = x := ⟨_, rfl⟩
  rw [hr] at R2 D2
  obtain ⟨b, hb⟩ : ∃ x, w.heap.size = x := ⟨_, rfl⟩
  rw [hb] at N2 ⊢
  clear hsz
  go_wp2_with fail
  try rw [hr]
  go_loopw [5] (fun i wr => ∃ (k : Nat) (o : Bool) (d : Int) (l : List Int) (G1 G2 : Nat → Prop), k ≤ n1 ∧ k ≤ 40 ∧ i = .int .i64 k ∧ l.length ≤ k ∧ Sane o d l ∧ ONew 61 w wr G1 b (opre d o) l ∧ LNew 51 w wr G2 r [.bool o] (rowOf d l) ∧ ∀ k, G1 k → ¬ G2 k) (fun i _ => 60 - (intOf i).toNat)
  case atStart => exact ⟨0, false, 0, [], G1, _, Nat.zero_le _, by omega, rfl, Nat.le_refl _, ⟨fun _ => rfl, by rw [rowOf_zero]; exact List.nodup_nil, by decide, fun _ => rfl⟩, N2.out, R2.out, D2.out⟩
  case round =>
    obtain ⟨k, o, d, l, G1, G2, hk, hk60, rfl, hl, hS, hN, hR, hD⟩ := hrel
    have S := hid hS
    have N := hid hN
    have R := hid hR
    have D := hid hD
    have RL := hid (rowOf_len d l)
    clear N2 R2 D2 hN hR hD hS
    by_cases hlt : k < n1 ∧ k < 40
    · obtain ⟨g, off, cc, hv, hg, hmx, hc⟩ := arg_act2 A1.out (by omega)
      have hav : a1 = some ⟨g, off, none⟩ ∧ c1 = cc := by rw [V1.out] at hv; cases hv; exact ⟨rfl, rfl⟩
      obtain ⟨rfl, rfl⟩ := hav
      obtain ⟨⟨k1, k2⟩, u1, u2⟩ := hc k hlt.1
      have k1 := (N.out.2.2.cell (p := ⟨g, off + k * 2, none⟩) hg (fun h => h)).trans k1
      have k2 := (N.out.2.2.cell (p := ⟨g, off + k * 2 + 1, none⟩) hg (fun h => h)).trans k2
      have hlt1 : (k : Int) < (n1 : Int) := by omega
      have hlt2 : (k : Int) < 40 := by omega
      clear hc hv
      generalize f1 k 0 = c at k1 u1
      generalize f1 k 1 = t at k2 u2
      go_wp2_with fail
      · rcases drop_row t S.out with ⟨hm, i, hi, hi1, hx, he⟩ | ⟨hm, hx, he⟩
        · have hd : decide (t ∈ l) = true := decide_eq_true hm
          have LL : Hid ((dropT l t).length ≤ k + 1) := hid (by have := dropT_len l t; omega)
          have SS := hid (S.out.drop t)
          have X := hid hx
          have E := hid he
          clear hm hx he
          refine (odrop_any t N.out (by omega)).mono ?_
          rintro _ W3 ⟨rfl, G3, N3, J3, K3⟩
          rw [hd]
          have s1 := ostep1 N.out R.out D.out J3 K3
          have N3' := hid N3
          have S1 := hid s1.1
          have D1 := hid s1.2
          clear s1 J3 K3 N3 hd
          go_wp2_with fail
          refine (qdrop_in t i hi hi1 X S1.out (by have := RL.out; omega)).mono ?_
          rintro _ W4 ⟨rfl, G4, N4, J4, K4⟩
          rw [E.out] at N4
          have s2 := ostep2 N3'.out S1.out D1.out J4 K4
          have NN := hid s2.1
          have RR := hid N4
          have DJ := hid s2.2
          clear s2 N4 J4 K4 N3' S1 D1
          clear k1 k2
          obtain ⟨⟨hGr, hGlt, vr, hvr, hvG⟩, _⟩ := RR.out
          have q1 : W4.cell? ⟨r, 1, none⟩ = some (.bool o) := hvr.get 0 rfl
          have hrl := hvr.lt
          have RLn := hid (rowOf_len (d) (dropT l t))
          clear hvr hvG hGlt hGr
          go_wp2_with fail
          refine wp_region_text [0,0,0,0,2,0,2,0,0,0,0,2,0,0,0,0,0,0,0,0,2,0,2,2,0,0] (fun W => W.cell? ⟨r, 1, none⟩ = some (.bool o)) (by kernel_rfl) (by kernel_rfl) q1 ?_
          repeat (first
            | (refine' wpT_calm (v := _) (by rfl) (fun W hW => ?_) ?_; rotate_left
               · ((try dsimp only at hW); go_simp; first | done | rfl)
               simp only [Act.put, List.setIfInBounds_toArray, List.set_cons_zero, List.set_cons_succ])
            | (refine' wpT_reads (v := _) (by rfl) ?_ ?_; rotate_left
               · (go_simp; first | done | rfl)
               simp only [Act.put, List.setIfInBounds_toArray, List.set_cons_zero, List.set_cons_succ])
            | (refine wpT_skip (by rfl) rfl ?_; simp only [Act.put, List.setIfInBounds_toArray, List.set_cons_zero, List.set_cons_succ])
            | (refine wpT_does (by rfl) (fun K hK => ?_); go_simp; refine hK _ _ ?_ ?_
               · (trivial)
               clear hK K; try simp only [Act.put, List.setIfInBounds_toArray, List.set_cons_zero, List.set_cons_succ])
            | (refine wpT_last (by rfl) (fun K hK => ?_); go_simp; refine hK _ _ ?_; clear hK K)
            | (refine wpT_nil ?_))
          refine wpT_does (by rfl) (fun K hK => ?_)
          go_simp
          have ND := hid (NN.out.keep (F := fun _ => False) ((Keep.refl _ _).drew) (fun _ h => h.elim))
          have RD := hid (RR.out.keep (F := fun _ => False) ((Keep.refl _ _).drew) (fun _ h => h.elim))
          refine (odoer_any ND.out).mono ?_
          rintro _ _ ⟨rfl, rfl⟩
          refine hK _ _ q1 ?_
          clear hK K
          try simp only [Act.put, List.setIfInBounds_toArray, List.set_cons_zero, List.set_cons_succ]
          repeat (first
            | (refine' wpT_calm (v := _) (by rfl) (fun W hW => ?_) ?_; rotate_left
               · ((try dsimp only at hW); go_simp; first | done | rfl)
               simp only [Act.put, List.setIfInBounds_toArray, List.set_cons_zero, List.set_cons_succ])
            | (refine' wpT_reads (v := _) (by rfl) ?_ ?_; rotate_left
               · (go_simp; first | done | rfl)
               simp only [Act.put, List.setIfInBounds_toArray, List.set_cons_zero, List.set_cons_succ])
            | (refine wpT_skip (by rfl) rfl ?_; simp only [Act.put, List.setIfInBounds_toArray, List.set_cons_zero, List.set_cons_succ])
            | (refine wpT_does (by rfl) (fun K hK => ?_); go_simp; refine hK _ _ ?_ ?_
               · (trivial)
               clear hK K; try simp only [Act.put, List.setIfInBounds_toArray, List.set_cons_zero, List.set_cons_succ])
            | (refine wpT_last (by rfl) (fun K hK => ?_); go_simp; refine hK _ _ ?_; clear hK K)
            | (refine wpT_nil ?_))
          refine wpT_does (by rfl) (fun K hK => ?_)
          go_simp
          refine (qdoer_any RD.out).mono ?_
          rintro _ _ ⟨rfl, rfl⟩
          rw [rowOf_head]
          refine hK _ _ q1 ?_
          clear hK K
          try simp only [Act.put, List.setIfInBounds_toArray, List.set_cons_zero, List.set_cons_succ]
          repeat (first
            | (refine' wpT_calm (v := _) (by rfl) (fun W hW => ?_) ?_; rotate_left
               · ((try dsimp only at hW); go_simp; first | done | rfl)
               simp only [Act.put, List.setIfInBounds_toArray, List.set_cons_zero, List.set_cons_succ])
            | (refine' wpT_reads (v := _) (by rfl) ?_ ?_; rotate_left
               · (go_simp; first | done | rfl)
               simp only [Act.put, List.setIfInBounds_toArray, List.set_cons_zero, List.set_cons_succ])
            | (refine wpT_skip (by rfl) rfl ?_; simp only [Act.put, List.setIfInBounds_toArray, List.set_cons_zero, List.set_cons_succ])
            | (refine wpT_does (by rfl) (fun K hK => ?_); go_simp; refine hK _ _ ?_ ?_
               · (trivial)
               clear hK K; try simp only [Act.put, List.setIfInBounds_toArray, List.set_cons_zero, List.set_cons_succ])
            | (refine wpT_last (by rfl) (fun K hK => ?_); go_simp; refine hK _ _ ?_; clear hK K)
            | (refine wpT_nil ?_))
          refine wpT_does (by rfl) (fun K hK => ?_)
          go_simp
          refine (oover_any ND.out).mono ?_
          rintro _ _ ⟨rfl, rfl⟩
          refine hK _ _ q1 ?_
          clear hK K
          try simp only [Act.put, List.setIfInBounds_toArray, List.set_cons_zero, List.set_cons_succ]
          repeat (first
            | (refine' wpT_calm (v := _) (by rfl) (fun W hW => ?_) ?_; rotate_left
               · ((try dsimp only at hW); go_simp; first | done | rfl)
               simp only [Act.put, List.setIfInBounds_toArray, List.set_cons_zero, List.set_cons_succ])
            | (refine' wpT_reads (v := _) (by rfl) ?_ ?_; rotate_left
               · (go_simp; first | done | rfl)
               simp only [Act.put, List.setIfInBounds_toArray, List.set_cons_zero, List.set_cons_succ])
            | (refine wpT_skip (by rfl) rfl ?_; simp only [Act.put, List.setIfInBounds_toArray, List.set_cons_zero, List.set_cons_succ])
            | (refine wpT_does (by rfl) (fun K hK => ?_); go_simp; refine hK _ _ ?_ ?_
               · (trivial)
               clear hK K; try simp only [Act.put, List.setIfInBounds_toArray, List.set_cons_zero, List.set_cons_succ])
            | (refine wpT_last (by rfl) (fun K hK => ?_); go_simp; refine hK _ _ ?_; clear hK K)
            | (refine wpT_nil ?_))
          refine wpT_does (by rfl) (fun K hK => ?_)
          go_simp
          refine (owaits_any ND.out (by have := LL.out; omega)).mono ?_
          rintro _ W6 ⟨a6, n6, rfl, R6, N6, K6⟩
          have K60 : Keep (fun _ => False) W4 W6 := ((Keep.refl _ _).drew).trans K6
          have p1 := (K60.cell (p := ⟨r, 1, none⟩) hrl (fun h => h)).trans q1
          have N6 := hid N6
          have R6 := hid R6
          have RN6 := hid (RR.out.keep K60 (fun _ h => h.elim))
          refine hK _ _ p1 ?_
          clear hK K K6 K60
          try simp only [Act.put, List.setIfInBounds_toArray, List.set_cons_zero, List.set_cons_succ]
          repeat (first
            | (refine' wpT_calm (v := _) (by rfl) (fun W hW => ?_) ?_; rotate_left
               · ((try dsimp only at hW); go_simp; first | done | rfl)
               simp only [Act.put, List.setIfInBounds_toArray, List.set_cons_zero, List.set_cons_succ])
            | (refine' wpT_reads (v := _) (by rfl) ?_ ?_; rotate_left
               · (go_simp; first | done | rfl)
               simp only [Act.put, List.setIfInBounds_toArray, List.set_cons_zero, List.set_cons_succ])
            | (refine wpT_skip (by rfl) rfl ?_; simp only [Act.put, List.setIfInBounds_toArray, List.set_cons_zero, List.set_cons_succ])
            | (refine wpT_does (by rfl) (fun K hK => ?_); go_simp; refine hK _ _ ?_ ?_
               · (trivial)
               clear hK K; try simp only [Act.put, List.setIfInBounds_toArray, List.set_cons_zero, List.set_cons_succ])
            | (refine wpT_last (by rfl) (fun K hK => ?_); go_simp; refine hK _ _ ?_; clear hK K)
            | (refine wpT_nil ?_))
          refine wpT_does (by rfl) (fun K hK => ?_)
          go_simp
          refine (qwaits_any RN6.out (by have := LL.out; have := RLn.out; omega)).mono ?_
          rintro _ _ ⟨v9, rfl, R9, rfl⟩
          rw [rowOf_tail SS.out] at R9
          have R9 := hid R9
          refine hK _ _ p1 ?_
          clear hK K
          try simp only [Act.put, List.setIfInBounds_toArray, List.set_cons_zero, List.set_cons_succ]
          repeat (first
            | (refine' wpT_calm (v := _) (by rfl) (fun W hW => ?_) ?_; rotate_left
               · ((try dsimp only at hW); go_simp; first | done | rfl)
               simp only [Act.put, List.setIfInBounds_toArray, List.set_cons_zero, List.set_cons_succ])
            | (refine' wpT_reads (v := _) (by rfl) ?_ ?_; rotate_left
               · (go_simp; first | done | rfl)
               simp only [Act.put, List.setIfInBounds_toArray, List.set_cons_zero, List.set_cons_succ])
            | (refine wpT_skip (by rfl) rfl ?_; simp only [Act.put, List.setIfInBounds_toArray, List.set_cons_zero, List.set_cons_succ])
            | (refine wpT_does (by rfl) (fun K hK => ?_); go_simp; refine hK _ _ ?_ ?_
               · (trivial)
               clear hK K; try simp only [Act.put, List.setIfInBounds_toArray, List.set_cons_zero, List.set_cons_succ])
            | (refine wpT_last (by rfl) (fun K hK => ?_); go_simp; refine hK _ _ ?_; clear hK K)
            | (refine wpT_nil ?_))
          refine wpT_does (by rfl) (fun K hK => ?_)
          go_simp
          refine (ints_any R6.out R9.out).mono ?_
          rintro _ W7 ⟨rfl, K7⟩
          rw [show decide (dropT l t = dropT l t) = true from decide_eq_true rfl]
          have z1 := (K7.cell (p := ⟨r, 1, none⟩) (World.block_lt_of_cell? _ _ p1) (fun h => h)).trans p1
          have N7 := hid (N6.out.keep K7 (fun _ h => h.elim))
          have R7 := hid (RN6.out.keep K7 (fun _ h => h.elim))
          refine hK _ _ z1 ?_
          clear hK K K7
          try simp only [Act.put, List.setIfInBounds_toArray, List.set_cons_zero, List.set_cons_succ]
          repeat (first
            | (refine' wpT_calm (v := _) (by rfl) (fun W hW => ?_) ?_; rotate_left
               · ((try dsimp only at hW); go_simp; first | done | rfl)
               simp only [Act.put, List.setIfInBounds_toArray, List.set_cons_zero, List.set_cons_succ])
            | (refine' wpT_reads (v := _) (by rfl) ?_ ?_; rotate_left
               · (go_simp; first | done | rfl)
               simp only [Act.put, List.setIfInBounds_toArray, List.set_cons_zero, List.set_cons_succ])
            | (refine wpT_skip (by rfl) rfl ?_; simp only [Act.put, List.setIfInBounds_toArray, List.set_cons_zero, List.set_cons_succ])
            | (refine wpT_does (by rfl) (fun K hK => ?_); go_simp; refine hK _ _ ?_ ?_
               · (trivial)
               clear hK K; try simp only [Act.put, List.setIfInBounds_toArray, List.set_cons_zero, List.set_cons_succ])
            | (refine wpT_last (by rfl) (fun K hK => ?_); go_simp; refine hK _ _ ?_; clear hK K)
            | (refine wpT_nil ?_))
          go_wp2_with fail
          go_roundw
          case rel => exact ⟨k + 1, o, d, dropT l t, _, _, by omega, by omega, by go_num, LL.out, SS.out, N7.out, R7.out, DJ.out⟩
          case measure => simp [intOf]; omega
        · have hd : decide (t ∈ l) = false := decide_eq_false hm
          have LL : Hid ((dropT l t).length ≤ k + 1) := hid (by have := dropT_len l t; omega)
          have SS := hid (S.out.drop t)
          have X := hid hx
          have E := hid he
          clear hm hx he
          refine (odrop_any t N.out (by omega)).mono ?_
          rintro _ W3 ⟨rfl, G3, N3, J3, K3⟩
          rw [hd]
          have s1 := ostep1 N.out R.out D.out J3 K3
          have NN := hid N3
          have S1 := hid s1.1
          have DJ := hid s1.2
          clear s1 J3 K3 N3 hd
          go_wp2_with fail
          refine (qdrop_no t X S1.out (by have := RL.out; omega)).mono ?_
          rintro _ _ ⟨rfl, rfl⟩
          have RR := S1.out
          rw [← E.out] at RR
          have RR := hid RR
          clear k1 k2
          obtain ⟨⟨hGr, hGlt, vr, hvr, hvG⟩, _⟩ := RR.out
          have q1 : W3.cell? ⟨r, 1, none⟩ = some (.bool o) := hvr.get 0 rfl
          have hrl := hvr.lt
          have RLn := hid (rowOf_len (d) (dropT l t))
          clear hvr hvG hGlt hGr
          go_wp2_with fail
          refine wp_region_text [0,0,0,0,2,0,2,0,0,0,0,2,0,0,0,0,0,0,0,0,2,0,2,2,0,0] (fun W => W.cell? ⟨r, 1, none⟩ = some (.bool o)) (by kernel_rfl) (by kernel_rfl) q1 ?_
          repeat (first
            | (refine' wpT_calm (v := _) (by rfl) (fun W hW => ?_) ?_; rotate_left
               · ((try dsimp only at hW); go_simp; first | done | rfl)
               simp only [Act.put, List.setIfInBounds_toArray, List.set_cons_zero, List.set_cons_succ])
            | (refine' wpT_reads (v := _) (by rfl) ?_ ?_; rotate_left
               · (go_simp; first | done | rfl)
               simp only [Act.put, List.setIfInBounds_toArray, List.set_cons_zero, List.set_cons_succ])
            | (refine wpT_skip (by rfl) rfl ?_; simp only [Act.put, List.setIfInBounds_toArray, List.set_cons_zero, List.set_cons_succ])
            | (refine wpT_does (by rfl) (fun K hK => ?_); go_simp; refine hK _ _ ?_ ?_
               · (trivial)
               clear hK K; try simp only [Act.put, List.setIfInBounds_toArray, List.set_cons_zero, List.set_cons_succ])
            | (refine wpT_last (by rfl) (fun K hK => ?_); go_simp; refine hK _ _ ?_; clear hK K)
            | (refine wpT_nil ?_))
          refine wpT_does (by rfl) (fun K hK => ?_)
          go_simp
          have ND := hid (NN.out.keep (F := fun _ => False) ((Keep.refl _ _).drew) (fun _ h => h.elim))
          have RD := hid (RR.out.keep (F := fun _ => False) ((Keep.refl _ _).drew) (fun _ h => h.elim))
          refine (odoer_any ND.out).mono ?_
          rintro _ _ ⟨rfl, rfl⟩
          refine hK _ _ q1 ?_
          clear hK K
          try simp only [Act.put, List.setIfInBounds_toArray, List.set_cons_zero, List.set_cons_succ]
          repeat (first
            | (refine' wpT_calm (v := _) (by rfl) (fun W hW => ?_) ?_; rotate_left
               · ((try dsimp only at hW); go_simp; first | done | rfl)
               simp only [Act.put, List.setIfInBounds_toArray, List.set_cons_zero, List.set_cons_succ])
            | (refine' wpT_reads (v := _) (by rfl) ?_ ?_; rotate_left
               · (go_simp; first | done | rfl)
               simp only [Act.put, List.setIfInBounds_toArray, List.set_cons_zero, List.set_cons_succ])
            | (refine wpT_skip (by rfl) rfl ?_; simp only [Act.put, List.setIfInBounds_toArray, List.set_cons_zero, List.set_cons_succ])
            | (refine wpT_does (by rfl) (fun K hK => ?_); go_simp; refine hK _ _ ?_ ?_
               · (trivial)
               clear hK K; try simp only [Act.put, List.setIfInBounds_toArray, List.set_cons_zero, List.set_cons_succ])
            | (refine wpT_last (by rfl) (fun K hK => ?_); go_simp; refine hK _ _ ?_; clear hK K)
            | (refine wpT_nil ?_))
          refine wpT_does (by rfl) (fun K hK => ?_)
          go_simp
          refine (qdoer_any RD.out).mono ?_
          rintro _ _ ⟨rfl, rfl⟩
          rw [rowOf_head]
          refine hK _ _ q1 ?_
          clear hK K
          try simp only [Act.put, List.setIfInBounds_toArray, List.set_cons_zero, List.set_cons_succ]
          repeat (first
            | (refine' wpT_calm (v := _) (by rfl) (fun W hW => ?_) ?_; rotate_left
               · ((try dsimp only at hW); go_simp; first | done | rfl)
               simp only [Act.put, List.setIfInBounds_toArray, List.set_cons_zero, List.set_cons_succ])
            | (refine' wpT_reads (v := _) (by rfl) ?_ ?_; rotate_left
               · (go_simp; first | done | rfl)
               simp only [Act.put, List.setIfInBounds_toArray, List.set_cons_zero, List.set_cons_succ])
            | (refine wpT_skip (by rfl) rfl ?_; simp only [Act.put, List.setIfInBounds_toArray, List.set_cons_zero, List.set_cons_succ])
            | (refine wpT_does (by rfl) (fun K hK => ?_); go_simp; refine hK _ _ ?_ ?_
               · (trivial)
               clear hK K; try simp only [Act.put, List.setIfInBounds_toArray, List.set_cons_zero, List.set_cons_succ])
            | (refine wpT_last (by rfl) (fun K hK => ?_); go_simp; refine hK _ _ ?_; clear hK K)
            | (refine wpT_nil ?_))
          refine wpT_does (by rfl) (fun K hK => ?_)
          go_simp
          refine (oover_any ND.out).mono ?_
          rintro _ _ ⟨rfl, rfl⟩
          refine hK _ _ q1 ?_
          clear hK K
          try simp only [Act.put, List.setIfInBounds_toArray, List.set_cons_zero, List.set_cons_succ]
          repeat (first
            | (refine' wpT_calm (v := _) (by rfl) (fun W hW => ?_) ?_; rotate_left
               · ((try dsimp only at hW); go_simp; first | done | rfl)
               simp only [Act.put, List.setIfInBounds_toArray, List.set_cons_zero, List.set_cons_succ])
            | (refine' wpT_reads (v := _) (by rfl) ?_ ?_; rotate_left
               · (go_simp; first | done | rfl)
               simp only [Act.put, List.setIfInBounds_toArray, List.set_cons_zero, List.set_cons_succ])
            | (refine wpT_skip (by rfl) rfl ?_; simp only [Act.put, List.setIfInBounds_toArray, List.set_cons_zero, List.set_cons_succ])
            | (refine wpT_does (by rfl) (fun K hK => ?_); go_simp; refine hK _ _ ?_ ?_
               · (trivial)
               clear hK K; try simp only [Act.put, List.setIfInBounds_toArray, List.set_cons_zero, List.set_cons_succ])
            | (refine wpT_last (by rfl) (fun K hK => ?_); go_simp; refine hK _ _ ?_; clear hK K)
            | (refine wpT_nil ?_))
          refine wpT_does (by rfl) (fun K hK => ?_)
          go_simp
          refine (owaits_any ND.out (by have := LL.out; omega)).mono ?_
          rintro _ W6 ⟨a6, n6, rfl, R6, N6, K6⟩
          have K60 : Keep (fun _ => False) W3 W6 := ((Keep.refl _ _).drew).trans K6
          have p1 := (K60.cell (p := ⟨r, 1, none⟩) hrl (fun h => h)).trans q1
          have N6 := hid N6
          have R6 := hid R6
          have RN6 := hid (RR.out.keep K60 (fun _ h => h.elim))
          refine hK _ _ p1 ?_
          clear hK K K6 K60
          try simp only [Act.put, List.setIfInBounds_toArray, List.set_cons_zero, List.set_cons_succ]
          repeat (first
            | (refine' wpT_calm (v := _) (by rfl) (fun W hW => ?_) ?_; rotate_left
               · ((try dsimp only at hW); go_simp; first | done | rfl)
               simp only [Act.put, List.setIfInBounds_toArray, List.set_cons_zero, List.set_cons_succ])
            | (refine' wpT_reads (v := _) (by rfl) ?_ ?_; rotate_left
               · (go_simp; first | done | rfl)
               simp only [Act.put, List.setIfInBounds_toArray, List.set_cons_zero, List.set_cons_succ])
            | (refine wpT_skip (by rfl) rfl ?_; simp only [Act.put, List.setIfInBounds_toArray, List.set_cons_zero, List.set_cons_succ])
            | (refine wpT_does (by rfl) (fun K hK => ?_); go_simp; refine hK _ _ ?_ ?_
               · (trivial)
               clear hK K; try simp only [Act.put, List.setIfInBounds_toArray, List.set_cons_zero, List.set_cons_succ])
            | (refine wpT_last (by rfl) (fun K hK => ?_); go_simp; refine hK _ _ ?_; clear hK K)
            | (refine wpT_nil ?_))
          refine wpT_does (by rfl) (fun K hK => ?_)
          go_simp
          refine (qwaits_any RN6.out (by have := LL.out; have := RLn.out; omega)).mono ?_
          rintro _ _ ⟨v9, rfl, R9, rfl⟩
          rw [rowOf_tail SS.out] at R9
          have R9 := hid R9
          refine hK _ _ p1 ?_
          clear hK K
          try simp only [Act.put, List.setIfInBounds_toArray, List.set_cons_zero, List.set_cons_succ]
          repeat (first
            | (refine' wpT_calm (v := _) (by rfl) (fun W hW => ?_) ?_; rotate_left
               · ((try dsimp only at hW); go_simp; first | done | rfl)
               simp only [Act.put, List.setIfInBounds_toArray, List.set_cons_zero, List.set_cons_succ])
            | (refine' wpT_reads (v := _) (by rfl) ?_ ?_; rotate_left
               · (go_simp; first | done | rfl)
               simp only [Act.put, List.setIfInBounds_toArray, List.set_cons_zero, List.set_cons_succ])
            | (refine wpT_skip (by rfl) rfl ?_; simp only [Act.put, List.setIfInBounds_toArray, List.set_cons_zero, List.set_cons_succ])
            | (refine wpT_does (by rfl) (fun K hK => ?_); go_simp; refine hK _ _ ?_ ?_
               · (trivial)
               clear hK K; try simp only [Act.put, List.setIfInBounds_toArray, List.set_cons_zero, List.set_cons_succ])
            | (refine wpT_last (by rfl) (fun K hK => ?_); go_simp; refine hK _ _ ?_; clear hK K)
            | (refine wpT_nil ?_))
          refine wpT_does (by rfl) (fun K hK => ?_)
          go_simp
          refine (ints_any R6.out R9.out).mono ?_
          rintro _ W7 ⟨rfl, K7⟩
          rw [show decide (dropT l t = dropT l t) = true from decide_eq_true rfl]
          have z1 := (K7.cell (p := ⟨r, 1, none⟩) (World.block_lt_of_cell? _ _ p1) (fun h => h)).trans p1
          have N7 := hid (N6.out.keep K7 (fun _ h => h.elim))
          have R7 := hid (RN6.out.keep K7 (fun _ h => h.elim))
          refine hK _ _ z1 ?_
          clear hK K K7
          try simp only [Act.put, List.setIfInBounds_toArray, List.set_cons_zero, List.set_cons_succ]
          repeat (first
            | (refine' wpT_calm (v := _) (by rfl) (fun W hW => ?_) ?_; rotate_left
               · ((try dsimp only at hW); go_simp; first | done | rfl)
               simp only [Act.put, List.setIfInBounds_toArray, List.set_cons_zero, List.set_cons_succ])
            | (refine' wpT_reads (v := _) (by rfl) ?_ ?_; rotate_left
               · (go_simp; first | done | rfl)
               simp only [Act.put, List.setIfInBounds_toArray, List.set_cons_zero, List.set_cons_succ])
            | (refine wpT_skip (by rfl) rfl ?_; simp only [Act.put, List.setIfInBounds_toArray, List.set_cons_zero, List.set_cons_succ])
            | (refine wpT_does (by rfl) (fun K hK => ?_); go_simp; refine hK _ _ ?_ ?_
               · (trivial)
               clear hK K; try simp only [Act.put, List.setIfInBounds_toArray, List.set_cons_zero, List.set_cons_succ])
            | (refine wpT_last (by rfl) (fun K hK => ?_); go_simp; refine hK _ _ ?_; clear hK K)
            | (refine wpT_nil ?_))
          go_wp2_with fail
          go_roundw
          case rel => exact ⟨k + 1, o, d, dropT l t, _, _, by omega, by omega, by go_num, LL.out, SS.out, N7.out, R7.out, DJ.out⟩
          case measure => simp [intOf]; omega
      · rcases drop_row t S.out with ⟨hm, i, hi, hi1, hx, he⟩ | ⟨hm, hx, he⟩
        · have hd : decide (t ∈ l) = true := decide_eq_true hm
          have LL : Hid ((dropT l t).length ≤ k + 1) := hid (by have := dropT_len l t; omega)
          have SS := hid (S.out.drop t)
          have X := hid hx
          have E := hid he
          clear hm hx he
          refine (odrop_any t N.out (by omega)).mono ?_
          rintro _ W3 ⟨rfl, G3, N3, J3, K3⟩
          rw [hd]
          have s1 := ostep1 N.out R.out D.out J3 K3
          have N3' := hid N3
          have S1 := hid s1.1
          have D1 := hid s1.2
          clear s1 J3 K3 N3 hd
          go_wp2_with fail
          refine (qdrop_in t i hi hi1 X S1.out (by have := RL.out; omega)).mono ?_
          rintro _ W4 ⟨rfl, G4, N4, J4, K4⟩
          rw [E.out] at N4
          have s2 := ostep2 N3'.out S1.out D1.out J4 K4
          have NN := hid s2.1
          have RR := hid N4
          have DJ := hid s2.2
          clear s2 N4 J4 K4 N3' S1 D1
          clear k1 k2
          obtain ⟨⟨hGr, hGlt, vr, hvr, hvG⟩, _⟩ := RR.out
          have q1 : W4.cell? ⟨r, 1, none⟩ = some (.bool o) := hvr.get 0 rfl
          have hrl := hvr.lt
          have RLn := hid (rowOf_len (d) (dropT l t))
          clear hvr hvG hGlt hGr
          go_wp2_with fail
          refine wp_region_text [0,0,0,0,2,0,2,0,0,0,0,2,0,0,0,0,0,0,0,0,2,0,2,2,0,0] (fun W => W.cell? ⟨r, 1, none⟩ = some (.bool o)) (by kernel_rfl) (by kernel_rfl) q1 ?_
          repeat (first
            | (refine' wpT_calm (v := _) (by rfl) (fun W hW => ?_) ?_; rotate_left
               · ((try dsimp only at hW); go_simp; first | done | rfl)
               simp only [Act.put, List.setIfInBounds_toArray, List.set_cons_zero, List.set_cons_succ])
            | (refine' wpT_reads (v := _) (by rfl) ?_ ?_; rotate_left
               · (go_simp; first | done | rfl)
               simp only [Act.put, List.setIfInBounds_toArray, List.set_cons_zero, List.set_cons_succ])
            | (refine wpT_skip (by rfl) rfl ?_; simp only [Act.put, List.setIfInBounds_toArray, List.set_cons_zero, List.set_cons_succ])
            | (refine wpT_does (by rfl) (fun K hK => ?_); go_simp; refine hK _ _ ?_ ?_
               · (trivial)
               clear hK K; try simp only [Act.put, List.setIfInBounds_toArray, List.set_cons_zero, List.set_cons_succ])
            | (refine wpT_last (by rfl) (fun K hK => ?_); go_simp; refine hK _ _ ?_; clear hK K)
            | (refine wpT_nil ?_))
          refine wpT_does (by rfl) (fun K hK => ?_)
          go_simp
          have ND := hid (NN.out.keep (F := fun _ => False) ((Keep.refl _ _).drew) (fun _ h => h.elim))
          have RD := hid (RR.out.keep (F := fun _ => False) ((Keep.refl _ _).drew) (fun _ h => h.elim))
          refine (odoer_any ND.out).mono ?_
          rintro _ _ ⟨rfl, rfl⟩
          refine hK _ _ q1 ?_
          clear hK K
          try simp only [Act.put, List.setIfInBounds_toArray, List.set_cons_zero, List.set_cons_succ]
          repeat (first
            | (refine' wpT_calm (v := _) (by rfl) (fun W hW => ?_) ?_; rotate_left
               · ((try dsimp only at hW); go_simp; first | done | rfl)
               simp only [Act.put, List.setIfInBounds_toArray, List.set_cons_zero, List.set_cons_succ])
            | (refine' wpT_reads (v := _) (by rfl) ?_ ?_; rotate_left
               · (go_simp; first | done | rfl)
               simp only [Act.put, List.setIfInBounds_toArray, List.set_cons_zero, List.set_cons_succ])
            | (refine wpT_skip (by rfl) rfl ?_; simp only [Act.put, List.setIfInBounds_toArray, List.set_cons_zero, List.set_cons_succ])
            | (refine wpT_does (by rfl) (fun K hK => ?_); go_simp; refine hK _ _ ?_ ?_
               · (trivial)
               clear hK K; try simp only [Act.put, List.setIfInBounds_toArray, List.set_cons_zero, List.set_cons_succ])
            | (refine wpT_last (by rfl) (fun K hK => ?_); go_simp; refine hK _ _ ?_; clear hK K)
            | (refine wpT_nil ?_))
          refine wpT_does (by rfl) (fun K hK => ?_)
          go_simp
          refine (qdoer_any RD.out).mono ?_
          rintro _ _ ⟨rfl, rfl⟩
          rw [rowOf_head]
          refine hK _ _ q1 ?_
          clear hK K
          try simp only [Act.put, List.setIfInBounds_toArray, List.set_cons_zero, List.set_cons_succ]
          repeat (first
            | (refine' wpT_calm (v := _) (by rfl) (fun W hW => ?_) ?_; rotate_left
               · ((try dsimp only at hW); go_simp; first | done | rfl)
               simp only [Act.put, List.setIfInBounds_toArray, List.set_cons_zero, List.set_cons_succ])
            | (refine' wpT_reads (v := _) (by rfl) ?_ ?_; rotate_left
               · (go_simp; first | done | rfl)
               simp only [Act.put, List.setIfInBounds_toArray, List.set_cons_zero, List.set_cons_succ])
            | (refine wpT_skip (by rfl) rfl ?_; simp only [Act.put, List.setIfInBounds_toArray, List.set_cons_zero, List.set_cons_succ])
            | (refine wpT_does (by rfl) (fun K hK => ?_); go_simp; refine hK _ _ ?_ ?_
               · (trivial)
               clear hK K; try simp only [Act.put, List.setIfInBounds_toArray, List.set_cons_zero, List.set_cons_succ])
            | (refine wpT_last (by rfl) (fun K hK => ?_); go_simp; refine hK _ _ ?_; clear hK K)
            | (refine wpT_nil ?_))
          refine wpT_does (by rfl) (fun K hK => ?_)
          go_simp
          refine (oover_any ND.out).mono ?_
          rintro _ _ ⟨rfl, rfl⟩
          refine hK _ _ q1 ?_
          clear hK K
          try simp only [Act.put, List.setIfInBounds_toArray, List.set_cons_zero, List.set_cons_succ]
          repeat (first
            | (refine' wpT_calm (v := _) (by rfl) (fun W hW => ?_) ?_; rotate_left
               · ((try dsimp only at hW); go_simp; first | done | rfl)
               simp only [Act.put, List.setIfInBounds_toArray, List.set_cons_zero, List.set_cons_succ])
            | (refine' wpT_reads (v := _) (by rfl) ?_ ?_; rotate_left
               · (go_simp; first | done | rfl)
               simp only [Act.put, List.setIfInBounds_toArray, List.set_cons_zero, List.set_cons_succ])
            | (refine wpT_skip (by rfl) rfl ?_; simp only [Act.put, List.setIfInBounds_toArray, List.set_cons_zero, List.set_cons_succ])
            | (refine wpT_does (by rfl) (fun K hK => ?_); go_simp; refine hK _ _ ?_ ?_
               · (trivial)
               clear hK K; try simp only [Act.put, List.setIfInBounds_toArray, List.set_cons_zero, List.set_cons_succ])
            | (refine wpT_last (by rfl) (fun K hK => ?_); go_simp; refine hK _ _ ?_; clear hK K)
            | (refine wpT_nil ?_))
          refine wpT_does (by rfl) (fun K hK => ?_)
          go_simp
          refine (owaits_any ND.out (by have := LL.out; omega)).mono ?_
          rintro _ W6 ⟨a6, n6, rfl, R6, N6, K6⟩
          have K60 : Keep (fun _ => False) W4 W6 := ((Keep.refl _ _).drew).trans K6
          have p1 := (K60.cell (p := ⟨r, 1, none⟩) hrl (fun h => h)).trans q1
          have N6 := hid N6
          have R6 := hid R6
          have RN6 := hid (RR.out.keep K60 (fun _ h => h.elim))
          refine hK _ _ p1 ?_
          clear hK K K6 K60
          try simp only [Act.put, List.setIfInBounds_toArray, List.set_cons_zero, List.set_cons_succ]
          repeat (first
            | (refine' wpT_calm (v := _) (by rfl) (fun W hW => ?_) ?_; rotate_left
               · ((try dsimp only at hW); go_simp; first | done | rfl)
               simp only [Act.put, List.setIfInBounds_toArray, List.set_cons_zero, List.set_cons_succ])
            | (refine' wpT_reads (v := _) (by rfl) ?_ ?_; rotate_left
               · (go_simp; first | done | rfl)
               simp only [Act.put, List.setIfInBounds_toArray, List.set_cons_zero, List.set_cons_succ])
            | (refine wpT_skip (by rfl) rfl ?_; simp only [Act.put, List.setIfInBounds_toArray, List.set_cons_zero, List.set_cons_succ])
            | (refine wpT_does (by rfl) (fun K hK => ?_); go_simp; refine hK _ _ ?_ ?_
               · (trivial)
               clear hK K; try simp only [Act.put, List.setIfInBounds_toArray, List.set_cons_zero, List.set_cons_succ])
            | (refine wpT_last (by rfl) (fun K hK => ?_); go_simp; refine hK _ _ ?_; clear hK K)
            | (refine wpT_nil ?_))
          refine wpT_does (by rfl) (fun K hK => ?_)
          go_simp
          refine (qwaits_any RN6.out (by have := LL.out; have := RLn.out; omega)).mono ?_
          rintro _ _ ⟨v9, rfl, R9, rfl⟩
          rw [rowOf_tail SS.out] at R9
          have R9 := hid R9
          refine hK _ _ p1 ?_
          clear hK K
          try simp only [Act.put, List.setIfInBounds_toArray, List.set_cons_zero, List.set_cons_succ]
          repeat (first
            | (refine' wpT_calm (v := _) (by rfl) (fun W hW => ?_) ?_; rotate_left
               · ((try dsimp only at hW); go_simp; first | done | rfl)
               simp only [Act.put, List.setIfInBounds_toArray, List.set_cons_zero, List.set_cons_succ])
            | (refine' wpT_reads (v := _) (by rfl) ?_ ?_; rotate_left
               · (go_simp; first | done | rfl)
               simp only [Act.put, List.setIfInBounds_toArray, List.set_cons_zero, List.set_cons_succ])
            | (refine wpT_skip (by rfl) rfl ?_; simp only [Act.put, List.setIfInBounds_toArray, List.set_cons_zero, List.set_cons_succ])
            | (refine wpT_does (by rfl) (fun K hK => ?_); go_simp; refine hK _ _ ?_ ?_
               · (trivial)
               clear hK K; try simp only [Act.put, List.setIfInBounds_toArray, List.set_cons_zero, List.set_cons_succ])
            | (refine wpT_last (by rfl) (fun K hK => ?_); go_simp; refine hK _ _ ?_; clear hK K)
            | (refine wpT_nil ?_))
          refine wpT_does (by rfl) (fun K hK => ?_)
          go_simp
          refine (ints_any R6.out R9.out).mono ?_
          rintro _ W7 ⟨rfl, K7⟩
          rw [show decide (dropT l t = dropT l t) = true from decide_eq_true rfl]
          have z1 := (K7.cell (p := ⟨r, 1, none⟩) (World.block_lt_of_cell? _ _ p1) (fun h => h)).trans p1
          have N7 := hid (N6.out.keep K7 (fun _ h => h.elim))
          have R7 := hid (RN6.out.keep K7 (fun _ h => h.elim))
          refine hK _ _ z1 ?_
          clear hK K K7
          try simp only [Act.put, List.setIfInBounds_toArray, List.set_cons_zero, List.set_cons_succ]
          repeat (first
            | (refine' wpT_calm (v := _) (by rfl) (fun W hW => ?_) ?_; rotate_left
               · ((try dsimp only at hW); go_simp; first | done | rfl)
               simp only [Act.put, List.setIfInBounds_toArray, List.set_cons_zero, List.set_cons_succ])
            | (refine' wpT_reads (v := _) (by rfl) ?_ ?_; rotate_left
               · (go_simp; first | done | rfl)
               simp only [Act.put, List.setIfInBounds_toArray, List.set_cons_zero, List.set_cons_succ])
            | (refine wpT_skip (by rfl) rfl ?_; simp only [Act.put, List.setIfInBounds_toArray, List.set_cons_zero, List.set_cons_succ])
            | (refine wpT_does (by rfl) (fun K hK => ?_); go_simp; refine hK _ _ ?_ ?_
               · (trivial)
               clear hK K; try simp only [Act.put, List.setIfInBounds_toArray, List.set_cons_zero, List.set_cons_succ])
            | (refine wpT_last (by rfl) (fun K hK => ?_); go_simp; refine hK _ _ ?_; clear hK K)
            | (refine wpT_nil ?_))
          go_wp2_with fail
          go_roundw
          case rel => exact ⟨k + 1, o, d, dropT l t, _, _, by omega, by omega, by go_num, LL.out, SS.out, N7.out, R7.out, DJ.out⟩
          case measure => simp [intOf]; omega
        · have hd : decide (t ∈ l) = false := decide_eq_false hm
          have LL : Hid ((dropT l t).length ≤ k + 1) := hid (by have := dropT_len l t; omega)
          have SS := hid (S.out.drop t)
          have X := hid hx
          have E := hid he
          clear hm hx he
          refine (odrop_any t N.out (by omega)).mono ?_
          rintro _ W3 ⟨rfl, G3, N3, J3, K3⟩
          rw [hd]
          have s1 := ostep1 N.out R.out D.out J3 K3
          have NN := hid N3
          have S1 := hid s1.1
          have DJ := hid s1.2
          clear s1 J3 K3 N3 hd
          go_wp2_with fail
          refine (qdrop_no t X S1.out (by have := RL.out; omega)).mono ?_
          rintro _ _ ⟨rfl, rfl⟩
          have RR := S1.out
          rw [← E.out] at RR
          have RR := hid RR
          clear k1 k2
          obtain ⟨⟨hGr, hGlt, vr, hvr, hvG⟩, _⟩ := RR.out
          have q1 : W3.cell? ⟨r, 1, none⟩ = some (.bool o) := hvr.get 0 rfl
          have hrl := hvr.lt
          have RLn := hid (rowOf_len (d) (dropT l t))
          clear hvr hvG hGlt hGr
          go_wp2_with fail
          refine wp_region_text [0,0,0,0,2,0,2,0,0,0,0,2,0,0,0,0,0,0,0,0,2,0,2,2,0,0] (fun W => W.cell? ⟨r, 1, none⟩ = some (.bool o)) (by kernel_rfl) (by kernel_rfl) q1 ?_
          repeat (first
            | (refine' wpT_calm (v := _) (by rfl) (fun W hW => ?_) ?_; rotate_left
               · ((try dsimp only at hW); go_simp; first | done | rfl)
               simp only [Act.put, List.setIfInBounds_toArray, List.set_cons_zero, List.set_cons_succ])
            | (refine' wpT_reads (v := _) (by rfl) ?_ ?_; rotate_left
               · (go_simp; first | done | rfl)
               simp only [Act.put, List.setIfInBounds_toArray, List.set_cons_zero, List.set_cons_succ])
            | (refine wpT_skip (by rfl) rfl ?_; simp only [Act.put, List.setIfInBounds_toArray, List.set_cons_zero, List.set_cons_succ])
            | (refine wpT_does (by rfl) (fun K hK => ?_); go_simp; refine hK _ _ ?_ ?_
               · (trivial)
               clear hK K; try simp only [Act.put, List.setIfInBounds_toArray, List.set_cons_zero, List.set_cons_succ])
            | (refine wpT_last (by rfl) (fun K hK => ?_); go_simp; refine hK _ _ ?_; clear hK K)
            | (refine wpT_nil ?_))
          refine wpT_does (by rfl) (fun K hK => ?_)
          go_simp
          have ND := hid (NN.out.keep (F := fun _ => False) ((Keep.refl _ _).drew) (fun _ h => h.elim))
          have RD := hid (RR.out.keep (F := fun _ => False) ((Keep.refl _ _).drew) (fun _ h => h.elim))
          refine (odoer_any ND.out).mono ?_
          rintro _ _ ⟨rfl, rfl⟩
          refine hK _ _ q1 ?_
          clear hK K
          try simp only [Act.put, List.setIfInBounds_toArray, List.set_cons_zero, List.set_cons_succ]
          repeat (first
            | (refine' wpT_calm (v := _) (by rfl) (fun W hW => ?_) ?_; rotate_left
               · ((try dsimp only at hW); go_simp; first | done | rfl)
               simp only [Act.put, List.setIfInBounds_toArray, List.set_cons_zero, List.set_cons_succ])
            | (refine' wpT_reads (v := _) (by rfl) ?_ ?_; rotate_left
               · (go_simp; first | done | rfl)
               simp only [Act.put, List.setIfInBounds_toArray, List.set_cons_zero, List.set_cons_succ])
            | (refine wpT_skip (by rfl) rfl ?_; simp only [Act.put, List.setIfInBounds_toArray, List.set_cons_zero, List.set_cons_succ])
            | (refine wpT_does (by rfl) (fun K hK => ?_); go_simp; refine hK _ _ ?_ ?_
               · (trivial)
               clear hK K; try simp only [Act.put, List.setIfInBounds_toArray, List.set_cons_zero, List.set_cons_succ])
            | (refine wpT_last (by rfl) (fun K hK => ?_); go_simp; refine hK _ _ ?_; clear hK K)
            | (refine wpT_nil ?_))
          refine wpT_does (by rfl) (fun K hK => ?_)
          go_simp
          refine (qdoer_any RD.out).mono ?_
          rintro _ _ ⟨rfl, rfl⟩
          rw [rowOf_head]
          refine hK _ _ q1 ?_
          clear hK K
          try simp only [Act.put, List.setIfInBounds_toArray, List.set_cons_zero, List.set_cons_succ]
          repeat (first
            | (refine' wpT_calm (v := _) (by rfl) (fun W hW => ?_) ?_; rotate_left
               · ((try dsimp only at hW); go_simp; first | done | rfl)
               simp only [Act.put, List.setIfInBounds_toArray, List.set_cons_zero, List.set_cons_succ])
            | (refine' wpT_reads (v := _) (by rfl) ?_ ?_; rotate_left
               · (go_simp; first | done | rfl)
               simp only [Act.put, List.setIfInBounds_toArray, List.set_cons_zero, List.set_cons_succ])
            | (refine wpT_skip (by rfl) rfl ?_; simp only [Act.put, List.setIfInBounds_toArray, List.set_cons_zero, List.set_cons_succ])
            | (refine wpT_does (by rfl) (fun K hK => ?_); go_simp; refine hK _ _ ?_ ?_
               · (trivial)
               clear hK K; try simp only [Act.put, List.setIfInBounds_toArray, List.set_cons_zero, List.set_cons_succ])
            | (refine wpT_last (by rfl) (fun K hK => ?_); go_simp; refine hK _ _ ?_; clear hK K)
            | (refine wpT_nil ?_))
          refine wpT_does (by rfl) (fun K hK => ?_)
          go_simp
          refine (oover_any ND.out).mono ?_
          rintro _ _ ⟨rfl, rfl⟩
          refine hK _ _ q1 ?_
          clear hK K
          try simp only [Act.put, List.setIfInBounds_toArray, List.set_cons_zero, List.set_cons_succ]
          repeat (first
            | (refine' wpT_calm (v := _) (by rfl) (fun W hW => ?_) ?_; rotate_left
               · ((try dsimp only at hW); go_simp; first | done | rfl)
               simp only [Act.put, List.setIfInBounds_toArray, List.set_cons_zero, List.set_cons_succ])
            | (refine' wpT_reads (v := _) (by rfl) ?_ ?_; rotate_left
               · (go_simp; first | done | rfl)
               simp only [Act.put, List.setIfInBounds_toArray, List.set_cons_zero, List.set_cons_succ])
            | (refine wpT_skip (by rfl) rfl ?_; simp only [Act.put, List.setIfInBounds_toArray, List.set_cons_zero, List.set_cons_succ])
            | (refine wpT_does (by rfl) (fun K hK => ?_); go_simp; refine hK _ _ ?_ ?_
               · (trivial)
               clear hK K; try simp only [Act.put, List.setIfInBounds_toArray, List.set_cons_zero, List.set_cons_succ])
            | (refine wpT_last (by rfl) (fun K hK => ?_); go_simp; refine hK _ _ ?_; clear hK K)
            | (refine wpT_nil ?_))
          refine wpT_does (by rfl) (fun K hK => ?_)
          go_simp
          refine (owaits_any ND.out (by have := LL.out; omega)).mono ?_
          rintro _ W6 ⟨a6, n6, rfl, R6, N6, K6⟩
          have K60 : Keep (fun _ => False) W3 W6 := ((Keep.refl _ _).drew).trans K6
          have p1 := (K60.cell (p := ⟨r, 1, none⟩) hrl (fun h => h)).trans q1
          have N6 := hid N6
          have R6 := hid R6
          have RN6 := hid (RR.out.keep K60 (fun _ h => h.elim))
          refine hK _ _ p1 ?_
          clear hK K K6 K60
          try simp only [Act.put, List.setIfInBounds_toArray, List.set_cons_zero, List.set_cons_succ]
          repeat (first
            | (refine' wpT_calm (v := _) (by rfl) (fun W hW => ?_) ?_; rotate_left
               · ((try dsimp only at hW); go_simp; first | done | rfl)
               simp only [Act.put, List.setIfInBounds_toArray, List.set_cons_zero, List.set_cons_succ])
            | (refine' wpT_reads (v := _) (by rfl) ?_ ?_; rotate_left
               · (go_simp; first | done | rfl)
               simp only [Act.put, List.setIfInBounds_toArray, List.set_cons_zero, List.set_cons_succ])
            | (refine wpT_skip (by rfl) rfl ?_; simp only [Act.put, List.setIfInBounds_toArray, List.set_cons_zero, List.set_cons_succ])
            | (refine wpT_does (by rfl) (fun K hK => ?_); go_simp; refine hK _ _ ?_ ?_
               · (trivial)
               clear hK K; try simp only [Act.put, List.setIfInBounds_toArray, List.set_cons_zero, List.set_cons_succ])
            | (refine wpT_last (by rfl) (fun K hK => ?_); go_simp; refine hK _ _ ?_; clear hK K)
            | (refine wpT_nil ?_))
          refine wpT_does (by rfl) (fun K hK => ?_)
          go_simp
          refine (qwaits_any RN6.out (by have := LL.out; have := RLn.out; omega)).mono ?_
          rintro _ _ ⟨v9, rfl, R9, rfl⟩
          rw [rowOf_tail SS.out] at R9
          have R9 := hid R9
          refine hK _ _ p1 ?_
          clear hK K
          try simp only [Act.put, List.setIfInBounds_toArray, List.set_cons_zero, List.set_cons_succ]
          repeat (first
            | (refine' wpT_calm (v := _) (by rfl) (fun W hW => ?_) ?_; rotate_left
               · ((try dsimp only at hW); go_simp; first | done | rfl)
               simp only [Act.put, List.setIfInBounds_toArray, List.set_cons_zero, List.set_cons_succ])
            | (refine' wpT_reads (v := _) (by rfl) ?_ ?_; rotate_left
               · (go_simp; first | done | rfl)
               simp only [Act.put, List.setIfInBounds_toArray, List.set_cons_zero, List.set_cons_succ])
            | (refine wpT_skip (by rfl) rfl ?_; simp only [Act.put, List.setIfInBounds_toArray, List.set_cons_zero, List.set_cons_succ])
            | (refine wpT_does (by rfl) (fun K hK => ?_); go_simp; refine hK _ _ ?_ ?_
               · (trivial)
               clear hK K; try simp only [Act.put, List.setIfInBounds_toArray, List.set_cons_zero, List.set_cons_succ])
            | (refine wpT_last (by rfl) (fun K hK => ?_); go_simp; refine hK _ _ ?_; clear hK K)
            | (refine wpT_nil ?_))
          refine wpT_does (by rfl) (fun K hK => ?_)
          go_simp
          refine (ints_any R6.out R9.out).mono ?_
          rintro _ W7 ⟨rfl, K7⟩
          rw [show decide (dropT l t = dropT l t) = true from decide_eq_true rfl]
          have z1 := (K7.cell (p := ⟨r, 1, none⟩) (World.block_lt_of_cell? _ _ p1) (fun h => h)).trans p1
          have N7 := hid (N6.out.keep K7 (fun _ h => h.elim))
          have R7 := hid (RN6.out.keep K7 (fun _ h => h.elim))
          refine hK _ _ z1 ?_
          clear hK K K7
          try simp only [Act.put, List.setIfInBounds_toArray, List.set_cons_zero, List.set_cons_succ]
          repeat (first
            | (refine' wpT_calm (v := _) (by rfl) (fun W hW => ?_) ?_; rotate_left
               · ((try dsimp only at hW); go_simp; first | done | rfl)
               simp only [Act.put, List.setIfInBounds_toArray, List.set_cons_zero, List.set_cons_succ])
            | (refine' wpT_reads (v := _) (by rfl) ?_ ?_; rotate_left
               · (go_simp; first | done | rfl)
               simp only [Act.put, List.setIfInBounds_toArray, List.set_cons_zero, List.set_cons_succ])
            | (refine wpT_skip (by rfl) rfl ?_; simp only [Act.put, List.setIfInBounds_toArray, List.set_cons_zero, List.set_cons_succ])
            | (refine wpT_does (by rfl) (fun K hK => ?_); go_simp; refine hK _ _ ?_ ?_
               · (trivial)
               clear hK K; try simp only [Act.put, List.setIfInBounds_toArray, List.set_cons_zero, List.set_cons_succ])
            | (refine wpT_last (by rfl) (fun K hK => ?_); go_simp; refine hK _ _ ?_; clear hK K)
            | (refine wpT_nil ?_))
          go_wp2_with fail
          go_roundw
          case rel => exact ⟨k + 1, o, d, dropT l t, _, _, by omega, by omega, by go_num, LL.out, SS.out, N7.out, R7.out, DJ.out⟩
          case measure => simp [intOf]; omega
      · rcases don_row t S.out with ⟨ht, hd⟩ | ⟨ht, hx, hd⟩ | ⟨ht, hdt, hrow, hd⟩
        · refine (odone_any t N.out hd).mono ?_
          rintro _ W3 ⟨a3, m3, rfl, L3, K3, G3, N3, J3, Q3⟩
          have s1 := ostep1 N.out R.out D.out J3 K3
          have NN3 := hid N3
          have RR3 := hid s1.1
          have DJ := hid s1.2
          have L3' := hid L3
          have LL : Hid (l.length ≤ k + 1) := hid (by omega)
          have SS := S
          clear s1 J3 K3 N3 L3 Q3 hd
          go_wp2_with fail
          refine (qdone_lo t ht W3 r).mono ?_
          rintro _ _ ⟨rfl, rfl⟩
          go_wp2_with fail
          refine (ints_any (m := []) L3'.out (.inl ⟨_, _, rfl, rfl⟩)).mono ?_
          rintro _ W5 ⟨rfl, K5⟩
          rw [show decide (([] : List Int) = []) = true from rfl]
          have NN := hid (NN3.out.keep K5 (fun _ h => h.elim))
          have RR := hid (RR3.out.keep K5 (fun _ h => h.elim))
          clear K5 NN3 RR3 L3'
          clear k1 k2
          obtain ⟨⟨hGr, hGlt, vr, hvr, hvG⟩, _⟩ := RR.out
          have q1 : W5.cell? ⟨r, 1, none⟩ = some (.bool o) := hvr.get 0 rfl
          have hrl := hvr.lt
          have RLn := hid (rowOf_len (d) (l))
          clear hvr hvG hGlt hGr
          go_wp2_with fail
          refine wp_region_text [0,0,0,0,2,0,2,0,0,0,0,2,0,0,0,0,0,0,0,0,2,0,2,2,0,0] (fun W => W.cell? ⟨r, 1, none⟩ = some (.bool o)) (by kernel_rfl) (by kernel_rfl) q1 ?_
          repeat (first
            | (refine' wpT_calm (v := _) (by rfl) (fun W hW => ?_) ?_; rotate_left
               · ((try dsimp only at hW); go_simp; first | done | rfl)
               simp only [Act.put, List.setIfInBounds_toArray, List.set_cons_zero, List.set_cons_succ])
            | (refine' wpT_reads (v := _) (by rfl) ?_ ?_; rotate_left
               · (go_simp; first | done | rfl)
               simp only [Act.put, List.setIfInBounds_toArray, List.set_cons_zero, List.set_cons_succ])
            | (refine wpT_skip (by rfl) rfl ?_; simp only [Act.put, List.setIfInBounds_toArray, List.set_cons_zero, List.set_cons_succ])
            | (refine wpT_does (by rfl) (fun K hK => ?_); go_simp; refine hK _ _ ?_ ?_
               · (trivial)
               clear hK K; try simp only [Act.put, List.setIfInBounds_toArray, List.set_cons_zero, List.set_cons_succ])
            | (refine wpT_last (by rfl) (fun K hK => ?_); go_simp; refine hK _ _ ?_; clear hK K)
            | (refine wpT_nil ?_))
          refine wpT_does (by rfl) (fun K hK => ?_)
          go_simp
          have ND := hid (NN.out.keep (F := fun _ => False) ((Keep.refl _ _).drew) (fun _ h => h.elim))
          have RD := hid (RR.out.keep (F := fun _ => False) ((Keep.refl _ _).drew) (fun _ h => h.elim))
          refine (odoer_any ND.out).mono ?_
          rintro _ _ ⟨rfl, rfl⟩
          refine hK _ _ q1 ?_
          clear hK K
          try simp only [Act.put, List.setIfInBounds_toArray, List.set_cons_zero, List.set_cons_succ]
          repeat (first
            | (refine' wpT_calm (v := _) (by rfl) (fun W hW => ?_) ?_; rotate_left
               · ((try dsimp only at hW); go_simp; first | done | rfl)
               simp only [Act.put, List.setIfInBounds_toArray, List.set_cons_zero, List.set_cons_succ])
            | (refine' wpT_reads (v := _) (by rfl) ?_ ?_; rotate_left
               · (go_simp; first | done | rfl)
               simp only [Act.put, List.setIfInBounds_toArray, List.set_cons_zero, List.set_cons_succ])
            | (refine wpT_skip (by rfl) rfl ?_; simp only [Act.put, List.setIfInBounds_toArray, List.set_cons_zero, List.set_cons_succ])
            | (refine wpT_does (by rfl) (fun K hK => ?_); go_simp; refine hK _ _ ?_ ?_
               · (trivial)
               clear hK K; try simp only [Act.put, List.setIfInBounds_toArray, List.set_cons_zero, List.set_cons_succ])
            | (refine wpT_last (by rfl) (fun K hK => ?_); go_simp; refine hK _ _ ?_; clear hK K)
            | (refine wpT_nil ?_))
          refine wpT_does (by rfl) (fun K hK => ?_)
          go_simp
          refine (qdoer_any RD.out).mono ?_
          rintro _ _ ⟨rfl, rfl⟩
          rw [rowOf_head]
          refine hK _ _ q1 ?_
          clear hK K
          try simp only [Act.put, List.setIfInBounds_toArray, List.set_cons_zero, List.set_cons_succ]
          repeat (first
            | (refine' wpT_calm (v := _) (by rfl) (fun W hW => ?_) ?_; rotate_left
               · ((try dsimp only at hW); go_simp; first | done | rfl)
               simp only [Act.put, List.setIfInBounds_toArray, List.set_cons_zero, List.set_cons_succ])
            | (refine' wpT_reads (v := _) (by rfl) ?_ ?_; rotate_left
               · (go_simp; first | done | rfl)
               simp only [Act.put, List.setIfInBounds_toArray, List.set_cons_zero, List.set_cons_succ])
            | (refine wpT_skip (by rfl) rfl ?_; simp only [Act.put, List.setIfInBounds_toArray, List.set_cons_zero, List.set_cons_succ])
            | (refine wpT_does (by rfl) (fun K hK => ?_); go_simp; refine hK _ _ ?_ ?_
               · (trivial)
               clear hK K; try simp only [Act.put, List.setIfInBounds_toArray, List.set_cons_zero, List.set_cons_succ])
            | (refine wpT_last (by rfl) (fun K hK => ?_); go_simp; refine hK _ _ ?_; clear hK K)
            | (refine wpT_nil ?_))
          refine wpT_does (by rfl) (fun K hK => ?_)
          go_simp
          refine (oover_any ND.out).mono ?_
          rintro _ _ ⟨rfl, rfl⟩
          refine hK _ _ q1 ?_
          clear hK K
          try simp only [Act.put, List.setIfInBounds_toArray, List.set_cons_zero, List.set_cons_succ]
          repeat (first
            | (refine' wpT_calm (v := _) (by rfl) (fun W hW => ?_) ?_; rotate_left
               · ((try dsimp only at hW); go_simp; first | done | rfl)
               simp only [Act.put, List.setIfInBounds_toArray, List.set_cons_zero, List.set_cons_succ])
            | (refine' wpT_reads (v := _) (by rfl) ?_ ?_; rotate_left
               · (go_simp; first | done | rfl)
               simp only [Act.put, List.setIfInBounds_toArray, List.set_cons_zero, List.set_cons_succ])
            | (refine wpT_skip (by rfl) rfl ?_; simp only [Act.put, List.setIfInBounds_toArray, List.set_cons_zero, List.set_cons_succ])
            | (refine wpT_does (by rfl) (fun K hK => ?_); go_simp; refine hK _ _ ?_ ?_
               · (trivial)
               clear hK K; try simp only [Act.put, List.setIfInBounds_toArray, List.set_cons_zero, List.set_cons_succ])
            | (refine wpT_last (by rfl) (fun K hK => ?_); go_simp; refine hK _ _ ?_; clear hK K)
            | (refine wpT_nil ?_))
          refine wpT_does (by rfl) (fun K hK => ?_)
          go_simp
          refine (owaits_any ND.out (by have := LL.out; omega)).mono ?_
          rintro _ W6 ⟨a6, n6, rfl, R6, N6, K6⟩
          have K60 : Keep (fun _ => False) W5 W6 := ((Keep.refl _ _).drew).trans K6
          have p1 := (K60.cell (p := ⟨r, 1, none⟩) hrl (fun h => h)).trans q1
          have N6 := hid N6
          have R6 := hid R6
          have RN6 := hid (RR.out.keep K60 (fun _ h => h.elim))
          refine hK _ _ p1 ?_
          clear hK K K6 K60
          try simp only [Act.put, List.setIfInBounds_toArray, List.set_cons_zero, List.set_cons_succ]
          repeat (first
            | (refine' wpT_calm (v := _) (by rfl) (fun W hW => ?_) ?_; rotate_left
               · ((try dsimp only at hW); go_simp; first | done | rfl)
               simp only [Act.put, List.setIfInBounds_toArray, List.set_cons_zero, List.set_cons_succ])
            | (refine' wpT_reads (v := _) (by rfl) ?_ ?_; rotate_left
               · (go_simp; first | done | rfl)
               simp only [Act.put, List.setIfInBounds_toArray, List.set_cons_zero, List.set_cons_succ])
            | (refine wpT_skip (by rfl) rfl ?_; simp only [Act.put, List.setIfInBounds_toArray, List.set_cons_zero, List.set_cons_succ])
            | (refine wpT_does (by rfl) (fun K hK => ?_); go_simp; refine hK _ _ ?_ ?_
               · (trivial)
               clear hK K; try simp only [Act.put, List.setIfInBounds_toArray, List.set_cons_zero, List.set_cons_succ])
            | (refine wpT_last (by rfl) (fun K hK => ?_); go_simp; refine hK _ _ ?_; clear hK K)
            | (refine wpT_nil ?_))
          refine wpT_does (by rfl) (fun K hK => ?_)
          go_simp
          refine (qwaits_any RN6.out (by have := LL.out; have := RLn.out; omega)).mono ?_
          rintro _ _ ⟨v9, rfl, R9, rfl⟩
          rw [rowOf_tail SS.out] at R9
          have R9 := hid R9
          refine hK _ _ p1 ?_
          clear hK K
          try simp only [Act.put, List.setIfInBounds_toArray, List.set_cons_zero, List.set_cons_succ]
          repeat (first
            | (refine' wpT_calm (v := _) (by rfl) (fun W hW => ?_) ?_; rotate_left
               · ((try dsimp only at hW); go_simp; first | done | rfl)
               simp only [Act.put, List.setIfInBounds_toArray, List.set_cons_zero, List.set_cons_succ])
            | (refine' wpT_reads (v := _) (by rfl) ?_ ?_; rotate_left
               · (go_simp; first | done | rfl)
               simp only [Act.put, List.setIfInBounds_toArray, List.set_cons_zero, List.set_cons_succ])
            | (refine wpT_skip (by rfl) rfl ?_; simp only [Act.put, List.setIfInBounds_toArray, List.set_cons_zero, List.set_cons_succ])
            | (refine wpT_does (by rfl) (fun K hK => ?_); go_simp; refine hK _ _ ?_ ?_
               · (trivial)
               clear hK K; try simp only [Act.put, List.setIfInBounds_toArray, List.set_cons_zero, List.set_cons_succ])
            | (refine wpT_last (by rfl) (fun K hK => ?_); go_simp; refine hK _ _ ?_; clear hK K)
            | (refine wpT_nil ?_))
          refine wpT_does (by rfl) (fun K hK => ?_)
          go_simp
          refine (ints_any R6.out R9.out).mono ?_
          rintro _ W7 ⟨rfl, K7⟩
          rw [show decide (l = l) = true from decide_eq_true rfl]
          have z1 := (K7.cell (p := ⟨r, 1, none⟩) (World.block_lt_of_cell? _ _ p1) (fun h => h)).trans p1
          have N7 := hid (N6.out.keep K7 (fun _ h => h.elim))
          have R7 := hid (RN6.out.keep K7 (fun _ h => h.elim))
          refine hK _ _ z1 ?_
          clear hK K K7
          try simp only [Act.put, List.setIfInBounds_toArray, List.set_cons_zero, List.set_cons_succ]
          repeat (first
            | (refine' wpT_calm (v := _) (by rfl) (fun W hW => ?_) ?_; rotate_left
               · ((try dsimp only at hW); go_simp; first | done | rfl)
               simp only [Act.put, List.setIfInBounds_toArray, List.set_cons_zero, List.set_cons_succ])
            | (refine' wpT_reads (v := _) (by rfl) ?_ ?_; rotate_left
               · (go_simp; first | done | rfl)
               simp only [Act.put, List.setIfInBounds_toArray, List.set_cons_zero, List.set_cons_succ])
            | (refine wpT_skip (by rfl) rfl ?_; simp only [Act.put, List.setIfInBounds_toArray, List.set_cons_zero, List.set_cons_succ])
            | (refine wpT_does (by rfl) (fun K hK => ?_); go_simp; refine hK _ _ ?_ ?_
               · (trivial)
               clear hK K; try simp only [Act.put, List.setIfInBounds_toArray, List.set_cons_zero, List.set_cons_succ])
            | (refine wpT_last (by rfl) (fun K hK => ?_); go_simp; refine hK _ _ ?_; clear hK K)
            | (refine wpT_nil ?_))
          go_wp2_with fail
          go_roundw
          case rel => exact ⟨k + 1, o, d, l, _, _, by omega, by omega, by go_num, LL.out, SS.out, N7.out, R7.out, DJ.out⟩
          case measure => simp [intOf]; omega
        · refine (odone_any t N.out hd).mono ?_
          rintro _ W3 ⟨a3, m3, rfl, L3, K3, G3, N3, J3, Q3⟩
          have s1 := ostep1 N.out R.out D.out J3 K3
          have NN3 := hid N3
          have RR3 := hid s1.1
          have DJ := hid s1.2
          have L3' := hid L3
          have HX := hid hx
          have LL : Hid (l.length ≤ k + 1) := hid (by omega)
          have SS := S
          clear s1 J3 K3 N3 L3 Q3 hd hx
          go_wp2_with fail
          refine (qdone_no t ht HX.out RR3.out (by have := RL.out; omega)).mono ?_
          rintro _ _ ⟨rfl, rfl⟩
          go_wp2_with fail
          refine (ints_any (m := []) L3'.out (.inl ⟨_, _, rfl, rfl⟩)).mono ?_
          rintro _ W5 ⟨rfl, K5⟩
          rw [show decide (([] : List Int) = []) = true from rfl]
          have NN := hid (NN3.out.keep K5 (fun _ h => h.elim))
          have RR := hid (RR3.out.keep K5 (fun _ h => h.elim))
          clear K5 NN3 RR3 L3'
          clear k1 k2
          obtain ⟨⟨hGr, hGlt, vr, hvr, hvG⟩, _⟩ := RR.out
          have q1 : W5.cell? ⟨r, 1, none⟩ = some (.bool o) := hvr.get 0 rfl
          have hrl := hvr.lt
          have RLn := hid (rowOf_len (d) (l))
          clear hvr hvG hGlt hGr
          go_wp2_with fail
          refine wp_region_text [0,0,0,0,2,0,2,0,0,0,0,2,0,0,0,0,0,0,0,0,2,0,2,2,0,0] (fun W => W.cell? ⟨r, 1, none⟩ = some (.bool o)) (by kernel_rfl) (by kernel_rfl) q1 ?_
          repeat (first
            | (refine' wpT_calm (v := _) (by rfl) (fun W hW => ?_) ?_; rotate_left
               · ((try dsimp only at hW); go_simp; first | done | rfl)
               simp only [Act.put, List.setIfInBounds_toArray, List.set_cons_zero, List.set_cons_succ])
            | (refine' wpT_reads (v := _) (by rfl) ?_ ?_; rotate_left
               · (go_simp; first | done | rfl)
               simp only [Act.put, List.setIfInBounds_toArray, List.set_cons_zero, List.set_cons_succ])
            | (refine wpT_skip (by rfl) rfl ?_; simp only [Act.put, List.setIfInBounds_toArray, List.set_cons_zero, List.set_cons_succ])
            | (refine wpT_does (by rfl) (fun K hK => ?_); go_simp; refine hK _ _ ?_ ?_
               · (trivial)
               clear hK K; try simp only [Act.put, List.setIfInBounds_toArray, List.set_cons_zero, List.set_cons_succ])
            | (refine wpT_last (by rfl) (fun K hK => ?_); go_simp; refine hK _ _ ?_; clear hK K)
            | (refine wpT_nil ?_))
          refine wpT_does (by rfl) (fun K hK => ?_)
          go_simp
          have ND := hid (NN.out.keep (F := fun _ => False) ((Keep.refl _ _).drew) (fun _ h => h.elim))
          have RD := hid (RR.out.keep (F := fun _ => False) ((Keep.refl _ _).drew) (fun _ h => h.elim))
          refine (odoer_any ND.out).mono ?_
          rintro _ _ ⟨rfl, rfl⟩
          refine hK _ _ q1 ?_
          clear hK K
          try simp only [Act.put, List.setIfInBounds_toArray, List.set_cons_zero, List.set_cons_succ]
          repeat (first
            | (refine' wpT_calm (v := _) (by rfl) (fun W hW => ?_) ?_; rotate_left
               · ((try dsimp only at hW); go_simp; first | done | rfl)
               simp only [Act.put, List.setIfInBounds_toArray, List.set_cons_zero, List.set_cons_succ])
            | (refine' wpT_reads (v := _) (by rfl) ?_ ?_; rotate_left
               · (go_simp; first | done | rfl)
               simp only [Act.put, List.setIfInBounds_toArray, List.set_cons_zero, List.set_cons_succ])
            | (refine wpT_skip (by rfl) rfl ?_; simp only [Act.put, List.setIfInBounds_toArray, List.set_cons_zero, List.set_cons_succ])
            | (refine wpT_does (by rfl) (fun K hK => ?_); go_simp; refine hK _ _ ?_ ?_
               · (trivial)
               clear hK K; try simp only [Act.put, List.setIfInBounds_toArray, List.set_cons_zero, List.set_cons_succ])
            | (refine wpT_last (by rfl) (fun K hK => ?_); go_simp; refine hK _ _ ?_; clear hK K)
            | (refine wpT_nil ?_))
          refine wpT_does (by rfl) (fun K hK => ?_)
          go_simp
          refine (qdoer_any RD.out).mono ?_
          rintro _ _ ⟨rfl, rfl⟩
          rw [rowOf_head]
          refine hK _ _ q1 ?_
          clear hK K
          try simp only [Act.put, List.setIfInBounds_toArray, List.set_cons_zero, List.set_cons_succ]
          repeat (first
            | (refine' wpT_calm (v := _) (by rfl) (fun W hW => ?_) ?_; rotate_left
               · ((try dsimp only at hW); go_simp; first | done | rfl)
               simp only [Act.put, List.setIfInBounds_toArray, List.set_cons_zero, List.set_cons_succ])
            | (refine' wpT_reads (v := _) (by rfl) ?_ ?_; rotate_left
               · (go_simp; first | done | rfl)
               simp only [Act.put, List.setIfInBounds_toArray, List.set_cons_zero, List.set_cons_succ])
            | (refine wpT_skip (by rfl) rfl ?_; simp only [Act.put, List.setIfInBounds_toArray, List.set_cons_zero, List.set_cons_succ])
            | (refine wpT_does (by rfl) (fun K hK => ?_); go_simp; refine hK _ _ ?_ ?_
               · (trivial)
               clear hK K; try simp only [Act.put, List.setIfInBounds_toArray, List.set_cons_zero, List.set_cons_succ])
            | (refine wpT_last (by rfl) (fun K hK => ?_); go_simp; refine hK _ _ ?_; clear hK K)
            | (refine wpT_nil ?_))
          refine wpT_does (by rfl) (fun K hK => ?_)
          go_simp
          refine (oover_any ND.out).mono ?_
          rintro _ _ ⟨rfl, rfl⟩
          refine hK _ _ q1 ?_
          clear hK K
          try simp only [Act.put, List.setIfInBounds_toArray, List.set_cons_zero, List.set_cons_succ]
          repeat (first
            | (refine' wpT_calm (v := _) (by rfl) (fun W hW => ?_) ?_; rotate_left
               · ((try dsimp only at hW); go_simp; first | done | rfl)
               simp only [Act.put, List.setIfInBounds_toArray, List.set_cons_zero, List.set_cons_succ])
            | (refine' wpT_reads (v := _) (by rfl) ?_ ?_; rotate_left
               · (go_simp; first | done | rfl)
               simp only [Act.put, List.setIfInBounds_toArray, List.set_cons_zero, List.set_cons_succ])
            | (refine wpT_skip (by rfl) rfl ?_; simp only [Act.put, List.setIfInBounds_toArray, List.set_cons_zero, List.set_cons_succ])
            | (refine wpT_does (by rfl) (fun K hK => ?_); go_simp; refine hK _ _ ?_ ?_
               · (trivial)
               clear hK K; try simp only [Act.put, List.setIfInBounds_toArray, List.set_cons_zero, List.set_cons_succ])
            | (refine wpT_last (by rfl) (fun K hK => ?_); go_simp; refine hK _ _ ?_; clear hK K)
            | (refine wpT_nil ?_))
          refine wpT_does (by rfl) (fun K hK => ?_)
          go_simp
          refine (owaits_any ND.out (by have := LL.out; omega)).mono ?_
          rintro _ W6 ⟨a6, n6, rfl, R6, N6, K6⟩
          have K60 : Keep (fun _ => False) W5 W6 := ((Keep.refl _ _).drew).trans K6
          have p1 := (K60.cell (p := ⟨r, 1, none⟩) hrl (fun h => h)).trans q1
          have N6 := hid N6
          have R6 := hid R6
          have RN6 := hid (RR.out.keep K60 (fun _ h => h.elim))
          refine hK _ _ p1 ?_
          clear hK K K6 K60
          try simp only [Act.put, List.setIfInBounds_toArray, List.set_cons_zero, List.set_cons_succ]
          repeat (first
            | (refine' wpT_calm (v := _) (by rfl) (fun W hW => ?_) ?_; rotate_left
               · ((try dsimp only at hW); go_simp; first | done | rfl)
               simp only [Act.put, List.setIfInBounds_toArray, List.set_cons_zero, List.set_cons_succ])
            | (refine' wpT_reads (v := _) (by rfl) ?_ ?_; rotate_left
               · (go_simp; first | done | rfl)
               simp only [Act.put, List.setIfInBounds_toArray, List.set_cons_zero, List.set_cons_succ])
            | (refine wpT_skip (by rfl) rfl ?_; simp only [Act.put, List.setIfInBounds_toArray, List.set_cons_zero, List.set_cons_succ])
            | (refine wpT_does (by rfl) (fun K hK => ?_); go_simp; refine hK _ _ ?_ ?_
               · (trivial)
               clear hK K; try simp only [Act.put, List.setIfInBounds_toArray, List.set_cons_zero, List.set_cons_succ])
            | (refine wpT_last (by rfl) (fun K hK => ?_); go_simp; refine hK _ _ ?_; clear hK K)
            | (refine wpT_nil ?_))
          refine wpT_does (by rfl) (fun K hK => ?_)
          go_simp
          refine (qwaits_any RN6.out (by have := LL.out; have := RLn.out; omega)).mono ?_
          rintro _ _ ⟨v9, rfl, R9, rfl⟩
          rw [rowOf_tail SS.out] at R9
          have R9 := hid R9
          refine hK _ _ p1 ?_
          clear hK K
          try simp only [Act.put, List.setIfInBounds_toArray, List.set_cons_zero, List.set_cons_succ]
          repeat (first
            | (refine' wpT_calm (v := _) (by rfl) (fun W hW => ?_) ?_; rotate_left
               · ((try dsimp only at hW); go_simp; first | done | rfl)
               simp only [Act.put, List.setIfInBounds_toArray, List.set_cons_zero, List.set_cons_succ])
            | (refine' wpT_reads (v := _) (by rfl) ?_ ?_; rotate_left
               · (go_simp; first | done | rfl)
               simp only [Act.put, List.setIfInBounds_toArray, List.set_cons_zero, List.set_cons_succ])
            | (refine wpT_skip (by rfl) rfl ?_; simp only [Act.put, List.setIfInBounds_toArray, List.set_cons_zero, List.set_cons_succ])
            | (refine wpT_does (by rfl) (fun K hK => ?_); go_simp; refine hK _ _ ?_ ?_
               · (trivial)
               clear hK K; try simp only [Act.put, List.setIfInBounds_toArray, List.set_cons_zero, List.set_cons_succ])
            | (refine wpT_last (by rfl) (fun K hK => ?_); go_simp; refine hK _ _ ?_; clear hK K)
            | (refine wpT_nil ?_))
          refine wpT_does (by rfl) (fun K hK => ?_)
          go_simp
          refine (ints_any R6.out R9.out).mono ?_
          rintro _ W7 ⟨rfl, K7⟩
          rw [show decide (l = l) = true from decide_eq_true rfl]
          have z1 := (K7.cell (p := ⟨r, 1, none⟩) (World.block_lt_of_cell? _ _ p1) (fun h => h)).trans p1
          have N7 := hid (N6.out.keep K7 (fun _ h => h.elim))
          have R7 := hid (RN6.out.keep K7 (fun _ h => h.elim))
          refine hK _ _ z1 ?_
          clear hK K K7
          try simp only [Act.put, List.setIfInBounds_toArray, List.set_cons_zero, List.set_cons_succ]
          repeat (first
            | (refine' wpT_calm (v := _) (by rfl) (fun W hW => ?_) ?_; rotate_left
               · ((try dsimp only at hW); go_simp; first | done | rfl)
               simp only [Act.put, List.setIfInBounds_toArray, List.set_cons_zero, List.set_cons_succ])
            | (refine' wpT_reads (v := _) (by rfl) ?_ ?_; rotate_left
               · (go_simp; first | done | rfl)
               simp only [Act.put, List.setIfInBounds_toArray, List.set_cons_zero, List.set_cons_succ])
            | (refine wpT_skip (by rfl) rfl ?_; simp only [Act.put, List.setIfInBounds_toArray, List.set_cons_zero, List.set_cons_succ])
            | (refine wpT_does (by rfl) (fun K hK => ?_); go_simp; refine hK _ _ ?_ ?_
               · (trivial)
               clear hK K; try simp only [Act.put, List.setIfInBounds_toArray, List.set_cons_zero, List.set_cons_succ])
            | (refine wpT_last (by rfl) (fun K hK => ?_); go_simp; refine hK _ _ ?_; clear hK K)
            | (refine wpT_nil ?_))
          go_wp2_with fail
          go_roundw
          case rel => exact ⟨k + 1, o, d, l, _, _, by omega, by omega, by go_num, LL.out, SS.out, N7.out, R7.out, DJ.out⟩
          case measure => simp [intOf]; omega
        · refine (odone_any t N.out hd).mono ?_
          rintro _ W3 ⟨a3, m3, rfl, L3, K3, G3, N3, J3, Q3⟩
          have s1 := ostep1 N.out R.out D.out J3 K3
          have N3' := hid N3
          have S1 := s1.1
          rw [hrow] at S1
          have S1 := hid S1
          have D1 := hid s1.2
          have L3' := hid L3
          have Q3' : Hid (∀ k, (Value.slice a3 l.length m3).ownBlock = some k → ¬ G2 k) := fun x hx hg => (Q3 x hx).1.elim (fun h => D.out x h hg) (fun h => by have := R.out.1.2.1 x hg; omega)
          have LL : Hid (([] : List Int).length ≤ k + 1) := hid (by simp)
          have SS : Hid (Sane true 0 []) := hid ⟨fun _ => rfl, by rw [rowOf_zero]; exact List.nodup_nil, by decide, fun _ => rfl⟩
          clear s1 J3 K3 N3 L3 Q3 hd hdt hrow
          go_wp2_with fail
          refine (qdone_yes t ht S1.out (by omega)).mono ?_
          rintro _ W4 ⟨v4, rfl, L4, G4, N4, J4, K4⟩
          have s2 := ostep2 N3'.out S1.out D1.out J4 K4
          have NN3 := hid s2.1
          have RR3 := hid N4
          have DJ := hid s2.2
          have L5 := hid (L3'.out.keep K4 Q3'.out)
          have L6 := hid L4
          clear s2 N4 J4 K4 N3' S1 D1 L4 L3' Q3'
          go_wp2_with fail
          refine (ints_any L5.out L6.out).mono ?_
          rintro _ W5 ⟨rfl, K5⟩
          rw [show decide (l = l) = true from decide_eq_true rfl]
          have NN := hid (NN3.out.keep K5 (fun _ h => h.elim))
          have RR : Hid (LNew 51 w W5 G4 r [.bool true] (rowOf 0 [])) := hid (RR3.out.keep K5 (fun _ h => h.elim))
          clear K5 NN3 RR3 L5 L6
          clear k1 k2
          obtain ⟨⟨hGr, hGlt, vr, hvr, hvG⟩, _⟩ := RR.out
          have q1 : W5.cell? ⟨r, 1, none⟩ = some (.bool true) := hvr.get 0 rfl
          have hrl := hvr.lt
          have RLn := hid (rowOf_len (0) (([] : List Int)))
          clear hvr hvG hGlt hGr
          go_wp2_with fail
          refine wp_region_text [0,0,0,0,2,0,2,0,0,0,0,2,0,0,0,0,0,0,0,0,2,0,2,2,0,0] (fun W => W.cell? ⟨r, 1, none⟩ = some (.bool true)) (by kernel_rfl) (by kernel_rfl) q1 ?_
          repeat (first
            | (refine' wpT_calm (v := _) (by rfl) (fun W hW => ?_) ?_; rotate_left
               · ((try dsimp only at hW); go_simp; first | done | rfl)
               simp only [Act.put, List.setIfInBounds_toArray, List.set_cons_zero, List.set_cons_succ])
            | (refine' wpT_reads (v := _) (by rfl) ?_ ?_; rotate_left
               · (go_simp; first | done | rfl)
               simp only [Act.put, List.setIfInBounds_toArray, List.set_cons_zero, List.set_cons_succ])
            | (refine wpT_skip (by rfl) rfl ?_; simp only [Act.put, List.setIfInBounds_toArray, List.set_cons_zero, List.set_cons_succ])
            | (refine wpT_does (by rfl) (fun K hK => ?_); go_simp; refine hK _ _ ?_ ?_
               · (trivial)
               clear hK K; try simp only [Act.put, List.setIfInBounds_toArray, List.set_cons_zero, List.set_cons_succ])
            | (refine wpT_last (by rfl) (fun K hK => ?_); go_simp; refine hK _ _ ?_; clear hK K)
            | (refine wpT_nil ?_))
          refine wpT_does (by rfl) (fun K hK => ?_)
          go_simp
          have ND := hid (NN.out.keep (F := fun _ => False) ((Keep.refl _ _).drew) (fun _ h => h.elim))
          have RD := hid (RR.out.keep (F := fun _ => False) ((Keep.refl _ _).drew) (fun _ h => h.elim))
          refine (odoer_any ND.out).mono ?_
          rintro _ _ ⟨rfl, rfl⟩
          refine hK _ _ q1 ?_
          clear hK K
          try simp only [Act.put, List.setIfInBounds_toArray, List.set_cons_zero, List.set_cons_succ]
          repeat (first
            | (refine' wpT_calm (v := _) (by rfl) (fun W hW => ?_) ?_; rotate_left
               · ((try dsimp only at hW); go_simp; first | done | rfl)
               simp only [Act.put, List.setIfInBounds_toArray, List.set_cons_zero, List.set_cons_succ])
            | (refine' wpT_reads (v := _) (by rfl) ?_ ?_; rotate_left
               · (go_simp; first | done | rfl)
               simp only [Act.put, List.setIfInBounds_toArray, List.set_cons_zero, List.set_cons_succ])
            | (refine wpT_skip (by rfl) rfl ?_; simp only [Act.put, List.setIfInBounds_toArray, List.set_cons_zero, List.set_cons_succ])
            | (refine wpT_does (by rfl) (fun K hK => ?_); go_simp; refine hK _ _ ?_ ?_
               · (trivial)
               clear hK K; try simp only [Act.put, List.setIfInBounds_toArray, List.set_cons_zero, List.set_cons_succ])
            | (refine wpT_last (by rfl) (fun K hK => ?_); go_simp; refine hK _ _ ?_; clear hK K)
            | (refine wpT_nil ?_))
          refine wpT_does (by rfl) (fun K hK => ?_)
          go_simp
          refine (qdoer_any RD.out).mono ?_
          rintro _ _ ⟨rfl, rfl⟩
          rw [rowOf_head]
          refine hK _ _ q1 ?_
          clear hK K
          try simp only [Act.put, List.setIfInBounds_toArray, List.set_cons_zero, List.set_cons_succ]
          repeat (first
            | (refine' wpT_calm (v := _) (by rfl) (fun W hW => ?_) ?_; rotate_left
               · ((try dsimp only at hW); go_simp; first | done | rfl)
               simp only [Act.put, List.setIfInBounds_toArray, List.set_cons_zero, List.set_cons_succ])
            | (refine' wpT_reads (v := _) (by rfl) ?_ ?_; rotate_left
               · (go_simp; first | done | rfl)
               simp only [Act.put, List.setIfInBounds_toArray, List.set_cons_zero, List.set_cons_succ])
            | (refine wpT_skip (by rfl) rfl ?_; simp only [Act.put, List.setIfInBounds_toArray, List.set_cons_zero, List.set_cons_succ])
            | (refine wpT_does (by rfl) (fun K hK => ?_); go_simp; refine hK _ _ ?_ ?_
               · (trivial)
               clear hK K; try simp only [Act.put, List.setIfInBounds_toArray, List.set_cons_zero, List.set_cons_succ])
            | (refine wpT_last (by rfl) (fun K hK => ?_); go_simp; refine hK _ _ ?_; clear hK K)
            | (refine wpT_nil ?_))
          refine wpT_does (by rfl) (fun K hK => ?_)
          go_simp
          refine (oover_any ND.out).mono ?_
          rintro _ _ ⟨rfl, rfl⟩
          refine hK _ _ q1 ?_
          clear hK K
          try simp only [Act.put, List.setIfInBounds_toArray, List.set_cons_zero, List.set_cons_succ]
          repeat (first
            | (refine' wpT_calm (v := _) (by rfl) (fun W hW => ?_) ?_; rotate_left
               · ((try dsimp only at hW); go_simp; first | done | rfl)
               simp only [Act.put, List.setIfInBounds_toArray, List.set_cons_zero, List.set_cons_succ])
            | (refine' wpT_reads (v := _) (by rfl) ?_ ?_; rotate_left
               · (go_simp; first | done | rfl)
               simp only [Act.put, List.setIfInBounds_toArray, List.set_cons_zero, List.set_cons_succ])
            | (refine wpT_skip (by rfl) rfl ?_; simp only [Act.put, List.setIfInBounds_toArray, List.set_cons_zero, List.set_cons_succ])
            | (refine wpT_does (by rfl) (fun K hK => ?_); go_simp; refine hK _ _ ?_ ?_
               · (trivial)
               clear hK K; try simp only [Act.put, List.setIfInBounds_toArray, List.set_cons_zero, List.set_cons_succ])
            | (refine wpT_last (by rfl) (fun K hK => ?_); go_simp; refine hK _ _ ?_; clear hK K)
            | (refine wpT_nil ?_))
          refine wpT_does (by rfl) (fun K hK => ?_)
          go_simp
          refine (owaits_any ND.out (by have := LL.out; omega)).mono ?_
          rintro _ W6 ⟨a6, n6, rfl, R6, N6, K6⟩
          have K60 : Keep (fun _ => False) W5 W6 := ((Keep.refl _ _).drew).trans K6
          have p1 := (K60.cell (p := ⟨r, 1, none⟩) hrl (fun h => h)).trans q1
          have N6 := hid N6
          have R6 := hid R6
          have RN6 := hid (RR.out.keep K60 (fun _ h => h.elim))
          refine hK _ _ p1 ?_
          clear hK K K6 K60
          try simp only [Act.put, List.setIfInBounds_toArray, List.set_cons_zero, List.set_cons_succ]
          repeat (first
            | (refine' wpT_calm (v := _) (by rfl) (fun W hW => ?_) ?_; rotate_left
               · ((try dsimp only at hW); go_simp; first | done | rfl)
               simp only [Act.put, List.setIfInBounds_toArray, List.set_cons_zero, List.set_cons_succ])
            | (refine' wpT_reads (v := _) (by rfl) ?_ ?_; rotate_left
               · (go_simp; first | done | rfl)
               simp only [Act.put, List.setIfInBounds_toArray, List.set_cons_zero, List.set_cons_succ])
            | (refine wpT_skip (by rfl) rfl ?_; simp only [Act.put, List.setIfInBounds_toArray, List.set_cons_zero, List.set_cons_succ])
            | (refine wpT_does (by rfl) (fun K hK => ?_); go_simp; refine hK _ _ ?_ ?_
               · (trivial)
               clear hK K; try simp only [Act.put, List.setIfInBounds_toArray, List.set_cons_zero, List.set_cons_succ])
            | (refine wpT_last (by rfl) (fun K hK => ?_); go_simp; refine hK _ _ ?_; clear hK K)
            | (refine wpT_nil ?_))
          refine wpT_does (by rfl) (fun K hK => ?_)
          go_simp
          refine (qwaits_any RN6.out (by have := LL.out; have := RLn.out; omega)).mono ?_
          rintro _ _ ⟨v9, rfl, R9, rfl⟩
          rw [rowOf_tail SS.out] at R9
          have R9 := hid R9
          refine hK _ _ p1 ?_
          clear hK K
          try simp only [Act.put, List.setIfInBounds_toArray, List.set_cons_zero, List.set_cons_succ]
          repeat (first
            | (refine' wpT_calm (v := _) (by rfl) (fun W hW => ?_) ?_; rotate_left
               · ((try dsimp only at hW); go_simp; first | done | rfl)
               simp only [Act.put, List.setIfInBounds_toArray, List.set_cons_zero, List.set_cons_succ])
            | (refine' wpT_reads (v := _) (by rfl) ?_ ?_; rotate_left
               · (go_simp; first | done | rfl)
               simp only [Act.put, List.setIfInBounds_toArray, List.set_cons_zero, List.set_cons_succ])
            | (refine wpT_skip (by rfl) rfl ?_; simp only [Act.put, List.setIfInBounds_toArray, List.set_cons_zero, List.set_cons_succ])
            | (refine wpT_does (by rfl) (fun K hK => ?_); go_simp; refine hK _ _ ?_ ?_
               · (trivial)
               clear hK K; try simp only [Act.put, List.setIfInBounds_toArray, List.set_cons_zero, List.set_cons_succ])
            | (refine wpT_last (by rfl) (fun K hK => ?_); go_simp; refine hK _ _ ?_; clear hK K)
            | (refine wpT_nil ?_))
          refine wpT_does (by rfl) (fun K hK => ?_)
          go_simp
          refine (ints_any R6.out R9.out).mono ?_
          rintro _ W7 ⟨rfl, K7⟩
          rw [show decide (([] : List Int) = ([] : List Int)) = true from decide_eq_true rfl]
          have z1 := (K7.cell (p := ⟨r, 1, none⟩) (World.block_lt_of_cell? _ _ p1) (fun h => h)).trans p1
          have N7 := hid (N6.out.keep K7 (fun _ h => h.elim))
          have R7 := hid (RN6.out.keep K7 (fun _ h => h.elim))
          refine hK _ _ z1 ?_
          clear hK K K7
          try simp only [Act.put, List.setIfInBounds_toArray, List.set_cons_zero, List.set_cons_succ]
          repeat (first
            | (refine' wpT_calm (v := _) (by rfl) (fun W hW => ?_) ?_; rotate_left
               · ((try dsimp only at hW); go_simp; first | done | rfl)
               simp only [Act.put, List.setIfInBounds_toArray, List.set_cons_zero, List.set_cons_succ])
            | (refine' wpT_reads (v := _) (by rfl) ?_ ?_; rotate_left
               · (go_simp; first | done | rfl)
               simp only [Act.put, List.setIfInBounds_toArray, List.set_cons_zero, List.set_cons_succ])
            | (refine wpT_skip (by rfl) rfl ?_; simp only [Act.put, List.setIfInBounds_toArray, List.set_cons_zero, List.set_cons_succ])
            | (refine wpT_does (by rfl) (fun K hK => ?_); go_simp; refine hK _ _ ?_ ?_
               · (trivial)
               clear hK K; try simp only [Act.put, List.setIfInBounds_toArray, List.set_cons_zero, List.set_cons_succ])
            | (refine wpT_last (by rfl) (fun K hK => ?_); go_simp; refine hK _ _ ?_; clear hK K)
            | (refine wpT_nil ?_))
          go_wp2_with fail
          go_roundw
          case rel => exact ⟨k + 1, true, 0, ([] : List Int), _, _, by omega, by omega, by go_num, LL.out, SS.out, N7.out, R7.out, DJ.out⟩
          case measure => simp [intOf]; omega
      · obtain ⟨r0, e0, d0, l0, hb0⟩ : ∃ r0 e0 d0 l0, beg d o l t = (r0, e0, d0, l0) := ⟨_, _, _, _, rfl⟩
        obtain ⟨hq0, hs0, hl0⟩ := beg_row S.out hb0
        have B0 := hid hb0
        have Q0 := hid hq0
        have SS := hid hs0
        have LL : Hid (l0.length ≤ k + 1) := hid (by omega)
        clear hb0 hq0 hs0
        refine (obegin_any t N.out (by omega) B0.out).mono ?_
        rintro _ W3 ⟨rfl, G3, N3, J3, K3⟩
        have s1 := ostep1 N.out R.out D.out J3 K3
        have N3' := hid N3
        have S1 := hid s1.1
        have D1 := hid s1.2
        clear s1 J3 K3 N3
        go_wp2_with fail
        refine (qbegin_any t S1.out (by have := RL.out; omega) Q0.out).mono ?_
        rintro _ W4 ⟨rfl, G4, N4, J4, K4⟩
        have s2 := ostep2 N3'.out S1.out D1.out J4 K4
        have NN := hid s2.1
        have RR := hid N4
        have DJ := hid s2.2
        clear s2 N4 J4 K4 N3' S1 D1
  
        clear k1 k2
        obtain ⟨⟨hGr, hGlt, vr, hvr, hvG⟩, _⟩ := RR.out
        have q1 : W4.cell? ⟨r, 1, none⟩ = some (.bool o) := hvr.get 0 rfl
        have hrl := hvr.lt
        have RLn := hid (rowOf_len (d0) (l0))
        clear hvr hvG hGlt hGr
        go_wp2_with fail
        refine wp_region_text [0,0,0,0,2,0,2,0,0,0,0,2,0,0,0,0,0,0,0,0,2,0,2,2,0,0] (fun W => W.cell? ⟨r, 1, none⟩ = some (.bool o)) (by kernel_rfl) (by kernel_rfl) q1 ?_
        repeat (first
          | (refine' wpT_calm (v := _) (by rfl) (fun W hW => ?_) ?_; rotate_left
             · ((try dsimp only at hW); go_simp; first | done | rfl)
             simp only [Act.put, List.setIfInBounds_toArray, List.set_cons_zero, List.set_cons_succ])
          | (refine' wpT_reads (v := _) (by rfl) ?_ ?_; rotate_left
             · (go_simp; first | done | rfl)
             simp only [Act.put, List.setIfInBounds_toArray, List.set_cons_zero, List.set_cons_succ])
          | (refine wpT_skip (by rfl) rfl ?_; simp only [Act.put, List.setIfInBounds_toArray, List.set_cons_zero, List.set_cons_succ])
          | (refine wpT_does (by rfl) (fun K hK => ?_); go_simp; refine hK _ _ ?_ ?_
             · (trivial)
             clear hK K; try simp only [Act.put, List.setIfInBounds_toArray, List.set_cons_zero, List.set_cons_succ])
          | (refine wpT_last (by rfl) (fun K hK => ?_); go_simp; refine hK _ _ ?_; clear hK K)
          | (refine wpT_nil ?_))
        refine wpT_does (by rfl) (fun K hK => ?_)
        go_simp
        have ND := hid (NN.out.keep (F := fun _ => False) ((Keep.refl _ _).drew) (fun _ h => h.elim))
        have RD := hid (RR.out.keep (F := fun _ => False) ((Keep.refl _ _).drew) (fun _ h => h.elim))
        refine (odoer_any ND.out).mono ?_
        rintro _ _ ⟨rfl, rfl⟩
        refine hK _ _ q1 ?_
        clear hK K
        try simp only [Act.put, List.setIfInBounds_toArray, List.set_cons_zero, List.set_cons_succ]
        repeat (first
          | (refine' wpT_calm (v := _) (by rfl) (fun W hW => ?_) ?_; rotate_left
             · ((try dsimp only at hW); go_simp; first | done | rfl)
             simp only [Act.put, List.setIfInBounds_toArray, List.set_cons_zero, List.set_cons_succ])
          | (refine' wpT_reads (v := _) (by rfl) ?_ ?_; rotate_left
             · (go_simp; first | done | rfl)
             simp only [Act.put, List.setIfInBounds_toArray, List.set_cons_zero, List.set_cons_succ])
          | (refine wpT_skip (by rfl) rfl ?_; simp only [Act.put, List.setIfInBounds_toArray, List.set_cons_zero, List.set_cons_succ])
          | (refine wpT_does (by rfl) (fun K hK => ?_); go_simp; refine hK _ _ ?_ ?_
             · (trivial)
             clear hK K; try simp only [Act.put, List.setIfInBounds_toArray, List.set_cons_zero, List.set_cons_succ])
          | (refine wpT_last (by rfl) (fun K hK => ?_); go_simp; refine hK _ _ ?_; clear hK K)
          | (refine wpT_nil ?_))
        refine wpT_does (by rfl) (fun K hK => ?_)
        go_simp
        refine (qdoer_any RD.out).mono ?_
        rintro _ _ ⟨rfl, rfl⟩
        rw [rowOf_head]
        refine hK _ _ q1 ?_
        clear hK K
        try simp only [Act.put, List.setIfInBounds_toArray, List.set_cons_zero, List.set_cons_succ]
        repeat (first
          | (refine' wpT_calm (v := _) (by rfl) (fun W hW => ?_) ?_; rotate_left
             · ((try dsimp only at hW); go_simp; first | done | rfl)
             simp only [Act.put, List.setIfInBounds_toArray, List.set_cons_zero, List.set_cons_succ])
          | (refine' wpT_reads (v := _) (by rfl) ?_ ?_; rotate_left
             · (go_simp; first | done | rfl)
             simp only [Act.put, List.setIfInBounds_toArray, List.set_cons_zero, List.set_cons_succ])
          | (refine wpT_skip (by rfl) rfl ?_; simp only [Act.put, List.setIfInBounds_toArray, List.set_cons_zero, List.set_cons_succ])
          | (refine wpT_does (by rfl) (fun K hK => ?_); go_simp; refine hK _ _ ?_ ?_
             · (trivial)
             clear hK K; try simp only [Act.put, List.setIfInBounds_toArray, List.set_cons_zero, List.set_cons_succ])
          | (refine wpT_last (by rfl) (fun K hK => ?_); go_simp; refine hK _ _ ?_; clear hK K)
          | (refine wpT_nil ?_))
        refine wpT_does (by rfl) (fun K hK => ?_)
        go_simp
        refine (oover_any ND.out).mono ?_
        rintro _ _ ⟨rfl, rfl⟩
        refine hK _ _ q1 ?_
        clear hK K
        try simp only [Act.put, List.setIfInBounds_toArray, List.set_cons_zero, List.set_cons_succ]
        repeat (first
          | (refine' wpT_calm (v := _) (by rfl) (fun W hW => ?_) ?_; rotate_left
             · ((try dsimp only at hW); go_simp; first | done | rfl)
             simp only [Act.put, List.setIfInBounds_toArray, List.set_cons_zero, List.set_cons_succ])
          | (refine' wpT_reads (v := _) (by rfl) ?_ ?_; rotate_left
             · (go_simp; first | done | rfl)
             simp only [Act.put, List.setIfInBounds_toArray, List.set_cons_zero, List.set_cons_succ])
          | (refine wpT_skip (by rfl) rfl ?_; simp only [Act.put, List.setIfInBounds_toArray, List.set_cons_zero, List.set_cons_succ])
          | (refine wpT_does (by rfl) (fun K hK => ?_); go_simp; refine hK _ _ ?_ ?_
             · (trivial)
             clear hK K; try simp only [Act.put, List.setIfInBounds_toArray, List.set_cons_zero, List.set_cons_succ])
          | (refine wpT_last (by rfl) (fun K hK => ?_); go_simp; refine hK _ _ ?_; clear hK K)
          | (refine wpT_nil ?_))
        refine wpT_does (by rfl) (fun K hK => ?_)
        go_simp
        refine (owaits_any ND.out (by have := LL.out; omega)).mono ?_
        rintro _ W6 ⟨a6, n6, rfl, R6, N6, K6⟩
        have K60 : Keep (fun _ => False) W4 W6 := ((Keep.refl _ _).drew).trans K6
        have p1 := (K60.cell (p := ⟨r, 1, none⟩) hrl (fun h => h)).trans q1
        have N6 := hid N6
        have R6 := hid R6
        have RN6 := hid (RR.out.keep K60 (fun _ h => h.elim))
        refine hK _ _ p1 ?_
        clear hK K K6 K60
        try simp only [Act.put, List.setIfInBounds_toArray, List.set_cons_zero, List.set_cons_succ]
        repeat (first
          | (refine' wpT_calm (v := _) (by rfl) (fun W hW => ?_) ?_; rotate_left
             · ((try dsimp only at hW); go_simp; first | done | rfl)
             simp only [Act.put, List.setIfInBounds_toArray, List.set_cons_zero, List.set_cons_succ])
          | (refine' wpT_reads (v := _) (by rfl) ?_ ?_; rotate_left
             · (go_simp; first | done | rfl)
             simp only [Act.put, List.setIfInBounds_toArray, List.set_cons_zero, List.set_cons_succ])
          | (refine wpT_skip (by rfl) rfl ?_; simp only [Act.put, List.setIfInBounds_toArray, List.set_cons_zero, List.set_cons_succ])
          | (refine wpT_does (by rfl) (fun K hK => ?_); go_simp; refine hK _ _ ?_ ?_
             · (trivial)
             clear hK K; try simp only [Act.put, List.setIfInBounds_toArray, List.set_cons_zero, List.set_cons_succ])
          | (refine wpT_last (by rfl) (fun K hK => ?_); go_simp; refine hK _ _ ?_; clear hK K)
          | (refine wpT_nil ?_))
        refine wpT_does (by rfl) (fun K hK => ?_)
        go_simp
        refine (qwaits_any RN6.out (by have := LL.out; have := RLn.out; omega)).mono ?_
        rintro _ _ ⟨v9, rfl, R9, rfl⟩
        rw [rowOf_tail SS.out] at R9
        have R9 := hid R9
        refine hK _ _ p1 ?_
        clear hK K
        try simp only [Act.put, List.setIfInBounds_toArray, List.set_cons_zero, List.set_cons_succ]
        repeat (first
          | (refine' wpT_calm (v := _) (by rfl) (fun W hW => ?_) ?_; rotate_left
             · ((try dsimp only at hW); go_simp; first | done | rfl)
             simp only [Act.put, List.setIfInBounds_toArray, List.set_cons_zero, List.set_cons_succ])
          | (refine' wpT_reads (v := _) (by rfl) ?_ ?_; rotate_left
             · (go_simp; first | done | rfl)
             simp only [Act.put, List.setIfInBounds_toArray, List.set_cons_zero, List.set_cons_succ])
          | (refine wpT_skip (by rfl) rfl ?_; simp only [Act.put, List.setIfInBounds_toArray, List.set_cons_zero, List.set_cons_succ])
          | (refine wpT_does (by rfl) (fun K hK => ?_); go_simp; refine hK _ _ ?_ ?_
             · (trivial)
             clear hK K; try simp only [Act.put, List.setIfInBounds_toArray, List.set_cons_zero, List.set_cons_succ])
          | (refine wpT_last (by rfl) (fun K hK => ?_); go_simp; refine hK _ _ ?_; clear hK K)
          | (refine wpT_nil ?_))
        refine wpT_does (by rfl) (fun K hK => ?_)
        go_simp
        refine (ints_any R6.out R9.out).mono ?_
        rintro _ W7 ⟨rfl, K7⟩
        rw [show decide (l0 = l0) = true from decide_eq_true rfl]
        have z1 := (K7.cell (p := ⟨r, 1, none⟩) (World.block_lt_of_cell? _ _ p1) (fun h => h)).trans p1
        have N7 := hid (N6.out.keep K7 (fun _ h => h.elim))
        have R7 := hid (RN6.out.keep K7 (fun _ h => h.elim))
        refine hK _ _ z1 ?_
        clear hK K K7
        try simp only [Act.put, List.setIfInBounds_toArray, List.set_cons_zero, List.set_cons_succ]
        repeat (first
          | (refine' wpT_calm (v := _) (by rfl) (fun W hW => ?_) ?_; rotate_left
             · ((try dsimp only at hW); go_simp; first | done | rfl)
             simp only [Act.put, List.setIfInBounds_toArray, List.set_cons_zero, List.set_cons_succ])
          | (refine' wpT_reads (v := _) (by rfl) ?_ ?_; rotate_left
             · (go_simp; first | done | rfl)
             simp only [Act.put, List.setIfInBounds_toArray, List.set_cons_zero, List.set_cons_succ])
          | (refine wpT_skip (by rfl) rfl ?_; simp only [Act.put, List.setIfInBounds_toArray, List.set_cons_zero, List.set_cons_succ])
          | (refine wpT_does (by rfl) (fun K hK => ?_); go_simp; refine hK _ _ ?_ ?_
             · (trivial)
             clear hK K; try simp only [Act.put, List.setIfInBounds_toArray, List.set_cons_zero, List.set_cons_succ])
          | (refine wpT_last (by rfl) (fun K hK => ?_); go_simp; refine hK _ _ ?_; clear hK K)
          | (refine wpT_nil ?_))
        go_wp2_with fail
        go_roundw
        case rel => exact ⟨k + 1, o, d0, l0, _, _, by omega, by omega, by go_num, LL.out, SS.out, N7.out, R7.out, DJ.out⟩
        case measure => simp [intOf]; omega
    · have hge : ¬ ((k : Int) < (n1 : Int)) ∨ (k : Int) < (n1 : Int) ∧ ¬ ((k : Int) < 40) := by omega
      rcases hge with hge1 | ⟨hge1, hge2⟩
      all_goals
        go_wp2_with fail
        refine (oawake_any _).mono ?_
        rintro _ W4 ⟨rfl, K4⟩
        have N4 := hid (N.out.keep K4 (fun _ h => h.elim))
        clear K4
        go_wp2
        go_ret
        exact ⟨rfl, N4.out.2.2.below (fun _ h => h.elim) (Nat.le_refl _)⟩
end Go.Proofs.Ytacogkmnmeekfaa
