/- The walk of MutexPlays. -/
import Derived.Test.YtcbnbnlioajadaaMutD
import Derived.Test.YtcbnbnlioajadaaArg
namespace Go.Proofs.Ytcbnbnlioajadaa
open Go Go.RowKit

theorem arg_act2 {w : World} {v : Value} {n : Nat} {f : Nat → Nat → Int} (h : ArgRows w v [.u8, .i64] n f) (hn : 0 < n) : ∃ g off c, v = .slice (some ⟨g, off, none⟩) n c ∧ g < w.heap.size ∧ n ≤ maxLen ∧
    ∀ k, k < n → (w.cell? ⟨g, off + k * 2, none⟩ = some (.int .u8 (f k 0)) ∧ w.cell? ⟨g, off + k * 2 + 1, none⟩ = some (.int .i64 (f k 1))) ∧ ((Lit.int .u8 (f k 0)).wf = true ∧ (Lit.int .i64 (f k 1)).wf = true) := by
  obtain ⟨hm, ⟨h0, _⟩ | ⟨g, off, c, hv, hg, hc⟩⟩ := h
  · omega
  · refine ⟨g, off, c, hv, hg, hm, fun k hk => ⟨⟨?_, ?_⟩, ?_, ?_⟩⟩
    · simpa using (hc k hk 0 .u8 rfl).1
    · simpa [Nat.add_assoc] using (hc k hk 1 .i64 rfl).1
    · exact (hc k hk 0 .u8 rfl).2
    · exact (hc k hk 1 .i64 rfl).2


section
variable {w W W3 : World} {G1 G2 G3 : Nat → Prop} {b r : Nat} {l l2 : List Int} {p p2 : List Value} {T T2 : Nat}

theorem ostep1 (h1 : ONew T w W G1 b p l) (h2 : LNew T2 w W G2 r p2 l2) (hd : ∀ k, G1 k → ¬ G2 k) (J : ∀ k, G3 k → G1 k ∨ W.heap.size ≤ k) (K : Keep G1 W W3) :
    LNew T2 w W3 G2 r p2 l2 ∧ ∀ k, G3 k → ¬ G2 k :=
  ⟨h2.keep K fun k hk => ⟨h1.2.1 k hk, hd k hk⟩, fun k hk hg => (J k hk).elim (fun h => hd k h hg) (fun h => by have := h2.1.2.1 k hg; omega)⟩

theorem ostep2 (h1 : ONew T w W G1 b p l) (h2 : LNew T2 w W G2 r p2 l2) (hd : ∀ k, G1 k → ¬ G2 k) (J : ∀ k, G3 k → G2 k ∨ W.heap.size ≤ k) (K : Keep G2 W W3) :
    ONew T w W3 G1 b p l ∧ ∀ k, G1 k → ¬ G3 k :=
  ⟨h1.keep K fun k hk => ⟨h2.2.1 k hk, fun h => hd k h hk⟩, fun k hk hg => (J k hg).elim (fun h => hd k hk h) (fun h => by have := h1.1.2.1 k hk; omega)⟩
end

set_option maxRecDepth 10000 in
set_option maxHeartbeats 8000000 in
theorem walk_MutexPlays (w : World) (v1 : Value) (n1 : Nat) (f1 : Nat → Nat → Int) (w1 : ArgRows w v1 [.u8, .i64] n1 f1) :
    Calls Try.prog 7 #[v1] w fun en w' => en = .returned (.bool true) ∧ Below w.heap.size w w' := by
  obtain ⟨a1, c1, hv1⟩ := w1.form
  have A1 := hid w1
  have V1 := hid hv1
  rw [hv1]
  clear w1 hv1
  go_enter Try.func7, Try.ntmps7
  go_wp2_with fail
  refine (mnew_any w).mono ?_
  rintro e W1 ⟨rfl, G1, N1⟩
  have hsz : w.heap.size < W1.heap.size := N1.1.2.1 _ N1.1.1
  have N2 := N1.keep ((Keep.refl (fun _ => False) W1).alloc (.cells #[.slice none 0 0] 49)) (fun _ h => h.elim)
  have OA : OblAt 49 (W1.alloc (.cells #[.slice none 0 0] 49)) W1.heap.size [] (.slice none 0 0) [] :=
    ⟨heap_alloc_new W1 _, OwnI.nil _, by simp [Value.ownBlock]⟩
  have R2 : LNew 49 w (W1.alloc (.cells #[.slice none 0 0] 49)) (fun k => k = W1.heap.size) W1.heap.size [] (rowOf 0 []) :=
    ⟨⟨rfl, fun k hk => hk ▸ OA.lt, _, OA, fun k hk => by simp [Value.ownBlock] at hk⟩, fun k hk => by rw [hk]; omega, N2.2.2⟩
  have hd2 : ∀ k, G1 k → ¬ k = W1.heap.size := fun k hk e => by have := N1.1.2.1 k hk; omega
  have N2 := hid N2
  have R2 := hid R2
  have D2 := hid hd2
  clear OA hd2 N1
  obtain ⟨r, hr⟩ : ∃ x, W1.heap.size = x := ⟨_, rfl⟩
  rw [hr] at R2 D2
  obtain ⟨b, hb⟩ : ∃ x, w.heap.size = x := ⟨_, rfl⟩
  rw [hb] at N2 ⊢
  clear hsz
  go_wp2_with fail
  try rw [hr]
  go_loopw [5] (fun i wr => ∃ (k : Nat) (d : Int) (l : List Int) (G1 G2 : Nat → Prop), k ≤ n1 ∧ k ≤ 60 ∧ i = .int .i64 k ∧ l.length ≤ k ∧ Sane d l ∧ ONew 69 w wr G1 b (mpre d) l ∧ LNew 49 w wr G2 r [] (rowOf d l) ∧ ∀ k, G1 k → ¬ G2 k) (fun i _ => 60 - (intOf i).toNat)
  case atStart => exact ⟨0, 0, [], G1, _, Nat.zero_le _, by omega, rfl, Nat.le_refl _, ⟨fun _ => rfl, by rw [rowOf_zero]; exact List.nodup_nil, by decide, by simp⟩, N2.out, R2.out, D2.out⟩
  case round =>
    obtain ⟨k, d, l, G1, G2, hk, hk60, rfl, hl, hS, hN, hR, hD⟩ := hrel
    have S := hid hS
    have N := hid hN
    have R := hid hR
    have D := hid hD
    have RL := hid (rowOf_len d l)
    clear N2 R2 D2 hN hR hD hS
    by_cases hlt : k < n1 ∧ k < 60
    · obtain ⟨g, off, cc, hv, hg, hmx, hc⟩ := arg_act2 A1.out (by omega)
      have hav : a1 = some ⟨g, off, none⟩ ∧ c1 = cc := by rw [V1.out] at hv; cases hv; exact ⟨rfl, rfl⟩
      obtain ⟨rfl, rfl⟩ := hav
      obtain ⟨⟨k1, k2⟩, u1, u2⟩ := hc k hlt.1
      have k1 := (N.out.2.2.cell (p := ⟨g, off + k * 2, none⟩) hg (fun h => h)).trans k1
      have k2 := (N.out.2.2.cell (p := ⟨g, off + k * 2 + 1, none⟩) hg (fun h => h)).trans k2
      have hlt1 : (k : Int) < (n1 : Int) := by omega
      have hlt2 : (k : Int) < 60 := by omega
      clear hc hv
      generalize f1 k 0 = c at k1 u1
      generalize f1 k 1 = t at k2 u2
      go_wp2_with fail
      · rcases drop_row t S.out with ⟨hm, i, hi, hi1, hx, he⟩ | ⟨hm, hx, he⟩
        · have hd : decide (t ∈ l) = true := decide_eq_true hm
          have LL : Hid ((dropT l t).length ≤ k + 1) := hid (by have := dropT_len l t; omega)
          have SS := hid (S.out.drop t)
          have X := hid hx
          have E := hid he
          clear hm hx he
          refine (mdrop_any t N.out (by omega)).mono ?_
          rintro _ W3 ⟨rfl, G3, N3, J3, K3⟩
          rw [hd]
          have s1 := ostep1 N.out R.out D.out J3 K3
          have N3' := hid N3
          have S1 := hid s1.1
          have D1 := hid s1.2
          clear s1 J3 K3 N3 hd
          go_wp2_with fail
          refine (ndrop_in t i hi hi1 X S1.out (by have := RL.out; omega)).mono ?_
          rintro _ W4 ⟨rfl, G4, N4, J4, K4⟩
          rw [E.out] at N4
          have s2 := ostep2 N3'.out S1.out D1.out J4 K4
          have NN := hid s2.1
          have RR := hid N4
          have DJ := hid s2.2
          clear s2 N4 J4 K4 N3' S1 D1
          try clear k1 k2
          have RLn := hid (rowOf_len (d) (dropT l t))
          go_wp2_with fail
          refine (mholder_any NN.out).mono ?_
          rintro _ _ ⟨rfl, rfl⟩
          go_wp2_with fail
          refine (nholder_any RR.out).mono ?_
          rintro _ _ ⟨rfl, rfl⟩
          rw [rowOf_head]
          go_wp2_with fail
          refine (mwaits_any NN.out (by have := LL.out; omega)).mono ?_
          rintro _ W6 ⟨a6, n6, rfl, R6, N6, K6, -⟩
          have N6 := hid N6
          have R6 := hid R6
          have RN6 := hid (RR.out.keep K6 (fun _ h => h.elim))
          clear K6
          go_wp2_with fail
          refine (nwaits_any RN6.out (by have := LL.out; have := RLn.out; omega)).mono ?_
          rintro _ _ ⟨v9, rfl, R9, rfl⟩
          rw [rowOf_tail SS.out] at R9
          have R9 := hid R9
          go_wp2_with fail
          refine (ints_any R6.out R9.out).mono ?_
          rintro _ W7 ⟨rfl, K7⟩
          rw [show decide (dropT l t = dropT l t) = true from decide_eq_true rfl]
          have N7 := hid (N6.out.keep K7 (fun _ h => h.elim))
          have R7 := hid (RN6.out.keep K7 (fun _ h => h.elim))
          clear K7
          go_wp2_with fail
          go_roundw
          case rel => exact ⟨k + 1, d, dropT l t, _, _, by omega, by omega, by go_num, LL.out, SS.out, N7.out, R7.out, DJ.out⟩
          case measure => simp [intOf]; omega
        · have hd : decide (t ∈ l) = false := decide_eq_false hm
          have LL : Hid ((dropT l t).length ≤ k + 1) := hid (by have := dropT_len l t; omega)
          have SS := hid (S.out.drop t)
          have X := hid hx
          have E := hid he
          clear hm hx he
          refine (mdrop_any t N.out (by omega)).mono ?_
          rintro _ W3 ⟨rfl, G3, N3, J3, K3⟩
          rw [hd]
          have s1 := ostep1 N.out R.out D.out J3 K3
          have NN := hid N3
          have S1 := hid s1.1
          have DJ := hid s1.2
          clear s1 J3 K3 N3 hd
          go_wp2_with fail
          refine (ndrop_no t X S1.out (by have := RL.out; omega)).mono ?_
          rintro _ _ ⟨rfl, rfl⟩
          have RR := S1.out
          rw [← E.out] at RR
          have RR := hid RR
          try clear k1 k2
          have RLn := hid (rowOf_len (d) (dropT l t))
          go_wp2_with fail
          refine (mholder_any NN.out).mono ?_
          rintro _ _ ⟨rfl, rfl⟩
          go_wp2_with fail
          refine (nholder_any RR.out).mono ?_
          rintro _ _ ⟨rfl, rfl⟩
          rw [rowOf_head]
          go_wp2_with fail
          refine (mwaits_any NN.out (by have := LL.out; omega)).mono ?_
          rintro _ W6 ⟨a6, n6, rfl, R6, N6, K6, -⟩
          have N6 := hid N6
          have R6 := hid R6
          have RN6 := hid (RR.out.keep K6 (fun _ h => h.elim))
          clear K6
          go_wp2_with fail
          refine (nwaits_any RN6.out (by have := LL.out; have := RLn.out; omega)).mono ?_
          rintro _ _ ⟨v9, rfl, R9, rfl⟩
          rw [rowOf_tail SS.out] at R9
          have R9 := hid R9
          go_wp2_with fail
          refine (ints_any R6.out R9.out).mono ?_
          rintro _ W7 ⟨rfl, K7⟩
          rw [show decide (dropT l t = dropT l t) = true from decide_eq_true rfl]
          have N7 := hid (N6.out.keep K7 (fun _ h => h.elim))
          have R7 := hid (RN6.out.keep K7 (fun _ h => h.elim))
          clear K7
          go_wp2_with fail
          go_roundw
          case rel => exact ⟨k + 1, d, dropT l t, _, _, by omega, by omega, by go_num, LL.out, SS.out, N7.out, R7.out, DJ.out⟩
          case measure => simp [intOf]; omega
      · obtain ⟨e0, d0, hb0⟩ : ∃ e0 d0, mtr d l t = (e0, d0) := ⟨_, _, rfl⟩
        obtain ⟨hq0, hs0⟩ := try_row t S.out hb0
        have B0 := hid hb0
        have Q0 := hid hq0
        have SS := hid hs0
        have LL : Hid (l.length ≤ k + 1) := hid (by omega)
        clear hb0 hq0 hs0
        refine (mtry_any t N.out B0.out).mono ?_
        rintro _ W3 ⟨rfl, G3, N3, J3, K3⟩
        have s1 := ostep1 N.out R.out D.out J3 K3
        have N3' := hid N3
        have S1 := hid s1.1
        have D1 := hid s1.2
        clear s1 J3 K3 N3
        go_wp2_with fail
        refine (nwant_any t false S1.out (by have := RL.out; omega) Q0.out).mono ?_
        rintro _ W4 ⟨rfl, G4, N4, J4, K4⟩
        have s2 := ostep2 N3'.out S1.out D1.out J4 K4
        have NN := hid s2.1
        have RR := hid N4
        have DJ := hid s2.2
        clear s2 N4 J4 K4 N3' S1 D1
  
        try clear k1 k2
        have RLn := hid (rowOf_len (d0) (l))
        go_wp2_with fail
        refine (mholder_any NN.out).mono ?_
        rintro _ _ ⟨rfl, rfl⟩
        go_wp2_with fail
        refine (nholder_any RR.out).mono ?_
        rintro _ _ ⟨rfl, rfl⟩
        rw [rowOf_head]
        go_wp2_with fail
        refine (mwaits_any NN.out (by have := LL.out; omega)).mono ?_
        rintro _ W6 ⟨a6, n6, rfl, R6, N6, K6, -⟩
        have N6 := hid N6
        have R6 := hid R6
        have RN6 := hid (RR.out.keep K6 (fun _ h => h.elim))
        clear K6
        go_wp2_with fail
        refine (nwaits_any RN6.out (by have := LL.out; have := RLn.out; omega)).mono ?_
        rintro _ _ ⟨v9, rfl, R9, rfl⟩
        rw [rowOf_tail SS.out] at R9
        have R9 := hid R9
        go_wp2_with fail
        refine (ints_any R6.out R9.out).mono ?_
        rintro _ W7 ⟨rfl, K7⟩
        rw [show decide (l = l) = true from decide_eq_true rfl]
        have N7 := hid (N6.out.keep K7 (fun _ h => h.elim))
        have R7 := hid (RN6.out.keep K7 (fun _ h => h.elim))
        clear K7
        go_wp2_with fail
        go_roundw
        case rel => exact ⟨k + 1, d0, l, _, _, by omega, by omega, by go_num, LL.out, SS.out, N7.out, R7.out, DJ.out⟩
        case measure => simp [intOf]; omega
      · rcases unlock_row t S.out with ht | ⟨ht, hdt, hx⟩ | ⟨ht, rfl, hrow⟩
        · have LL : Hid (l.length ≤ k + 1) := hid (by omega)
          have SS := S
          have NN := N
          have RR := R
          have DJ := D
          refine (munlock_no t N.out (.inl ht)).mono ?_
          rintro _ _ ⟨rfl, rfl⟩
          rw [if_pos ht]
          go_wp2_with fail
          refine (nunlock_lo t ht _ r).mono ?_
          rintro _ _ ⟨rfl, rfl⟩
          try clear k1 k2
          have RLn := hid (rowOf_len (d) (l))
          go_wp2_with fail
          refine (mholder_any NN.out).mono ?_
          rintro _ _ ⟨rfl, rfl⟩
          go_wp2_with fail
          refine (nholder_any RR.out).mono ?_
          rintro _ _ ⟨rfl, rfl⟩
          rw [rowOf_head]
          go_wp2_with fail
          refine (mwaits_any NN.out (by have := LL.out; omega)).mono ?_
          rintro _ W6 ⟨a6, n6, rfl, R6, N6, K6, -⟩
          have N6 := hid N6
          have R6 := hid R6
          have RN6 := hid (RR.out.keep K6 (fun _ h => h.elim))
          clear K6
          go_wp2_with fail
          refine (nwaits_any RN6.out (by have := LL.out; have := RLn.out; omega)).mono ?_
          rintro _ _ ⟨v9, rfl, R9, rfl⟩
          rw [rowOf_tail SS.out] at R9
          have R9 := hid R9
          go_wp2_with fail
          refine (ints_any R6.out R9.out).mono ?_
          rintro _ W7 ⟨rfl, K7⟩
          rw [show decide (l = l) = true from decide_eq_true rfl]
          have N7 := hid (N6.out.keep K7 (fun _ h => h.elim))
          have R7 := hid (RN6.out.keep K7 (fun _ h => h.elim))
          clear K7
          go_wp2_with fail
          go_roundw
          case rel => exact ⟨k + 1, d, l, _, _, by omega, by omega, by go_num, LL.out, SS.out, N7.out, R7.out, DJ.out⟩
          case measure => simp [intOf]; omega
        · have LL : Hid (l.length ≤ k + 1) := hid (by omega)
          have SS := S
          have NN := N
          have RR := R
          have DJ := D
          have HX := hid hx
          have HD := hid hdt
          clear hx hdt
          refine (munlock_no t N.out (.inr HD.out)).mono ?_
          rintro _ _ ⟨rfl, rfl⟩
          rw [if_neg (by omega)]
          go_wp2_with fail
          refine (nunlock_no t ht HX.out R.out (by have := RL.out; omega)).mono ?_
          rintro _ _ ⟨rfl, rfl⟩
          try clear k1 k2
          have RLn := hid (rowOf_len (d) (l))
          go_wp2_with fail
          refine (mholder_any NN.out).mono ?_
          rintro _ _ ⟨rfl, rfl⟩
          go_wp2_with fail
          refine (nholder_any RR.out).mono ?_
          rintro _ _ ⟨rfl, rfl⟩
          rw [rowOf_head]
          go_wp2_with fail
          refine (mwaits_any NN.out (by have := LL.out; omega)).mono ?_
          rintro _ W6 ⟨a6, n6, rfl, R6, N6, K6, -⟩
          have N6 := hid N6
          have R6 := hid R6
          have RN6 := hid (RR.out.keep K6 (fun _ h => h.elim))
          clear K6
          go_wp2_with fail
          refine (nwaits_any RN6.out (by have := LL.out; have := RLn.out; omega)).mono ?_
          rintro _ _ ⟨v9, rfl, R9, rfl⟩
          rw [rowOf_tail SS.out] at R9
          have R9 := hid R9
          go_wp2_with fail
          refine (ints_any R6.out R9.out).mono ?_
          rintro _ W7 ⟨rfl, K7⟩
          rw [show decide (l = l) = true from decide_eq_true rfl]
          have N7 := hid (N6.out.keep K7 (fun _ h => h.elim))
          have R7 := hid (RN6.out.keep K7 (fun _ h => h.elim))
          clear K7
          go_wp2_with fail
          go_roundw
          case rel => exact ⟨k + 1, d, l, _, _, by omega, by omega, by go_num, LL.out, SS.out, N7.out, R7.out, DJ.out⟩
          case measure => simp [intOf]; omega
        · obtain ⟨hn1, hn2⟩ := S.out.next (by omega)
          have HN := hid hn1
          have SS := hid hn2
          have RO := R.out
          rw [hrow] at RO
          have RO := hid RO
          clear hn1 hn2 hrow
          have un : Calls Try.prog 29 #[.pointer (some ⟨b, 0, none⟩), .int .i64 d] wr fun en w' => en = .returned (.tuple #[.int .i64 (l.headD 0), .int .i64 0]) ∧ StepO 69 w G1 wr w' b (mpre (l.headD 0)) l.tail := by
            cases l with
            | nil => exact munlock_nil N.out ht
            | cons x l => exact munlock_cons x N.out ht (by simp at hl ⊢; omega)
          have LL : Hid (l.tail.length ≤ k + 1) := hid (by rw [List.length_tail]; omega)
          refine un.mono ?_
          rintro _ W3 ⟨rfl, G3, N3, J3, K3⟩
          have s1 := ostep1 N.out RO.out D.out J3 K3
          have N3' := hid N3
          have S1 := hid s1.1
          have D1 := hid s1.2
          clear s1 J3 K3 N3 un
          obtain ⟨q, hq⟩ : ∃ q, l.headD 0 = q := ⟨_, rfl⟩
          have HQ := hid hq
          rw [hq] at SS N3' HN ⊢
          clear hq
          go_wp2_with fail
          refine (nunlock_yes d ht S1.out (by omega)).mono ?_
          rintro _ W4 ⟨rfl, G4, N4, J4, K4⟩
          rw [HQ.out]
          rw [← HN.out] at N4
          have s2 := ostep2 N3'.out S1.out D1.out J4 K4
          have NN := hid s2.1
          have RR := hid N4
          have DJ := hid s2.2
          clear s2 N4 J4 K4 N3' S1 D1 RO
          obtain ⟨lt, hlt'⟩ : ∃ x, l.tail = x := ⟨_, rfl⟩
          rw [hlt'] at SS NN RR LL
          clear hlt'
          try clear k1 k2
          have RLn := hid (rowOf_len (q) (lt))
          go_wp2_with fail
          refine (mholder_any NN.out).mono ?_
          rintro _ _ ⟨rfl, rfl⟩
          go_wp2_with fail
          refine (nholder_any RR.out).mono ?_
          rintro _ _ ⟨rfl, rfl⟩
          rw [rowOf_head]
          go_wp2_with fail
          refine (mwaits_any NN.out (by have := LL.out; omega)).mono ?_
          rintro _ W6 ⟨a6, n6, rfl, R6, N6, K6, -⟩
          have N6 := hid N6
          have R6 := hid R6
          have RN6 := hid (RR.out.keep K6 (fun _ h => h.elim))
          clear K6
          go_wp2_with fail
          refine (nwaits_any RN6.out (by have := LL.out; have := RLn.out; omega)).mono ?_
          rintro _ _ ⟨v9, rfl, R9, rfl⟩
          rw [rowOf_tail SS.out] at R9
          have R9 := hid R9
          go_wp2_with fail
          refine (ints_any R6.out R9.out).mono ?_
          rintro _ W7 ⟨rfl, K7⟩
          rw [show decide (lt = lt) = true from decide_eq_true rfl]
          have N7 := hid (N6.out.keep K7 (fun _ h => h.elim))
          have R7 := hid (RN6.out.keep K7 (fun _ h => h.elim))
          clear K7
          go_wp2_with fail
          go_roundw
          case rel => exact ⟨k + 1, q, lt, _, _, by omega, by omega, by go_num, LL.out, SS.out, N7.out, R7.out, DJ.out⟩
          case measure => simp [intOf]; omega
      · rcases unlock_row t S.out with ht | ⟨ht, hdt, hx⟩ | ⟨ht, rfl, hrow⟩
        · have LL : Hid (l.length ≤ k + 1) := hid (by omega)
          have SS := S
          have NN := N
          have RR := R
          have DJ := D
          refine (munlock_no t N.out (.inl ht)).mono ?_
          rintro _ _ ⟨rfl, rfl⟩
          rw [if_pos ht]
          go_wp2_with fail
          refine (nunlock_lo t ht _ r).mono ?_
          rintro _ _ ⟨rfl, rfl⟩
          try clear k1 k2
          have RLn := hid (rowOf_len (d) (l))
          go_wp2_with fail
          refine (mholder_any NN.out).mono ?_
          rintro _ _ ⟨rfl, rfl⟩
          go_wp2_with fail
          refine (nholder_any RR.out).mono ?_
          rintro _ _ ⟨rfl, rfl⟩
          rw [rowOf_head]
          go_wp2_with fail
          refine (mwaits_any NN.out (by have := LL.out; omega)).mono ?_
          rintro _ W6 ⟨a6, n6, rfl, R6, N6, K6, -⟩
          have N6 := hid N6
          have R6 := hid R6
          have RN6 := hid (RR.out.keep K6 (fun _ h => h.elim))
          clear K6
          go_wp2_with fail
          refine (nwaits_any RN6.out (by have := LL.out; have := RLn.out; omega)).mono ?_
          rintro _ _ ⟨v9, rfl, R9, rfl⟩
          rw [rowOf_tail SS.out] at R9
          have R9 := hid R9
          go_wp2_with fail
          refine (ints_any R6.out R9.out).mono ?_
          rintro _ W7 ⟨rfl, K7⟩
          rw [show decide (l = l) = true from decide_eq_true rfl]
          have N7 := hid (N6.out.keep K7 (fun _ h => h.elim))
          have R7 := hid (RN6.out.keep K7 (fun _ h => h.elim))
          clear K7
          go_wp2_with fail
          go_roundw
          case rel => exact ⟨k + 1, d, l, _, _, by omega, by omega, by go_num, LL.out, SS.out, N7.out, R7.out, DJ.out⟩
          case measure => simp [intOf]; omega
        · have LL : Hid (l.length ≤ k + 1) := hid (by omega)
          have SS := S
          have NN := N
          have RR := R
          have DJ := D
          have HX := hid hx
          have HD := hid hdt
          clear hx hdt
          refine (munlock_no t N.out (.inr HD.out)).mono ?_
          rintro _ _ ⟨rfl, rfl⟩
          rw [if_neg (by omega)]
          go_wp2_with fail
          refine (nunlock_no t ht HX.out R.out (by have := RL.out; omega)).mono ?_
          rintro _ _ ⟨rfl, rfl⟩
          try clear k1 k2
          have RLn := hid (rowOf_len (d) (l))
          go_wp2_with fail
          refine (mholder_any NN.out).mono ?_
          rintro _ _ ⟨rfl, rfl⟩
          go_wp2_with fail
          refine (nholder_any RR.out).mono ?_
          rintro _ _ ⟨rfl, rfl⟩
          rw [rowOf_head]
          go_wp2_with fail
          refine (mwaits_any NN.out (by have := LL.out; omega)).mono ?_
          rintro _ W6 ⟨a6, n6, rfl, R6, N6, K6, -⟩
          have N6 := hid N6
          have R6 := hid R6
          have RN6 := hid (RR.out.keep K6 (fun _ h => h.elim))
          clear K6
          go_wp2_with fail
          refine (nwaits_any RN6.out (by have := LL.out; have := RLn.out; omega)).mono ?_
          rintro _ _ ⟨v9, rfl, R9, rfl⟩
          rw [rowOf_tail SS.out] at R9
          have R9 := hid R9
          go_wp2_with fail
          refine (ints_any R6.out R9.out).mono ?_
          rintro _ W7 ⟨rfl, K7⟩
          rw [show decide (l = l) = true from decide_eq_true rfl]
          have N7 := hid (N6.out.keep K7 (fun _ h => h.elim))
          have R7 := hid (RN6.out.keep K7 (fun _ h => h.elim))
          clear K7
          go_wp2_with fail
          go_roundw
          case rel => exact ⟨k + 1, d, l, _, _, by omega, by omega, by go_num, LL.out, SS.out, N7.out, R7.out, DJ.out⟩
          case measure => simp [intOf]; omega
        · obtain ⟨hn1, hn2⟩ := S.out.next (by omega)
          have HN := hid hn1
          have SS := hid hn2
          have RO := R.out
          rw [hrow] at RO
          have RO := hid RO
          clear hn1 hn2 hrow
          have un : Calls Try.prog 29 #[.pointer (some ⟨b, 0, none⟩), .int .i64 d] wr fun en w' => en = .returned (.tuple #[.int .i64 (l.headD 0), .int .i64 0]) ∧ StepO 69 w G1 wr w' b (mpre (l.headD 0)) l.tail := by
            cases l with
            | nil => exact munlock_nil N.out ht
            | cons x l => exact munlock_cons x N.out ht (by simp at hl ⊢; omega)
          have LL : Hid (l.tail.length ≤ k + 1) := hid (by rw [List.length_tail]; omega)
          refine un.mono ?_
          rintro _ W3 ⟨rfl, G3, N3, J3, K3⟩
          have s1 := ostep1 N.out RO.out D.out J3 K3
          have N3' := hid N3
          have S1 := hid s1.1
          have D1 := hid s1.2
          clear s1 J3 K3 N3 un
          obtain ⟨q, hq⟩ : ∃ q, l.headD 0 = q := ⟨_, rfl⟩
          have HQ := hid hq
          rw [hq] at SS N3' HN ⊢
          clear hq
          go_wp2_with fail
          refine (nunlock_yes d ht S1.out (by omega)).mono ?_
          rintro _ W4 ⟨rfl, G4, N4, J4, K4⟩
          rw [HQ.out]
          rw [← HN.out] at N4
          have s2 := ostep2 N3'.out S1.out D1.out J4 K4
          have NN := hid s2.1
          have RR := hid N4
          have DJ := hid s2.2
          clear s2 N4 J4 K4 N3' S1 D1 RO
          obtain ⟨lt, hlt'⟩ : ∃ x, l.tail = x := ⟨_, rfl⟩
          rw [hlt'] at SS NN RR LL
          clear hlt'
          try clear k1 k2
          have RLn := hid (rowOf_len (q) (lt))
          go_wp2_with fail
          refine (mholder_any NN.out).mono ?_
          rintro _ _ ⟨rfl, rfl⟩
          go_wp2_with fail
          refine (nholder_any RR.out).mono ?_
          rintro _ _ ⟨rfl, rfl⟩
          rw [rowOf_head]
          go_wp2_with fail
          refine (mwaits_any NN.out (by have := LL.out; omega)).mono ?_
          rintro _ W6 ⟨a6, n6, rfl, R6, N6, K6, -⟩
          have N6 := hid N6
          have R6 := hid R6
          have RN6 := hid (RR.out.keep K6 (fun _ h => h.elim))
          clear K6
          go_wp2_with fail
          refine (nwaits_any RN6.out (by have := LL.out; have := RLn.out; omega)).mono ?_
          rintro _ _ ⟨v9, rfl, R9, rfl⟩
          rw [rowOf_tail SS.out] at R9
          have R9 := hid R9
          go_wp2_with fail
          refine (ints_any R6.out R9.out).mono ?_
          rintro _ W7 ⟨rfl, K7⟩
          rw [show decide (lt = lt) = true from decide_eq_true rfl]
          have N7 := hid (N6.out.keep K7 (fun _ h => h.elim))
          have R7 := hid (RN6.out.keep K7 (fun _ h => h.elim))
          clear K7
          go_wp2_with fail
          go_roundw
          case rel => exact ⟨k + 1, q, lt, _, _, by omega, by omega, by go_num, LL.out, SS.out, N7.out, R7.out, DJ.out⟩
          case measure => simp [intOf]; omega
      · obtain ⟨e0, d0, l0, hb0⟩ : ∃ e0 d0 l0, mlk d l t = (e0, d0, l0) := ⟨_, _, _, rfl⟩
        obtain ⟨hq0, hs0, hl0⟩ := lock_row t S.out hb0
        have B0 := hid hb0
        have Q0 := hid hq0
        have SS := hid hs0
        have LL : Hid (l0.length ≤ k + 1) := hid (by omega)
        clear hb0 hq0 hs0
        refine (mlock_any t N.out (by omega) B0.out).mono ?_
        rintro _ W3 ⟨rfl, G3, N3, J3, K3⟩
        have s1 := ostep1 N.out R.out D.out J3 K3
        have N3' := hid N3
        have S1 := hid s1.1
        have D1 := hid s1.2
        clear s1 J3 K3 N3
        go_wp2_with fail
        refine (nwant_any t true S1.out (by have := RL.out; omega) Q0.out).mono ?_
        rintro _ W4 ⟨rfl, G4, N4, J4, K4⟩
        have s2 := ostep2 N3'.out S1.out D1.out J4 K4
        have NN := hid s2.1
        have RR := hid N4
        have DJ := hid s2.2
        clear s2 N4 J4 K4 N3' S1 D1
  
        try clear k1 k2
        have RLn := hid (rowOf_len (d0) (l0))
        go_wp2_with fail
        refine (mholder_any NN.out).mono ?_
        rintro _ _ ⟨rfl, rfl⟩
        go_wp2_with fail
        refine (nholder_any RR.out).mono ?_
        rintro _ _ ⟨rfl, rfl⟩
        rw [rowOf_head]
        go_wp2_with fail
        refine (mwaits_any NN.out (by have := LL.out; omega)).mono ?_
        rintro _ W6 ⟨a6, n6, rfl, R6, N6, K6, -⟩
        have N6 := hid N6
        have R6 := hid R6
        have RN6 := hid (RR.out.keep K6 (fun _ h => h.elim))
        clear K6
        go_wp2_with fail
        refine (nwaits_any RN6.out (by have := LL.out; have := RLn.out; omega)).mono ?_
        rintro _ _ ⟨v9, rfl, R9, rfl⟩
        rw [rowOf_tail SS.out] at R9
        have R9 := hid R9
        go_wp2_with fail
        refine (ints_any R6.out R9.out).mono ?_
        rintro _ W7 ⟨rfl, K7⟩
        rw [show decide (l0 = l0) = true from decide_eq_true rfl]
        have N7 := hid (N6.out.keep K7 (fun _ h => h.elim))
        have R7 := hid (RN6.out.keep K7 (fun _ h => h.elim))
        clear K7
        go_wp2_with fail
        go_roundw
        case rel => exact ⟨k + 1, d0, l0, _, _, by omega, by omega, by go_num, LL.out, SS.out, N7.out, R7.out, DJ.out⟩
        case measure => simp [intOf]; omega
    · have hge : ¬ ((k : Int) < (n1 : Int)) ∨ (k : Int) < (n1 : Int) ∧ ¬ ((k : Int) < 60) := by omega
      rcases hge with hge1 | ⟨hge1, hge2⟩
      all_goals
        go_wp2_with fail
        refine (mawake_any _).mono ?_
        rintro _ W4 ⟨rfl, K4⟩
        have N4 := hid (N.out.keep K4 (fun _ h => h.elim))
        clear K4
        go_wp2
        go_ret
        exact ⟨rfl, N4.out.2.2.below (fun _ h => h.elim) (Nat.le_refl _)⟩
end Go.Proofs.Ytcbnbnlioajadaa
