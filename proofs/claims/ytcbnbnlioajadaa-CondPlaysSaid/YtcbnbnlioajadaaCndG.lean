/- The walk of CondPlays. -/
import Derived.Test.YtcbnbnlioajadaaCndB
import Derived.Test.YtcbnbnlioajadaaCndF
import Derived.Test.YtcbnbnlioajadaaArg
namespace Go.Proofs.Ytcbnbnlioajadaa
open Go Go.RowKit

theorem arg_act2 {w : World} {v : Value} {n : Nat} {f : Nat → Nat → Int} (h : ArgRows w v [.u8, .i64] n f) (hn : 0 < n) : ∃ g off c, v = .slice (some ⟨g, off, none⟩) n c ∧ g < w.heap.size ∧ n ≤ maxLen ∧
    ∀ k, k < n → (w.cell? ⟨g, off + k * 2, none⟩ = some (.int .u8 (f k 0)) ∧ w.cell? ⟨g, off + k * 2 + 1, none⟩ = some (.int .i64 (f k 1))) ∧ ((Lit.int .u8 (f k 0)).wf = true ∧ (Lit.int .i64 (f k 1)).wf = true) := by
  obtain ⟨hm, ⟨h0, _⟩ | ⟨g, off, c, hv, hg, hc⟩⟩ := h
  · omega
  · refine ⟨g, off, c, hv, hg, hm, fun k hk => ⟨⟨?_, ?_⟩, ?_, ?_⟩⟩
    · simpa using (hc k hk 0 .u8 rfl).1
    · simpa [Nat.add_assoc] using (hc k hk 1 .i64 rfl).1
    · exact (hc k hk 0 .u8 rfl).2
    · exact (hc k hk 1 .i64 rfl).2


section
variable {w W W3 : World} {G1 G2 G3 : Nat → Prop} {b r : Nat} {l : List Int} {p : List Value} {cs : List Cel} {T T2 : Nat}

theorem mstep1 (h1 : ONew T w W G1 b p l) (h2 : MNew T2 w W G2 r cs) (hd : ∀ k, G1 k → ¬ G2 k) (J : ∀ k, G3 k → G1 k ∨ W.heap.size ≤ k) (K : Keep G1 W W3) :
    MNew T2 w W3 G2 r cs ∧ ∀ k, G3 k → ¬ G2 k :=
  ⟨h2.keep K fun k hk => ⟨h1.2.1 k hk, hd k hk⟩, fun k hk hg => (J k hk).elim (fun h => hd k h hg) (fun h => by have := h2.1.2.1 k hg; omega)⟩

theorem mstep2 (h1 : ONew T w W G1 b p l) (h2 : MNew T2 w W G2 r cs) (hd : ∀ k, G1 k → ¬ G2 k) (J : ∀ k, G3 k → G2 k ∨ W.heap.size ≤ k) (K : Keep G2 W W3) :
    ONew T w W3 G1 b p l ∧ ∀ k, G1 k → ¬ G3 k :=
  ⟨h1.keep K fun k hk => ⟨h2.2.1 k hk, fun h => hd k h hk⟩, fun k hk hg => (J k hg).elim (fun h => hd k hk h) (fun h => by have := h1.1.2.1 k hk; omega)⟩
end

section
variable {w0 w : World} {G : Nat → Prop} {b : Nat} {E : List (Int × Bool)}

theorem xdrop_any (t : Int) (hI : InvE E) (h : MNew 29 w0 w G b (ecs E)) (hn : E.length ≤ 1000) :
    Calls Try.prog 14 #[.pointer (some ⟨b, 0, none⟩), .int .i64 t] w fun en w' => en = .returned (.bool (decide (t ∈ liveE E))) ∧ ∃ E', E'.length = E.length ∧ InvE E' ∧ liveE E' = dropT (liveE E) t ∧ StepM 29 w0 G w w' b (ecs E') := by
  rcases drop_cases E t with ⟨hm, i, hi, hA, hH, hno, hset⟩ | ⟨hm, hno⟩
  · exact (xdrop_in t i hi hA hH hno h hn).mono fun e w' ⟨h1, h2⟩ => ⟨by rw [h1, decide_eq_true hm], _, List.length_set, inv_set hI i t hi hA, hset, h2⟩
  · exact (xdrop_no t hno h hn).mono fun e w' ⟨h1, h2⟩ => ⟨by rw [h1, decide_eq_false hm], E, rfl, hI, (dropT_no hm).symm, h2 ▸ StepM.same h (Keep.refl _ _)⟩

theorem xwait_any (t : Int) (hI : InvE E) (h : MNew 29 w0 w G b (ecs E)) (hn : E.length ≤ 999) {e : Int} {l' : List Int} (hc : cwt (liveE E) t = (e, l')) :
    Calls Try.prog 21 #[.pointer (some ⟨b, 0, none⟩), .int .i64 t] w fun en w' => en = .returned (.int .i64 e) ∧ ∃ E', E'.length ≤ E.length + 1 ∧ InvE E' ∧ liveE E' = l' ∧ StepM 29 w0 G w w' b (ecs E') := by
  by_cases ht : t < 1
  · rw [cwt_lo ht] at hc; cases hc
    exact (xwait_lo t ht w).mono fun e w' ⟨h1, h2⟩ => ⟨h1, E, by omega, hI, rfl, h2 ▸ StepM.same h (Keep.refl _ _)⟩
  by_cases hm : t ∈ liveE E
  · rw [cwt_in (by omega) hm] at hc; cases hc
    exact (xwait_in t (by omega) hm hI h (by omega)).mono fun e w' ⟨h1, h2⟩ => ⟨h1, E, by omega, hI, rfl, h2⟩
  · rw [cwt_on (by omega) hm] at hc; cases hc
    exact (xwait_on t (by omega) hm h hn).mono fun e w' ⟨h1, h2⟩ => ⟨h1, E ++ [(t, true)], by simp, inv_more hI hm, by rw [live_append]; rfl, h2⟩
end

theorem cwt_len (l : List Int) (t : Int) {e : Int} {l' : List Int} (h : cwt l t = (e, l')) : l'.length ≤ l.length + 1 := by
  unfold cwt at h
  split at h
  · cases h; omega
  · split at h <;> · cases h; simp

set_option maxRecDepth 10000 in
set_option maxHeartbeats 8000000 in
theorem walk_CondPlays (w : World) (v1 : Value) (n1 : Nat) (f1 : Nat → Nat → Int) (w1 : ArgRows w v1 [.u8, .i64] n1 f1) :
    Calls Try.prog 3 #[v1] w fun en w' => en = .returned (.bool true) ∧ Below w.heap.size w w' := by
  obtain ⟨a1, c1, hv1⟩ := w1.form
  have A1 := hid w1
  have V1 := hid hv1
  rw [hv1]
  clear w1 hv1
  go_enter Try.func3, Try.ntmps3
  go_wp2_with fail
  refine (cnew_any w).mono ?_
  rintro e W1 ⟨rfl, G1, N1⟩
  have hsz : w.heap.size < W1.heap.size := N1.1.2.1 _ N1.1.1
  have N2 := N1.keep ((Keep.refl (fun _ => False) W1).alloc (.cells #[.slice none 0 0, .slice none 0 0] 29)) (fun _ h => h.elim)
  have OA : MobAt 29 (W1.alloc (.cells #[.slice none 0 0, .slice none 0 0] 29)) W1.heap.size (ecs []) [.slice none 0 0, .slice none 0 0] := by
    refine ⟨heap_alloc_new W1 _, rfl, ?_, ?_⟩
    · intro i c v hc hv
      match i, hc, hv with
      | 0, hc, hv => cases hc; cases hv; exact ⟨OwnI.nil _, by simp [Value.ownBlock]⟩
      | 1, hc, hv => cases hc; cases hv; exact ⟨OwnB.nil _, by simp [Value.ownBlock]⟩
      | n + 2, hc, hv => simp at hv
    · intro i j vi vj k hi hj _ hk
      match i, hi with
      | 0, hi => cases hi; cases hk
      | 1, hi => cases hi; cases hk
      | n + 2, hi => simp at hi
  have R2 : MNew 29 w (W1.alloc (.cells #[.slice none 0 0, .slice none 0 0] 29)) (fun k => k = W1.heap.size) W1.heap.size (ecs []) :=
    ⟨⟨rfl, fun k hk => hk ▸ OA.lt, _, OA, fun v hv k hk => by simp at hv; subst hv; cases hk⟩, fun k hk => by rw [hk]; omega, N2.2.2⟩
  have hd2 : ∀ k, G1 k → ¬ k = W1.heap.size := fun k hk e => by have := N1.1.2.1 k hk; omega
  have N2 := hid N2
  have R2 := hid R2
  have D2 := hid hd2
  clear OA hd2 N1
  obtain ⟨r, hr⟩ : ∃ x, W1.heap.size = x := ⟨_, rfl⟩
  rw [hr] at R2 D2
  obtain ⟨b, hb⟩ : ∃ x, w.heap.size = x := ⟨_, rfl⟩
  rw [hb] at N2 ⊢
  clear hsz
  go_wp2_with fail
  try rw [hr]
  go_loopw [5] (fun i wr => ∃ (k : Nat) (E : List (Int × Bool)) (G1 G2 : Nat → Prop), k ≤ n1 ∧ k ≤ 60 ∧ i = .int .i64 k ∧ E.length ≤ k ∧ InvE E ∧ ONew 63 w wr G1 b [] (liveE E) ∧ MNew 29 w wr G2 r (ecs E) ∧ ∀ k, G1 k → ¬ G2 k) (fun i _ => 60 - (intOf i).toNat)
  case atStart => first | exact ⟨0, [], G1, _, Nat.zero_le _, by omega, rfl, Nat.le_refl _, List.Pairwise.nil, N2.out, R2.out, D2.out⟩ | (rw [hr]; exact ⟨0, [], G1, _, Nat.zero_le _, by omega, rfl, Nat.le_refl _, List.Pairwise.nil, N2.out, R2.out, D2.out⟩)
  case round =>
    obtain ⟨k, E, G1, G2, hk, hk60, rfl, hl, hI, hN, hR, hD⟩ := hrel
    have I := hid hI
    have N := hid hN
    have R := hid hR
    have D := hid hD
    have EL := hid hl
    have LE := hid (live_len E)
    clear N2 R2 D2 hN hR hD hI hl
    by_cases hlt : k < n1 ∧ k < 60
    · obtain ⟨g, off, cc, hv, hg, hmx, hc⟩ := arg_act2 A1.out (by omega)
      have hav : a1 = some ⟨g, off, none⟩ ∧ c1 = cc := by rw [V1.out] at hv; cases hv; exact ⟨rfl, rfl⟩
      obtain ⟨rfl, rfl⟩ := hav
      obtain ⟨⟨k1, k2⟩, u1, u2⟩ := hc k hlt.1
      have k1 := (N.out.2.2.cell (p := ⟨g, off + k * 2, none⟩) hg (fun h => h)).trans k1
      have k2 := (N.out.2.2.cell (p := ⟨g, off + k * 2 + 1, none⟩) hg (fun h => h)).trans k2
      have hlt1 : (k : Int) < (n1 : Int) := by omega
      have hlt2 : (k : Int) < 60 := by omega
      clear hc hv
      generalize f1 k 0 = d at k1 u1
      generalize f1 k 1 = t at k2 u2
      have Nx := N.out.keep ((Keep.refl (fun _ => False) wr).alloc (.cells #[.int .u8 d, .int .i64 t] 31)) (fun _ h => h.elim)
      have Rx := R.out.quiet ((Keep.refl (fun _ => False) wr).alloc (.cells #[.int .u8 d, .int .i64 t] 31))
      have x1 : (wr.alloc (.cells #[.int .u8 d, .int .i64 t] 31)).cell? ⟨wr.heap.size, 1, none⟩ = some (.int .i64 t) := by rw [World.cell?_alloc_new]; rfl
      have xl : wr.heap.size < (wr.alloc (.cells #[.int .u8 d, .int .i64 t] 31)).heap.size := by simp
      have xg : ¬ G1 wr.heap.size := fun h => by have := N.out.1.2.1 _ h; omega
      have xr : ¬ G2 wr.heap.size := fun h => by have := R.out.1.2.1 _ h; omega
      have NX := hid Nx
      have RX := hid Rx
      have X1 := hid x1
      clear Nx Rx x1 N R
      go_wp2_with fail
      · refine wp_region_text [0,0,0,2,0,0,0,2,0] (fun W => W.cell? ⟨wr.heap.size, 1, none⟩ = some (.int .i64 t)) (by kernel_rfl) (by kernel_rfl) X1.out ?_
        repeat (first
          | (refine' wpT_calm (v := _) (by rfl) (fun W hW => ?_) ?_; rotate_left
             · ((try dsimp only at hW); go_simp; first | done | rfl)
             simp only [Act.put, List.setIfInBounds_toArray, List.set_cons_zero, List.set_cons_succ])
          | (refine' wpT_reads (v := _) (by rfl) ?_ ?_; rotate_left
             · (go_simp; first | done | rfl)
             simp only [Act.put, List.setIfInBounds_toArray, List.set_cons_zero, List.set_cons_succ])
          | (refine wpT_skip (by rfl) rfl ?_; simp only [Act.put, List.setIfInBounds_toArray, List.set_cons_zero, List.set_cons_succ])
          | (refine wpT_does (by rfl) (fun K hK => ?_); go_simp; refine hK _ _ ?_ ?_
             · (trivial)
             clear hK K; try simp only [Act.put, List.setIfInBounds_toArray, List.set_cons_zero, List.set_cons_succ])
          | (refine wpT_last (by rfl) (fun K hK => ?_); go_simp; refine hK _ _ ?_; clear hK K)
          | (refine wpT_nil ?_))
        refine wpT_does (by rfl) (fun K hK => ?_)
        go_simp
        have N1 := NX.out.keep (F := fun _ => False) ((Keep.refl _ _).drew) (fun _ h => h.elim)
        have R1 := RX.out.quiet ((Keep.refl (fun _ => False) _).drew)
        refine (cdrop_any t N1 (by have := LE.out; have := EL.out; omega)).mono ?_
        rintro _ W3 ⟨rfl, G3, N3, J3, K3⟩
        have KSZ := hid K3.size
        have y3 := (K3.cell (p := ⟨wr.heap.size, 1, none⟩) xl xg).trans X1.out
        have s1 := mstep1 N1 R1 D.out J3 K3
        have N3' := hid N3
        have S1 := hid s1.1
        have D1 := hid s1.2
        refine hK _ _ y3 ?_
        clear hK K J3 K3 N3 s1 N1 R1
        try simp only [Act.put, List.setIfInBounds_toArray, List.set_cons_zero, List.set_cons_succ]
        repeat (first
          | (refine' wpT_calm (v := _) (by rfl) (fun W hW => ?_) ?_; rotate_left
             · ((try dsimp only at hW); go_simp; first | done | rfl)
             simp only [Act.put, List.setIfInBounds_toArray, List.set_cons_zero, List.set_cons_succ])
          | (refine' wpT_reads (v := _) (by rfl) ?_ ?_; rotate_left
             · (go_simp; first | done | rfl)
             simp only [Act.put, List.setIfInBounds_toArray, List.set_cons_zero, List.set_cons_succ])
          | (refine wpT_skip (by rfl) rfl ?_; simp only [Act.put, List.setIfInBounds_toArray, List.set_cons_zero, List.set_cons_succ])
          | (refine wpT_does (by rfl) (fun K hK => ?_); go_simp; refine hK _ _ ?_ ?_
             · (trivial)
             clear hK K; try simp only [Act.put, List.setIfInBounds_toArray, List.set_cons_zero, List.set_cons_succ])
          | (refine wpT_last (by rfl) (fun K hK => ?_); go_simp; refine hK _ _ ?_; clear hK K)
          | (refine wpT_nil ?_))
        refine wpT_does (by rfl) (fun K hK => ?_)
        go_simp
        refine (xdrop_any t I.out S1.out (by have := EL.out; omega)).mono ?_
        rintro _ W4 ⟨rfl, E', hE', hI', hL', G4, N4, J4, K4⟩
        have s2 := mstep2 N3'.out S1.out D1.out J4 K4
        have hx4 : W4.cell? ⟨wr.heap.size, 1, none⟩ = some (.int .i64 t) := (K4.cell (p := ⟨wr.heap.size, 1, none⟩) (Nat.lt_of_lt_of_le xl (by exact KSZ.out)) xr).trans y3
        have NN := hid s2.1
        rw [← hL'] at NN
        have RR := hid N4
        have DJ := hid s2.2
        have II := hid hI'
        have LNQ : Hid (E'.length ≤ k + 1) := hid (by have := EL.out; omega)
        have LIV := hid (live_len E')
        refine hK _ _ hx4 ?_
        clear hK K J4 K4 N4 s2 hx4 y3 N3' S1 D1 KSZ hE' hI' hL'
        try simp only [Act.put, List.setIfInBounds_toArray, List.set_cons_zero, List.set_cons_succ]
        repeat (first
          | (refine' wpT_calm (v := _) (by rfl) (fun W hW => ?_) ?_; rotate_left
             · ((try dsimp only at hW); go_simp; first | done | rfl)
             simp only [Act.put, List.setIfInBounds_toArray, List.set_cons_zero, List.set_cons_succ])
          | (refine' wpT_reads (v := _) (by rfl) ?_ ?_; rotate_left
             · (go_simp; first | done | rfl)
             simp only [Act.put, List.setIfInBounds_toArray, List.set_cons_zero, List.set_cons_succ])
          | (refine wpT_skip (by rfl) rfl ?_; simp only [Act.put, List.setIfInBounds_toArray, List.set_cons_zero, List.set_cons_succ])
          | (refine wpT_does (by rfl) (fun K hK => ?_); go_simp; refine hK _ _ ?_ ?_
             · (trivial)
             clear hK K; try simp only [Act.put, List.setIfInBounds_toArray, List.set_cons_zero, List.set_cons_succ])
          | (refine wpT_last (by rfl) (fun K hK => ?_); go_simp; refine hK _ _ ?_; clear hK K)
          | (refine wpT_nil ?_))
  
        go_wp2_with fail
        refine (cwaits_any NN.out (by have := LIV.out; have := LNQ.out; omega)).mono ?_
        rintro _ W6 ⟨a6, n6, rfl, R6, N6, K6⟩
        have N6 := hid N6
        have R6 := hid R6
        have RN6 := hid (RR.out.quiet K6)
        clear K6
        go_wp2_with fail
        refine (xwaits_any RN6.out (by have := LNQ.out; omega)).mono ?_
        rintro _ W8 ⟨a8, n8, rfl, o8, -, K8⟩
        have R8 := hid (R6.out.keep K8 (fun _ _ h => h))
        have N8 := hid (N6.out.keep K8 (fun _ h => h.elim))
        have RN8 := hid (RN6.out.quiet K8)
        have O8 := hid o8.reads
        clear K8 o8
        go_wp2_with fail
        refine (ints_any R8.out O8.out).mono ?_
        rintro _ W7 ⟨rfl, K7⟩
        rw [show decide (liveE E' = liveE E') = true from decide_eq_true rfl]
        have N7 := hid (N8.out.keep K7 (fun _ h => h.elim))
        have R7 := hid (RN8.out.quiet K7)
        clear K7
        go_wp2_with fail
        go_roundw
        case rel => exact ⟨k + 1, E', _, _, by omega, by omega, by go_num, LNQ.out, II.out, N7.out, R7.out, DJ.out⟩
        case measure => simp [intOf]; omega
      · obtain ⟨l, hl0⟩ : ∃ l, liveE E = l := ⟨_, rfl⟩
        have HL := hid hl0
        rw [hl0] at NX LE
        clear hl0
        cases l with
        | nil =>
          refine (csignal_nil NX.out).mono ?_
          rintro _ _ ⟨rfl, rfl⟩
          go_wp2_with fail
          refine (xsignal_nil HL.out RX.out (by have := EL.out; omega)).mono ?_
          rintro _ W4 ⟨rfl, K4⟩
          have NN := NX.out.keep K4 (fun _ h => h.elim)
          rw [← HL.out] at NN
          have NN := hid NN
          have RR := hid (RX.out.quiet K4)
          have DJ := D
          have II := I
          have LNQ : Hid (E.length ≤ k + 1) := hid (by have := EL.out; omega)
          have LIV := hid (live_len E)
          clear K4
          go_wp2_with fail
          refine (cwaits_any NN.out (by have := LIV.out; have := LNQ.out; omega)).mono ?_
          rintro _ W6 ⟨a6, n6, rfl, R6, N6, K6⟩
          have N6 := hid N6
          have R6 := hid R6
          have RN6 := hid (RR.out.quiet K6)
          clear K6
          go_wp2_with fail
          refine (xwaits_any RN6.out (by have := LNQ.out; omega)).mono ?_
          rintro _ W8 ⟨a8, n8, rfl, o8, -, K8⟩
          have R8 := hid (R6.out.keep K8 (fun _ _ h => h))
          have N8 := hid (N6.out.keep K8 (fun _ h => h.elim))
          have RN8 := hid (RN6.out.quiet K8)
          have O8 := hid o8.reads
          clear K8 o8
          go_wp2_with fail
          refine (ints_any R8.out O8.out).mono ?_
          rintro _ W7 ⟨rfl, K7⟩
          rw [show decide (liveE E = liveE E) = true from decide_eq_true rfl]
          have N7 := hid (N8.out.keep K7 (fun _ h => h.elim))
          have R7 := hid (RN8.out.quiet K7)
          clear K7
          go_wp2_with fail
          go_roundw
          case rel => exact ⟨k + 1, E, _, _, by omega, by omega, by go_num, LNQ.out, II.out, N7.out, R7.out, DJ.out⟩
          case measure => simp [intOf]; omega
        | cons x l =>
          refine (csignal_cons x NX.out (by have h1 := LE.out; have := EL.out; simp only [List.length_cons] at h1; omega)).mono ?_
          rintro _ W3 ⟨rfl, G3, N3, J3, K3⟩
          have s1 := mstep1 NX.out RX.out D.out J3 K3
          have N3' := hid N3
          have S1 := hid s1.1
          have D1 := hid s1.2
          clear s1 J3 K3 N3
          go_wp2_with fail
          refine (xsignal_cons x l HL.out I.out S1.out (by have := EL.out; omega)).mono ?_
          rintro _ W4 ⟨rfl, E', hE', hI', hL', G4, N4, J4, K4⟩
          have s2 := mstep2 N3'.out S1.out D1.out J4 K4
          have NN := s2.1
          rw [← hL'] at NN
          have NN := hid NN
          have RR := hid N4
          have DJ := hid s2.2
          have II := hid hI'
          have LNQ : Hid (E'.length ≤ k + 1) := hid (by have := EL.out; omega)
          have LIV := hid (live_len E')
          clear J4 K4 N4 s2 N3' S1 D1 hE' hI' hL'
          go_wp2_with fail
          refine (cwaits_any NN.out (by have := LIV.out; have := LNQ.out; omega)).mono ?_
          rintro _ W6 ⟨a6, n6, rfl, R6, N6, K6⟩
          have N6 := hid N6
          have R6 := hid R6
          have RN6 := hid (RR.out.quiet K6)
          clear K6
          go_wp2_with fail
          refine (xwaits_any RN6.out (by have := LNQ.out; omega)).mono ?_
          rintro _ W8 ⟨a8, n8, rfl, o8, -, K8⟩
          have R8 := hid (R6.out.keep K8 (fun _ _ h => h))
          have N8 := hid (N6.out.keep K8 (fun _ h => h.elim))
          have RN8 := hid (RN6.out.quiet K8)
          have O8 := hid o8.reads
          clear K8 o8
          go_wp2_with fail
          refine (ints_any R8.out O8.out).mono ?_
          rintro _ W7 ⟨rfl, K7⟩
          rw [show decide (liveE E' = liveE E') = true from decide_eq_true rfl]
          have N7 := hid (N8.out.keep K7 (fun _ h => h.elim))
          have R7 := hid (RN8.out.quiet K7)
          clear K7
          go_wp2_with fail
          go_roundw
          case rel => exact ⟨k + 1, E', _, _, by omega, by omega, by go_num, LNQ.out, II.out, N7.out, R7.out, DJ.out⟩
          case measure => simp [intOf]; omega
      · obtain ⟨l, hl0⟩ : ∃ l, liveE E = l := ⟨_, rfl⟩
        have HL := hid hl0
        rw [hl0] at NX LE
        clear hl0
        cases l with
        | nil =>
          refine (csignal_nil NX.out).mono ?_
          rintro _ _ ⟨rfl, rfl⟩
          go_wp2_with fail
          refine (xsignal_nil HL.out RX.out (by have := EL.out; omega)).mono ?_
          rintro _ W4 ⟨rfl, K4⟩
          have NN := NX.out.keep K4 (fun _ h => h.elim)
          rw [← HL.out] at NN
          have NN := hid NN
          have RR := hid (RX.out.quiet K4)
          have DJ := D
          have II := I
          have LNQ : Hid (E.length ≤ k + 1) := hid (by have := EL.out; omega)
          have LIV := hid (live_len E)
          clear K4
          go_wp2_with fail
          refine (cwaits_any NN.out (by have := LIV.out; have := LNQ.out; omega)).mono ?_
          rintro _ W6 ⟨a6, n6, rfl, R6, N6, K6⟩
          have N6 := hid N6
          have R6 := hid R6
          have RN6 := hid (RR.out.quiet K6)
          clear K6
          go_wp2_with fail
          refine (xwaits_any RN6.out (by have := LNQ.out; omega)).mono ?_
          rintro _ W8 ⟨a8, n8, rfl, o8, -, K8⟩
          have R8 := hid (R6.out.keep K8 (fun _ _ h => h))
          have N8 := hid (N6.out.keep K8 (fun _ h => h.elim))
          have RN8 := hid (RN6.out.quiet K8)
          have O8 := hid o8.reads
          clear K8 o8
          go_wp2_with fail
          refine (ints_any R8.out O8.out).mono ?_
          rintro _ W7 ⟨rfl, K7⟩
          rw [show decide (liveE E = liveE E) = true from decide_eq_true rfl]
          have N7 := hid (N8.out.keep K7 (fun _ h => h.elim))
          have R7 := hid (RN8.out.quiet K7)
          clear K7
          go_wp2_with fail
          go_roundw
          case rel => exact ⟨k + 1, E, _, _, by omega, by omega, by go_num, LNQ.out, II.out, N7.out, R7.out, DJ.out⟩
          case measure => simp [intOf]; omega
        | cons x l =>
          refine (csignal_cons x NX.out (by have h1 := LE.out; have := EL.out; simp only [List.length_cons] at h1; omega)).mono ?_
          rintro _ W3 ⟨rfl, G3, N3, J3, K3⟩
          have s1 := mstep1 NX.out RX.out D.out J3 K3
          have N3' := hid N3
          have S1 := hid s1.1
          have D1 := hid s1.2
          clear s1 J3 K3 N3
          go_wp2_with fail
          refine (xsignal_cons x l HL.out I.out S1.out (by have := EL.out; omega)).mono ?_
          rintro _ W4 ⟨rfl, E', hE', hI', hL', G4, N4, J4, K4⟩
          have s2 := mstep2 N3'.out S1.out D1.out J4 K4
          have NN := s2.1
          rw [← hL'] at NN
          have NN := hid NN
          have RR := hid N4
          have DJ := hid s2.2
          have II := hid hI'
          have LNQ : Hid (E'.length ≤ k + 1) := hid (by have := EL.out; omega)
          have LIV := hid (live_len E')
          clear J4 K4 N4 s2 N3' S1 D1 hE' hI' hL'
          go_wp2_with fail
          refine (cwaits_any NN.out (by have := LIV.out; have := LNQ.out; omega)).mono ?_
          rintro _ W6 ⟨a6, n6, rfl, R6, N6, K6⟩
          have N6 := hid N6
          have R6 := hid R6
          have RN6 := hid (RR.out.quiet K6)
          clear K6
          go_wp2_with fail
          refine (xwaits_any RN6.out (by have := LNQ.out; omega)).mono ?_
          rintro _ W8 ⟨a8, n8, rfl, o8, -, K8⟩
          have R8 := hid (R6.out.keep K8 (fun _ _ h => h))
          have N8 := hid (N6.out.keep K8 (fun _ h => h.elim))
          have RN8 := hid (RN6.out.quiet K8)
          have O8 := hid o8.reads
          clear K8 o8
          go_wp2_with fail
          refine (ints_any R8.out O8.out).mono ?_
          rintro _ W7 ⟨rfl, K7⟩
          rw [show decide (liveE E' = liveE E') = true from decide_eq_true rfl]
          have N7 := hid (N8.out.keep K7 (fun _ h => h.elim))
          have R7 := hid (RN8.out.quiet K7)
          clear K7
          go_wp2_with fail
          go_roundw
          case rel => exact ⟨k + 1, E', _, _, by omega, by omega, by go_num, LNQ.out, II.out, N7.out, R7.out, DJ.out⟩
          case measure => simp [intOf]; omega
      · refine (xwaits_any RX.out (by have := EL.out; omega)).mono ?_
        rintro _ W3 ⟨a3, n3, rfl, o3, f3, K3⟩
        obtain ⟨l, hl0⟩ : ∃ l, liveE E = l := ⟨_, rfl⟩
        have HL := hid hl0
        have NX3 := NX.out.keep K3 (fun _ h => h.elim)
        have RX3 := hid (RX.out.quiet K3)
        rw [hl0] at NX3 LE o3 f3 ⊢
        have NX3 := hid NX3
        have O3 := hid o3
        have FG : Hid (∀ x, (Value.slice a3 l.length n3).ownBlock = some x → ¬ G2 x ∧ ¬ G1 x ∧ x < W3.heap.size) := hid fun x hx => ⟨fun h => by have := f3 x hx; have := RX.out.1.2.1 x h; omega, fun h => by have := f3 x hx; have := NX.out.1.2.1 x h; omega, own_lt o3 hx⟩
        clear hl0 o3 f3 K3
        go_wp2_with fail
        go_loopw [12] (fun j wj => ∃ (m : Nat) (E' : List (Int × Bool)) (G4 : Nat → Prop), m ≤ l.length ∧ j = .int .i64 m ∧ E'.length = E.length ∧ InvE E' ∧ liveE E' = l.drop m ∧ OwnI wj (.slice a3 l.length n3) l ∧ (∀ x, (Value.slice a3 l.length n3).ownBlock = some x → ¬ G4 x) ∧ ONew 63 w wj G1 b [] l ∧ MNew 29 w wj G4 r (ecs E') ∧ (∀ k, G1 k → ¬ G4 k)) (fun j _ => l.length - (intOf j).toNat)
        case atStart => exact ⟨0, E, G2, Nat.zero_le _, rfl, rfl, I.out, by rw [HL.out]; rfl, O3.out, fun x hx => (FG.out x hx).1, NX3.out, RX3.out, D.out⟩
        case round =>
          obtain ⟨m, E', G4, hm, rfl, hE', hI', hL', hO', hF', hN', hR', hD'⟩ := hrel
          have O4 := hid hO'
          have F4 := hid hF'
          have N4 := hid hN'
          have R4 := hid hR'
          have D4 := hid hD'
          have I4 := hid hI'
          have L4 := hid hL'
          have E4 := hid hE'
          clear hO' hF' hN' hR' hD' hI' hL' hE' NX3 RX3
          by_cases hml : m < l.length
          · obtain ⟨gl, cl, hvl, lgl, -, hmxl, hcl⟩ := ownI_cells O4.out (by omega)
            simp only [Value.slice.injEq] at hvl
            obtain ⟨rfl, -, rfl⟩ := hvl
            have q1 := hcl m hml
            unfold maxLen at hmxl
            obtain ⟨x, hx⟩ : ∃ x, nth l m = x := ⟨_, rfl⟩
            rw [hx] at q1
            have HX := hid hx
            clear hx hcl
            go_wp2_with fail
            refine (xdrop_any x I4.out R4.out (by have := E4.out; have := EL.out; omega)).mono ?_
            rintro _ W5 ⟨rfl, E5, hE5, hI5, hL5, G5, N5, J5, K5⟩
            have s2 := mstep2 N4.out R4.out D4.out J5 K5
            have L5 : Hid (liveE E5 = l.drop (m + 1)) := hid (by
              rw [hL5, L4.out, List.drop_eq_getElem_cons hml]
              have e : l[m] = x := by rw [← HX.out, nth_get l m hml]
              rw [e]; simp [dropT])
            have E5' := hid (hE5.trans E4.out)
            have I5 := hid hI5
            have N5' := hid N5
            have S2 := hid s2
            have O5 := hid (O4.out.keep K5 (fun y hy => F4.out y hy))
            have F5 : Hid (∀ y, (Value.slice (some ⟨gl, 0, none⟩) l.length n3).ownBlock = some y → ¬ G5 y) := hid fun y hy hg => (J5 y hg).elim (F4.out y hy) (fun h => by have := own_lt O4.out hy; omega)
            clear hE5 hI5 hL5 J5 K5 N5 s2
            go_wp2_with fail
            go_roundw
            case rel => exact ⟨m + 1, E5, G5, by omega, by go_num, E5'.out, I5.out, L5.out, O5.out, F5.out, S2.out.1, N5'.out, S2.out.2⟩
            case measure => simp [intOf]; omega
          · have hml2 : ¬ (m : Int) < (l.length : Int) := by omega
            have L6 : Hid (liveE E' = []) := hid (by rw [L4.out]; exact List.drop_eq_nil_of_le (by omega))
            clear L4
            go_wp2_with fail
            refine (cbroad_any N4.out (by have := LE.out; have := EL.out; omega)).mono ?_
            rintro _ W5 ⟨a5, m5, rfl, R5, K5, G5, N5, J5, Q5⟩
            have s1 := mstep1 N4.out R4.out D4.out J5 K5
            have O5 := hid (O4.out.keep K5 (fun y hy hg => (FG.out y hy).2.1 hg)).reads
            have R5' := hid R5
            have N5' := hid N5
            have S1 := hid s1
            clear R5 K5 N5 J5 Q5 s1
            go_wp2_with fail
            refine (ints_any R5'.out O5.out).mono ?_
            rintro _ W6' ⟨rfl, K6'⟩
            rw [show decide (l = l) = true from decide_eq_true rfl]
            have NN := N5'.out.keep K6' (fun _ h => h.elim)
            rw [← L6.out] at NN
            have NN := hid NN
            have RR := hid (S1.out.1.quiet K6')
            have DJ := hid S1.out.2
            have II := I4
            have LNQ : Hid (E'.length ≤ k + 1) := hid (by have := E4.out; have := EL.out; omega)
            have LIV := hid (live_len E')
            clear K6' N5' S1 O5 R5'
            go_wp2_with fail
            refine (cwaits_any NN.out (by have := LIV.out; have := LNQ.out; omega)).mono ?_
            rintro _ W6 ⟨a6, n6, rfl, R6, N6, K6⟩
            have N6 := hid N6
            have R6 := hid R6
            have RN6 := hid (RR.out.quiet K6)
            clear K6
            go_wp2_with fail
            refine (xwaits_any RN6.out (by have := LNQ.out; omega)).mono ?_
            rintro _ W8 ⟨a8, n8, rfl, o8, -, K8⟩
            have R8 := hid (R6.out.keep K8 (fun _ _ h => h))
            have N8 := hid (N6.out.keep K8 (fun _ h => h.elim))
            have RN8 := hid (RN6.out.quiet K8)
            have O8 := hid o8.reads
            clear K8 o8
            go_wp2_with fail
            refine (ints_any R8.out O8.out).mono ?_
            rintro _ W7 ⟨rfl, K7⟩
            rw [show decide (liveE E' = liveE E') = true from decide_eq_true rfl]
            have N7 := hid (N8.out.keep K7 (fun _ h => h.elim))
            have R7 := hid (RN8.out.quiet K7)
            clear K7
            go_wp2_with fail
            go_roundw
            case rel => exact ⟨k + 1, E', _, _, by omega, by omega, by go_num, LNQ.out, II.out, N7.out, R7.out, DJ.out⟩
            case measure => simp [intOf]; omega
      · obtain ⟨e0, l0, hb0⟩ : ∃ e0 l0, cwt (liveE E) t = (e0, l0) := ⟨_, _, rfl⟩
        have B0 := hid hb0
        clear hb0
  
        refine wp_region_text [0,0,0,2,0,0,0,2,0] (fun W => W.cell? ⟨wr.heap.size, 1, none⟩ = some (.int .i64 t)) (by kernel_rfl) (by kernel_rfl) X1.out ?_
        repeat (first
          | (refine' wpT_calm (v := _) (by rfl) (fun W hW => ?_) ?_; rotate_left
             · ((try dsimp only at hW); go_simp; first | done | rfl)
             simp only [Act.put, List.setIfInBounds_toArray, List.set_cons_zero, List.set_cons_succ])
          | (refine' wpT_reads (v := _) (by rfl) ?_ ?_; rotate_left
             · (go_simp; first | done | rfl)
             simp only [Act.put, List.setIfInBounds_toArray, List.set_cons_zero, List.set_cons_succ])
          | (refine wpT_skip (by rfl) rfl ?_; simp only [Act.put, List.setIfInBounds_toArray, List.set_cons_zero, List.set_cons_succ])
          | (refine wpT_does (by rfl) (fun K hK => ?_); go_simp; refine hK _ _ ?_ ?_
             · (trivial)
             clear hK K; try simp only [Act.put, List.setIfInBounds_toArray, List.set_cons_zero, List.set_cons_succ])
          | (refine wpT_last (by rfl) (fun K hK => ?_); go_simp; refine hK _ _ ?_; clear hK K)
          | (refine wpT_nil ?_))
        refine wpT_does (by rfl) (fun K hK => ?_)
        go_simp
        have N1 := NX.out.keep (F := fun _ => False) ((Keep.refl _ _).drew) (fun _ h => h.elim)
        have R1 := RX.out.quiet ((Keep.refl (fun _ => False) _).drew)
        refine (cwait_any t N1 (by have := LE.out; have := EL.out; omega) B0.out).mono ?_
        rintro _ W3 ⟨rfl, G3, N3, J3, K3⟩
        have KSZ := hid K3.size
        have y3 := (K3.cell (p := ⟨wr.heap.size, 1, none⟩) xl xg).trans X1.out
        have s1 := mstep1 N1 R1 D.out J3 K3
        have N3' := hid N3
        have S1 := hid s1.1
        have D1 := hid s1.2
        refine hK _ _ y3 ?_
        clear hK K J3 K3 N3 s1 N1 R1
        try simp only [Act.put, List.setIfInBounds_toArray, List.set_cons_zero, List.set_cons_succ]
        repeat (first
          | (refine' wpT_calm (v := _) (by rfl) (fun W hW => ?_) ?_; rotate_left
             · ((try dsimp only at hW); go_simp; first | done | rfl)
             simp only [Act.put, List.setIfInBounds_toArray, List.set_cons_zero, List.set_cons_succ])
          | (refine' wpT_reads (v := _) (by rfl) ?_ ?_; rotate_left
             · (go_simp; first | done | rfl)
             simp only [Act.put, List.setIfInBounds_toArray, List.set_cons_zero, List.set_cons_succ])
          | (refine wpT_skip (by rfl) rfl ?_; simp only [Act.put, List.setIfInBounds_toArray, List.set_cons_zero, List.set_cons_succ])
          | (refine wpT_does (by rfl) (fun K hK => ?_); go_simp; refine hK _ _ ?_ ?_
             · (trivial)
             clear hK K; try simp only [Act.put, List.setIfInBounds_toArray, List.set_cons_zero, List.set_cons_succ])
          | (refine wpT_last (by rfl) (fun K hK => ?_); go_simp; refine hK _ _ ?_; clear hK K)
          | (refine wpT_nil ?_))
        refine wpT_does (by rfl) (fun K hK => ?_)
        go_simp
        refine (xwait_any t I.out S1.out (by have := EL.out; omega) B0.out).mono ?_
        rintro _ W4 ⟨rfl, E', hE', hI', hL', G4, N4, J4, K4⟩
        have s2 := mstep2 N3'.out S1.out D1.out J4 K4
        have hx4 : W4.cell? ⟨wr.heap.size, 1, none⟩ = some (.int .i64 t) := (K4.cell (p := ⟨wr.heap.size, 1, none⟩) (Nat.lt_of_lt_of_le xl (by exact KSZ.out)) xr).trans y3
        have NN := hid s2.1
        rw [← hL'] at NN
        have RR := hid N4
        have DJ := hid s2.2
        have II := hid hI'
        have LNQ : Hid (E'.length ≤ k + 1) := hid (by have := EL.out; omega)
        have LIV := hid (live_len E')
        refine hK _ _ hx4 ?_
        clear hK K J4 K4 N4 s2 hx4 y3 N3' S1 D1 KSZ hE' hI' hL'
        try simp only [Act.put, List.setIfInBounds_toArray, List.set_cons_zero, List.set_cons_succ]
        repeat (first
          | (refine' wpT_calm (v := _) (by rfl) (fun W hW => ?_) ?_; rotate_left
             · ((try dsimp only at hW); go_simp; first | done | rfl)
             simp only [Act.put, List.setIfInBounds_toArray, List.set_cons_zero, List.set_cons_succ])
          | (refine' wpT_reads (v := _) (by rfl) ?_ ?_; rotate_left
             · (go_simp; first | done | rfl)
             simp only [Act.put, List.setIfInBounds_toArray, List.set_cons_zero, List.set_cons_succ])
          | (refine wpT_skip (by rfl) rfl ?_; simp only [Act.put, List.setIfInBounds_toArray, List.set_cons_zero, List.set_cons_succ])
          | (refine wpT_does (by rfl) (fun K hK => ?_); go_simp; refine hK _ _ ?_ ?_
             · (trivial)
             clear hK K; try simp only [Act.put, List.setIfInBounds_toArray, List.set_cons_zero, List.set_cons_succ])
          | (refine wpT_last (by rfl) (fun K hK => ?_); go_simp; refine hK _ _ ?_; clear hK K)
          | (refine wpT_nil ?_))
  
        go_wp2_with fail
        refine (cwaits_any NN.out (by have := LIV.out; have := LNQ.out; omega)).mono ?_
        rintro _ W6 ⟨a6, n6, rfl, R6, N6, K6⟩
        have N6 := hid N6
        have R6 := hid R6
        have RN6 := hid (RR.out.quiet K6)
        clear K6
        go_wp2_with fail
        refine (xwaits_any RN6.out (by have := LNQ.out; omega)).mono ?_
        rintro _ W8 ⟨a8, n8, rfl, o8, -, K8⟩
        have R8 := hid (R6.out.keep K8 (fun _ _ h => h))
        have N8 := hid (N6.out.keep K8 (fun _ h => h.elim))
        have RN8 := hid (RN6.out.quiet K8)
        have O8 := hid o8.reads
        clear K8 o8
        go_wp2_with fail
        refine (ints_any R8.out O8.out).mono ?_
        rintro _ W7 ⟨rfl, K7⟩
        rw [show decide (liveE E' = liveE E') = true from decide_eq_true rfl]
        have N7 := hid (N8.out.keep K7 (fun _ h => h.elim))
        have R7 := hid (RN8.out.quiet K7)
        clear K7
        go_wp2_with fail
        go_roundw
        case rel => exact ⟨k + 1, E', _, _, by omega, by omega, by go_num, LNQ.out, II.out, N7.out, R7.out, DJ.out⟩
        case measure => simp [intOf]; omega
    · have hge : ¬ ((k : Int) < (n1 : Int)) ∨ (k : Int) < (n1 : Int) ∧ ¬ ((k : Int) < 60) := by omega
      rcases hge with hge1 | ⟨hge1, hge2⟩
      all_goals
        go_wp2_with fail
        refine (cawake_any _).mono ?_
        rintro _ W4 ⟨rfl, K4⟩
        have N4 := hid (N.out.keep K4 (fun _ h => h.elim))
        clear K4
        go_wp2
        go_ret
        exact ⟨rfl, N4.out.2.2.below (fun _ h => h.elim) (Nat.le_refl _)⟩
end Go.Proofs.Ytcbnbnlioajadaa
