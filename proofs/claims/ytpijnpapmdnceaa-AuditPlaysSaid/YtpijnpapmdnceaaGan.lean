/- Law 21: AuditPlays (printed by gen_audz.py). -/
import Derived.Test.YtpijnpapmdnceaaGam

namespace Go.Proofs.Ytpijnpapmdnceaa
open Go Go.RowKit

set_option maxRecDepth 10000 in
set_option maxHeartbeats 2000000 in
theorem walk_AuditPlays (w : World) (ring : Int) (_h : (Lit.int .i64 ring).wf = true) (v1 : Value) (l : List Rc) (h1 : ReadR w v1 l) (_z : ∀ r ∈ l, WfR r) :
    Calls Try.prog 6 #[.int .i64 ring, v1] w fun e w' => e = .returned (.bool true) ∧ Below w.heap.size w w' := by
  obtain ⟨a0, c0, hv⟩ := h1.form
  subst hv
  have ml := h1.maxl
  unfold maxLen at ml
  obtain ⟨n, hn⟩ : ∃ n, l.length = n := ⟨_, rfl⟩
  rw [hn] at h1 ml ⊢
  have H := hid h1
  have HN := hid hn
  clear h1 hn _h _z
  go_enter Try.func6, Try.ntmps6
  go_wp2_with fail
  refine (anew_any ring w).mono ?_
  rintro _ w1 ⟨b, rfl, hb, hl, k1⟩
  have L1 := hid hl
  have K1 := hid k1
  have HB := hid hb
  clear hl k1 hb
  go_wp2_with fail
  refine (rnew_any ring w1).mono ?_
  rintro _ w2 ⟨c, vl, rfl, hc, hvl, hr, k2⟩
  have T0 := hid (Two.new L1.out HB.out K1.out hr hc hvl k2)
  clear hr hc hvl k2 L1 K1 HB
  go_wp2_with fail
  go_loopw [7] (fun iv wr => ∃ (i : Nat) (v va vl : Value) (L : Lg) (R : Rl), i ≤ n ∧ i ≤ 30 ∧ Two w wr b c v va vl L R ∧ Agree L R ∧ R.all.length = i ∧ iv = .int .i64 i) (fun iv _ => 30 - (intOf iv).toNat)
  case atStart => exact ⟨0, _, _, _, _, _, by omega, by omega, T0.out, agree_new ring, rfl, rfl⟩
  case round =>
    obtain ⟨i, v, va, vl, L, R, hi, hi2, hT, hA, hR, rfl⟩ := hrel
    have TT := hid hT
    have AA := hid hA
    have RR := hid hR
    clear hT hA hR T0
    by_cases hlt : i < n ∧ i < 30
    · obtain ⟨hl1, hl2⟩ := hlt
      have hli : (i : Int) < n := by omega
      have hlj : (i : Int) < 30 := by omega
      have hll : i < l.length := by rw [HN.out]; exact hl1
      obtain ⟨g, off, ha⟩ := H.out.addr (by omega)
      subst ha
      obtain ⟨x, hx⟩ : ∃ x, l[i] = x := ⟨_, rfl⟩
      have CX : Hid (∀ W, Keep (fun _ => False) w W → ∀ j u, x.cells[j]? = some u → W.cell? ⟨g, off + i * 10 + j, none⟩ = some u) := hid (fun W hK => cells_at (H.out.keep hK (fun _ _ h => h)) i hll x hx)
      clear hx
      have x1 : wr.drew.cell? ⟨g, off + i * 10 + 1, none⟩ = some (.int .i64 x.t) := CX.out _ TT.out.kp.drew 1 _ rfl
      have x2 : wr.drew.cell? ⟨g, off + i * 10 + 2, none⟩ = some (.int .i64 x.c) := CX.out _ TT.out.kp.drew 2 _ rfl
      have x3 : wr.drew.cell? ⟨g, off + i * 10 + 3, none⟩ = some (.int .i64 x.o) := CX.out _ TT.out.kp.drew 3 _ rfl
      have x4 : wr.drew.cell? ⟨g, off + i * 10 + 4, none⟩ = some (.int .i64 x.e) := CX.out _ TT.out.kp.drew 4 _ rfl
      have x5 : wr.drew.cell? ⟨g, off + i * 10 + 5, none⟩ = some (.int .i64 x.n) := CX.out _ TT.out.kp.drew 5 _ rfl
      have x6 : wr.drew.cell? ⟨g, off + i * 10 + 6, none⟩ = some (.int .i64 x.m) := CX.out _ TT.out.kp.drew 6 _ rfl
      have x7 : wr.drew.cell? ⟨g, off + i * 10 + 7, none⟩ = some (.int .i64 x.a) := CX.out _ TT.out.kp.drew 7 _ rfl
      have x8 : wr.drew.cell? ⟨g, off + i * 10 + 8, none⟩ = some (.int .i64 x.b) := CX.out _ TT.out.kp.drew 8 _ rfl
      have x9 : wr.drew.cell? ⟨g, off + i * 10 + 9, none⟩ = some (.int .i64 x.d) := CX.out _ TT.out.kp.drew 9 _ rfl
      go_wp2_with fail
      refine wp_region_text [0,0,0,0,0,0,0,0,0,0,0,0,0,0,0,0,0,0,0,0,0,3] (fun W => W.cell? ⟨g, off + i * 10 + 1, none⟩ = some (.int .i64 x.t) ∧ W.cell? ⟨g, off + i * 10 + 2, none⟩ = some (.int .i64 x.c) ∧ W.cell? ⟨g, off + i * 10 + 3, none⟩ = some (.int .i64 x.o) ∧ W.cell? ⟨g, off + i * 10 + 4, none⟩ = some (.int .i64 x.e) ∧ W.cell? ⟨g, off + i * 10 + 5, none⟩ = some (.int .i64 x.n) ∧ W.cell? ⟨g, off + i * 10 + 6, none⟩ = some (.int .i64 x.m) ∧ W.cell? ⟨g, off + i * 10 + 7, none⟩ = some (.int .i64 x.a) ∧ W.cell? ⟨g, off + i * 10 + 8, none⟩ = some (.int .i64 x.b) ∧ W.cell? ⟨g, off + i * 10 + 9, none⟩ = some (.int .i64 x.d)) (by kernel_rfl) (by kernel_rfl) ⟨x1, x2, x3, x4, x5, x6, x7, x8, x9⟩ ?_
      clear x1 x2 x3 x4 x5 x6 x7 x8 x9
      repeat (first
        | (refine' wpT_calm (v := _) (by rfl) (fun W hW => ?_) ?_; rotate_left
           · ((try dsimp only at hW); go_simp; first | done | rfl)
           simp only [Act.put, List.setIfInBounds_toArray, List.set_cons_zero, List.set_cons_succ])
        | (refine' wpT_reads (v := _) (by rfl) ?_ ?_; rotate_left
           · (go_simp; first | done | rfl)
           simp only [Act.put, List.setIfInBounds_toArray, List.set_cons_zero, List.set_cons_succ])
        | (refine wpT_skip (by rfl) rfl ?_; simp only [Act.put, List.setIfInBounds_toArray, List.set_cons_zero, List.set_cons_succ])
        | (refine wpT_does (by rfl) (fun K hK => ?_); go_simp; refine hK _ _ ?_ ?_
           · (trivial)
           clear hK K; try simp only [Act.put, List.setIfInBounds_toArray, List.set_cons_zero, List.set_cons_succ])
        | (refine wpT_last (by rfl) (fun K hK => ?_); go_simp; refine hK _ _ ?_; clear hK K)
        | (refine wpT_nil ?_))
      have TD := hid (TT.out.same ((Keep.refl (fun _ => False) wr).drew))
      obtain ⟨D, hD⟩ : ∃ D, wr.drew = D := ⟨_, rfl⟩
      rw [hD] at TD ⊢
      clear hD
      have ok1 : 1 ≤ L.ring := by rw [AA.out.ring]; exact AA.out.r1
      have ok2 : L.drop ≤ 100000 := by rw [AA.out.drop]; unfold goneR; have := RR.out; omega
      have ok3 : L.l.length ≤ 1000 := by rw [AA.out.list, List.length_drop]; have := RR.out; omega
      have AC := hid (aadd_any TD.out.la ok1 ok2 ok3 x.t x.c x.o x.e x.n x.m x.a x.b x.d)
      clear ok1 ok2 ok3
      refine wpT_last (by rfl) (fun K hK => ?_)
      go_simp
      refine AC.out.mono ?_
      rintro _ w3 ⟨v3, rfl, l3, f3, k3⟩
      have l3' : LogAt w3 b v3 (addL L x) := l3
      have T3 := hid (TD.out.left l3' f3 k3)
      refine hK _ _ ?_
      clear hK K l3 f3 k3 l3' AC
      try simp only [Act.put, List.setIfInBounds_toArray, List.set_cons_zero, List.set_cons_succ]
      have x1 : w3.drew.cell? ⟨g, off + i * 10 + 1, none⟩ = some (.int .i64 x.t) := CX.out _ T3.out.kp.drew 1 _ rfl
      have x2 : w3.drew.cell? ⟨g, off + i * 10 + 2, none⟩ = some (.int .i64 x.c) := CX.out _ T3.out.kp.drew 2 _ rfl
      have x3 : w3.drew.cell? ⟨g, off + i * 10 + 3, none⟩ = some (.int .i64 x.o) := CX.out _ T3.out.kp.drew 3 _ rfl
      have x4 : w3.drew.cell? ⟨g, off + i * 10 + 4, none⟩ = some (.int .i64 x.e) := CX.out _ T3.out.kp.drew 4 _ rfl
      have x5 : w3.drew.cell? ⟨g, off + i * 10 + 5, none⟩ = some (.int .i64 x.n) := CX.out _ T3.out.kp.drew 5 _ rfl
      have x6 : w3.drew.cell? ⟨g, off + i * 10 + 6, none⟩ = some (.int .i64 x.m) := CX.out _ T3.out.kp.drew 6 _ rfl
      have x7 : w3.drew.cell? ⟨g, off + i * 10 + 7, none⟩ = some (.int .i64 x.a) := CX.out _ T3.out.kp.drew 7 _ rfl
      have x8 : w3.drew.cell? ⟨g, off + i * 10 + 8, none⟩ = some (.int .i64 x.b) := CX.out _ T3.out.kp.drew 8 _ rfl
      have x9 : w3.drew.cell? ⟨g, off + i * 10 + 9, none⟩ = some (.int .i64 x.d) := CX.out _ T3.out.kp.drew 9 _ rfl
      go_wp2_with fail
      refine wp_region_text [0,0,0,0,0,0,0,0,0,0,0,0,0,0,0,0,0,0,0,0,0,3] (fun W => W.cell? ⟨g, off + i * 10 + 1, none⟩ = some (.int .i64 x.t) ∧ W.cell? ⟨g, off + i * 10 + 2, none⟩ = some (.int .i64 x.c) ∧ W.cell? ⟨g, off + i * 10 + 3, none⟩ = some (.int .i64 x.o) ∧ W.cell? ⟨g, off + i * 10 + 4, none⟩ = some (.int .i64 x.e) ∧ W.cell? ⟨g, off + i * 10 + 5, none⟩ = some (.int .i64 x.n) ∧ W.cell? ⟨g, off + i * 10 + 6, none⟩ = some (.int .i64 x.m) ∧ W.cell? ⟨g, off + i * 10 + 7, none⟩ = some (.int .i64 x.a) ∧ W.cell? ⟨g, off + i * 10 + 8, none⟩ = some (.int .i64 x.b) ∧ W.cell? ⟨g, off + i * 10 + 9, none⟩ = some (.int .i64 x.d)) (by kernel_rfl) (by kernel_rfl) ⟨x1, x2, x3, x4, x5, x6, x7, x8, x9⟩ ?_
      clear x1 x2 x3 x4 x5 x6 x7 x8 x9
      repeat (first
        | (refine' wpT_calm (v := _) (by rfl) (fun W hW => ?_) ?_; rotate_left
           · ((try dsimp only at hW); go_simp; first | done | rfl)
           simp only [Act.put, List.setIfInBounds_toArray, List.set_cons_zero, List.set_cons_succ])
        | (refine' wpT_reads (v := _) (by rfl) ?_ ?_; rotate_left
           · (go_simp; first | done | rfl)
           simp only [Act.put, List.setIfInBounds_toArray, List.set_cons_zero, List.set_cons_succ])
        | (refine wpT_skip (by rfl) rfl ?_; simp only [Act.put, List.setIfInBounds_toArray, List.set_cons_zero, List.set_cons_succ])
        | (refine wpT_does (by rfl) (fun K hK => ?_); go_simp; refine hK _ _ ?_ ?_
           · (trivial)
           clear hK K; try simp only [Act.put, List.setIfInBounds_toArray, List.set_cons_zero, List.set_cons_succ])
        | (refine wpT_last (by rfl) (fun K hK => ?_); go_simp; refine hK _ _ ?_; clear hK K)
        | (refine wpT_nil ?_))
      have TE := hid (T3.out.same ((Keep.refl (fun _ => False) w3).drew))
      obtain ⟨D2, hD⟩ : ∃ D, w3.drew = D := ⟨_, rfl⟩
      rw [hD] at TE ⊢
      clear hD
      have AC := hid (radd_any TE.out.ra (by have := RR.out; omega) x.t x.c x.o x.e x.n x.m x.a x.b x.d)
      refine wpT_last (by rfl) (fun K hK => ?_)
      go_simp
      refine AC.out.mono ?_
      rintro _ w4 ⟨va4, vl4, rfl, r4, fa4, fl4, k4⟩
      have T4 := hid (TE.out.right r4 fa4 fl4 k4)
      have A4 := hid (agree_add AA.out x)
      obtain ⟨L4, hL4⟩ : ∃ L', addL L x = L' := ⟨_, rfl⟩
      obtain ⟨R4, hR4⟩ : ∃ R', addR R ⟨(R.all.length : Int), x.t, x.c, x.o, x.e, x.n, x.m, x.a, x.b, x.d⟩ = R' := ⟨_, rfl⟩
      have len4 : R4.all.length = i + 1 := by rw [← hR4]; show (R.all ++ [_]).length = _; rw [List.length_append, RR.out]; rfl
      rw [hL4] at A4 T4
      rw [hR4] at A4 T4
      have HL4 := hid len4
      refine hK _ _ ?_
      clear hK K r4 fa4 fl4 k4 AC hL4 hR4 len4
      try simp only [Act.put, List.setIfInBounds_toArray, List.set_cons_zero, List.set_cons_succ]
      have lba : L4.l.length ≤ 100000 := by rw [A4.out.list, List.length_drop]; have := HL4.out; omega
      have rba : R4.all.length ≤ 1000 := by have := HL4.out; omega
      go_wp2_with fail
      refine (aview_any T4.out.la lba).mono ?_
      rintro _ w5a ⟨v5a, rfl, m5a, f5a, k5a⟩
      have T5a := hid (T4.out.same k5a)
      have M5a := hid m5a
      obtain ⟨VVa, hVVa⟩ : ∃ V, viewV (L4.drop) L4.base v5a L4.head = V := ⟨_, rfl⟩
      rw [hVVa]
      have HVVa := hid hVVa
      clear m5a f5a k5a hVVa lba
      go_wp2_with fail
      refine (rview_any T5a.out.ra rba ⟨A4.out.r1, A4.out.r16⟩).mono ?_
      rintro _ w6a ⟨v6a, rfl, r6a, f6a, k6a⟩
      have T6a := hid (T5a.out.same k6a)
      have S6a : Hid (Calls Try.prog 21 #[VVa, viewV (goneR R4) (R4.links.getD (goneR R4) zero32) v6a (lastOf R4)] w6a fun e w' => e = .returned (.bool true) ∧ Keep (fun _ => False) w6a w') := hid (by
        have := rsame_any (M5a.out.reads.keep k6a (fun _ _ h => h)) r6a (L4.drop) (goneR R4) L4.base (R4.links.getD (goneR R4) zero32) L4.head (lastOf R4)
        rw [HVVa.out, views_same A4.out] at this
        exact this)
      obtain ⟨WWa, hWWa⟩ : ∃ V, viewV (goneR R4) (R4.links.getD (goneR R4) zero32) v6a (lastOf R4) = V := ⟨_, rfl⟩
      rw [hWWa] at S6a ⊢
      clear r6a f6a k6a hWWa rba M5a
      go_wp2_with fail
      refine S6a.out.mono ?_
      rintro _ w7a ⟨rfl, k7a⟩
      have T7a := hid (T6a.out.same k7a)
      clear k7a S6a
      go_wp2_with fail
      refine ⟨⟨i + 1, _, _, _, L4, R4, by omega, by omega, T7a.out, A4.out, HL4.out, by go_num⟩, by simp [intOf]; omega⟩
    · have hcond : (¬ (i : Int) < n) ∨ ((i : Int) < n ∧ ¬ (i : Int) < 30) := by omega
      have hR30 : Hid (R.all.length ≤ 30) := hid (by have := RR.out; omega)
      rcases hcond with hc1 | ⟨hc1, hc2⟩
      · clear hlt hi hi2
        go_wp2_with fail
        refine (aawake_any _).mono ?_
        rintro _ w3 ⟨rfl, k3⟩
        have T3 := hid (TT.out.same k3)
        clear k3
        have lbb : L.l.length ≤ 100000 := by rw [AA.out.list, List.length_drop]; have := hR30.out; omega
        have rbb : R.all.length ≤ 1000 := by have := hR30.out; omega
        go_wp2_with fail
        refine (aview_any T3.out.la lbb).mono ?_
        rintro _ w5b ⟨v5b, rfl, m5b, f5b, k5b⟩
        have T5b := hid (T3.out.same k5b)
        have M5b := hid m5b
        obtain ⟨VVb, hVVb⟩ : ∃ V, viewV (L.drop) L.base v5b L.head = V := ⟨_, rfl⟩
        rw [hVVb]
        have HVVb := hid hVVb
        clear m5b f5b k5b hVVb lbb
        go_wp2_with fail
        refine (rview_any T5b.out.ra rbb ⟨AA.out.r1, AA.out.r16⟩).mono ?_
        rintro _ w6b ⟨v6b, rfl, r6b, f6b, k6b⟩
        have T6b := hid (T5b.out.same k6b)
        have S6b : Hid (Calls Try.prog 21 #[VVb, viewV (goneR R) (R.links.getD (goneR R) zero32) v6b (lastOf R)] w6b fun e w' => e = .returned (.bool true) ∧ Keep (fun _ => False) w6b w') := hid (by
          have := rsame_any (M5b.out.reads.keep k6b (fun _ _ h => h)) r6b (L.drop) (goneR R) L.base (R.links.getD (goneR R) zero32) L.head (lastOf R)
          rw [HVVb.out, views_same AA.out] at this
          exact this)
        obtain ⟨WWb, hWWb⟩ : ∃ V, viewV (goneR R) (R.links.getD (goneR R) zero32) v6b (lastOf R) = V := ⟨_, rfl⟩
        rw [hWWb] at S6b ⊢
        clear r6b f6b k6b hWWb rbb M5b
        go_wp2_with fail
        refine S6b.out.mono ?_
        rintro _ w7b ⟨rfl, k7b⟩
        have T7b := hid (T6b.out.same k7b)
        clear k7b S6b
        go_wp2_with fail
        go_ret
        exact ⟨rfl, T7b.out.kp.below (fun _ h => h.elim) (Nat.le_refl _)⟩
      · clear hlt hi hi2
        go_wp2_with fail
        refine (aawake_any _).mono ?_
        rintro _ w3 ⟨rfl, k3⟩
        have T3 := hid (TT.out.same k3)
        clear k3
        have lbb : L.l.length ≤ 100000 := by rw [AA.out.list, List.length_drop]; have := hR30.out; omega
        have rbb : R.all.length ≤ 1000 := by have := hR30.out; omega
        go_wp2_with fail
        refine (aview_any T3.out.la lbb).mono ?_
        rintro _ w5b ⟨v5b, rfl, m5b, f5b, k5b⟩
        have T5b := hid (T3.out.same k5b)
        have M5b := hid m5b
        obtain ⟨VVb, hVVb⟩ : ∃ V, viewV (L.drop) L.base v5b L.head = V := ⟨_, rfl⟩
        rw [hVVb]
        have HVVb := hid hVVb
        clear m5b f5b k5b hVVb lbb
        go_wp2_with fail
        refine (rview_any T5b.out.ra rbb ⟨AA.out.r1, AA.out.r16⟩).mono ?_
        rintro _ w6b ⟨v6b, rfl, r6b, f6b, k6b⟩
        have T6b := hid (T5b.out.same k6b)
        have S6b : Hid (Calls Try.prog 21 #[VVb, viewV (goneR R) (R.links.getD (goneR R) zero32) v6b (lastOf R)] w6b fun e w' => e = .returned (.bool true) ∧ Keep (fun _ => False) w6b w') := hid (by
          have := rsame_any (M5b.out.reads.keep k6b (fun _ _ h => h)) r6b (L.drop) (goneR R) L.base (R.links.getD (goneR R) zero32) L.head (lastOf R)
          rw [HVVb.out, views_same AA.out] at this
          exact this)
        obtain ⟨WWb, hWWb⟩ : ∃ V, viewV (goneR R) (R.links.getD (goneR R) zero32) v6b (lastOf R) = V := ⟨_, rfl⟩
        rw [hWWb] at S6b ⊢
        clear r6b f6b k6b hWWb rbb M5b
        go_wp2_with fail
        refine S6b.out.mono ?_
        rintro _ w7b ⟨rfl, k7b⟩
        have T7b := hid (T6b.out.same k7b)
        clear k7b S6b
        go_wp2_with fail
        go_ret
        exact ⟨rfl, T7b.out.kp.below (fun _ h => h.elim) (Nat.le_refl _)⟩
end Go.Proofs.Ytpijnpapmdnceaa
