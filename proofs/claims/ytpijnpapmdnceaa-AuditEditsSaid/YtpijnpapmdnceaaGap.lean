/- What the logs hold of a list of records. Law 21: made (printed by gen_audz3.py). Law 21: AuditKeeps (printed by gen_audz4.py). -/
import Derived.Test.YtpijnpapmdnceaaGam
import Derived.Test.YtpijnpapmdnceaaGab

namespace Go.Proofs.Ytpijnpapmdnceaa
open Go Go.RowKit

def withS (r : Rc) (s : Int) : Rc := ⟨s, r.t, r.c, r.o, r.e, r.n, r.m, r.a, r.b, r.d⟩
/-- These records, numbered. -/
structure Holds (R : Rl) (l : List Rc) : Prop where
  first : R.links.getD 0 zero32 = zero32
  seqd : ∀ j, j < R.all.length → R.all.getD j rc0 = withS (l.getD j rc0) j
theorem holds_new (n : Int) (l : List Rc) : Holds (newR n) l := ⟨rfl, fun j hj => absurd hj (Nat.not_lt_zero j)⟩
theorem holds_add {R : Rl} {l : List Rc} (h : Holds R l) (hl : R.links.length = R.all.length + 1) (x : Rc) (hx : l.getD R.all.length rc0 = x) :
    Holds (addR R ⟨(R.all.length : Int), x.t, x.c, x.o, x.e, x.n, x.m, x.a, x.b, x.d⟩) l := by
  refine ⟨?_, fun j hj => ?_⟩
  · show (R.links ++ [_]).getD 0 zero32 = _
    rw [getD_left _ _ _ _ (by omega)]
    exact h.first
  · have hj : j < (R.all ++ [_]).length := hj
    rw [List.length_append, List.length_singleton] at hj
    show (R.all ++ [_]).getD j rc0 = _
    by_cases hj2 : j < R.all.length
    · rw [getD_left _ _ _ _ hj2]
      exact h.seqd j hj2
    · obtain rfl : j = R.all.length := by omega
      rw [getD_end, hx]
      rfl
theorem chain_links {L : Lg} {R : Rl} (h : Agree L R) (g : Nat) : ∀ k, g + k ≤ R.all.length → chns (R.links.getD g zero32) ((R.all.drop g).take k) = R.links.getD (g + k) zero32
  | 0, _ => rfl
  | k + 1, hk => by
    have ih := chain_links h g k (by omega)
    have hlt : k < (R.all.drop g).length := by rw [List.length_drop]; omega
    have e : R.all.getD (g + k) rc0 = (R.all.drop g)[k] := by
      rw [List.getElem_drop, List.getD_eq_getElem?_getD, List.getElem?_eq_getElem (by omega)]
      rfl
    rw [List.take_succ_eq_append_getElem hlt, chns_snoc, ih, ← Nat.add_assoc, h.link (g + k) (by omega), e]
theorem chain_all {L : Lg} {R : Rl} (h : Agree L R) : chns L.base L.l = L.head := by
  have hg : goneR R ≤ R.all.length := by unfold goneR; omega
  have := chain_links h (goneR R) (R.all.length - goneR R) (by omega)
  rw [List.take_of_length_le (by rw [List.length_drop]; exact Nat.le_refl _), show goneR R + (R.all.length - goneR R) = R.all.length from by omega] at this
  rw [h.base, h.list, h.head, this]
  rfl
theorem list_at {L : Lg} {R : Rl} {l : List Rc} (h : Agree L R) (hh : Holds R l) (i : Nat) (hi : i < L.l.length) : L.l[i] = withS (l.getD (goneR R + i) rc0) ((goneR R : Int) + i) := by
  have hl : L.l.length = R.all.length - goneR R := by rw [h.list, List.length_drop]
  have e : L.l[i]? = R.all[goneR R + i]? := by rw [h.list, List.getElem?_drop]
  rw [List.getElem?_eq_getElem hi, List.getElem?_eq_getElem (by omega)] at e
  have e2 := hh.seqd (goneR R + i) (by omega)
  rw [List.getD_eq_getElem?_getD, List.getElem?_eq_getElem (by omega)] at e2
  have e3 : R.all[goneR R + i]'(by omega) = withS (l.getD (goneR R + i) rc0) ((goneR R + i : Nat) : Int) := e2
  rw [Option.some.inj e, e3]
  congr 1
theorem wrap_small (a b : Int) (h : -1000000 ≤ a - b ∧ a - b ≤ 1000000) : IntKind.i64.wrap (a - b) = a - b := IntWalk.i64_in _ ⟨by omega, by omega⟩
theorem seqs_list {L : Lg} {R : Rl} {l : List Rc} (h : Agree L R) (hh : Holds R l) (hl : R.all.length ≤ 1000) : seqsOk (L.drop : Int) 0 L.l = true := by
  refine seqs_all _ _ _ fun i hi => ?_
  rw [Nat.zero_add, list_at h hh i hi]
  have hb : L.l.length = R.all.length - goneR R := by rw [h.list, List.length_drop]
  have hg : goneR R ≤ R.all.length := by unfold goneR; omega
  unfold seqOk
  show (!(decide ((goneR R : Int) + i < (i : Int)) || decide (IntKind.i64.wrap ((goneR R : Int) + i - i) ≠ (L.drop : Int)))) = true
  rw [wrap_small _ _ ⟨by omega, by omega⟩, h.drop]
  simp
  omega
/-- What a log shows verifies. -/
theorem ver_log {L : Lg} {R : Rl} {l : List Rc} (h : Agree L R) (hh : Holds R l) (hl : R.all.length ≤ 1000) (bl : L.base.length = 32) (he : L.head.length = 32) : ver (L.drop : Int) L.base L.l L.head = 0 := by
  have hb : L.l.length = R.all.length - goneR R := by rw [h.list, List.length_drop]
  have h16 : L.l.length ≤ 16 := by
    rw [hb]
    have := h.r16
    have := h.r1
    unfold goneR
    omega
  have hz : ¬ ((L.drop : Int) = 0 ∧ L.base ≠ zero32) := fun k => k.2 (by
    have hd : goneR R = 0 := by have := k.1; have := h.drop; omega
    rw [h.base, hd]
    exact hh.first)
  unfold ver
  rw [if_neg (by rintro (k | k | k | k) <;> omega), if_neg hz, seqs_list h hh hl, if_neg (c := (true = false)) (by simp), if_neg (fun k => k (chain_all h))]
end Go.Proofs.Ytpijnpapmdnceaa

namespace Go.Proofs.Ytpijnpapmdnceaa
open Go Go.RowKit

set_option maxRecDepth 10000 in
set_option maxHeartbeats 2000000 in
theorem made_any (w : World) (ring : Int) (v1 : Value) (l : List Rc) (h1 : ReadR w v1 l) (m : Nat) (hm : m ≤ 40) :
    Calls Try.prog 29 #[.int .i64 ring, v1, .int .i64 (m : Int)] w fun e w' => ∃ b c v va vl L R, e = .returned (.tuple #[.pointer (some ⟨b, 0, none⟩), .pointer (some ⟨c, 0, none⟩)]) ∧ Two w w' b c v va vl L R ∧ Agree L R ∧ Holds R l ∧ R.ring = ringOf ring ∧ R.all.length = min l.length m := by
  obtain ⟨a0, c0, hv⟩ := h1.form
  subst hv
  have ml := h1.maxl
  unfold maxLen at ml
  obtain ⟨n, hn⟩ : ∃ n, l.length = n := ⟨_, rfl⟩
  rw [hn] at h1 ml ⊢
  have H := hid h1
  have HN := hid hn
  clear h1 hn
  go_enter Try.func29, Try.ntmps29
  go_wp2_with fail
  refine (anew_any ring w).mono ?_
  rintro _ w1 ⟨b, rfl, hb, hl, k1⟩
  have L1 := hid hl
  have K1 := hid k1
  have HB := hid hb
  clear hl k1 hb
  go_wp2_with fail
  refine (rnew_any ring w1).mono ?_
  rintro _ w2 ⟨c, vl, rfl, hc, hvl, hr, k2⟩
  have T0 := hid (Two.new L1.out HB.out K1.out hr hc hvl k2)
  clear hr hc hvl k2 L1 K1 HB
  go_wp2_with fail
  go_loopw [10] (fun iv wr => ∃ (i : Nat) (v va vl : Value) (L : Lg) (R : Rl), i ≤ n ∧ i ≤ m ∧ Two w wr b c v va vl L R ∧ Agree L R ∧ R.all.length = i ∧ Hid (Holds R l ∧ R.ring = ringOf ring) ∧ iv = .int .i64 i) (fun iv _ => m - (intOf iv).toNat)
  case atStart => exact ⟨0, _, _, _, _, _, by omega, by omega, T0.out, agree_new ring, rfl, hid ⟨holds_new _ _, rfl⟩, rfl⟩
  case round =>
    obtain ⟨i, v, va, vl, L, R, hi, hi2, hT, hA, hR, HH, rfl⟩ := hrel
    have TT := hid hT
    have AA := hid hA
    have RR := hid hR
    clear hT hA hR T0
    by_cases hlt : i < n ∧ i < m
    · obtain ⟨hl1, hl2⟩ := hlt
      have hli : (i : Int) < n := by omega
      have hlj : (i : Int) < m := by omega
      have hll : i < l.length := by rw [HN.out]; exact hl1
      obtain ⟨g, off, ha⟩ := H.out.addr (by omega)
      subst ha
      obtain ⟨x, hx⟩ : ∃ x, l[i] = x := ⟨_, rfl⟩
      have CX : Hid (∀ W, Keep (fun _ => False) w W → ∀ j u, x.cells[j]? = some u → W.cell? ⟨g, off + i * 10 + j, none⟩ = some u) := hid (fun W hK => cells_at (H.out.keep hK (fun _ _ h => h)) i hll x hx)
      have HX : Hid (l.getD R.all.length rc0 = x) := hid (by rw [RR.out, List.getD_eq_getElem?_getD, List.getElem?_eq_getElem hll, hx]; rfl)
      clear hx
      have x1 : wr.drew.cell? ⟨g, off + i * 10 + 1, none⟩ = some (.int .i64 x.t) := CX.out _ TT.out.kp.drew 1 _ rfl
      have x2 : wr.drew.cell? ⟨g, off + i * 10 + 2, none⟩ = some (.int .i64 x.c) := CX.out _ TT.out.kp.drew 2 _ rfl
      have x3 : wr.drew.cell? ⟨g, off + i * 10 + 3, none⟩ = some (.int .i64 x.o) := CX.out _ TT.out.kp.drew 3 _ rfl
      have x4 : wr.drew.cell? ⟨g, off + i * 10 + 4, none⟩ = some (.int .i64 x.e) := CX.out _ TT.out.kp.drew 4 _ rfl
      have x5 : wr.drew.cell? ⟨g, off + i * 10 + 5, none⟩ = some (.int .i64 x.n) := CX.out _ TT.out.kp.drew 5 _ rfl
      have x6 : wr.drew.cell? ⟨g, off + i * 10 + 6, none⟩ = some (.int .i64 x.m) := CX.out _ TT.out.kp.drew 6 _ rfl
      have x7 : wr.drew.cell? ⟨g, off + i * 10 + 7, none⟩ = some (.int .i64 x.a) := CX.out _ TT.out.kp.drew 7 _ rfl
      have x8 : wr.drew.cell? ⟨g, off + i * 10 + 8, none⟩ = some (.int .i64 x.b) := CX.out _ TT.out.kp.drew 8 _ rfl
      have x9 : wr.drew.cell? ⟨g, off + i * 10 + 9, none⟩ = some (.int .i64 x.d) := CX.out _ TT.out.kp.drew 9 _ rfl
      go_wp2_with fail
      refine wp_region_text [0,0,0,0,0,0,0,0,0,0,0,0,0,0,0,0,0,0,0,0,0,3] (fun W => W.cell? ⟨g, off + i * 10 + 1, none⟩ = some (.int .i64 x.t) ∧ W.cell? ⟨g, off + i * 10 + 2, none⟩ = some (.int .i64 x.c) ∧ W.cell? ⟨g, off + i * 10 + 3, none⟩ = some (.int .i64 x.o) ∧ W.cell? ⟨g, off + i * 10 + 4, none⟩ = some (.int .i64 x.e) ∧ W.cell? ⟨g, off + i * 10 + 5, none⟩ = some (.int .i64 x.n) ∧ W.cell? ⟨g, off + i * 10 + 6, none⟩ = some (.int .i64 x.m) ∧ W.cell? ⟨g, off + i * 10 + 7, none⟩ = some (.int .i64 x.a) ∧ W.cell? ⟨g, off + i * 10 + 8, none⟩ = some (.int .i64 x.b) ∧ W.cell? ⟨g, off + i * 10 + 9, none⟩ = some (.int .i64 x.d)) (by kernel_rfl) (by kernel_rfl) ⟨x1, x2, x3, x4, x5, x6, x7, x8, x9⟩ ?_
      clear x1 x2 x3 x4 x5 x6 x7 x8 x9
      repeat (first
        | (refine' wpT_calm (v := _) (by rfl) (fun W hW => ?_) ?_; rotate_left
           · ((try dsimp only at hW); go_simp; first | done | rfl)
           simp only [Act.put, List.setIfInBounds_toArray, List.set_cons_zero, List.set_cons_succ])
        | (refine' wpT_reads (v := _) (by rfl) ?_ ?_; rotate_left
           · (go_simp; first | done | rfl)
           simp only [Act.put, List.setIfInBounds_toArray, List.set_cons_zero, List.set_cons_succ])
        | (refine wpT_skip (by rfl) rfl ?_; simp only [Act.put, List.setIfInBounds_toArray, List.set_cons_zero, List.set_cons_succ])
        | (refine wpT_does (by rfl) (fun K hK => ?_); go_simp; refine hK _ _ ?_ ?_
           · (trivial)
           clear hK K; try simp only [Act.put, List.setIfInBounds_toArray, List.set_cons_zero, List.set_cons_succ])
        | (refine wpT_last (by rfl) (fun K hK => ?_); go_simp; refine hK _ _ ?_; clear hK K)
        | (refine wpT_nil ?_))
      have TD := hid (TT.out.same ((Keep.refl (fun _ => False) wr).drew))
      obtain ⟨D, hD⟩ : ∃ D, wr.drew = D := ⟨_, rfl⟩
      rw [hD] at TD ⊢
      clear hD
      have ok1 : 1 ≤ L.ring := by rw [AA.out.ring]; exact AA.out.r1
      have ok2 : L.drop ≤ 100000 := by rw [AA.out.drop]; unfold goneR; have := RR.out; omega
      have ok3 : L.l.length ≤ 1000 := by rw [AA.out.list, List.length_drop]; have := RR.out; omega
      have AC := hid (aadd_any TD.out.la ok1 ok2 ok3 x.t x.c x.o x.e x.n x.m x.a x.b x.d)
      clear ok1 ok2 ok3
      refine wpT_last (by rfl) (fun K hK => ?_)
      go_simp
      refine AC.out.mono ?_
      rintro _ w3 ⟨v3, rfl, l3, f3, k3⟩
      have l3' : LogAt w3 b v3 (addL L x) := l3
      have T3 := hid (TD.out.left l3' f3 k3)
      refine hK _ _ ?_
      clear hK K l3 f3 k3 l3' AC
      try simp only [Act.put, List.setIfInBounds_toArray, List.set_cons_zero, List.set_cons_succ]
      have x1 : w3.drew.cell? ⟨g, off + i * 10 + 1, none⟩ = some (.int .i64 x.t) := CX.out _ T3.out.kp.drew 1 _ rfl
      have x2 : w3.drew.cell? ⟨g, off + i * 10 + 2, none⟩ = some (.int .i64 x.c) := CX.out _ T3.out.kp.drew 2 _ rfl
      have x3 : w3.drew.cell? ⟨g, off + i * 10 + 3, none⟩ = some (.int .i64 x.o) := CX.out _ T3.out.kp.drew 3 _ rfl
      have x4 : w3.drew.cell? ⟨g, off + i * 10 + 4, none⟩ = some (.int .i64 x.e) := CX.out _ T3.out.kp.drew 4 _ rfl
      have x5 : w3.drew.cell? ⟨g, off + i * 10 + 5, none⟩ = some (.int .i64 x.n) := CX.out _ T3.out.kp.drew 5 _ rfl
      have x6 : w3.drew.cell? ⟨g, off + i * 10 + 6, none⟩ = some (.int .i64 x.m) := CX.out _ T3.out.kp.drew 6 _ rfl
      have x7 : w3.drew.cell? ⟨g, off + i * 10 + 7, none⟩ = some (.int .i64 x.a) := CX.out _ T3.out.kp.drew 7 _ rfl
      have x8 : w3.drew.cell? ⟨g, off + i * 10 + 8, none⟩ = some (.int .i64 x.b) := CX.out _ T3.out.kp.drew 8 _ rfl
      have x9 : w3.drew.cell? ⟨g, off + i * 10 + 9, none⟩ = some (.int .i64 x.d) := CX.out _ T3.out.kp.drew 9 _ rfl
      go_wp2_with fail
      refine wp_region_text [0,0,0,0,0,0,0,0,0,0,0,0,0,0,0,0,0,0,0,0,0,3] (fun W => W.cell? ⟨g, off + i * 10 + 1, none⟩ = some (.int .i64 x.t) ∧ W.cell? ⟨g, off + i * 10 + 2, none⟩ = some (.int .i64 x.c) ∧ W.cell? ⟨g, off + i * 10 + 3, none⟩ = some (.int .i64 x.o) ∧ W.cell? ⟨g, off + i * 10 + 4, none⟩ = some (.int .i64 x.e) ∧ W.cell? ⟨g, off + i * 10 + 5, none⟩ = some (.int .i64 x.n) ∧ W.cell? ⟨g, off + i * 10 + 6, none⟩ = some (.int .i64 x.m) ∧ W.cell? ⟨g, off + i * 10 + 7, none⟩ = some (.int .i64 x.a) ∧ W.cell? ⟨g, off + i * 10 + 8, none⟩ = some (.int .i64 x.b) ∧ W.cell? ⟨g, off + i * 10 + 9, none⟩ = some (.int .i64 x.d)) (by kernel_rfl) (by kernel_rfl) ⟨x1, x2, x3, x4, x5, x6, x7, x8, x9⟩ ?_
      clear x1 x2 x3 x4 x5 x6 x7 x8 x9
      repeat (first
        | (refine' wpT_calm (v := _) (by rfl) (fun W hW => ?_) ?_; rotate_left
           · ((try dsimp only at hW); go_simp; first | done | rfl)
           simp only [Act.put, List.setIfInBounds_toArray, List.set_cons_zero, List.set_cons_succ])
        | (refine' wpT_reads (v := _) (by rfl) ?_ ?_; rotate_left
           · (go_simp; first | done | rfl)
           simp only [Act.put, List.setIfInBounds_toArray, List.set_cons_zero, List.set_cons_succ])
        | (refine wpT_skip (by rfl) rfl ?_; simp only [Act.put, List.setIfInBounds_toArray, List.set_cons_zero, List.set_cons_succ])
        | (refine wpT_does (by rfl) (fun K hK => ?_); go_simp; refine hK _ _ ?_ ?_
           · (trivial)
           clear hK K; try simp only [Act.put, List.setIfInBounds_toArray, List.set_cons_zero, List.set_cons_succ])
        | (refine wpT_last (by rfl) (fun K hK => ?_); go_simp; refine hK _ _ ?_; clear hK K)
        | (refine wpT_nil ?_))
      have TE := hid (T3.out.same ((Keep.refl (fun _ => False) w3).drew))
      obtain ⟨D2, hD⟩ : ∃ D, w3.drew = D := ⟨_, rfl⟩
      rw [hD] at TE ⊢
      clear hD
      have AC := hid (radd_any TE.out.ra (by have := RR.out; omega) x.t x.c x.o x.e x.n x.m x.a x.b x.d)
      refine wpT_last (by rfl) (fun K hK => ?_)
      go_simp
      refine AC.out.mono ?_
      rintro _ w4 ⟨va4, vl4, rfl, r4, fa4, fl4, k4⟩
      have T4 := hid (TE.out.right r4 fa4 fl4 k4)
      have A4 := hid (agree_add AA.out x)
      have H4 := hid (And.intro (holds_add HH.out.1 AA.out.len x HX.out) HH.out.2)
      obtain ⟨L4, hL4⟩ : ∃ L', addL L x = L' := ⟨_, rfl⟩
      obtain ⟨R4, hR4⟩ : ∃ R', addR R ⟨(R.all.length : Int), x.t, x.c, x.o, x.e, x.n, x.m, x.a, x.b, x.d⟩ = R' := ⟨_, rfl⟩
      have len4 : R4.all.length = i + 1 := by rw [← hR4]; show (R.all ++ [_]).length = _; rw [List.length_append, RR.out]; rfl
      rw [hL4] at A4 T4
      rw [hR4] at A4 T4 H4
      have HR4 : Hid (Holds R4 l ∧ R4.ring = ringOf ring) := hid ⟨H4.out.1, by rw [← hR4]; exact HH.out.2⟩
      have HL4 := hid len4
      refine hK _ _ ?_
      clear hK K r4 fa4 fl4 k4 AC hL4 hR4 len4
      try simp only [Act.put, List.setIfInBounds_toArray, List.set_cons_zero, List.set_cons_succ]
      go_wp2_with fail
      go_roundw
      case rel => exact ⟨i + 1, _, _, _, L4, R4, by omega, by omega, T4.out, A4.out, HL4.out, HR4, by go_num⟩
      case measure => simp [intOf]; omega
    · have hcond : (¬ (i : Int) < n) ∨ ((i : Int) < n ∧ ¬ (i : Int) < m) := by omega
      have hRm : Hid (R.all.length = min n m) := hid (by have := RR.out; omega)
      rcases hcond with hc1 | ⟨hc1, hc2⟩
      · clear hlt hi hi2
        go_wp2_with fail
        go_ret2
        first | exact ⟨b, c, v, va, vl, L, R, rfl, TT.out, AA.out, HH.out.1, HH.out.2, hRm.out⟩ | exact ⟨b, c, rfl, v, va, vl, L, R, TT.out, AA.out, HH.out.1, HH.out.2, hRm.out⟩ | exact ⟨b, c, rfl, ⟨v, va, vl, L, R, TT.out, AA.out, HH.out.1, HH.out.2, hRm.out⟩⟩
      · clear hlt hi hi2
        go_wp2_with fail
        go_ret2
        first | exact ⟨b, c, v, va, vl, L, R, rfl, TT.out, AA.out, HH.out.1, HH.out.2, hRm.out⟩ | exact ⟨b, c, rfl, v, va, vl, L, R, TT.out, AA.out, HH.out.1, HH.out.2, hRm.out⟩ | exact ⟨b, c, rfl, ⟨v, va, vl, L, R, TT.out, AA.out, HH.out.1, HH.out.2, hRm.out⟩⟩
end Go.Proofs.Ytpijnpapmdnceaa

namespace Go.Proofs.Ytpijnpapmdnceaa
open Go Go.ChangeShapes Go.WideShapes Go.Deep Go.RowKit

theorem byte_ok {r : Int} (h : (Lit.int .u8 r).wf = true) : 0 ≤ r ∧ r ≤ 255 := by
  simp only [Lit.wf, Bool.and_eq_true, decide_eq_true_eq] at h
  exact ⟨Int.le_trans (by decide) h.1, Int.le_trans h.2 (by decide)⟩
section
variable {H : Type} {enc : TypeId × Value → H} {w : World} {base : Nat} {spare : Nat → Bool} {held : Bool}
theorem open_recsc {b0 : Nat} {r : Reach} {v : Value} {d : DataW H} {ps : List MemPlace} (hv : Value.okWide Try.prog w r b0 32 v) (h : DataW.Trod enc Try.prog w base spare held 32 v d ps) :
    ∃ l, ReadR w v l ∧ (∀ r ∈ l, WfR r) ∧ ∃ a n c, v = .slice a n c ∧ n ≤ c := by
  obtain ⟨a, n, c, rfl⟩ := okWide_slice Try.underlying32 hv
  obtain ⟨fuel, hf⟩ := h
  obtain ⟨v', l, e, hr, hw, hc⟩ := trod_recs hf
  simp [Value.cells] at e
  subst e
  exact ⟨l, hr, hw, hc⟩
end
theorem ReadR.take {w : World} {a : Option Addr} {n c k : Nat} {l : List Rc} (h : ReadR w (.slice a n c) l) (hn : l.length = n) (hk : k ≤ n) : ReadR w (.slice a k c) (l.take k) := by
  have hl : (l.take k).length = k := by rw [List.length_take]; omega
  rcases h with ⟨a', c', hv, rfl⟩ | ⟨g, off, c', hv, hg, hm, hc⟩
  · have : k = 0 := by simp at hn; omega
    subst this
    exact .inl ⟨_, _, rfl, rfl⟩
  · simp only [Value.slice.injEq] at hv
    obtain ⟨rfl, -, rfl⟩ := hv
    refine .inr ⟨g, off, _, by rw [hl], hg, by rw [hl]; omega, fun j u hu => ?_⟩
    rw [flatR_take, List.getElem?_take] at hu
    split at hu
    · exact hc j u hu
    · cases hu
/-- A record lies there. -/
def RecAt (W : World) (g o : Nat) (x : Rc) : Prop := ∀ j u, x.cells[j]? = some u → W.cell? ⟨g, o + j, none⟩ = some u
theorem RecAt.keep {W W' : World} {g o : Nat} {x : Rc} (h : RecAt W g o x) (hK : Keep (fun _ => False) W W') : RecAt W' g o x := fun j u hu =>
  (hK.cell (p := ⟨g, o + j, none⟩) (World.block_lt_of_cell? _ _ (h j u hu)) (fun h => h)).trans (h j u hu)
theorem row_recAt {W : World} {g : Nat} {x : Rc} (h : W.heap[g]? = some (.cells x.cells.toArray 42 (0, 0))) : ∀ j u, x.cells[j]? = some u → W.cell? ⟨g, j, none⟩ = some u := fun j u hu => by
  rw [cell_of_row _ _ j _ _ _ h]
  simpa using hu
theorem info_size_rec : (Try.prog.info? 42).map (·.size) = some 10 := by kernel_rfl

set_option maxRecDepth 10000 in
set_option maxHeartbeats 4000000 in
theorem walk_AuditKeeps (w : World) (rg : Int) (hrg : (Lit.int .u8 rg).wf = true) (v1 : Value) (l : List Rc) (h1 : ReadR w v1 l) (_z : ∀ r ∈ l, WfR r) (hcap : ∃ a n c, v1 = .slice a n c ∧ n ≤ c) :
    Calls Try.prog 9 #[.int .u8 rg, v1] w fun e w' => e = .returned (.bool true) ∧ Below w.heap.size w w' := by
  obtain ⟨a0, c0, hv⟩ := h1.form
  subst hv
  have ml := h1.maxl
  unfold maxLen at ml
  obtain ⟨n, hn⟩ : ∃ n, l.length = n := ⟨_, rfl⟩
  rw [hn] at h1 ml hcap ⊢
  have hnc : n ≤ c0 := by
    obtain ⟨a, n', c, hv, h⟩ := hcap
    simp only [Value.slice.injEq] at hv
    obtain ⟨_, rfl, rfl⟩ := hv
    exact h
  have H := hid h1
  have HN := hid hn
  obtain ⟨rg0, rg1⟩ := byte_ok hrg
  obtain ⟨q, hq, q1, q2⟩ : ∃ q : Nat, 1 + rg % 16 = (q : Int) ∧ 1 ≤ q ∧ q ≤ 16 := ⟨(1 + rg % 16).toNat, by omega, by omega, by omega⟩
  clear h1 hn hrg _z hcap
  go_enter Try.func9, Try.ntmps9
  go_wp2_with fail
  have HQ := hid hq
  clear hq rg0 rg1
  refine (made_any w q _ l H.out 40 (by decide)).mono ?_
  rintro _ w1 ⟨b, c, v, va, vl, L, R, rfl, hT, hA, hH, hr, hlen⟩
  have TT := hid hT
  have AA := hid hA
  have HH := hid hH
  have HR : Hid (R.ring = (q : Int)) := hid (by rw [hr]; unfold ringOf; omega)
  rw [HN.out] at hlen
  have HLE := hid hlen
  clear hT hA hH hr hlen
  have hgo : goneR R = min n 40 - q := by unfold goneR; rw [HLE.out, HR.out]; rfl
  have HGO := hid hgo
  clear hgo
  by_cases h40 : (n : Int) > 40
  · have HAL := hid (H.out.take HN.out (k := 40) (by omega))
    have c40 : (40 : Int) ≤ (c0 : Int) := by omega
    have n40 : ¬ n ≤ 40 := by omega
    go_wp2_with fail
    have lb : L.l.length ≤ 100000 := by rw [AA.out.list, List.length_drop, HLE.out]; omega
    refine (aview_any TT.out.la lb).mono ?_
    rintro _ w5 ⟨v5, rfl, m5, f5, k5⟩
    obtain ⟨m, hm⟩ : ∃ m, L.l.length = m := ⟨_, rfl⟩
    obtain ⟨g, hg⟩ : ∃ g, goneR R = g := ⟨_, rfl⟩
    have hmg : m = 40 - g := by rw [← hm, ← hg, AA.out.list, List.length_drop, HLE.out]; omega
    have hgd : (L.drop : Int) = (g : Int) := by rw [← hg, AA.out.drop]
    have hgn : g = 40 - q := by rw [← hg, HGO.out]; omega
    obtain ⟨B, hB⟩ : ∃ B, bya L.base = B := ⟨_, rfl⟩
    obtain ⟨E, hE⟩ : ∃ B, bya L.head = B := ⟨_, rfl⟩
    obtain ⟨a5, hv5⟩ := m5.form
    rw [hm] at hv5
    subst hv5
    unfold viewV
    rw [hB, hE, hgd]
    have R5 := hid m5.reads
    have T5 := hid (TT.out.same k5)
    have HM := hid hm
    have HG := hid hg
    have HGD := hid hgd
    have HB := hid hB
    have HE := hid hE
    have vz : ver (g : Int) L.base L.l L.head = 0 := by rw [← hgd]; exact ver_log AA.out HH.out (by rw [HLE.out]; omega) TT.out.la.bl TT.out.la.hl
    have VF : Hid (∀ W, ReadR W (.slice a5 m m) L.l → Calls Try.prog 25 #[.agg #[.int .i64 (g : Int), .string B, .slice a5 m m, .string E]] W fun x w' => x = .returned (.int .i64 0) ∧ Keep (fun _ => False) W w') := hid (fun W hr => by
      have := verify_any hr (g : Int) L.base L.head
      unfold viewV at this
      rw [hB, hE, vz] at this
      exact this)
    clear m5 f5 k5 hm hg hgd hB hE lb vz
    obtain ⟨W6, hW6⟩ : ∃ W, w5.alloc (.cells #[.int .i64 (g : Int), .string B, .slice a5 m m, .string E] 45) = W := ⟨_, rfl⟩
    have K6 : Keep (fun _ => False) w5 W6 := by rw [← hW6]; exact (Keep.refl _ _).alloc _
    have row6 : W6.heap[w5.heap.size]? = some (.cells #[.int .i64 (g : Int), .string B, .slice a5 m m, .string E] 45 (0, 0)) := by rw [← hW6]; exact heap_alloc_new w5 _
    have z0 : W6.cell? ⟨w5.heap.size, 0, none⟩ = some (.int .i64 (g : Int)) := by rw [cell_of_row _ _ 0 _ _ _ row6]; rfl
    have z1 : W6.cell? ⟨w5.heap.size, 1, none⟩ = some (.string B) := by rw [cell_of_row _ _ 1 _ _ _ row6]; rfl
    have z2 : W6.cell? ⟨w5.heap.size, 2, none⟩ = some (.slice a5 m m) := by rw [cell_of_row _ _ 2 _ _ _ row6]; rfl
    have z3 : W6.cell? ⟨w5.heap.size, 3, none⟩ = some (.string E) := by rw [cell_of_row _ _ 3 _ _ _ row6]; rfl
    have HW6 := hid hW6
    have BL6 : w5.heap.size < W6.heap.size := lt_of_heap row6
    have T6 := hid (T5.out.same K6)
    have R6 := hid (R5.out.keep K6 (fun _ _ h => h))
    have ROW6 := hid row6
    clear hW6 K6 row6 T5 R5
    have hgt : (40 : Int) > (q : Int) := by omega
    have e1 : (40 : Int) - (q : Int) = (g : Int) := by omega
    have e2 : (40 : Int) - (g : Int) = (m : Int) := by omega
    have e3 : m ≤ 16 := by omega
    have HGM : Hid (g + m = 40) := hid (by omega)
    clear hmg hgn
    go_wp2_with fail
    rw [HW6.out]
    go_loopw [11] (fun iv wr => ∃ (i : Nat), i ≤ m ∧ Keep (fun _ => False) W6 wr ∧ iv = .int .i64 i) (fun iv _ => m - (intOf iv).toNat)
    case atStart => exact ⟨0, by omega, Keep.refl _ _, rfl⟩
    case round =>
      obtain ⟨i, hi, hK, rfl⟩ := hrel
      have u0 := (hK.cell (p := ⟨w5.heap.size, 0, none⟩) BL6 (fun h => h)).trans z0
      have u1 := (hK.cell (p := ⟨w5.heap.size, 1, none⟩) BL6 (fun h => h)).trans z1
      have u2 := (hK.cell (p := ⟨w5.heap.size, 2, none⟩) BL6 (fun h => h)).trans z2
      have u3 := (hK.cell (p := ⟨w5.heap.size, 3, none⟩) BL6 (fun h => h)).trans z3
      have KK := hid hK
      have TR := hid (T6.out.same hK)
      clear hK z0 z1 z2 z3
      by_cases hlt : i < m
      · have hli : (i : Int) < m := by omega
        have hl1 : i < L.l.length := by rw [HM.out]; exact hlt
        obtain ⟨ga, oa, ha⟩ := R6.out.addr (by omega)
        obtain ⟨gb, ob, hb⟩ := HAL.out.addr (by rw [List.length_take, HN.out]; have := HGM.out; omega)
        subst ha hb
        have hl2 : g + i < (l.take 40).length := by rw [List.length_take, HN.out]; have := HGM.out; omega
        obtain ⟨x, hx⟩ : ∃ x, L.l[i] = x := ⟨_, rfl⟩
        obtain ⟨y, hy⟩ : ∃ y, (l.take 40)[g + i] = y := ⟨_, rfl⟩
        have hxy : x = withS y ((g : Int) + (i : Int)) := by
          rw [← hx, ← hy, list_at AA.out HH.out i hl1, HG.out]
          congr 1
          rw [List.getElem_take, List.getD_eq_getElem?_getD, List.getElem?_eq_getElem (by rw [List.length_take] at hl2; omega)]
          rfl
        rw [hxy] at hx
        have cx : RecAt wr.drew ga (oa + i * 10) (withS y ((g : Int) + (i : Int))) := cells_at (R6.out.keep KK.out.drew (fun _ _ h => h)) i hl1 _ hx
        have cy : RecAt wr.drew gb (ob + (g + i) * 10) y := cells_at (HAL.out.keep TR.out.kp.drew (fun _ _ h => h)) (g + i) hl2 y hy
        clear hxy hx hy x
        have KD : Keep (fun _ => False) W6 wr.drew := KK.out.drew
        have S0 : wr.drew.cell? ⟨w5.heap.size, 2, none⟩ = some (.slice (some ⟨ga, oa, none⟩) m m) := u2
        have e4 : IntKind.i64.wrap ((g : Int) + (i : Int)) = (g : Int) + (i : Int) := IntWalk.i64_in _ ⟨by omega, by omega⟩
        have e6 : ((g : Int) + (i : Int)).toNat = g + i := by omega
        have e5 : (g : Int) + (i : Int) < (40 : Int) := by have := HGM.out; omega
        have e7 : (0 : Int) ≤ (g : Int) + (i : Int) := by omega
        have TD := hid (TR.out.same ((Keep.refl (fun _ => False) wr).drew))
        have HKD := hid KD
        clear KD
        go_wp2_with fail
        refine wp_region_steps [0,0,0,0,0,0,0,0,0,0,0,2,2,2,2] (fun W => W.cell? ⟨w5.heap.size, 2, none⟩ = some (.slice (some ⟨ga, oa, none⟩) m m) ∧ RecAt W ga (oa + i * 10) (withS y ((g : Int) + (i : Int))) ∧ RecAt W gb (ob + (g + i) * 10) y) (by kernel_rfl) ⟨S0, cx, cy⟩ ?_
        obtain ⟨D, hD⟩ : ∃ D, wr.drew = D := ⟨_, rfl⟩
        rw [hD] at S0 cx cy TD HKD ⊢
        clear hD
        refine' anyX_calm (v := _) 0 rfl (by kernel_rfl) (by rfl) (fun W hW => ?_) ?_; rotate_left
        · (skip; go_simp; first | done | rfl)
        (try simp only [List.getElem_toArray, List.getElem_cons_zero, List.getElem_cons_succ, Act.put, List.setIfInBounds_toArray, List.set_cons_zero, List.set_cons_succ])
        refine' anyX_calm (v := _) 1 rfl (by kernel_rfl) (by rfl) (fun W hW => ?_) ?_; rotate_left
        · (have h2 := hW.1; go_simp; first | done | rfl)
        (try simp only [List.getElem_toArray, List.getElem_cons_zero, List.getElem_cons_succ, Act.put, List.setIfInBounds_toArray, List.set_cons_zero, List.set_cons_succ])
        refine' anyX_calm (v := _) 2 rfl (by kernel_rfl) (by rfl) (fun W hW => ?_) ?_; rotate_left
        · (skip; go_simp; first | done | rfl)
        (try simp only [List.getElem_toArray, List.getElem_cons_zero, List.getElem_cons_succ, Act.put, List.setIfInBounds_toArray, List.set_cons_zero, List.set_cons_succ])
        refine' anyX_calm (v := _) 3 rfl (by kernel_rfl) (by rfl) (fun W hW => ?_) ?_; rotate_left
        · (skip; go_simp; first | done | rfl)
        (try simp only [List.getElem_toArray, List.getElem_cons_zero, List.getElem_cons_succ, Act.put, List.setIfInBounds_toArray, List.set_cons_zero, List.set_cons_succ])
        refine' anyX_calm (v := _) 4 rfl (by kernel_rfl) (by rfl) (fun W hW => ?_) ?_; rotate_left
        · (have hB := hW.2.1; have q0 : W.cell? ⟨ga, oa + i * 10, none⟩ = some (.int .i64 ((g : Int) + (i : Int))) := hB 0 _ rfl; have q1 : W.cell? ⟨ga, oa + i * 10 + 1, none⟩ = some (.int .i64 y.t) := hB 1 _ rfl; have q2 : W.cell? ⟨ga, oa + i * 10 + 2, none⟩ = some (.int .i64 y.c) := hB 2 _ rfl; have q3 : W.cell? ⟨ga, oa + i * 10 + 3, none⟩ = some (.int .i64 y.o) := hB 3 _ rfl; have q4 : W.cell? ⟨ga, oa + i * 10 + 4, none⟩ = some (.int .i64 y.e) := hB 4 _ rfl; have q5 : W.cell? ⟨ga, oa + i * 10 + 5, none⟩ = some (.int .i64 y.n) := hB 5 _ rfl; have q6 : W.cell? ⟨ga, oa + i * 10 + 6, none⟩ = some (.int .i64 y.m) := hB 6 _ rfl; have q7 : W.cell? ⟨ga, oa + i * 10 + 7, none⟩ = some (.int .i64 y.a) := hB 7 _ rfl; have q8 : W.cell? ⟨ga, oa + i * 10 + 8, none⟩ = some (.int .i64 y.b) := hB 8 _ rfl; have q9 : W.cell? ⟨ga, oa + i * 10 + 9, none⟩ = some (.int .i64 y.d) := hB 9 _ rfl; go_simp; first | done | rfl)
        (try simp only [List.getElem_toArray, List.getElem_cons_zero, List.getElem_cons_succ, Act.put, List.setIfInBounds_toArray, List.set_cons_zero, List.set_cons_succ])
        refine' anyX_calm (v := _) 5 rfl (by kernel_rfl) (by rfl) (fun W hW => ?_) ?_; rotate_left
        · (skip; go_simp; first | done | rfl)
        (try simp only [List.getElem_toArray, List.getElem_cons_zero, List.getElem_cons_succ, Act.put, List.setIfInBounds_toArray, List.set_cons_zero, List.set_cons_succ])
        refine' anyX_calm (v := _) 6 rfl (by kernel_rfl) (by rfl) (fun W hW => ?_) ?_; rotate_left
        · (skip; go_simp; first | done | rfl)
        (try simp only [List.getElem_toArray, List.getElem_cons_zero, List.getElem_cons_succ, Act.put, List.setIfInBounds_toArray, List.set_cons_zero, List.set_cons_succ])
        refine' anyX_calm (v := _) 7 rfl (by kernel_rfl) (by rfl) (fun W hW => ?_) ?_; rotate_left
        · (skip; go_simp; first | done | rfl)
        (try simp only [List.getElem_toArray, List.getElem_cons_zero, List.getElem_cons_succ, Act.put, List.setIfInBounds_toArray, List.set_cons_zero, List.set_cons_succ])
        refine' anyX_calm (v := _) 8 rfl (by kernel_rfl) (by rfl) (fun W hW => ?_) ?_; rotate_left
        · (skip; go_simp; first | done | rfl)
        (try simp only [List.getElem_toArray, List.getElem_cons_zero, List.getElem_cons_succ, Act.put, List.setIfInBounds_toArray, List.set_cons_zero, List.set_cons_succ])
        refine' anyX_calm (v := _) 9 rfl (by kernel_rfl) (by rfl) (fun W hW => ?_) ?_; rotate_left
        · (skip; go_simp; first | done | rfl)
        (try simp only [List.getElem_toArray, List.getElem_cons_zero, List.getElem_cons_succ, Act.put, List.setIfInBounds_toArray, List.set_cons_zero, List.set_cons_succ])
        refine' anyX_calm (v := _) 10 rfl (by kernel_rfl) (by rfl) (fun W hW => ?_) ?_; rotate_left
        · (have hB := hW.2.2; have q0 : W.cell? ⟨gb, ob + (g + i) * 10, none⟩ = some (.int .i64 y.s) := hB 0 _ rfl; have q1 : W.cell? ⟨gb, ob + (g + i) * 10 + 1, none⟩ = some (.int .i64 y.t) := hB 1 _ rfl; have q2 : W.cell? ⟨gb, ob + (g + i) * 10 + 2, none⟩ = some (.int .i64 y.c) := hB 2 _ rfl; have q3 : W.cell? ⟨gb, ob + (g + i) * 10 + 3, none⟩ = some (.int .i64 y.o) := hB 3 _ rfl; have q4 : W.cell? ⟨gb, ob + (g + i) * 10 + 4, none⟩ = some (.int .i64 y.e) := hB 4 _ rfl; have q5 : W.cell? ⟨gb, ob + (g + i) * 10 + 5, none⟩ = some (.int .i64 y.n) := hB 5 _ rfl; have q6 : W.cell? ⟨gb, ob + (g + i) * 10 + 6, none⟩ = some (.int .i64 y.m) := hB 6 _ rfl; have q7 : W.cell? ⟨gb, ob + (g + i) * 10 + 7, none⟩ = some (.int .i64 y.a) := hB 7 _ rfl; have q8 : W.cell? ⟨gb, ob + (g + i) * 10 + 8, none⟩ = some (.int .i64 y.b) := hB 8 _ rfl; have q9 : W.cell? ⟨gb, ob + (g + i) * 10 + 9, none⟩ = some (.int .i64 y.d) := hB 9 _ rfl; go_simp; first | done | rfl)
        (try simp only [List.getElem_toArray, List.getElem_cons_zero, List.getElem_cons_succ, Act.put, List.setIfInBounds_toArray, List.set_cons_zero, List.set_cons_succ])
        refine anyX_two 11 12 rfl rfl (by kernel_rfl) rfl rfl (by rfl) (by rfl) (fun K hK => ?_) (fun K hK => ?_)
        · go_simp
          have ka : Keep (fun _ => False) D (D.alloc (.cells #[.int .i64 0, .int .i64 0, .int .i64 0, .int .i64 0, .int .i64 0, .int .i64 0, .int .i64 0, .int .i64 0, .int .i64 0, .int .i64 0] 42)) := (Keep.refl _ _).alloc _
          refine hK _ _ ⟨(ka.cell (p := ⟨w5.heap.size, 2, none⟩) (World.block_lt_of_cell? _ _ S0) (fun h => h)).trans S0, cx.keep ka, cy.keep ka⟩ ?_
          clear hK K
          (try simp only [List.getElem_toArray, List.getElem_cons_zero, List.getElem_cons_succ, Act.put, List.setIfInBounds_toArray, List.set_cons_zero, List.set_cons_succ])
          refine anyX_does 12 rfl (by kernel_rfl) (by rfl) (fun K hK => ?_)
          go_simp
          have kb : Keep (fun _ => False) D ((D.alloc (.cells #[.int .i64 0, .int .i64 0, .int .i64 0, .int .i64 0, .int .i64 0, .int .i64 0, .int .i64 0, .int .i64 0, .int .i64 0, .int .i64 0] 42)).alloc (.cells #[.int .i64 0, .int .i64 0, .int .i64 0, .int .i64 0, .int .i64 0, .int .i64 0, .int .i64 0, .int .i64 0, .int .i64 0, .int .i64 0] 42)) := ka.alloc _
          refine hK _ _ ⟨(kb.cell (p := ⟨w5.heap.size, 2, none⟩) (World.block_lt_of_cell? _ _ S0) (fun h => h)).trans S0, cx.keep kb, cy.keep kb⟩ ?_
          clear hK K
          (try simp only [List.getElem_toArray, List.getElem_cons_zero, List.getElem_cons_succ, Act.put, List.setIfInBounds_toArray, List.set_cons_zero, List.set_cons_succ])
          have rA : ((D.alloc (.cells #[.int .i64 0, .int .i64 0, .int .i64 0, .int .i64 0, .int .i64 0, .int .i64 0, .int .i64 0, .int .i64 0, .int .i64 0, .int .i64 0] 42)).alloc (.cells #[.int .i64 0, .int .i64 0, .int .i64 0, .int .i64 0, .int .i64 0, .int .i64 0, .int .i64 0, .int .i64 0, .int .i64 0, .int .i64 0] 42)).heap[D.heap.size]? = some (.cells #[.int .i64 0, .int .i64 0, .int .i64 0, .int .i64 0, .int .i64 0, .int .i64 0, .int .i64 0, .int .i64 0, .int .i64 0, .int .i64 0] 42 (0, 0)) := by
            rw [heap_alloc_old _ _ (by rw [World.size_alloc]; exact Nat.lt_succ_self _)]
            exact heap_alloc_new D _
          have rB : ((D.alloc (.cells #[.int .i64 0, .int .i64 0, .int .i64 0, .int .i64 0, .int .i64 0, .int .i64 0, .int .i64 0, .int .i64 0, .int .i64 0, .int .i64 0] 42)).alloc (.cells #[.int .i64 0, .int .i64 0, .int .i64 0, .int .i64 0, .int .i64 0, .int .i64 0, .int .i64 0, .int .i64 0, .int .i64 0, .int .i64 0] 42)).heap[D.heap.size + 1]? = some (.cells #[.int .i64 0, .int .i64 0, .int .i64 0, .int .i64 0, .int .i64 0, .int .i64 0, .int .i64 0, .int .i64 0, .int .i64 0, .int .i64 0] 42 (0, 0)) := by
            have h := heap_alloc_new (D.alloc (.cells #[.int .i64 0, .int .i64 0, .int .i64 0, .int .i64 0, .int .i64 0, .int .i64 0, .int .i64 0, .int .i64 0, .int .i64 0, .int .i64 0] 42)) (.cells #[.int .i64 0, .int .i64 0, .int .i64 0, .int .i64 0, .int .i64 0, .int .i64 0, .int .i64 0, .int .i64 0, .int .i64 0, .int .i64 0] 42)
            rwa [World.size_alloc] at h
          have szw : (D.alloc (.cells #[.int .i64 0, .int .i64 0, .int .i64 0, .int .i64 0, .int .i64 0, .int .i64 0, .int .i64 0, .int .i64 0, .int .i64 0, .int .i64 0] 42)).heap.size = D.heap.size + 1 := World.size_alloc _ _
          obtain ⟨V, hV⟩ : ∃ V, (D.alloc (.cells #[.int .i64 0, .int .i64 0, .int .i64 0, .int .i64 0, .int .i64 0, .int .i64 0, .int .i64 0, .int .i64 0, .int .i64 0, .int .i64 0] 42)).alloc (.cells #[.int .i64 0, .int .i64 0, .int .i64 0, .int .i64 0, .int .i64 0, .int .i64 0, .int .i64 0, .int .i64 0, .int .i64 0, .int .i64 0] 42) = V := ⟨_, rfl⟩
          rw [hV] at kb rA rB ⊢
          try rw [szw]
          clear ka hV szw
          have kc : Keep (fun _ => False) D (V.setRow (D.heap.size) #[.int .i64 ((g : Int) + (i : Int)), .int .i64 y.t, .int .i64 y.c, .int .i64 y.o, .int .i64 y.e, .int .i64 y.n, .int .i64 y.m, .int .i64 y.a, .int .i64 y.b, .int .i64 y.d]) := kb.setRow (by omega) _
          have rX := setRow_heap V (D.heap.size) _ #[.int .i64 ((g : Int) + (i : Int)), .int .i64 y.t, .int .i64 y.c, .int .i64 y.o, .int .i64 y.e, .int .i64 y.n, .int .i64 y.m, .int .i64 y.a, .int .i64 y.b, .int .i64 y.d] _ _ rA
          have rY := (setRow_other V (D.heap.size) (D.heap.size + 1) #[.int .i64 ((g : Int) + (i : Int)), .int .i64 y.t, .int .i64 y.c, .int .i64 y.o, .int .i64 y.e, .int .i64 y.n, .int .i64 y.m, .int .i64 y.a, .int .i64 y.b, .int .i64 y.d] (by omega)).trans rB
          refine anyX_does 13 rfl (by kernel_rfl) (by rfl) (fun K hK => ?_)
          refine wp_store_row 42 (.tmp 12) (.tmp 65) rfl (D.heap.size) #[.int .i64 ((g : Int) + (i : Int)), .int .i64 y.t, .int .i64 y.c, .int .i64 y.o, .int .i64 y.e, .int .i64 y.n, .int .i64 y.m, .int .i64 y.a, .int .i64 y.b, .int .i64 y.d] rfl rfl 42 _ rA info_size_rec rfl (by simp [Value.oneCell']) ?_
          refine hK _ _ ⟨(kc.cell (p := ⟨w5.heap.size, 2, none⟩) (World.block_lt_of_cell? _ _ S0) (fun h => h)).trans S0, cx.keep kc, cy.keep kc⟩ ?_
          clear hK K
          (try simp only [List.getElem_toArray, List.getElem_cons_zero, List.getElem_cons_succ, Act.put, List.setIfInBounds_toArray, List.set_cons_zero, List.set_cons_succ])
          obtain ⟨V2, hV2⟩ : ∃ V2, V.setRow (D.heap.size) #[.int .i64 ((g : Int) + (i : Int)), .int .i64 y.t, .int .i64 y.c, .int .i64 y.o, .int .i64 y.e, .int .i64 y.n, .int .i64 y.m, .int .i64 y.a, .int .i64 y.b, .int .i64 y.d] = V2 := ⟨_, rfl⟩
          rw [hV2] at kc rX rY ⊢
          clear hV2 rA rB kb
          have kd : Keep (fun _ => False) D (V2.setRow (D.heap.size + 1) #[.int .i64 y.s, .int .i64 y.t, .int .i64 y.c, .int .i64 y.o, .int .i64 y.e, .int .i64 y.n, .int .i64 y.m, .int .i64 y.a, .int .i64 y.b, .int .i64 y.d]) := kc.setRow (by omega) _
          have rX2 := (setRow_other V2 (D.heap.size + 1) (D.heap.size) #[.int .i64 y.s, .int .i64 y.t, .int .i64 y.c, .int .i64 y.o, .int .i64 y.e, .int .i64 y.n, .int .i64 y.m, .int .i64 y.a, .int .i64 y.b, .int .i64 y.d] (by omega)).trans rX
          have rY2 := setRow_heap V2 (D.heap.size + 1) _ #[.int .i64 y.s, .int .i64 y.t, .int .i64 y.c, .int .i64 y.o, .int .i64 y.e, .int .i64 y.n, .int .i64 y.m, .int .i64 y.a, .int .i64 y.b, .int .i64 y.d] _ _ rY
          refine anyX_does 14 rfl (by kernel_rfl) (by rfl) (fun K hK => ?_)
          refine wp_store_row 42 (.tmp 13) (.tmp 71) rfl (D.heap.size + 1) #[.int .i64 y.s, .int .i64 y.t, .int .i64 y.c, .int .i64 y.o, .int .i64 y.e, .int .i64 y.n, .int .i64 y.m, .int .i64 y.a, .int .i64 y.b, .int .i64 y.d] rfl rfl 42 _ rY info_size_rec rfl (by simp [Value.oneCell']) ?_
          refine hK _ _ ⟨(kd.cell (p := ⟨w5.heap.size, 2, none⟩) (World.block_lt_of_cell? _ _ S0) (fun h => h)).trans S0, cx.keep kd, cy.keep kd⟩ ?_
          clear hK K
          (try simp only [List.getElem_toArray, List.getElem_cons_zero, List.getElem_cons_succ, Act.put, List.setIfInBounds_toArray, List.set_cons_zero, List.set_cons_succ])
          obtain ⟨V3, hV3⟩ : ∃ V3, V2.setRow (D.heap.size + 1) #[.int .i64 y.s, .int .i64 y.t, .int .i64 y.c, .int .i64 y.o, .int .i64 y.e, .int .i64 y.n, .int .i64 y.m, .int .i64 y.a, .int .i64 y.b, .int .i64 y.d] = V3 := ⟨_, rfl⟩
          rw [hV3] at kd rX2 rY2 ⊢
          have KV := hid (HKD.out.trans kd)
          have x0 : V3.cell? ⟨D.heap.size, 0, none⟩ = some (.int .i64 ((g : Int) + (i : Int))) := by rw [cell_of_row _ _ 0 _ _ _ rX2]; rfl
          have y0 : V3.cell? ⟨D.heap.size + 1, 0, none⟩ = some (.int .i64 y.s) := by rw [cell_of_row _ _ 0 _ _ _ rY2]; rfl
          have x1 : V3.cell? ⟨D.heap.size, 1, none⟩ = some (.int .i64 y.t) := by rw [cell_of_row _ _ 1 _ _ _ rX2]; rfl
          have y1 : V3.cell? ⟨D.heap.size + 1, 1, none⟩ = some (.int .i64 y.t) := by rw [cell_of_row _ _ 1 _ _ _ rY2]; rfl
          have x2 : V3.cell? ⟨D.heap.size, 2, none⟩ = some (.int .i64 y.c) := by rw [cell_of_row _ _ 2 _ _ _ rX2]; rfl
          have y2 : V3.cell? ⟨D.heap.size + 1, 2, none⟩ = some (.int .i64 y.c) := by rw [cell_of_row _ _ 2 _ _ _ rY2]; rfl
          have x3 : V3.cell? ⟨D.heap.size, 3, none⟩ = some (.int .i64 y.o) := by rw [cell_of_row _ _ 3 _ _ _ rX2]; rfl
          have y3 : V3.cell? ⟨D.heap.size + 1, 3, none⟩ = some (.int .i64 y.o) := by rw [cell_of_row _ _ 3 _ _ _ rY2]; rfl
          have x4 : V3.cell? ⟨D.heap.size, 4, none⟩ = some (.int .i64 y.e) := by rw [cell_of_row _ _ 4 _ _ _ rX2]; rfl
          have y4 : V3.cell? ⟨D.heap.size + 1, 4, none⟩ = some (.int .i64 y.e) := by rw [cell_of_row _ _ 4 _ _ _ rY2]; rfl
          have x5 : V3.cell? ⟨D.heap.size, 5, none⟩ = some (.int .i64 y.n) := by rw [cell_of_row _ _ 5 _ _ _ rX2]; rfl
          have y5 : V3.cell? ⟨D.heap.size + 1, 5, none⟩ = some (.int .i64 y.n) := by rw [cell_of_row _ _ 5 _ _ _ rY2]; rfl
          have x6 : V3.cell? ⟨D.heap.size, 6, none⟩ = some (.int .i64 y.m) := by rw [cell_of_row _ _ 6 _ _ _ rX2]; rfl
          have y6 : V3.cell? ⟨D.heap.size + 1, 6, none⟩ = some (.int .i64 y.m) := by rw [cell_of_row _ _ 6 _ _ _ rY2]; rfl
          have x7 : V3.cell? ⟨D.heap.size, 7, none⟩ = some (.int .i64 y.a) := by rw [cell_of_row _ _ 7 _ _ _ rX2]; rfl
          have y7 : V3.cell? ⟨D.heap.size + 1, 7, none⟩ = some (.int .i64 y.a) := by rw [cell_of_row _ _ 7 _ _ _ rY2]; rfl
          have x8 : V3.cell? ⟨D.heap.size, 8, none⟩ = some (.int .i64 y.b) := by rw [cell_of_row _ _ 8 _ _ _ rX2]; rfl
          have y8 : V3.cell? ⟨D.heap.size + 1, 8, none⟩ = some (.int .i64 y.b) := by rw [cell_of_row _ _ 8 _ _ _ rY2]; rfl
          have x9 : V3.cell? ⟨D.heap.size, 9, none⟩ = some (.int .i64 y.d) := by rw [cell_of_row _ _ 9 _ _ _ rX2]; rfl
          have y9 : V3.cell? ⟨D.heap.size + 1, 9, none⟩ = some (.int .i64 y.d) := by rw [cell_of_row _ _ 9 _ _ _ rY2]; rfl
          clear hV3 kc kd rX rY rX2 rY2
          refine anyX_done (by kernel_rfl) ?_
          go_wp2_with fail
          go_roundw
          case rel => exact ⟨i + 1, by omega, KV.out, by go_num⟩
          case measure => simp [intOf]; omega
        · go_simp
          have ka : Keep (fun _ => False) D (D.alloc (.cells #[.int .i64 0, .int .i64 0, .int .i64 0, .int .i64 0, .int .i64 0, .int .i64 0, .int .i64 0, .int .i64 0, .int .i64 0, .int .i64 0] 42)) := (Keep.refl _ _).alloc _
          refine hK _ _ ⟨(ka.cell (p := ⟨w5.heap.size, 2, none⟩) (World.block_lt_of_cell? _ _ S0) (fun h => h)).trans S0, cx.keep ka, cy.keep ka⟩ ?_
          clear hK K
          (try simp only [List.getElem_toArray, List.getElem_cons_zero, List.getElem_cons_succ, Act.put, List.setIfInBounds_toArray, List.set_cons_zero, List.set_cons_succ])
          refine anyX_does 11 rfl (by kernel_rfl) (by rfl) (fun K hK => ?_)
          go_simp
          have kb : Keep (fun _ => False) D ((D.alloc (.cells #[.int .i64 0, .int .i64 0, .int .i64 0, .int .i64 0, .int .i64 0, .int .i64 0, .int .i64 0, .int .i64 0, .int .i64 0, .int .i64 0] 42)).alloc (.cells #[.int .i64 0, .int .i64 0, .int .i64 0, .int .i64 0, .int .i64 0, .int .i64 0, .int .i64 0, .int .i64 0, .int .i64 0, .int .i64 0] 42)) := ka.alloc _
          refine hK _ _ ⟨(kb.cell (p := ⟨w5.heap.size, 2, none⟩) (World.block_lt_of_cell? _ _ S0) (fun h => h)).trans S0, cx.keep kb, cy.keep kb⟩ ?_
          clear hK K
          (try simp only [List.getElem_toArray, List.getElem_cons_zero, List.getElem_cons_succ, Act.put, List.setIfInBounds_toArray, List.set_cons_zero, List.set_cons_succ])
          have rA : ((D.alloc (.cells #[.int .i64 0, .int .i64 0, .int .i64 0, .int .i64 0, .int .i64 0, .int .i64 0, .int .i64 0, .int .i64 0, .int .i64 0, .int .i64 0] 42)).alloc (.cells #[.int .i64 0, .int .i64 0, .int .i64 0, .int .i64 0, .int .i64 0, .int .i64 0, .int .i64 0, .int .i64 0, .int .i64 0, .int .i64 0] 42)).heap[D.heap.size]? = some (.cells #[.int .i64 0, .int .i64 0, .int .i64 0, .int .i64 0, .int .i64 0, .int .i64 0, .int .i64 0, .int .i64 0, .int .i64 0, .int .i64 0] 42 (0, 0)) := by
            rw [heap_alloc_old _ _ (by rw [World.size_alloc]; exact Nat.lt_succ_self _)]
            exact heap_alloc_new D _
          have rB : ((D.alloc (.cells #[.int .i64 0, .int .i64 0, .int .i64 0, .int .i64 0, .int .i64 0, .int .i64 0, .int .i64 0, .int .i64 0, .int .i64 0, .int .i64 0] 42)).alloc (.cells #[.int .i64 0, .int .i64 0, .int .i64 0, .int .i64 0, .int .i64 0, .int .i64 0, .int .i64 0, .int .i64 0, .int .i64 0, .int .i64 0] 42)).heap[D.heap.size + 1]? = some (.cells #[.int .i64 0, .int .i64 0, .int .i64 0, .int .i64 0, .int .i64 0, .int .i64 0, .int .i64 0, .int .i64 0, .int .i64 0, .int .i64 0] 42 (0, 0)) := by
            have h := heap_alloc_new (D.alloc (.cells #[.int .i64 0, .int .i64 0, .int .i64 0, .int .i64 0, .int .i64 0, .int .i64 0, .int .i64 0, .int .i64 0, .int .i64 0, .int .i64 0] 42)) (.cells #[.int .i64 0, .int .i64 0, .int .i64 0, .int .i64 0, .int .i64 0, .int .i64 0, .int .i64 0, .int .i64 0, .int .i64 0, .int .i64 0] 42)
            rwa [World.size_alloc] at h
          have szw : (D.alloc (.cells #[.int .i64 0, .int .i64 0, .int .i64 0, .int .i64 0, .int .i64 0, .int .i64 0, .int .i64 0, .int .i64 0, .int .i64 0, .int .i64 0] 42)).heap.size = D.heap.size + 1 := World.size_alloc _ _
          obtain ⟨V, hV⟩ : ∃ V, (D.alloc (.cells #[.int .i64 0, .int .i64 0, .int .i64 0, .int .i64 0, .int .i64 0, .int .i64 0, .int .i64 0, .int .i64 0, .int .i64 0, .int .i64 0] 42)).alloc (.cells #[.int .i64 0, .int .i64 0, .int .i64 0, .int .i64 0, .int .i64 0, .int .i64 0, .int .i64 0, .int .i64 0, .int .i64 0, .int .i64 0] 42) = V := ⟨_, rfl⟩
          rw [hV] at kb rA rB ⊢
          try rw [szw]
          clear ka hV szw
          have kc : Keep (fun _ => False) D (V.setRow (D.heap.size + 1) #[.int .i64 ((g : Int) + (i : Int)), .int .i64 y.t, .int .i64 y.c, .int .i64 y.o, .int .i64 y.e, .int .i64 y.n, .int .i64 y.m, .int .i64 y.a, .int .i64 y.b, .int .i64 y.d]) := kb.setRow (by omega) _
          have rX := setRow_heap V (D.heap.size + 1) _ #[.int .i64 ((g : Int) + (i : Int)), .int .i64 y.t, .int .i64 y.c, .int .i64 y.o, .int .i64 y.e, .int .i64 y.n, .int .i64 y.m, .int .i64 y.a, .int .i64 y.b, .int .i64 y.d] _ _ rB
          have rY := (setRow_other V (D.heap.size + 1) (D.heap.size) #[.int .i64 ((g : Int) + (i : Int)), .int .i64 y.t, .int .i64 y.c, .int .i64 y.o, .int .i64 y.e, .int .i64 y.n, .int .i64 y.m, .int .i64 y.a, .int .i64 y.b, .int .i64 y.d] (by omega)).trans rA
          refine anyX_does 13 rfl (by kernel_rfl) (by rfl) (fun K hK => ?_)
          refine wp_store_row 42 (.tmp 12) (.tmp 65) rfl (D.heap.size + 1) #[.int .i64 ((g : Int) + (i : Int)), .int .i64 y.t, .int .i64 y.c, .int .i64 y.o, .int .i64 y.e, .int .i64 y.n, .int .i64 y.m, .int .i64 y.a, .int .i64 y.b, .int .i64 y.d] rfl rfl 42 _ rB info_size_rec rfl (by simp [Value.oneCell']) ?_
          refine hK _ _ ⟨(kc.cell (p := ⟨w5.heap.size, 2, none⟩) (World.block_lt_of_cell? _ _ S0) (fun h => h)).trans S0, cx.keep kc, cy.keep kc⟩ ?_
          clear hK K
          (try simp only [List.getElem_toArray, List.getElem_cons_zero, List.getElem_cons_succ, Act.put, List.setIfInBounds_toArray, List.set_cons_zero, List.set_cons_succ])
          obtain ⟨V2, hV2⟩ : ∃ V2, V.setRow (D.heap.size + 1) #[.int .i64 ((g : Int) + (i : Int)), .int .i64 y.t, .int .i64 y.c, .int .i64 y.o, .int .i64 y.e, .int .i64 y.n, .int .i64 y.m, .int .i64 y.a, .int .i64 y.b, .int .i64 y.d] = V2 := ⟨_, rfl⟩
          rw [hV2] at kc rX rY ⊢
          clear hV2 rA rB kb
          have kd : Keep (fun _ => False) D (V2.setRow (D.heap.size) #[.int .i64 y.s, .int .i64 y.t, .int .i64 y.c, .int .i64 y.o, .int .i64 y.e, .int .i64 y.n, .int .i64 y.m, .int .i64 y.a, .int .i64 y.b, .int .i64 y.d]) := kc.setRow (by omega) _
          have rX2 := (setRow_other V2 (D.heap.size) (D.heap.size + 1) #[.int .i64 y.s, .int .i64 y.t, .int .i64 y.c, .int .i64 y.o, .int .i64 y.e, .int .i64 y.n, .int .i64 y.m, .int .i64 y.a, .int .i64 y.b, .int .i64 y.d] (by omega)).trans rX
          have rY2 := setRow_heap V2 (D.heap.size) _ #[.int .i64 y.s, .int .i64 y.t, .int .i64 y.c, .int .i64 y.o, .int .i64 y.e, .int .i64 y.n, .int .i64 y.m, .int .i64 y.a, .int .i64 y.b, .int .i64 y.d] _ _ rY
          refine anyX_does 14 rfl (by kernel_rfl) (by rfl) (fun K hK => ?_)
          refine wp_store_row 42 (.tmp 13) (.tmp 71) rfl (D.heap.size) #[.int .i64 y.s, .int .i64 y.t, .int .i64 y.c, .int .i64 y.o, .int .i64 y.e, .int .i64 y.n, .int .i64 y.m, .int .i64 y.a, .int .i64 y.b, .int .i64 y.d] rfl rfl 42 _ rY info_size_rec rfl (by simp [Value.oneCell']) ?_
          refine hK _ _ ⟨(kd.cell (p := ⟨w5.heap.size, 2, none⟩) (World.block_lt_of_cell? _ _ S0) (fun h => h)).trans S0, cx.keep kd, cy.keep kd⟩ ?_
          clear hK K
          (try simp only [List.getElem_toArray, List.getElem_cons_zero, List.getElem_cons_succ, Act.put, List.setIfInBounds_toArray, List.set_cons_zero, List.set_cons_succ])
          obtain ⟨V3, hV3⟩ : ∃ V3, V2.setRow (D.heap.size) #[.int .i64 y.s, .int .i64 y.t, .int .i64 y.c, .int .i64 y.o, .int .i64 y.e, .int .i64 y.n, .int .i64 y.m, .int .i64 y.a, .int .i64 y.b, .int .i64 y.d] = V3 := ⟨_, rfl⟩
          rw [hV3] at kd rX2 rY2 ⊢
          have KV := hid (HKD.out.trans kd)
          have x0 : V3.cell? ⟨D.heap.size + 1, 0, none⟩ = some (.int .i64 ((g : Int) + (i : Int))) := by rw [cell_of_row _ _ 0 _ _ _ rX2]; rfl
          have y0 : V3.cell? ⟨D.heap.size, 0, none⟩ = some (.int .i64 y.s) := by rw [cell_of_row _ _ 0 _ _ _ rY2]; rfl
          have x1 : V3.cell? ⟨D.heap.size + 1, 1, none⟩ = some (.int .i64 y.t) := by rw [cell_of_row _ _ 1 _ _ _ rX2]; rfl
          have y1 : V3.cell? ⟨D.heap.size, 1, none⟩ = some (.int .i64 y.t) := by rw [cell_of_row _ _ 1 _ _ _ rY2]; rfl
          have x2 : V3.cell? ⟨D.heap.size + 1, 2, none⟩ = some (.int .i64 y.c) := by rw [cell_of_row _ _ 2 _ _ _ rX2]; rfl
          have y2 : V3.cell? ⟨D.heap.size, 2, none⟩ = some (.int .i64 y.c) := by rw [cell_of_row _ _ 2 _ _ _ rY2]; rfl
          have x3 : V3.cell? ⟨D.heap.size + 1, 3, none⟩ = some (.int .i64 y.o) := by rw [cell_of_row _ _ 3 _ _ _ rX2]; rfl
          have y3 : V3.cell? ⟨D.heap.size, 3, none⟩ = some (.int .i64 y.o) := by rw [cell_of_row _ _ 3 _ _ _ rY2]; rfl
          have x4 : V3.cell? ⟨D.heap.size + 1, 4, none⟩ = some (.int .i64 y.e) := by rw [cell_of_row _ _ 4 _ _ _ rX2]; rfl
          have y4 : V3.cell? ⟨D.heap.size, 4, none⟩ = some (.int .i64 y.e) := by rw [cell_of_row _ _ 4 _ _ _ rY2]; rfl
          have x5 : V3.cell? ⟨D.heap.size + 1, 5, none⟩ = some (.int .i64 y.n) := by rw [cell_of_row _ _ 5 _ _ _ rX2]; rfl
          have y5 : V3.cell? ⟨D.heap.size, 5, none⟩ = some (.int .i64 y.n) := by rw [cell_of_row _ _ 5 _ _ _ rY2]; rfl
          have x6 : V3.cell? ⟨D.heap.size + 1, 6, none⟩ = some (.int .i64 y.m) := by rw [cell_of_row _ _ 6 _ _ _ rX2]; rfl
          have y6 : V3.cell? ⟨D.heap.size, 6, none⟩ = some (.int .i64 y.m) := by rw [cell_of_row _ _ 6 _ _ _ rY2]; rfl
          have x7 : V3.cell? ⟨D.heap.size + 1, 7, none⟩ = some (.int .i64 y.a) := by rw [cell_of_row _ _ 7 _ _ _ rX2]; rfl
          have y7 : V3.cell? ⟨D.heap.size, 7, none⟩ = some (.int .i64 y.a) := by rw [cell_of_row _ _ 7 _ _ _ rY2]; rfl
          have x8 : V3.cell? ⟨D.heap.size + 1, 8, none⟩ = some (.int .i64 y.b) := by rw [cell_of_row _ _ 8 _ _ _ rX2]; rfl
          have y8 : V3.cell? ⟨D.heap.size, 8, none⟩ = some (.int .i64 y.b) := by rw [cell_of_row _ _ 8 _ _ _ rY2]; rfl
          have x9 : V3.cell? ⟨D.heap.size + 1, 9, none⟩ = some (.int .i64 y.d) := by rw [cell_of_row _ _ 9 _ _ _ rX2]; rfl
          have y9 : V3.cell? ⟨D.heap.size, 9, none⟩ = some (.int .i64 y.d) := by rw [cell_of_row _ _ 9 _ _ _ rY2]; rfl
          clear hV3 kc kd rX rY rX2 rY2
          refine anyX_done (by kernel_rfl) ?_
          go_wp2_with fail
          go_roundw
          case rel => exact ⟨i + 1, by omega, KV.out, by go_num⟩
          case measure => simp [intOf]; omega
      · obtain rfl : i = m := by omega
        have hli : ¬ (i : Int) < (i : Int) := by omega
        clear hlt
        go_wp2_with fail
        refine (aawake_any _).mono ?_
        rintro _ w8 ⟨rfl, k8⟩
        have s0 := (k8.cell (p := ⟨w5.heap.size, 0, none⟩) (World.block_lt_of_cell? _ _ u0) (fun h => h)).trans u0
        have s1 := (k8.cell (p := ⟨w5.heap.size, 1, none⟩) (World.block_lt_of_cell? _ _ u1) (fun h => h)).trans u1
        have s2 := (k8.cell (p := ⟨w5.heap.size, 2, none⟩) (World.block_lt_of_cell? _ _ u2) (fun h => h)).trans u2
        have s3 := (k8.cell (p := ⟨w5.heap.size, 3, none⟩) (World.block_lt_of_cell? _ _ u3) (fun h => h)).trans u3
        have T8 := hid (TR.out.same k8)
        have R8 := hid (R6.out.keep (KK.out.trans k8) (fun _ _ h => h))
        clear k8 u0 u1 u2 u3
        go_wp2_with fail
        refine (VF.out _ R8.out).mono ?_
        rintro _ w9 ⟨rfl, k9⟩
        have T9 := hid (T8.out.same k9)
        clear k9
        go_wp2_with fail
        go_ret
        exact ⟨rfl, T9.out.kp.below (fun _ h => h.elim) (Nat.le_refl _)⟩
  · have HAL : Hid (ReadR w (.slice a0 n c0) (l.take 40)) := hid (by rw [List.take_of_length_le (by rw [HN.out]; omega)]; exact H.out)
    have n40 : n ≤ 40 := by omega
    go_wp2_with fail
    have lb : L.l.length ≤ 100000 := by rw [AA.out.list, List.length_drop, HLE.out]; omega
    refine (aview_any TT.out.la lb).mono ?_
    rintro _ w5 ⟨v5, rfl, m5, f5, k5⟩
    obtain ⟨m, hm⟩ : ∃ m, L.l.length = m := ⟨_, rfl⟩
    obtain ⟨g, hg⟩ : ∃ g, goneR R = g := ⟨_, rfl⟩
    have hmg : m = n - g := by rw [← hm, ← hg, AA.out.list, List.length_drop, HLE.out]; omega
    have hgd : (L.drop : Int) = (g : Int) := by rw [← hg, AA.out.drop]
    have hgn : g = n - q := by rw [← hg, HGO.out]; omega
    obtain ⟨B, hB⟩ : ∃ B, bya L.base = B := ⟨_, rfl⟩
    obtain ⟨E, hE⟩ : ∃ B, bya L.head = B := ⟨_, rfl⟩
    obtain ⟨a5, hv5⟩ := m5.form
    rw [hm] at hv5
    subst hv5
    unfold viewV
    rw [hB, hE, hgd]
    have R5 := hid m5.reads
    have T5 := hid (TT.out.same k5)
    have HM := hid hm
    have HG := hid hg
    have HGD := hid hgd
    have HB := hid hB
    have HE := hid hE
    have vz : ver (g : Int) L.base L.l L.head = 0 := by rw [← hgd]; exact ver_log AA.out HH.out (by rw [HLE.out]; omega) TT.out.la.bl TT.out.la.hl
    have VF : Hid (∀ W, ReadR W (.slice a5 m m) L.l → Calls Try.prog 25 #[.agg #[.int .i64 (g : Int), .string B, .slice a5 m m, .string E]] W fun x w' => x = .returned (.int .i64 0) ∧ Keep (fun _ => False) W w') := hid (fun W hr => by
      have := verify_any hr (g : Int) L.base L.head
      unfold viewV at this
      rw [hB, hE, vz] at this
      exact this)
    clear m5 f5 k5 hm hg hgd hB hE lb vz
    obtain ⟨W6, hW6⟩ : ∃ W, w5.alloc (.cells #[.int .i64 (g : Int), .string B, .slice a5 m m, .string E] 45) = W := ⟨_, rfl⟩
    have K6 : Keep (fun _ => False) w5 W6 := by rw [← hW6]; exact (Keep.refl _ _).alloc _
    have row6 : W6.heap[w5.heap.size]? = some (.cells #[.int .i64 (g : Int), .string B, .slice a5 m m, .string E] 45 (0, 0)) := by rw [← hW6]; exact heap_alloc_new w5 _
    have z0 : W6.cell? ⟨w5.heap.size, 0, none⟩ = some (.int .i64 (g : Int)) := by rw [cell_of_row _ _ 0 _ _ _ row6]; rfl
    have z1 : W6.cell? ⟨w5.heap.size, 1, none⟩ = some (.string B) := by rw [cell_of_row _ _ 1 _ _ _ row6]; rfl
    have z2 : W6.cell? ⟨w5.heap.size, 2, none⟩ = some (.slice a5 m m) := by rw [cell_of_row _ _ 2 _ _ _ row6]; rfl
    have z3 : W6.cell? ⟨w5.heap.size, 3, none⟩ = some (.string E) := by rw [cell_of_row _ _ 3 _ _ _ row6]; rfl
    have HW6 := hid hW6
    have BL6 : w5.heap.size < W6.heap.size := lt_of_heap row6
    have T6 := hid (T5.out.same K6)
    have R6 := hid (R5.out.keep K6 (fun _ _ h => h))
    have ROW6 := hid row6
    clear hW6 K6 row6 T5 R5
    by_cases hgt : (n : Int) > (q : Int)
    · have e1 : (n : Int) - (q : Int) = (g : Int) := by omega
      have e2 : (n : Int) - (g : Int) = (m : Int) := by omega
      have e3 : m ≤ 16 := by omega
      have HGM : Hid (g + m = n) := hid (by omega)
      clear hmg hgn
      go_wp2_with fail
      rw [HW6.out]
      go_loopw [11] (fun iv wr => ∃ (i : Nat), i ≤ m ∧ Keep (fun _ => False) W6 wr ∧ iv = .int .i64 i) (fun iv _ => m - (intOf iv).toNat)
      case atStart => exact ⟨0, by omega, Keep.refl _ _, rfl⟩
      case round =>
        obtain ⟨i, hi, hK, rfl⟩ := hrel
        have u0 := (hK.cell (p := ⟨w5.heap.size, 0, none⟩) BL6 (fun h => h)).trans z0
        have u1 := (hK.cell (p := ⟨w5.heap.size, 1, none⟩) BL6 (fun h => h)).trans z1
        have u2 := (hK.cell (p := ⟨w5.heap.size, 2, none⟩) BL6 (fun h => h)).trans z2
        have u3 := (hK.cell (p := ⟨w5.heap.size, 3, none⟩) BL6 (fun h => h)).trans z3
        have KK := hid hK
        have TR := hid (T6.out.same hK)
        clear hK z0 z1 z2 z3
        by_cases hlt : i < m
        · have hli : (i : Int) < m := by omega
          have hl1 : i < L.l.length := by rw [HM.out]; exact hlt
          obtain ⟨ga, oa, ha⟩ := R6.out.addr (by omega)
          obtain ⟨gb, ob, hb⟩ := HAL.out.addr (by rw [List.length_take, HN.out]; have := HGM.out; omega)
          subst ha hb
          have hl2 : g + i < (l.take 40).length := by rw [List.length_take, HN.out]; have := HGM.out; omega
          obtain ⟨x, hx⟩ : ∃ x, L.l[i] = x := ⟨_, rfl⟩
          obtain ⟨y, hy⟩ : ∃ y, (l.take 40)[g + i] = y := ⟨_, rfl⟩
          have hxy : x = withS y ((g : Int) + (i : Int)) := by
            rw [← hx, ← hy, list_at AA.out HH.out i hl1, HG.out]
            congr 1
            rw [List.getElem_take, List.getD_eq_getElem?_getD, List.getElem?_eq_getElem (by rw [List.length_take] at hl2; omega)]
            rfl
          rw [hxy] at hx
          have cx : RecAt wr.drew ga (oa + i * 10) (withS y ((g : Int) + (i : Int))) := cells_at (R6.out.keep KK.out.drew (fun _ _ h => h)) i hl1 _ hx
          have cy : RecAt wr.drew gb (ob + (g + i) * 10) y := cells_at (HAL.out.keep TR.out.kp.drew (fun _ _ h => h)) (g + i) hl2 y hy
          clear hxy hx hy x
          have KD : Keep (fun _ => False) W6 wr.drew := KK.out.drew
          have S0 : wr.drew.cell? ⟨w5.heap.size, 2, none⟩ = some (.slice (some ⟨ga, oa, none⟩) m m) := u2
          have e4 : IntKind.i64.wrap ((g : Int) + (i : Int)) = (g : Int) + (i : Int) := IntWalk.i64_in _ ⟨by omega, by omega⟩
          have e6 : ((g : Int) + (i : Int)).toNat = g + i := by omega
          have e5 : (g : Int) + (i : Int) < (n : Int) := by have := HGM.out; omega
          have e7 : (0 : Int) ≤ (g : Int) + (i : Int) := by omega
          have TD := hid (TR.out.same ((Keep.refl (fun _ => False) wr).drew))
          have HKD := hid KD
          clear KD
          go_wp2_with fail
          refine wp_region_steps [0,0,0,0,0,0,0,0,0,0,0,2,2,2,2] (fun W => W.cell? ⟨w5.heap.size, 2, none⟩ = some (.slice (some ⟨ga, oa, none⟩) m m) ∧ RecAt W ga (oa + i * 10) (withS y ((g : Int) + (i : Int))) ∧ RecAt W gb (ob + (g + i) * 10) y) (by kernel_rfl) ⟨S0, cx, cy⟩ ?_
          obtain ⟨D, hD⟩ : ∃ D, wr.drew = D := ⟨_, rfl⟩
          rw [hD] at S0 cx cy TD HKD ⊢
          clear hD
          refine' anyX_calm (v := _) 0 rfl (by kernel_rfl) (by rfl) (fun W hW => ?_) ?_; rotate_left
          · (skip; go_simp; first | done | rfl)
          (try simp only [List.getElem_toArray, List.getElem_cons_zero, List.getElem_cons_succ, Act.put, List.setIfInBounds_toArray, List.set_cons_zero, List.set_cons_succ])
          refine' anyX_calm (v := _) 1 rfl (by kernel_rfl) (by rfl) (fun W hW => ?_) ?_; rotate_left
          · (have h2 := hW.1; go_simp; first | done | rfl)
          (try simp only [List.getElem_toArray, List.getElem_cons_zero, List.getElem_cons_succ, Act.put, List.setIfInBounds_toArray, List.set_cons_zero, List.set_cons_succ])
          refine' anyX_calm (v := _) 2 rfl (by kernel_rfl) (by rfl) (fun W hW => ?_) ?_; rotate_left
          · (skip; go_simp; first | done | rfl)
          (try simp only [List.getElem_toArray, List.getElem_cons_zero, List.getElem_cons_succ, Act.put, List.setIfInBounds_toArray, List.set_cons_zero, List.set_cons_succ])
          refine' anyX_calm (v := _) 3 rfl (by kernel_rfl) (by rfl) (fun W hW => ?_) ?_; rotate_left
          · (skip; go_simp; first | done | rfl)
          (try simp only [List.getElem_toArray, List.getElem_cons_zero, List.getElem_cons_succ, Act.put, List.setIfInBounds_toArray, List.set_cons_zero, List.set_cons_succ])
          refine' anyX_calm (v := _) 4 rfl (by kernel_rfl) (by rfl) (fun W hW => ?_) ?_; rotate_left
          · (have hB := hW.2.1; have q0 : W.cell? ⟨ga, oa + i * 10, none⟩ = some (.int .i64 ((g : Int) + (i : Int))) := hB 0 _ rfl; have q1 : W.cell? ⟨ga, oa + i * 10 + 1, none⟩ = some (.int .i64 y.t) := hB 1 _ rfl; have q2 : W.cell? ⟨ga, oa + i * 10 + 2, none⟩ = some (.int .i64 y.c) := hB 2 _ rfl; have q3 : W.cell? ⟨ga, oa + i * 10 + 3, none⟩ = some (.int .i64 y.o) := hB 3 _ rfl; have q4 : W.cell? ⟨ga, oa + i * 10 + 4, none⟩ = some (.int .i64 y.e) := hB 4 _ rfl; have q5 : W.cell? ⟨ga, oa + i * 10 + 5, none⟩ = some (.int .i64 y.n) := hB 5 _ rfl; have q6 : W.cell? ⟨ga, oa + i * 10 + 6, none⟩ = some (.int .i64 y.m) := hB 6 _ rfl; have q7 : W.cell? ⟨ga, oa + i * 10 + 7, none⟩ = some (.int .i64 y.a) := hB 7 _ rfl; have q8 : W.cell? ⟨ga, oa + i * 10 + 8, none⟩ = some (.int .i64 y.b) := hB 8 _ rfl; have q9 : W.cell? ⟨ga, oa + i * 10 + 9, none⟩ = some (.int .i64 y.d) := hB 9 _ rfl; go_simp; first | done | rfl)
          (try simp only [List.getElem_toArray, List.getElem_cons_zero, List.getElem_cons_succ, Act.put, List.setIfInBounds_toArray, List.set_cons_zero, List.set_cons_succ])
          refine' anyX_calm (v := _) 5 rfl (by kernel_rfl) (by rfl) (fun W hW => ?_) ?_; rotate_left
          · (skip; go_simp; first | done | rfl)
          (try simp only [List.getElem_toArray, List.getElem_cons_zero, List.getElem_cons_succ, Act.put, List.setIfInBounds_toArray, List.set_cons_zero, List.set_cons_succ])
          refine' anyX_calm (v := _) 6 rfl (by kernel_rfl) (by rfl) (fun W hW => ?_) ?_; rotate_left
          · (skip; go_simp; first | done | rfl)
          (try simp only [List.getElem_toArray, List.getElem_cons_zero, List.getElem_cons_succ, Act.put, List.setIfInBounds_toArray, List.set_cons_zero, List.set_cons_succ])
          refine' anyX_calm (v := _) 7 rfl (by kernel_rfl) (by rfl) (fun W hW => ?_) ?_; rotate_left
          · (skip; go_simp; first | done | rfl)
          (try simp only [List.getElem_toArray, List.getElem_cons_zero, List.getElem_cons_succ, Act.put, List.setIfInBounds_toArray, List.set_cons_zero, List.set_cons_succ])
          refine' anyX_calm (v := _) 8 rfl (by kernel_rfl) (by rfl) (fun W hW => ?_) ?_; rotate_left
          · (skip; go_simp; first | done | rfl)
          (try simp only [List.getElem_toArray, List.getElem_cons_zero, List.getElem_cons_succ, Act.put, List.setIfInBounds_toArray, List.set_cons_zero, List.set_cons_succ])
          refine' anyX_calm (v := _) 9 rfl (by kernel_rfl) (by rfl) (fun W hW => ?_) ?_; rotate_left
          · (skip; go_simp; first | done | rfl)
          (try simp only [List.getElem_toArray, List.getElem_cons_zero, List.getElem_cons_succ, Act.put, List.setIfInBounds_toArray, List.set_cons_zero, List.set_cons_succ])
          refine' anyX_calm (v := _) 10 rfl (by kernel_rfl) (by rfl) (fun W hW => ?_) ?_; rotate_left
          · (have hB := hW.2.2; have q0 : W.cell? ⟨gb, ob + (g + i) * 10, none⟩ = some (.int .i64 y.s) := hB 0 _ rfl; have q1 : W.cell? ⟨gb, ob + (g + i) * 10 + 1, none⟩ = some (.int .i64 y.t) := hB 1 _ rfl; have q2 : W.cell? ⟨gb, ob + (g + i) * 10 + 2, none⟩ = some (.int .i64 y.c) := hB 2 _ rfl; have q3 : W.cell? ⟨gb, ob + (g + i) * 10 + 3, none⟩ = some (.int .i64 y.o) := hB 3 _ rfl; have q4 : W.cell? ⟨gb, ob + (g + i) * 10 + 4, none⟩ = some (.int .i64 y.e) := hB 4 _ rfl; have q5 : W.cell? ⟨gb, ob + (g + i) * 10 + 5, none⟩ = some (.int .i64 y.n) := hB 5 _ rfl; have q6 : W.cell? ⟨gb, ob + (g + i) * 10 + 6, none⟩ = some (.int .i64 y.m) := hB 6 _ rfl; have q7 : W.cell? ⟨gb, ob + (g + i) * 10 + 7, none⟩ = some (.int .i64 y.a) := hB 7 _ rfl; have q8 : W.cell? ⟨gb, ob + (g + i) * 10 + 8, none⟩ = some (.int .i64 y.b) := hB 8 _ rfl; have q9 : W.cell? ⟨gb, ob + (g + i) * 10 + 9, none⟩ = some (.int .i64 y.d) := hB 9 _ rfl; go_simp; first | done | rfl)
          (try simp only [List.getElem_toArray, List.getElem_cons_zero, List.getElem_cons_succ, Act.put, List.setIfInBounds_toArray, List.set_cons_zero, List.set_cons_succ])
          refine anyX_two 11 12 rfl rfl (by kernel_rfl) rfl rfl (by rfl) (by rfl) (fun K hK => ?_) (fun K hK => ?_)
          · go_simp
            have ka : Keep (fun _ => False) D (D.alloc (.cells #[.int .i64 0, .int .i64 0, .int .i64 0, .int .i64 0, .int .i64 0, .int .i64 0, .int .i64 0, .int .i64 0, .int .i64 0, .int .i64 0] 42)) := (Keep.refl _ _).alloc _
            refine hK _ _ ⟨(ka.cell (p := ⟨w5.heap.size, 2, none⟩) (World.block_lt_of_cell? _ _ S0) (fun h => h)).trans S0, cx.keep ka, cy.keep ka⟩ ?_
            clear hK K
            (try simp only [List.getElem_toArray, List.getElem_cons_zero, List.getElem_cons_succ, Act.put, List.setIfInBounds_toArray, List.set_cons_zero, List.set_cons_succ])
            refine anyX_does 12 rfl (by kernel_rfl) (by rfl) (fun K hK => ?_)
            go_simp
            have kb : Keep (fun _ => False) D ((D.alloc (.cells #[.int .i64 0, .int .i64 0, .int .i64 0, .int .i64 0, .int .i64 0, .int .i64 0, .int .i64 0, .int .i64 0, .int .i64 0, .int .i64 0] 42)).alloc (.cells #[.int .i64 0, .int .i64 0, .int .i64 0, .int .i64 0, .int .i64 0, .int .i64 0, .int .i64 0, .int .i64 0, .int .i64 0, .int .i64 0] 42)) := ka.alloc _
            refine hK _ _ ⟨(kb.cell (p := ⟨w5.heap.size, 2, none⟩) (World.block_lt_of_cell? _ _ S0) (fun h => h)).trans S0, cx.keep kb, cy.keep kb⟩ ?_
            clear hK K
            (try simp only [List.getElem_toArray, List.getElem_cons_zero, List.getElem_cons_succ, Act.put, List.setIfInBounds_toArray, List.set_cons_zero, List.set_cons_succ])
            have rA : ((D.alloc (.cells #[.int .i64 0, .int .i64 0, .int .i64 0, .int .i64 0, .int .i64 0, .int .i64 0, .int .i64 0, .int .i64 0, .int .i64 0, .int .i64 0] 42)).alloc (.cells #[.int .i64 0, .int .i64 0, .int .i64 0, .int .i64 0, .int .i64 0, .int .i64 0, .int .i64 0, .int .i64 0, .int .i64 0, .int .i64 0] 42)).heap[D.heap.size]? = some (.cells #[.int .i64 0, .int .i64 0, .int .i64 0, .int .i64 0, .int .i64 0, .int .i64 0, .int .i64 0, .int .i64 0, .int .i64 0, .int .i64 0] 42 (0, 0)) := by
              rw [heap_alloc_old _ _ (by rw [World.size_alloc]; exact Nat.lt_succ_self _)]
              exact heap_alloc_new D _
            have rB : ((D.alloc (.cells #[.int .i64 0, .int .i64 0, .int .i64 0, .int .i64 0, .int .i64 0, .int .i64 0, .int .i64 0, .int .i64 0, .int .i64 0, .int .i64 0] 42)).alloc (.cells #[.int .i64 0, .int .i64 0, .int .i64 0, .int .i64 0, .int .i64 0, .int .i64 0, .int .i64 0, .int .i64 0, .int .i64 0, .int .i64 0] 42)).heap[D.heap.size + 1]? = some (.cells #[.int .i64 0, .int .i64 0, .int .i64 0, .int .i64 0, .int .i64 0, .int .i64 0, .int .i64 0, .int .i64 0, .int .i64 0, .int .i64 0] 42 (0, 0)) := by
              have h := heap_alloc_new (D.alloc (.cells #[.int .i64 0, .int .i64 0, .int .i64 0, .int .i64 0, .int .i64 0, .int .i64 0, .int .i64 0, .int .i64 0, .int .i64 0, .int .i64 0] 42)) (.cells #[.int .i64 0, .int .i64 0, .int .i64 0, .int .i64 0, .int .i64 0, .int .i64 0, .int .i64 0, .int .i64 0, .int .i64 0, .int .i64 0] 42)
              rwa [World.size_alloc] at h
            have szw : (D.alloc (.cells #[.int .i64 0, .int .i64 0, .int .i64 0, .int .i64 0, .int .i64 0, .int .i64 0, .int .i64 0, .int .i64 0, .int .i64 0, .int .i64 0] 42)).heap.size = D.heap.size + 1 := World.size_alloc _ _
            obtain ⟨V, hV⟩ : ∃ V, (D.alloc (.cells #[.int .i64 0, .int .i64 0, .int .i64 0, .int .i64 0, .int .i64 0, .int .i64 0, .int .i64 0, .int .i64 0, .int .i64 0, .int .i64 0] 42)).alloc (.cells #[.int .i64 0, .int .i64 0, .int .i64 0, .int .i64 0, .int .i64 0, .int .i64 0, .int .i64 0, .int .i64 0, .int .i64 0, .int .i64 0] 42) = V := ⟨_, rfl⟩
            rw [hV] at kb rA rB ⊢
            try rw [szw]
            clear ka hV szw
            have kc : Keep (fun _ => False) D (V.setRow (D.heap.size) #[.int .i64 ((g : Int) + (i : Int)), .int .i64 y.t, .int .i64 y.c, .int .i64 y.o, .int .i64 y.e, .int .i64 y.n, .int .i64 y.m, .int .i64 y.a, .int .i64 y.b, .int .i64 y.d]) := kb.setRow (by omega) _
            have rX := setRow_heap V (D.heap.size) _ #[.int .i64 ((g : Int) + (i : Int)), .int .i64 y.t, .int .i64 y.c, .int .i64 y.o, .int .i64 y.e, .int .i64 y.n, .int .i64 y.m, .int .i64 y.a, .int .i64 y.b, .int .i64 y.d] _ _ rA
            have rY := (setRow_other V (D.heap.size) (D.heap.size + 1) #[.int .i64 ((g : Int) + (i : Int)), .int .i64 y.t, .int .i64 y.c, .int .i64 y.o, .int .i64 y.e, .int .i64 y.n, .int .i64 y.m, .int .i64 y.a, .int .i64 y.b, .int .i64 y.d] (by omega)).trans rB
            refine anyX_does 13 rfl (by kernel_rfl) (by rfl) (fun K hK => ?_)
            refine wp_store_row 42 (.tmp 12) (.tmp 65) rfl (D.heap.size) #[.int .i64 ((g : Int) + (i : Int)), .int .i64 y.t, .int .i64 y.c, .int .i64 y.o, .int .i64 y.e, .int .i64 y.n, .int .i64 y.m, .int .i64 y.a, .int .i64 y.b, .int .i64 y.d] rfl rfl 42 _ rA info_size_rec rfl (by simp [Value.oneCell']) ?_
            refine hK _ _ ⟨(kc.cell (p := ⟨w5.heap.size, 2, none⟩) (World.block_lt_of_cell? _ _ S0) (fun h => h)).trans S0, cx.keep kc, cy.keep kc⟩ ?_
            clear hK K
            (try simp only [List.getElem_toArray, List.getElem_cons_zero, List.getElem_cons_succ, Act.put, List.setIfInBounds_toArray, List.set_cons_zero, List.set_cons_succ])
            obtain ⟨V2, hV2⟩ : ∃ V2, V.setRow (D.heap.size) #[.int .i64 ((g : Int) + (i : Int)), .int .i64 y.t, .int .i64 y.c, .int .i64 y.o, .int .i64 y.e, .int .i64 y.n, .int .i64 y.m, .int .i64 y.a, .int .i64 y.b, .int .i64 y.d] = V2 := ⟨_, rfl⟩
            rw [hV2] at kc rX rY ⊢
            clear hV2 rA rB kb
            have kd : Keep (fun _ => False) D (V2.setRow (D.heap.size + 1) #[.int .i64 y.s, .int .i64 y.t, .int .i64 y.c, .int .i64 y.o, .int .i64 y.e, .int .i64 y.n, .int .i64 y.m, .int .i64 y.a, .int .i64 y.b, .int .i64 y.d]) := kc.setRow (by omega) _
            have rX2 := (setRow_other V2 (D.heap.size + 1) (D.heap.size) #[.int .i64 y.s, .int .i64 y.t, .int .i64 y.c, .int .i64 y.o, .int .i64 y.e, .int .i64 y.n, .int .i64 y.m, .int .i64 y.a, .int .i64 y.b, .int .i64 y.d] (by omega)).trans rX
            have rY2 := setRow_heap V2 (D.heap.size + 1) _ #[.int .i64 y.s, .int .i64 y.t, .int .i64 y.c, .int .i64 y.o, .int .i64 y.e, .int .i64 y.n, .int .i64 y.m, .int .i64 y.a, .int .i64 y.b, .int .i64 y.d] _ _ rY
            refine anyX_does 14 rfl (by kernel_rfl) (by rfl) (fun K hK => ?_)
            refine wp_store_row 42 (.tmp 13) (.tmp 71) rfl (D.heap.size + 1) #[.int .i64 y.s, .int .i64 y.t, .int .i64 y.c, .int .i64 y.o, .int .i64 y.e, .int .i64 y.n, .int .i64 y.m, .int .i64 y.a, .int .i64 y.b, .int .i64 y.d] rfl rfl 42 _ rY info_size_rec rfl (by simp [Value.oneCell']) ?_
            refine hK _ _ ⟨(kd.cell (p := ⟨w5.heap.size, 2, none⟩) (World.block_lt_of_cell? _ _ S0) (fun h => h)).trans S0, cx.keep kd, cy.keep kd⟩ ?_
            clear hK K
            (try simp only [List.getElem_toArray, List.getElem_cons_zero, List.getElem_cons_succ, Act.put, List.setIfInBounds_toArray, List.set_cons_zero, List.set_cons_succ])
            obtain ⟨V3, hV3⟩ : ∃ V3, V2.setRow (D.heap.size + 1) #[.int .i64 y.s, .int .i64 y.t, .int .i64 y.c, .int .i64 y.o, .int .i64 y.e, .int .i64 y.n, .int .i64 y.m, .int .i64 y.a, .int .i64 y.b, .int .i64 y.d] = V3 := ⟨_, rfl⟩
            rw [hV3] at kd rX2 rY2 ⊢
            have KV := hid (HKD.out.trans kd)
            have x0 : V3.cell? ⟨D.heap.size, 0, none⟩ = some (.int .i64 ((g : Int) + (i : Int))) := by rw [cell_of_row _ _ 0 _ _ _ rX2]; rfl
            have y0 : V3.cell? ⟨D.heap.size + 1, 0, none⟩ = some (.int .i64 y.s) := by rw [cell_of_row _ _ 0 _ _ _ rY2]; rfl
            have x1 : V3.cell? ⟨D.heap.size, 1, none⟩ = some (.int .i64 y.t) := by rw [cell_of_row _ _ 1 _ _ _ rX2]; rfl
            have y1 : V3.cell? ⟨D.heap.size + 1, 1, none⟩ = some (.int .i64 y.t) := by rw [cell_of_row _ _ 1 _ _ _ rY2]; rfl
            have x2 : V3.cell? ⟨D.heap.size, 2, none⟩ = some (.int .i64 y.c) := by rw [cell_of_row _ _ 2 _ _ _ rX2]; rfl
            have y2 : V3.cell? ⟨D.heap.size + 1, 2, none⟩ = some (.int .i64 y.c) := by rw [cell_of_row _ _ 2 _ _ _ rY2]; rfl
            have x3 : V3.cell? ⟨D.heap.size, 3, none⟩ = some (.int .i64 y.o) := by rw [cell_of_row _ _ 3 _ _ _ rX2]; rfl
            have y3 : V3.cell? ⟨D.heap.size + 1, 3, none⟩ = some (.int .i64 y.o) := by rw [cell_of_row _ _ 3 _ _ _ rY2]; rfl
            have x4 : V3.cell? ⟨D.heap.size, 4, none⟩ = some (.int .i64 y.e) := by rw [cell_of_row _ _ 4 _ _ _ rX2]; rfl
            have y4 : V3.cell? ⟨D.heap.size + 1, 4, none⟩ = some (.int .i64 y.e) := by rw [cell_of_row _ _ 4 _ _ _ rY2]; rfl
            have x5 : V3.cell? ⟨D.heap.size, 5, none⟩ = some (.int .i64 y.n) := by rw [cell_of_row _ _ 5 _ _ _ rX2]; rfl
            have y5 : V3.cell? ⟨D.heap.size + 1, 5, none⟩ = some (.int .i64 y.n) := by rw [cell_of_row _ _ 5 _ _ _ rY2]; rfl
            have x6 : V3.cell? ⟨D.heap.size, 6, none⟩ = some (.int .i64 y.m) := by rw [cell_of_row _ _ 6 _ _ _ rX2]; rfl
            have y6 : V3.cell? ⟨D.heap.size + 1, 6, none⟩ = some (.int .i64 y.m) := by rw [cell_of_row _ _ 6 _ _ _ rY2]; rfl
            have x7 : V3.cell? ⟨D.heap.size, 7, none⟩ = some (.int .i64 y.a) := by rw [cell_of_row _ _ 7 _ _ _ rX2]; rfl
            have y7 : V3.cell? ⟨D.heap.size + 1, 7, none⟩ = some (.int .i64 y.a) := by rw [cell_of_row _ _ 7 _ _ _ rY2]; rfl
            have x8 : V3.cell? ⟨D.heap.size, 8, none⟩ = some (.int .i64 y.b) := by rw [cell_of_row _ _ 8 _ _ _ rX2]; rfl
            have y8 : V3.cell? ⟨D.heap.size + 1, 8, none⟩ = some (.int .i64 y.b) := by rw [cell_of_row _ _ 8 _ _ _ rY2]; rfl
            have x9 : V3.cell? ⟨D.heap.size, 9, none⟩ = some (.int .i64 y.d) := by rw [cell_of_row _ _ 9 _ _ _ rX2]; rfl
            have y9 : V3.cell? ⟨D.heap.size + 1, 9, none⟩ = some (.int .i64 y.d) := by rw [cell_of_row _ _ 9 _ _ _ rY2]; rfl
            clear hV3 kc kd rX rY rX2 rY2
            refine anyX_done (by kernel_rfl) ?_
            go_wp2_with fail
            go_roundw
            case rel => exact ⟨i + 1, by omega, KV.out, by go_num⟩
            case measure => simp [intOf]; omega
          · go_simp
            have ka : Keep (fun _ => False) D (D.alloc (.cells #[.int .i64 0, .int .i64 0, .int .i64 0, .int .i64 0, .int .i64 0, .int .i64 0, .int .i64 0, .int .i64 0, .int .i64 0, .int .i64 0] 42)) := (Keep.refl _ _).alloc _
            refine hK _ _ ⟨(ka.cell (p := ⟨w5.heap.size, 2, none⟩) (World.block_lt_of_cell? _ _ S0) (fun h => h)).trans S0, cx.keep ka, cy.keep ka⟩ ?_
            clear hK K
            (try simp only [List.getElem_toArray, List.getElem_cons_zero, List.getElem_cons_succ, Act.put, List.setIfInBounds_toArray, List.set_cons_zero, List.set_cons_succ])
            refine anyX_does 11 rfl (by kernel_rfl) (by rfl) (fun K hK => ?_)
            go_simp
            have kb : Keep (fun _ => False) D ((D.alloc (.cells #[.int .i64 0, .int .i64 0, .int .i64 0, .int .i64 0, .int .i64 0, .int .i64 0, .int .i64 0, .int .i64 0, .int .i64 0, .int .i64 0] 42)).alloc (.cells #[.int .i64 0, .int .i64 0, .int .i64 0, .int .i64 0, .int .i64 0, .int .i64 0, .int .i64 0, .int .i64 0, .int .i64 0, .int .i64 0] 42)) := ka.alloc _
            refine hK _ _ ⟨(kb.cell (p := ⟨w5.heap.size, 2, none⟩) (World.block_lt_of_cell? _ _ S0) (fun h => h)).trans S0, cx.keep kb, cy.keep kb⟩ ?_
            clear hK K
            (try simp only [List.getElem_toArray, List.getElem_cons_zero, List.getElem_cons_succ, Act.put, List.setIfInBounds_toArray, List.set_cons_zero, List.set_cons_succ])
            have rA : ((D.alloc (.cells #[.int .i64 0, .int .i64 0, .int .i64 0, .int .i64 0, .int .i64 0, .int .i64 0, .int .i64 0, .int .i64 0, .int .i64 0, .int .i64 0] 42)).alloc (.cells #[.int .i64 0, .int .i64 0, .int .i64 0, .int .i64 0, .int .i64 0, .int .i64 0, .int .i64 0, .int .i64 0, .int .i64 0, .int .i64 0] 42)).heap[D.heap.size]? = some (.cells #[.int .i64 0, .int .i64 0, .int .i64 0, .int .i64 0, .int .i64 0, .int .i64 0, .int .i64 0, .int .i64 0, .int .i64 0, .int .i64 0] 42 (0, 0)) := by
              rw [heap_alloc_old _ _ (by rw [World.size_alloc]; exact Nat.lt_succ_self _)]
              exact heap_alloc_new D _
            have rB : ((D.alloc (.cells #[.int .i64 0, .int .i64 0, .int .i64 0, .int .i64 0, .int .i64 0, .int .i64 0, .int .i64 0, .int .i64 0, .int .i64 0, .int .i64 0] 42)).alloc (.cells #[.int .i64 0, .int .i64 0, .int .i64 0, .int .i64 0, .int .i64 0, .int .i64 0, .int .i64 0, .int .i64 0, .int .i64 0, .int .i64 0] 42)).heap[D.heap.size + 1]? = some (.cells #[.int .i64 0, .int .i64 0, .int .i64 0, .int .i64 0, .int .i64 0, .int .i64 0, .int .i64 0, .int .i64 0, .int .i64 0, .int .i64 0] 42 (0, 0)) := by
              have h := heap_alloc_new (D.alloc (.cells #[.int .i64 0, .int .i64 0, .int .i64 0, .int .i64 0, .int .i64 0, .int .i64 0, .int .i64 0, .int .i64 0, .int .i64 0, .int .i64 0] 42)) (.cells #[.int .i64 0, .int .i64 0, .int .i64 0, .int .i64 0, .int .i64 0, .int .i64 0, .int .i64 0, .int .i64 0, .int .i64 0, .int .i64 0] 42)
              rwa [World.size_alloc] at h
            have szw : (D.alloc (.cells #[.int .i64 0, .int .i64 0, .int .i64 0, .int .i64 0, .int .i64 0, .int .i64 0, .int .i64 0, .int .i64 0, .int .i64 0, .int .i64 0] 42)).heap.size = D.heap.size + 1 := World.size_alloc _ _
            obtain ⟨V, hV⟩ : ∃ V, (D.alloc (.cells #[.int .i64 0, .int .i64 0, .int .i64 0, .int .i64 0, .int .i64 0, .int .i64 0, .int .i64 0, .int .i64 0, .int .i64 0, .int .i64 0] 42)).alloc (.cells #[.int .i64 0, .int .i64 0, .int .i64 0, .int .i64 0, .int .i64 0, .int .i64 0, .int .i64 0, .int .i64 0, .int .i64 0, .int .i64 0] 42) = V := ⟨_, rfl⟩
            rw [hV] at kb rA rB ⊢
            try rw [szw]
            clear ka hV szw
            have kc : Keep (fun _ => False) D (V.setRow (D.heap.size + 1) #[.int .i64 ((g : Int) + (i : Int)), .int .i64 y.t, .int .i64 y.c, .int .i64 y.o, .int .i64 y.e, .int .i64 y.n, .int .i64 y.m, .int .i64 y.a, .int .i64 y.b, .int .i64 y.d]) := kb.setRow (by omega) _
            have rX := setRow_heap V (D.heap.size + 1) _ #[.int .i64 ((g : Int) + (i : Int)), .int .i64 y.t, .int .i64 y.c, .int .i64 y.o, .int .i64 y.e, .int .i64 y.n, .int .i64 y.m, .int .i64 y.a, .int .i64 y.b, .int .i64 y.d] _ _ rB
            have rY := (setRow_other V (D.heap.size + 1) (D.heap.size) #[.int .i64 ((g : Int) + (i : Int)), .int .i64 y.t, .int .i64 y.c, .int .i64 y.o, .int .i64 y.e, .int .i64 y.n, .int .i64 y.m, .int .i64 y.a, .int .i64 y.b, .int .i64 y.d] (by omega)).trans rA
            refine anyX_does 13 rfl (by kernel_rfl) (by rfl) (fun K hK => ?_)
            refine wp_store_row 42 (.tmp 12) (.tmp 65) rfl (D.heap.size + 1) #[.int .i64 ((g : Int) + (i : Int)), .int .i64 y.t, .int .i64 y.c, .int .i64 y.o, .int .i64 y.e, .int .i64 y.n, .int .i64 y.m, .int .i64 y.a, .int .i64 y.b, .int .i64 y.d] rfl rfl 42 _ rB info_size_rec rfl (by simp [Value.oneCell']) ?_
            refine hK _ _ ⟨(kc.cell (p := ⟨w5.heap.size, 2, none⟩) (World.block_lt_of_cell? _ _ S0) (fun h => h)).trans S0, cx.keep kc, cy.keep kc⟩ ?_
            clear hK K
            (try simp only [List.getElem_toArray, List.getElem_cons_zero, List.getElem_cons_succ, Act.put, List.setIfInBounds_toArray, List.set_cons_zero, List.set_cons_succ])
            obtain ⟨V2, hV2⟩ : ∃ V2, V.setRow (D.heap.size + 1) #[.int .i64 ((g : Int) + (i : Int)), .int .i64 y.t, .int .i64 y.c, .int .i64 y.o, .int .i64 y.e, .int .i64 y.n, .int .i64 y.m, .int .i64 y.a, .int .i64 y.b, .int .i64 y.d] = V2 := ⟨_, rfl⟩
            rw [hV2] at kc rX rY ⊢
            clear hV2 rA rB kb
            have kd : Keep (fun _ => False) D (V2.setRow (D.heap.size) #[.int .i64 y.s, .int .i64 y.t, .int .i64 y.c, .int .i64 y.o, .int .i64 y.e, .int .i64 y.n, .int .i64 y.m, .int .i64 y.a, .int .i64 y.b, .int .i64 y.d]) := kc.setRow (by omega) _
            have rX2 := (setRow_other V2 (D.heap.size) (D.heap.size + 1) #[.int .i64 y.s, .int .i64 y.t, .int .i64 y.c, .int .i64 y.o, .int .i64 y.e, .int .i64 y.n, .int .i64 y.m, .int .i64 y.a, .int .i64 y.b, .int .i64 y.d] (by omega)).trans rX
            have rY2 := setRow_heap V2 (D.heap.size) _ #[.int .i64 y.s, .int .i64 y.t, .int .i64 y.c, .int .i64 y.o, .int .i64 y.e, .int .i64 y.n, .int .i64 y.m, .int .i64 y.a, .int .i64 y.b, .int .i64 y.d] _ _ rY
            refine anyX_does 14 rfl (by kernel_rfl) (by rfl) (fun K hK => ?_)
            refine wp_store_row 42 (.tmp 13) (.tmp 71) rfl (D.heap.size) #[.int .i64 y.s, .int .i64 y.t, .int .i64 y.c, .int .i64 y.o, .int .i64 y.e, .int .i64 y.n, .int .i64 y.m, .int .i64 y.a, .int .i64 y.b, .int .i64 y.d] rfl rfl 42 _ rY info_size_rec rfl (by simp [Value.oneCell']) ?_
            refine hK _ _ ⟨(kd.cell (p := ⟨w5.heap.size, 2, none⟩) (World.block_lt_of_cell? _ _ S0) (fun h => h)).trans S0, cx.keep kd, cy.keep kd⟩ ?_
            clear hK K
            (try simp only [List.getElem_toArray, List.getElem_cons_zero, List.getElem_cons_succ, Act.put, List.setIfInBounds_toArray, List.set_cons_zero, List.set_cons_succ])
            obtain ⟨V3, hV3⟩ : ∃ V3, V2.setRow (D.heap.size) #[.int .i64 y.s, .int .i64 y.t, .int .i64 y.c, .int .i64 y.o, .int .i64 y.e, .int .i64 y.n, .int .i64 y.m, .int .i64 y.a, .int .i64 y.b, .int .i64 y.d] = V3 := ⟨_, rfl⟩
            rw [hV3] at kd rX2 rY2 ⊢
            have KV := hid (HKD.out.trans kd)
            have x0 : V3.cell? ⟨D.heap.size + 1, 0, none⟩ = some (.int .i64 ((g : Int) + (i : Int))) := by rw [cell_of_row _ _ 0 _ _ _ rX2]; rfl
            have y0 : V3.cell? ⟨D.heap.size, 0, none⟩ = some (.int .i64 y.s) := by rw [cell_of_row _ _ 0 _ _ _ rY2]; rfl
            have x1 : V3.cell? ⟨D.heap.size + 1, 1, none⟩ = some (.int .i64 y.t) := by rw [cell_of_row _ _ 1 _ _ _ rX2]; rfl
            have y1 : V3.cell? ⟨D.heap.size, 1, none⟩ = some (.int .i64 y.t) := by rw [cell_of_row _ _ 1 _ _ _ rY2]; rfl
            have x2 : V3.cell? ⟨D.heap.size + 1, 2, none⟩ = some (.int .i64 y.c) := by rw [cell_of_row _ _ 2 _ _ _ rX2]; rfl
            have y2 : V3.cell? ⟨D.heap.size, 2, none⟩ = some (.int .i64 y.c) := by rw [cell_of_row _ _ 2 _ _ _ rY2]; rfl
            have x3 : V3.cell? ⟨D.heap.size + 1, 3, none⟩ = some (.int .i64 y.o) := by rw [cell_of_row _ _ 3 _ _ _ rX2]; rfl
            have y3 : V3.cell? ⟨D.heap.size, 3, none⟩ = some (.int .i64 y.o) := by rw [cell_of_row _ _ 3 _ _ _ rY2]; rfl
            have x4 : V3.cell? ⟨D.heap.size + 1, 4, none⟩ = some (.int .i64 y.e) := by rw [cell_of_row _ _ 4 _ _ _ rX2]; rfl
            have y4 : V3.cell? ⟨D.heap.size, 4, none⟩ = some (.int .i64 y.e) := by rw [cell_of_row _ _ 4 _ _ _ rY2]; rfl
            have x5 : V3.cell? ⟨D.heap.size + 1, 5, none⟩ = some (.int .i64 y.n) := by rw [cell_of_row _ _ 5 _ _ _ rX2]; rfl
            have y5 : V3.cell? ⟨D.heap.size, 5, none⟩ = some (.int .i64 y.n) := by rw [cell_of_row _ _ 5 _ _ _ rY2]; rfl
            have x6 : V3.cell? ⟨D.heap.size + 1, 6, none⟩ = some (.int .i64 y.m) := by rw [cell_of_row _ _ 6 _ _ _ rX2]; rfl
            have y6 : V3.cell? ⟨D.heap.size, 6, none⟩ = some (.int .i64 y.m) := by rw [cell_of_row _ _ 6 _ _ _ rY2]; rfl
            have x7 : V3.cell? ⟨D.heap.size + 1, 7, none⟩ = some (.int .i64 y.a) := by rw [cell_of_row _ _ 7 _ _ _ rX2]; rfl
            have y7 : V3.cell? ⟨D.heap.size, 7, none⟩ = some (.int .i64 y.a) := by rw [cell_of_row _ _ 7 _ _ _ rY2]; rfl
            have x8 : V3.cell? ⟨D.heap.size + 1, 8, none⟩ = some (.int .i64 y.b) := by rw [cell_of_row _ _ 8 _ _ _ rX2]; rfl
            have y8 : V3.cell? ⟨D.heap.size, 8, none⟩ = some (.int .i64 y.b) := by rw [cell_of_row _ _ 8 _ _ _ rY2]; rfl
            have x9 : V3.cell? ⟨D.heap.size + 1, 9, none⟩ = some (.int .i64 y.d) := by rw [cell_of_row _ _ 9 _ _ _ rX2]; rfl
            have y9 : V3.cell? ⟨D.heap.size, 9, none⟩ = some (.int .i64 y.d) := by rw [cell_of_row _ _ 9 _ _ _ rY2]; rfl
            clear hV3 kc kd rX rY rX2 rY2
            refine anyX_done (by kernel_rfl) ?_
            go_wp2_with fail
            go_roundw
            case rel => exact ⟨i + 1, by omega, KV.out, by go_num⟩
            case measure => simp [intOf]; omega
        · obtain rfl : i = m := by omega
          have hli : ¬ (i : Int) < (i : Int) := by omega
          clear hlt
          go_wp2_with fail
          refine (aawake_any _).mono ?_
          rintro _ w8 ⟨rfl, k8⟩
          have s0 := (k8.cell (p := ⟨w5.heap.size, 0, none⟩) (World.block_lt_of_cell? _ _ u0) (fun h => h)).trans u0
          have s1 := (k8.cell (p := ⟨w5.heap.size, 1, none⟩) (World.block_lt_of_cell? _ _ u1) (fun h => h)).trans u1
          have s2 := (k8.cell (p := ⟨w5.heap.size, 2, none⟩) (World.block_lt_of_cell? _ _ u2) (fun h => h)).trans u2
          have s3 := (k8.cell (p := ⟨w5.heap.size, 3, none⟩) (World.block_lt_of_cell? _ _ u3) (fun h => h)).trans u3
          have T8 := hid (TR.out.same k8)
          have R8 := hid (R6.out.keep (KK.out.trans k8) (fun _ _ h => h))
          clear k8 u0 u1 u2 u3
          go_wp2_with fail
          refine (VF.out _ R8.out).mono ?_
          rintro _ w9 ⟨rfl, k9⟩
          have T9 := hid (T8.out.same k9)
          clear k9
          go_wp2_with fail
          go_ret
          exact ⟨rfl, T9.out.kp.below (fun _ h => h.elim) (Nat.le_refl _)⟩
    · obtain rfl : g = 0 := by omega
      obtain rfl : m = n := by omega
      rw [show ((0 : Nat) : Int) = (0 : Int) from rfl] at HW6 ROW6 z0 VF
      have e2 : (m : Int) - (0 : Int) = (m : Int) := by omega
      have e0 : ¬ (q : Int) < (m : Int) := by omega
      have e3 : m ≤ 16 := by omega
      have HGM : Hid (0 + m = m) := hid (by omega)
      clear hmg hgn
      go_wp2_with fail
      rw [HW6.out]
      try simp only [show decide (q < m) = false from decide_eq_false (by omega)]
      go_loopw [11] (fun iv wr => ∃ (i : Nat), i ≤ m ∧ Keep (fun _ => False) W6 wr ∧ iv = .int .i64 i) (fun iv _ => m - (intOf iv).toNat)
      case atStart => exact ⟨0, by omega, Keep.refl _ _, rfl⟩
      case round =>
        obtain ⟨i, hi, hK, rfl⟩ := hrel
        have u0 := (hK.cell (p := ⟨w5.heap.size, 0, none⟩) BL6 (fun h => h)).trans z0
        have u1 := (hK.cell (p := ⟨w5.heap.size, 1, none⟩) BL6 (fun h => h)).trans z1
        have u2 := (hK.cell (p := ⟨w5.heap.size, 2, none⟩) BL6 (fun h => h)).trans z2
        have u3 := (hK.cell (p := ⟨w5.heap.size, 3, none⟩) BL6 (fun h => h)).trans z3
        have KK := hid hK
        have TR := hid (T6.out.same hK)
        clear hK z0 z1 z2 z3
        by_cases hlt : i < m
        · have hli : (i : Int) < m := by omega
          have hl1 : i < L.l.length := by rw [HM.out]; exact hlt
          obtain ⟨ga, oa, ha⟩ := R6.out.addr (by omega)
          obtain ⟨gb, ob, hb⟩ := HAL.out.addr (by rw [List.length_take, HN.out]; have := HGM.out; omega)
          subst ha hb
          have hl2 : i < (l.take 40).length := by rw [List.length_take, HN.out]; have := HGM.out; omega
          obtain ⟨x, hx⟩ : ∃ x, L.l[i] = x := ⟨_, rfl⟩
          obtain ⟨y, hy⟩ : ∃ y, (l.take 40)[i] = y := ⟨_, rfl⟩
          have hxy : x = withS y ((i : Int)) := by
            rw [← hx, ← hy, list_at AA.out HH.out i hl1, HG.out]
            rw [show ((0 : Nat) : Int) + (i : Int) = (i : Int) from by omega, Nat.zero_add]
            congr 1
            rw [List.getElem_take, List.getD_eq_getElem?_getD, List.getElem?_eq_getElem (by rw [List.length_take] at hl2; omega)]
            rfl
          rw [hxy] at hx
          have cx : RecAt wr.drew ga (oa + i * 10) (withS y ((i : Int))) := cells_at (R6.out.keep KK.out.drew (fun _ _ h => h)) i hl1 _ hx
          have cy : RecAt wr.drew gb (ob + (i) * 10) y := cells_at (HAL.out.keep TR.out.kp.drew (fun _ _ h => h)) (i) hl2 y hy
          clear hxy hx hy x
          have KD : Keep (fun _ => False) W6 wr.drew := KK.out.drew
          have S0 : wr.drew.cell? ⟨w5.heap.size, 2, none⟩ = some (.slice (some ⟨ga, oa, none⟩) m m) := u2
          have e4 : IntKind.i64.wrap ((i : Int)) = (i : Int) := IntWalk.i64_in _ ⟨by omega, by omega⟩
          have e6 : ((i : Int)).toNat = i := by omega
          have e5 : (i : Int) < (m : Int) := by have := HGM.out; omega
          have e7 : (0 : Int) ≤ (i : Int) := by omega
          have TD := hid (TR.out.same ((Keep.refl (fun _ => False) wr).drew))
          have HKD := hid KD
          clear KD
          go_wp2_with fail
          refine wp_region_steps [0,0,0,0,0,0,0,0,0,0,0,2,2,2,2] (fun W => W.cell? ⟨w5.heap.size, 2, none⟩ = some (.slice (some ⟨ga, oa, none⟩) m m) ∧ RecAt W ga (oa + i * 10) (withS y ((i : Int))) ∧ RecAt W gb (ob + (i) * 10) y) (by kernel_rfl) ⟨S0, cx, cy⟩ ?_
          obtain ⟨D, hD⟩ : ∃ D, wr.drew = D := ⟨_, rfl⟩
          rw [hD] at S0 cx cy TD HKD ⊢
          clear hD
          refine' anyX_calm (v := _) 0 rfl (by kernel_rfl) (by rfl) (fun W hW => ?_) ?_; rotate_left
          · (skip; go_simp; first | done | rfl)
          (try simp only [List.getElem_toArray, List.getElem_cons_zero, List.getElem_cons_succ, Act.put, List.setIfInBounds_toArray, List.set_cons_zero, List.set_cons_succ])
          refine' anyX_calm (v := _) 1 rfl (by kernel_rfl) (by rfl) (fun W hW => ?_) ?_; rotate_left
          · (have h2 := hW.1; go_simp; first | done | rfl)
          (try simp only [List.getElem_toArray, List.getElem_cons_zero, List.getElem_cons_succ, Act.put, List.setIfInBounds_toArray, List.set_cons_zero, List.set_cons_succ])
          refine' anyX_calm (v := _) 2 rfl (by kernel_rfl) (by rfl) (fun W hW => ?_) ?_; rotate_left
          · (skip; go_simp; first | done | rfl)
          (try simp only [List.getElem_toArray, List.getElem_cons_zero, List.getElem_cons_succ, Act.put, List.setIfInBounds_toArray, List.set_cons_zero, List.set_cons_succ])
          refine' anyX_calm (v := _) 3 rfl (by kernel_rfl) (by rfl) (fun W hW => ?_) ?_; rotate_left
          · (skip; go_simp; first | done | rfl)
          (try simp only [List.getElem_toArray, List.getElem_cons_zero, List.getElem_cons_succ, Act.put, List.setIfInBounds_toArray, List.set_cons_zero, List.set_cons_succ])
          refine' anyX_calm (v := _) 4 rfl (by kernel_rfl) (by rfl) (fun W hW => ?_) ?_; rotate_left
          · (have hB := hW.2.1; have q0 : W.cell? ⟨ga, oa + i * 10, none⟩ = some (.int .i64 ((i : Int))) := hB 0 _ rfl; have q1 : W.cell? ⟨ga, oa + i * 10 + 1, none⟩ = some (.int .i64 y.t) := hB 1 _ rfl; have q2 : W.cell? ⟨ga, oa + i * 10 + 2, none⟩ = some (.int .i64 y.c) := hB 2 _ rfl; have q3 : W.cell? ⟨ga, oa + i * 10 + 3, none⟩ = some (.int .i64 y.o) := hB 3 _ rfl; have q4 : W.cell? ⟨ga, oa + i * 10 + 4, none⟩ = some (.int .i64 y.e) := hB 4 _ rfl; have q5 : W.cell? ⟨ga, oa + i * 10 + 5, none⟩ = some (.int .i64 y.n) := hB 5 _ rfl; have q6 : W.cell? ⟨ga, oa + i * 10 + 6, none⟩ = some (.int .i64 y.m) := hB 6 _ rfl; have q7 : W.cell? ⟨ga, oa + i * 10 + 7, none⟩ = some (.int .i64 y.a) := hB 7 _ rfl; have q8 : W.cell? ⟨ga, oa + i * 10 + 8, none⟩ = some (.int .i64 y.b) := hB 8 _ rfl; have q9 : W.cell? ⟨ga, oa + i * 10 + 9, none⟩ = some (.int .i64 y.d) := hB 9 _ rfl; go_simp; first | done | rfl)
          (try simp only [List.getElem_toArray, List.getElem_cons_zero, List.getElem_cons_succ, Act.put, List.setIfInBounds_toArray, List.set_cons_zero, List.set_cons_succ])
          refine' anyX_calm (v := _) 5 rfl (by kernel_rfl) (by rfl) (fun W hW => ?_) ?_; rotate_left
          · (skip; go_simp; first | done | rfl)
          (try simp only [List.getElem_toArray, List.getElem_cons_zero, List.getElem_cons_succ, Act.put, List.setIfInBounds_toArray, List.set_cons_zero, List.set_cons_succ])
          refine' anyX_calm (v := _) 6 rfl (by kernel_rfl) (by rfl) (fun W hW => ?_) ?_; rotate_left
          · (skip; go_simp; first | done | rfl)
          (try simp only [List.getElem_toArray, List.getElem_cons_zero, List.getElem_cons_succ, Act.put, List.setIfInBounds_toArray, List.set_cons_zero, List.set_cons_succ])
          refine' anyX_calm (v := _) 7 rfl (by kernel_rfl) (by rfl) (fun W hW => ?_) ?_; rotate_left
          · (skip; go_simp; first | done | rfl)
          (try simp only [List.getElem_toArray, List.getElem_cons_zero, List.getElem_cons_succ, Act.put, List.setIfInBounds_toArray, List.set_cons_zero, List.set_cons_succ])
          refine' anyX_calm (v := _) 8 rfl (by kernel_rfl) (by rfl) (fun W hW => ?_) ?_; rotate_left
          · (skip; go_simp; first | done | rfl)
          (try simp only [List.getElem_toArray, List.getElem_cons_zero, List.getElem_cons_succ, Act.put, List.setIfInBounds_toArray, List.set_cons_zero, List.set_cons_succ])
          refine' anyX_calm (v := _) 9 rfl (by kernel_rfl) (by rfl) (fun W hW => ?_) ?_; rotate_left
          · (skip; go_simp; first | done | rfl)
          (try simp only [List.getElem_toArray, List.getElem_cons_zero, List.getElem_cons_succ, Act.put, List.setIfInBounds_toArray, List.set_cons_zero, List.set_cons_succ])
          refine' anyX_calm (v := _) 10 rfl (by kernel_rfl) (by rfl) (fun W hW => ?_) ?_; rotate_left
          · (have hB := hW.2.2; have q0 : W.cell? ⟨gb, ob + (i) * 10, none⟩ = some (.int .i64 y.s) := hB 0 _ rfl; have q1 : W.cell? ⟨gb, ob + (i) * 10 + 1, none⟩ = some (.int .i64 y.t) := hB 1 _ rfl; have q2 : W.cell? ⟨gb, ob + (i) * 10 + 2, none⟩ = some (.int .i64 y.c) := hB 2 _ rfl; have q3 : W.cell? ⟨gb, ob + (i) * 10 + 3, none⟩ = some (.int .i64 y.o) := hB 3 _ rfl; have q4 : W.cell? ⟨gb, ob + (i) * 10 + 4, none⟩ = some (.int .i64 y.e) := hB 4 _ rfl; have q5 : W.cell? ⟨gb, ob + (i) * 10 + 5, none⟩ = some (.int .i64 y.n) := hB 5 _ rfl; have q6 : W.cell? ⟨gb, ob + (i) * 10 + 6, none⟩ = some (.int .i64 y.m) := hB 6 _ rfl; have q7 : W.cell? ⟨gb, ob + (i) * 10 + 7, none⟩ = some (.int .i64 y.a) := hB 7 _ rfl; have q8 : W.cell? ⟨gb, ob + (i) * 10 + 8, none⟩ = some (.int .i64 y.b) := hB 8 _ rfl; have q9 : W.cell? ⟨gb, ob + (i) * 10 + 9, none⟩ = some (.int .i64 y.d) := hB 9 _ rfl; go_simp; first | done | rfl)
          (try simp only [List.getElem_toArray, List.getElem_cons_zero, List.getElem_cons_succ, Act.put, List.setIfInBounds_toArray, List.set_cons_zero, List.set_cons_succ])
          refine anyX_two 11 12 rfl rfl (by kernel_rfl) rfl rfl (by rfl) (by rfl) (fun K hK => ?_) (fun K hK => ?_)
          · go_simp
            have ka : Keep (fun _ => False) D (D.alloc (.cells #[.int .i64 0, .int .i64 0, .int .i64 0, .int .i64 0, .int .i64 0, .int .i64 0, .int .i64 0, .int .i64 0, .int .i64 0, .int .i64 0] 42)) := (Keep.refl _ _).alloc _
            refine hK _ _ ⟨(ka.cell (p := ⟨w5.heap.size, 2, none⟩) (World.block_lt_of_cell? _ _ S0) (fun h => h)).trans S0, cx.keep ka, cy.keep ka⟩ ?_
            clear hK K
            (try simp only [List.getElem_toArray, List.getElem_cons_zero, List.getElem_cons_succ, Act.put, List.setIfInBounds_toArray, List.set_cons_zero, List.set_cons_succ])
            refine anyX_does 12 rfl (by kernel_rfl) (by rfl) (fun K hK => ?_)
            go_simp
            have kb : Keep (fun _ => False) D ((D.alloc (.cells #[.int .i64 0, .int .i64 0, .int .i64 0, .int .i64 0, .int .i64 0, .int .i64 0, .int .i64 0, .int .i64 0, .int .i64 0, .int .i64 0] 42)).alloc (.cells #[.int .i64 0, .int .i64 0, .int .i64 0, .int .i64 0, .int .i64 0, .int .i64 0, .int .i64 0, .int .i64 0, .int .i64 0, .int .i64 0] 42)) := ka.alloc _
            refine hK _ _ ⟨(kb.cell (p := ⟨w5.heap.size, 2, none⟩) (World.block_lt_of_cell? _ _ S0) (fun h => h)).trans S0, cx.keep kb, cy.keep kb⟩ ?_
            clear hK K
            (try simp only [List.getElem_toArray, List.getElem_cons_zero, List.getElem_cons_succ, Act.put, List.setIfInBounds_toArray, List.set_cons_zero, List.set_cons_succ])
            have rA : ((D.alloc (.cells #[.int .i64 0, .int .i64 0, .int .i64 0, .int .i64 0, .int .i64 0, .int .i64 0, .int .i64 0, .int .i64 0, .int .i64 0, .int .i64 0] 42)).alloc (.cells #[.int .i64 0, .int .i64 0, .int .i64 0, .int .i64 0, .int .i64 0, .int .i64 0, .int .i64 0, .int .i64 0, .int .i64 0, .int .i64 0] 42)).heap[D.heap.size]? = some (.cells #[.int .i64 0, .int .i64 0, .int .i64 0, .int .i64 0, .int .i64 0, .int .i64 0, .int .i64 0, .int .i64 0, .int .i64 0, .int .i64 0] 42 (0, 0)) := by
              rw [heap_alloc_old _ _ (by rw [World.size_alloc]; exact Nat.lt_succ_self _)]
              exact heap_alloc_new D _
            have rB : ((D.alloc (.cells #[.int .i64 0, .int .i64 0, .int .i64 0, .int .i64 0, .int .i64 0, .int .i64 0, .int .i64 0, .int .i64 0, .int .i64 0, .int .i64 0] 42)).alloc (.cells #[.int .i64 0, .int .i64 0, .int .i64 0, .int .i64 0, .int .i64 0, .int .i64 0, .int .i64 0, .int .i64 0, .int .i64 0, .int .i64 0] 42)).heap[D.heap.size + 1]? = some (.cells #[.int .i64 0, .int .i64 0, .int .i64 0, .int .i64 0, .int .i64 0, .int .i64 0, .int .i64 0, .int .i64 0, .int .i64 0, .int .i64 0] 42 (0, 0)) := by
              have h := heap_alloc_new (D.alloc (.cells #[.int .i64 0, .int .i64 0, .int .i64 0, .int .i64 0, .int .i64 0, .int .i64 0, .int .i64 0, .int .i64 0, .int .i64 0, .int .i64 0] 42)) (.cells #[.int .i64 0, .int .i64 0, .int .i64 0, .int .i64 0, .int .i64 0, .int .i64 0, .int .i64 0, .int .i64 0, .int .i64 0, .int .i64 0] 42)
              rwa [World.size_alloc] at h
            have szw : (D.alloc (.cells #[.int .i64 0, .int .i64 0, .int .i64 0, .int .i64 0, .int .i64 0, .int .i64 0, .int .i64 0, .int .i64 0, .int .i64 0, .int .i64 0] 42)).heap.size = D.heap.size + 1 := World.size_alloc _ _
            obtain ⟨V, hV⟩ : ∃ V, (D.alloc (.cells #[.int .i64 0, .int .i64 0, .int .i64 0, .int .i64 0, .int .i64 0, .int .i64 0, .int .i64 0, .int .i64 0, .int .i64 0, .int .i64 0] 42)).alloc (.cells #[.int .i64 0, .int .i64 0, .int .i64 0, .int .i64 0, .int .i64 0, .int .i64 0, .int .i64 0, .int .i64 0, .int .i64 0, .int .i64 0] 42) = V := ⟨_, rfl⟩
            rw [hV] at kb rA rB ⊢
            try rw [szw]
            clear ka hV szw
            have kc : Keep (fun _ => False) D (V.setRow (D.heap.size) #[.int .i64 ((i : Int)), .int .i64 y.t, .int .i64 y.c, .int .i64 y.o, .int .i64 y.e, .int .i64 y.n, .int .i64 y.m, .int .i64 y.a, .int .i64 y.b, .int .i64 y.d]) := kb.setRow (by omega) _
            have rX := setRow_heap V (D.heap.size) _ #[.int .i64 ((i : Int)), .int .i64 y.t, .int .i64 y.c, .int .i64 y.o, .int .i64 y.e, .int .i64 y.n, .int .i64 y.m, .int .i64 y.a, .int .i64 y.b, .int .i64 y.d] _ _ rA
            have rY := (setRow_other V (D.heap.size) (D.heap.size + 1) #[.int .i64 ((i : Int)), .int .i64 y.t, .int .i64 y.c, .int .i64 y.o, .int .i64 y.e, .int .i64 y.n, .int .i64 y.m, .int .i64 y.a, .int .i64 y.b, .int .i64 y.d] (by omega)).trans rB
            refine anyX_does 13 rfl (by kernel_rfl) (by rfl) (fun K hK => ?_)
            refine wp_store_row 42 (.tmp 12) (.tmp 65) rfl (D.heap.size) #[.int .i64 ((i : Int)), .int .i64 y.t, .int .i64 y.c, .int .i64 y.o, .int .i64 y.e, .int .i64 y.n, .int .i64 y.m, .int .i64 y.a, .int .i64 y.b, .int .i64 y.d] rfl rfl 42 _ rA info_size_rec rfl (by simp [Value.oneCell']) ?_
            refine hK _ _ ⟨(kc.cell (p := ⟨w5.heap.size, 2, none⟩) (World.block_lt_of_cell? _ _ S0) (fun h => h)).trans S0, cx.keep kc, cy.keep kc⟩ ?_
            clear hK K
            (try simp only [List.getElem_toArray, List.getElem_cons_zero, List.getElem_cons_succ, Act.put, List.setIfInBounds_toArray, List.set_cons_zero, List.set_cons_succ])
            obtain ⟨V2, hV2⟩ : ∃ V2, V.setRow (D.heap.size) #[.int .i64 ((i : Int)), .int .i64 y.t, .int .i64 y.c, .int .i64 y.o, .int .i64 y.e, .int .i64 y.n, .int .i64 y.m, .int .i64 y.a, .int .i64 y.b, .int .i64 y.d] = V2 := ⟨_, rfl⟩
            rw [hV2] at kc rX rY ⊢
            clear hV2 rA rB kb
            have kd : Keep (fun _ => False) D (V2.setRow (D.heap.size + 1) #[.int .i64 y.s, .int .i64 y.t, .int .i64 y.c, .int .i64 y.o, .int .i64 y.e, .int .i64 y.n, .int .i64 y.m, .int .i64 y.a, .int .i64 y.b, .int .i64 y.d]) := kc.setRow (by omega) _
            have rX2 := (setRow_other V2 (D.heap.size + 1) (D.heap.size) #[.int .i64 y.s, .int .i64 y.t, .int .i64 y.c, .int .i64 y.o, .int .i64 y.e, .int .i64 y.n, .int .i64 y.m, .int .i64 y.a, .int .i64 y.b, .int .i64 y.d] (by omega)).trans rX
            have rY2 := setRow_heap V2 (D.heap.size + 1) _ #[.int .i64 y.s, .int .i64 y.t, .int .i64 y.c, .int .i64 y.o, .int .i64 y.e, .int .i64 y.n, .int .i64 y.m, .int .i64 y.a, .int .i64 y.b, .int .i64 y.d] _ _ rY
            refine anyX_does 14 rfl (by kernel_rfl) (by rfl) (fun K hK => ?_)
            refine wp_store_row 42 (.tmp 13) (.tmp 71) rfl (D.heap.size + 1) #[.int .i64 y.s, .int .i64 y.t, .int .i64 y.c, .int .i64 y.o, .int .i64 y.e, .int .i64 y.n, .int .i64 y.m, .int .i64 y.a, .int .i64 y.b, .int .i64 y.d] rfl rfl 42 _ rY info_size_rec rfl (by simp [Value.oneCell']) ?_
            refine hK _ _ ⟨(kd.cell (p := ⟨w5.heap.size, 2, none⟩) (World.block_lt_of_cell? _ _ S0) (fun h => h)).trans S0, cx.keep kd, cy.keep kd⟩ ?_
            clear hK K
            (try simp only [List.getElem_toArray, List.getElem_cons_zero, List.getElem_cons_succ, Act.put, List.setIfInBounds_toArray, List.set_cons_zero, List.set_cons_succ])
            obtain ⟨V3, hV3⟩ : ∃ V3, V2.setRow (D.heap.size + 1) #[.int .i64 y.s, .int .i64 y.t, .int .i64 y.c, .int .i64 y.o, .int .i64 y.e, .int .i64 y.n, .int .i64 y.m, .int .i64 y.a, .int .i64 y.b, .int .i64 y.d] = V3 := ⟨_, rfl⟩
            rw [hV3] at kd rX2 rY2 ⊢
            have KV := hid (HKD.out.trans kd)
            have x0 : V3.cell? ⟨D.heap.size, 0, none⟩ = some (.int .i64 ((i : Int))) := by rw [cell_of_row _ _ 0 _ _ _ rX2]; rfl
            have y0 : V3.cell? ⟨D.heap.size + 1, 0, none⟩ = some (.int .i64 y.s) := by rw [cell_of_row _ _ 0 _ _ _ rY2]; rfl
            have x1 : V3.cell? ⟨D.heap.size, 1, none⟩ = some (.int .i64 y.t) := by rw [cell_of_row _ _ 1 _ _ _ rX2]; rfl
            have y1 : V3.cell? ⟨D.heap.size + 1, 1, none⟩ = some (.int .i64 y.t) := by rw [cell_of_row _ _ 1 _ _ _ rY2]; rfl
            have x2 : V3.cell? ⟨D.heap.size, 2, none⟩ = some (.int .i64 y.c) := by rw [cell_of_row _ _ 2 _ _ _ rX2]; rfl
            have y2 : V3.cell? ⟨D.heap.size + 1, 2, none⟩ = some (.int .i64 y.c) := by rw [cell_of_row _ _ 2 _ _ _ rY2]; rfl
            have x3 : V3.cell? ⟨D.heap.size, 3, none⟩ = some (.int .i64 y.o) := by rw [cell_of_row _ _ 3 _ _ _ rX2]; rfl
            have y3 : V3.cell? ⟨D.heap.size + 1, 3, none⟩ = some (.int .i64 y.o) := by rw [cell_of_row _ _ 3 _ _ _ rY2]; rfl
            have x4 : V3.cell? ⟨D.heap.size, 4, none⟩ = some (.int .i64 y.e) := by rw [cell_of_row _ _ 4 _ _ _ rX2]; rfl
            have y4 : V3.cell? ⟨D.heap.size + 1, 4, none⟩ = some (.int .i64 y.e) := by rw [cell_of_row _ _ 4 _ _ _ rY2]; rfl
            have x5 : V3.cell? ⟨D.heap.size, 5, none⟩ = some (.int .i64 y.n) := by rw [cell_of_row _ _ 5 _ _ _ rX2]; rfl
            have y5 : V3.cell? ⟨D.heap.size + 1, 5, none⟩ = some (.int .i64 y.n) := by rw [cell_of_row _ _ 5 _ _ _ rY2]; rfl
            have x6 : V3.cell? ⟨D.heap.size, 6, none⟩ = some (.int .i64 y.m) := by rw [cell_of_row _ _ 6 _ _ _ rX2]; rfl
            have y6 : V3.cell? ⟨D.heap.size + 1, 6, none⟩ = some (.int .i64 y.m) := by rw [cell_of_row _ _ 6 _ _ _ rY2]; rfl
            have x7 : V3.cell? ⟨D.heap.size, 7, none⟩ = some (.int .i64 y.a) := by rw [cell_of_row _ _ 7 _ _ _ rX2]; rfl
            have y7 : V3.cell? ⟨D.heap.size + 1, 7, none⟩ = some (.int .i64 y.a) := by rw [cell_of_row _ _ 7 _ _ _ rY2]; rfl
            have x8 : V3.cell? ⟨D.heap.size, 8, none⟩ = some (.int .i64 y.b) := by rw [cell_of_row _ _ 8 _ _ _ rX2]; rfl
            have y8 : V3.cell? ⟨D.heap.size + 1, 8, none⟩ = some (.int .i64 y.b) := by rw [cell_of_row _ _ 8 _ _ _ rY2]; rfl
            have x9 : V3.cell? ⟨D.heap.size, 9, none⟩ = some (.int .i64 y.d) := by rw [cell_of_row _ _ 9 _ _ _ rX2]; rfl
            have y9 : V3.cell? ⟨D.heap.size + 1, 9, none⟩ = some (.int .i64 y.d) := by rw [cell_of_row _ _ 9 _ _ _ rY2]; rfl
            clear hV3 kc kd rX rY rX2 rY2
            refine anyX_done (by kernel_rfl) ?_
            go_wp2_with fail
            go_roundw
            case rel => exact ⟨i + 1, by omega, KV.out, by go_num⟩
            case measure => simp [intOf]; omega
          · go_simp
            have ka : Keep (fun _ => False) D (D.alloc (.cells #[.int .i64 0, .int .i64 0, .int .i64 0, .int .i64 0, .int .i64 0, .int .i64 0, .int .i64 0, .int .i64 0, .int .i64 0, .int .i64 0] 42)) := (Keep.refl _ _).alloc _
            refine hK _ _ ⟨(ka.cell (p := ⟨w5.heap.size, 2, none⟩) (World.block_lt_of_cell? _ _ S0) (fun h => h)).trans S0, cx.keep ka, cy.keep ka⟩ ?_
            clear hK K
            (try simp only [List.getElem_toArray, List.getElem_cons_zero, List.getElem_cons_succ, Act.put, List.setIfInBounds_toArray, List.set_cons_zero, List.set_cons_succ])
            refine anyX_does 11 rfl (by kernel_rfl) (by rfl) (fun K hK => ?_)
            go_simp
            have kb : Keep (fun _ => False) D ((D.alloc (.cells #[.int .i64 0, .int .i64 0, .int .i64 0, .int .i64 0, .int .i64 0, .int .i64 0, .int .i64 0, .int .i64 0, .int .i64 0, .int .i64 0] 42)).alloc (.cells #[.int .i64 0, .int .i64 0, .int .i64 0, .int .i64 0, .int .i64 0, .int .i64 0, .int .i64 0, .int .i64 0, .int .i64 0, .int .i64 0] 42)) := ka.alloc _
            refine hK _ _ ⟨(kb.cell (p := ⟨w5.heap.size, 2, none⟩) (World.block_lt_of_cell? _ _ S0) (fun h => h)).trans S0, cx.keep kb, cy.keep kb⟩ ?_
            clear hK K
            (try simp only [List.getElem_toArray, List.getElem_cons_zero, List.getElem_cons_succ, Act.put, List.setIfInBounds_toArray, List.set_cons_zero, List.set_cons_succ])
            have rA : ((D.alloc (.cells #[.int .i64 0, .int .i64 0, .int .i64 0, .int .i64 0, .int .i64 0, .int .i64 0, .int .i64 0, .int .i64 0, .int .i64 0, .int .i64 0] 42)).alloc (.cells #[.int .i64 0, .int .i64 0, .int .i64 0, .int .i64 0, .int .i64 0, .int .i64 0, .int .i64 0, .int .i64 0, .int .i64 0, .int .i64 0] 42)).heap[D.heap.size]? = some (.cells #[.int .i64 0, .int .i64 0, .int .i64 0, .int .i64 0, .int .i64 0, .int .i64 0, .int .i64 0, .int .i64 0, .int .i64 0, .int .i64 0] 42 (0, 0)) := by
              rw [heap_alloc_old _ _ (by rw [World.size_alloc]; exact Nat.lt_succ_self _)]
              exact heap_alloc_new D _
            have rB : ((D.alloc (.cells #[.int .i64 0, .int .i64 0, .int .i64 0, .int .i64 0, .int .i64 0, .int .i64 0, .int .i64 0, .int .i64 0, .int .i64 0, .int .i64 0] 42)).alloc (.cells #[.int .i64 0, .int .i64 0, .int .i64 0, .int .i64 0, .int .i64 0, .int .i64 0, .int .i64 0, .int .i64 0, .int .i64 0, .int .i64 0] 42)).heap[D.heap.size + 1]? = some (.cells #[.int .i64 0, .int .i64 0, .int .i64 0, .int .i64 0, .int .i64 0, .int .i64 0, .int .i64 0, .int .i64 0, .int .i64 0, .int .i64 0] 42 (0, 0)) := by
              have h := heap_alloc_new (D.alloc (.cells #[.int .i64 0, .int .i64 0, .int .i64 0, .int .i64 0, .int .i64 0, .int .i64 0, .int .i64 0, .int .i64 0, .int .i64 0, .int .i64 0] 42)) (.cells #[.int .i64 0, .int .i64 0, .int .i64 0, .int .i64 0, .int .i64 0, .int .i64 0, .int .i64 0, .int .i64 0, .int .i64 0, .int .i64 0] 42)
              rwa [World.size_alloc] at h
            have szw : (D.alloc (.cells #[.int .i64 0, .int .i64 0, .int .i64 0, .int .i64 0, .int .i64 0, .int .i64 0, .int .i64 0, .int .i64 0, .int .i64 0, .int .i64 0] 42)).heap.size = D.heap.size + 1 := World.size_alloc _ _
            obtain ⟨V, hV⟩ : ∃ V, (D.alloc (.cells #[.int .i64 0, .int .i64 0, .int .i64 0, .int .i64 0, .int .i64 0, .int .i64 0, .int .i64 0, .int .i64 0, .int .i64 0, .int .i64 0] 42)).alloc (.cells #[.int .i64 0, .int .i64 0, .int .i64 0, .int .i64 0, .int .i64 0, .int .i64 0, .int .i64 0, .int .i64 0, .int .i64 0, .int .i64 0] 42) = V := ⟨_, rfl⟩
            rw [hV] at kb rA rB ⊢
            try rw [szw]
            clear ka hV szw
            have kc : Keep (fun _ => False) D (V.setRow (D.heap.size + 1) #[.int .i64 ((i : Int)), .int .i64 y.t, .int .i64 y.c, .int .i64 y.o, .int .i64 y.e, .int .i64 y.n, .int .i64 y.m, .int .i64 y.a, .int .i64 y.b, .int .i64 y.d]) := kb.setRow (by omega) _
            have rX := setRow_heap V (D.heap.size + 1) _ #[.int .i64 ((i : Int)), .int .i64 y.t, .int .i64 y.c, .int .i64 y.o, .int .i64 y.e, .int .i64 y.n, .int .i64 y.m, .int .i64 y.a, .int .i64 y.b, .int .i64 y.d] _ _ rB
            have rY := (setRow_other V (D.heap.size + 1) (D.heap.size) #[.int .i64 ((i : Int)), .int .i64 y.t, .int .i64 y.c, .int .i64 y.o, .int .i64 y.e, .int .i64 y.n, .int .i64 y.m, .int .i64 y.a, .int .i64 y.b, .int .i64 y.d] (by omega)).trans rA
            refine anyX_does 13 rfl (by kernel_rfl) (by rfl) (fun K hK => ?_)
            refine wp_store_row 42 (.tmp 12) (.tmp 65) rfl (D.heap.size + 1) #[.int .i64 ((i : Int)), .int .i64 y.t, .int .i64 y.c, .int .i64 y.o, .int .i64 y.e, .int .i64 y.n, .int .i64 y.m, .int .i64 y.a, .int .i64 y.b, .int .i64 y.d] rfl rfl 42 _ rB info_size_rec rfl (by simp [Value.oneCell']) ?_
            refine hK _ _ ⟨(kc.cell (p := ⟨w5.heap.size, 2, none⟩) (World.block_lt_of_cell? _ _ S0) (fun h => h)).trans S0, cx.keep kc, cy.keep kc⟩ ?_
            clear hK K
            (try simp only [List.getElem_toArray, List.getElem_cons_zero, List.getElem_cons_succ, Act.put, List.setIfInBounds_toArray, List.set_cons_zero, List.set_cons_succ])
            obtain ⟨V2, hV2⟩ : ∃ V2, V.setRow (D.heap.size + 1) #[.int .i64 ((i : Int)), .int .i64 y.t, .int .i64 y.c, .int .i64 y.o, .int .i64 y.e, .int .i64 y.n, .int .i64 y.m, .int .i64 y.a, .int .i64 y.b, .int .i64 y.d] = V2 := ⟨_, rfl⟩
            rw [hV2] at kc rX rY ⊢
            clear hV2 rA rB kb
            have kd : Keep (fun _ => False) D (V2.setRow (D.heap.size) #[.int .i64 y.s, .int .i64 y.t, .int .i64 y.c, .int .i64 y.o, .int .i64 y.e, .int .i64 y.n, .int .i64 y.m, .int .i64 y.a, .int .i64 y.b, .int .i64 y.d]) := kc.setRow (by omega) _
            have rX2 := (setRow_other V2 (D.heap.size) (D.heap.size + 1) #[.int .i64 y.s, .int .i64 y.t, .int .i64 y.c, .int .i64 y.o, .int .i64 y.e, .int .i64 y.n, .int .i64 y.m, .int .i64 y.a, .int .i64 y.b, .int .i64 y.d] (by omega)).trans rX
            have rY2 := setRow_heap V2 (D.heap.size) _ #[.int .i64 y.s, .int .i64 y.t, .int .i64 y.c, .int .i64 y.o, .int .i64 y.e, .int .i64 y.n, .int .i64 y.m, .int .i64 y.a, .int .i64 y.b, .int .i64 y.d] _ _ rY
            refine anyX_does 14 rfl (by kernel_rfl) (by rfl) (fun K hK => ?_)
            refine wp_store_row 42 (.tmp 13) (.tmp 71) rfl (D.heap.size) #[.int .i64 y.s, .int .i64 y.t, .int .i64 y.c, .int .i64 y.o, .int .i64 y.e, .int .i64 y.n, .int .i64 y.m, .int .i64 y.a, .int .i64 y.b, .int .i64 y.d] rfl rfl 42 _ rY info_size_rec rfl (by simp [Value.oneCell']) ?_
            refine hK _ _ ⟨(kd.cell (p := ⟨w5.heap.size, 2, none⟩) (World.block_lt_of_cell? _ _ S0) (fun h => h)).trans S0, cx.keep kd, cy.keep kd⟩ ?_
            clear hK K
            (try simp only [List.getElem_toArray, List.getElem_cons_zero, List.getElem_cons_succ, Act.put, List.setIfInBounds_toArray, List.set_cons_zero, List.set_cons_succ])
            obtain ⟨V3, hV3⟩ : ∃ V3, V2.setRow (D.heap.size) #[.int .i64 y.s, .int .i64 y.t, .int .i64 y.c, .int .i64 y.o, .int .i64 y.e, .int .i64 y.n, .int .i64 y.m, .int .i64 y.a, .int .i64 y.b, .int .i64 y.d] = V3 := ⟨_, rfl⟩
            rw [hV3] at kd rX2 rY2 ⊢
            have KV := hid (HKD.out.trans kd)
            have x0 : V3.cell? ⟨D.heap.size + 1, 0, none⟩ = some (.int .i64 ((i : Int))) := by rw [cell_of_row _ _ 0 _ _ _ rX2]; rfl
            have y0 : V3.cell? ⟨D.heap.size, 0, none⟩ = some (.int .i64 y.s) := by rw [cell_of_row _ _ 0 _ _ _ rY2]; rfl
            have x1 : V3.cell? ⟨D.heap.size + 1, 1, none⟩ = some (.int .i64 y.t) := by rw [cell_of_row _ _ 1 _ _ _ rX2]; rfl
            have y1 : V3.cell? ⟨D.heap.size, 1, none⟩ = some (.int .i64 y.t) := by rw [cell_of_row _ _ 1 _ _ _ rY2]; rfl
            have x2 : V3.cell? ⟨D.heap.size + 1, 2, none⟩ = some (.int .i64 y.c) := by rw [cell_of_row _ _ 2 _ _ _ rX2]; rfl
            have y2 : V3.cell? ⟨D.heap.size, 2, none⟩ = some (.int .i64 y.c) := by rw [cell_of_row _ _ 2 _ _ _ rY2]; rfl
            have x3 : V3.cell? ⟨D.heap.size + 1, 3, none⟩ = some (.int .i64 y.o) := by rw [cell_of_row _ _ 3 _ _ _ rX2]; rfl
            have y3 : V3.cell? ⟨D.heap.size, 3, none⟩ = some (.int .i64 y.o) := by rw [cell_of_row _ _ 3 _ _ _ rY2]; rfl
            have x4 : V3.cell? ⟨D.heap.size + 1, 4, none⟩ = some (.int .i64 y.e) := by rw [cell_of_row _ _ 4 _ _ _ rX2]; rfl
            have y4 : V3.cell? ⟨D.heap.size, 4, none⟩ = some (.int .i64 y.e) := by rw [cell_of_row _ _ 4 _ _ _ rY2]; rfl
            have x5 : V3.cell? ⟨D.heap.size + 1, 5, none⟩ = some (.int .i64 y.n) := by rw [cell_of_row _ _ 5 _ _ _ rX2]; rfl
            have y5 : V3.cell? ⟨D.heap.size, 5, none⟩ = some (.int .i64 y.n) := by rw [cell_of_row _ _ 5 _ _ _ rY2]; rfl
            have x6 : V3.cell? ⟨D.heap.size + 1, 6, none⟩ = some (.int .i64 y.m) := by rw [cell_of_row _ _ 6 _ _ _ rX2]; rfl
            have y6 : V3.cell? ⟨D.heap.size, 6, none⟩ = some (.int .i64 y.m) := by rw [cell_of_row _ _ 6 _ _ _ rY2]; rfl
            have x7 : V3.cell? ⟨D.heap.size + 1, 7, none⟩ = some (.int .i64 y.a) := by rw [cell_of_row _ _ 7 _ _ _ rX2]; rfl
            have y7 : V3.cell? ⟨D.heap.size, 7, none⟩ = some (.int .i64 y.a) := by rw [cell_of_row _ _ 7 _ _ _ rY2]; rfl
            have x8 : V3.cell? ⟨D.heap.size + 1, 8, none⟩ = some (.int .i64 y.b) := by rw [cell_of_row _ _ 8 _ _ _ rX2]; rfl
            have y8 : V3.cell? ⟨D.heap.size, 8, none⟩ = some (.int .i64 y.b) := by rw [cell_of_row _ _ 8 _ _ _ rY2]; rfl
            have x9 : V3.cell? ⟨D.heap.size + 1, 9, none⟩ = some (.int .i64 y.d) := by rw [cell_of_row _ _ 9 _ _ _ rX2]; rfl
            have y9 : V3.cell? ⟨D.heap.size, 9, none⟩ = some (.int .i64 y.d) := by rw [cell_of_row _ _ 9 _ _ _ rY2]; rfl
            clear hV3 kc kd rX rY rX2 rY2
            refine anyX_done (by kernel_rfl) ?_
            go_wp2_with fail
            go_roundw
            case rel => exact ⟨i + 1, by omega, KV.out, by go_num⟩
            case measure => simp [intOf]; omega
        · obtain rfl : i = m := by omega
          have hli : ¬ (i : Int) < (i : Int) := by omega
          clear hlt
          go_wp2_with fail
          refine (aawake_any _).mono ?_
          rintro _ w8 ⟨rfl, k8⟩
          have s0 := (k8.cell (p := ⟨w5.heap.size, 0, none⟩) (World.block_lt_of_cell? _ _ u0) (fun h => h)).trans u0
          have s1 := (k8.cell (p := ⟨w5.heap.size, 1, none⟩) (World.block_lt_of_cell? _ _ u1) (fun h => h)).trans u1
          have s2 := (k8.cell (p := ⟨w5.heap.size, 2, none⟩) (World.block_lt_of_cell? _ _ u2) (fun h => h)).trans u2
          have s3 := (k8.cell (p := ⟨w5.heap.size, 3, none⟩) (World.block_lt_of_cell? _ _ u3) (fun h => h)).trans u3
          have T8 := hid (TR.out.same k8)
          have R8 := hid (R6.out.keep (KK.out.trans k8) (fun _ _ h => h))
          clear k8 u0 u1 u2 u3
          go_wp2_with fail
          refine (VF.out _ R8.out).mono ?_
          rintro _ w9 ⟨rfl, k9⟩
          have T9 := hid (T8.out.same k9)
          clear k9
          go_wp2_with fail
          go_ret
          exact ⟨rfl, T9.out.kp.below (fun _ h => h.elim) (Nat.le_refl _)⟩
end Go.Proofs.Ytpijnpapmdnceaa
