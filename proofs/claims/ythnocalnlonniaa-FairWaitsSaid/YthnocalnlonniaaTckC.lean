/- The walks of package tick: held, Add, At. -/
import Derived.Test.YthnocalnlonniaaTckB
import Derived.Test.YthnocalnlonniaaRnd
import Derived.IntWalk
namespace Go.Proofs.Ythnocalnlonniaa
open Go Go.RowKit Go.Shelf

attribute [local go_sem] Oper.semAt_some

theorem boxed_below {W W' : World} {B : Nat} {t : TypeId} {v : Value} (h : Boxed W B t v) (hB : Below W.heap.size W W') : Boxed W' B t v := (hB.block B h.lt).trans h

set_option maxHeartbeats 400000 in
theorem held_any (t : Int) (w : World) : Calls Try.prog 30 #[.int .i64 t] w fun e w' => e = .returned (.int .i64 (heldOf t)) ∧ w = w' := by
  go_enter Try.func30, Try.ntmps30
  go_wp2
  all_goals
    go_ret
    exact ⟨by unfold heldOf; simp only [Ending.returned.injEq]; show Value.int _ _ = _; congr 1; omega, rfl⟩

set_option maxRecDepth 100000 in
set_option maxHeartbeats 4000000 in
theorem tat_any {w : World} {v : Value} {s : List (Int × Int)} (t : Int) (h : SlotsR w v s) :
    Calls Try.prog 12 #[v, .int .i64 t] w fun e w' => e = .returned (.tuple #[.int .i64 (atOf s t).1, .int .i64 (atOf s t).2]) ∧ Below w.heap.size w w' := by
  obtain ⟨a, c, hv⟩ := h.form
  subst hv
  refine (callsIn_wide (n := 4)).1 ?_
  have hro : Fence.wide.round = none := rfl
  have HS := hid h
  have bT := Boxed.new w 3 (.int .i64 t)
  have b0 := Boxed.new (w.alloc (.cells #[.int .i64 t] 3)) 3 (.int .i64 0)
  have b1 := Boxed.new ((w.alloc (.cells #[.int .i64 t] 3)).alloc (.cells #[.int .i64 0] 3)) 3 (.int .i64 0)
  rw [World.size_alloc] at b0 b1
  rw [World.size_alloc] at b1
  have hB0 : Below w.heap.size w (((w.alloc (.cells #[.int .i64 t] 3)).alloc (.cells #[.int .i64 0] 3)).alloc (.cells #[.int .i64 0] 3)) := (((Below.refl _ w).alloc (Nat.le_refl _) _).alloc (by simp) _).alloc (by simp; omega) _
  have hS1 : SlotsR (((w.alloc (.cells #[.int .i64 t] 3)).alloc (.cells #[.int .i64 0] 3)).alloc (.cells #[.int .i64 0] 3)) (.slice a s.length c) s := h.keep (F := fun _ => False) ((((Keep.refl _ w).alloc _).alloc _).alloc _) (fun _ _ h => h)
  have bT2 := (bT.alloc (.cells #[.int .i64 0] 3)).alloc (.cells #[.int .i64 0] 3)
  have b02 := b0.alloc (.cells #[.int .i64 0] 3)
  have hsz3 : (((w.alloc (.cells #[.int .i64 t] 3)).alloc (.cells #[.int .i64 0] 3)).alloc (.cells #[.int .i64 0] 3)).heap.size = w.heap.size + 3 := by simp
  refine callsIn_of_wp_marks Try.func12 rfl trivial ?_ hro
  simp only [Try.ntmps12, List.size_toArray, List.length_cons, List.length_nil, Nat.reduceAdd, Nat.reduceSub, Array.replicate_succ, Array.replicate_zero, List.push_toArray, List.append_toArray, List.nil_append, List.cons_append]
  clear h
  by_cases hc0 : cyc s = 0
  · have E0 : Hid (atOf s t = (-1, 0)) := hid (by unfold atOf; rw [if_pos hc0])
    gi_wp2_with (refine ⟨trivial, ?_⟩; gi_at_call 15; refine (callsIn_wide.2 (cycle_any hS1)).mono ?_; rintro e W1 ⟨rfl, hB1⟩; rw [hc0]; have x0 := (boxed_below b02 hB1).alloc (.cells #[.int .i64 0] 3); have x1 := (boxed_below b1 hB1).alloc (.cells #[.int .i64 0] 3); have c0 := x0.cell; have c1 := x1.cell; have f0 := x0.frozen; have f1 := x1.frozen)
    have y1 : ((W1.alloc (.cells #[.int .i64 0] 3)).setCell ⟨w.heap.size + 1, 0, none⟩ (.int .i64 (-1))).cell? ⟨w.heap.size + 1 + 1, 0, none⟩ = some (.int .i64 0) := (World.cell?_setCell_other _ ⟨w.heap.size + 1, 0, none⟩ ⟨w.heap.size + 1 + 1, 0, none⟩ _ (by simp)).trans x1.cell
    have z1 := World.cell?_setCell_same' ((W1.alloc (.cells #[.int .i64 0] 3)).setCell ⟨w.heap.size + 1, 0, none⟩ (.int .i64 (-1))) ⟨w.heap.size + 1 + 1, 0, none⟩ (.int .i64 0) (by rw [y1]; rfl)
    have z0 := (World.cell?_setCell_other ((W1.alloc (.cells #[.int .i64 0] 3)).setCell ⟨w.heap.size + 1, 0, none⟩ (.int .i64 (-1))) ⟨w.heap.size + 1 + 1, 0, none⟩ ⟨w.heap.size + 1, 0, none⟩ (.int .i64 0) (by simp)).trans (World.cell?_setCell_same' _ _ (.int .i64 (-1)) (by rw [x0.cell]; rfl))
    have hsz := hB1.size
    rw [hsz3] at hsz
    refine ⟨.tuple #[.int .i64 (-1), .int .i64 0], by simp [results, Try.f12, go_sem, z0, z1], by rw [E0.out], ?_⟩
    exact ((((hB0.trans (hB1.mono (by omega))).alloc (by omega) _).setCell (p := ⟨w.heap.size + 1, 0, none⟩) (by simp) _).setCell (p := ⟨w.heap.size + 1 + 1, 0, none⟩) (by simp; omega) _)
  · gi_wp2_with (first
      | (refine ⟨trivial, ?_⟩; gi_at_call 15; refine (callsIn_wide.2 (cycle_any hS1)).mono ?_; rintro e W1 ⟨rfl, hB1⟩; have xT := (boxed_below bT2 hB1).alloc (.cells #[.int .i64 (cyc s)] 3); have x0 := (boxed_below b02 hB1).alloc (.cells #[.int .i64 (cyc s)] 3); have x1 := (boxed_below b1 hB1).alloc (.cells #[.int .i64 (cyc s)] 3); have xC := Boxed.new W1 3 (.int .i64 (cyc s)); have cT := xT.cell; have fT := xT.frozen; have hcb : (cyc s == 0) = false := (by simp [hc0]))
      | (refine ⟨trivial, ?_⟩; gi_at_call 30; refine (callsIn_wide.2 (held_any _ _)).mono ?_; rintro e _ ⟨rfl, rfl⟩)
      | (refine ⟨trivial, ?_⟩; gi_at_call 31; refine (counts_in Fence.wide (4 - 1) trivial hro _ _ _ _).mono ?_; rintro e w' ⟨rfl, rfl⟩))
    have hsz := hB1.size
    rw [hsz3] at hsz
    have hBT : Below w.heap.size w W1 := hB0.trans (hB1.mono (by omega))
    obtain ⟨W0, hW0⟩ : ∃ x, (((W1.alloc (.cells #[.int .i64 (cyc s)] 3)).setCell ⟨w.heap.size, 0, none⟩ (.int .i64 (heldOf t))).alloc (.cells #[.slice a s.length c] 22)) = x := ⟨_, rfl⟩
    have bt : Boxed W0 w.heap.size 3 (.int .i64 (heldOf t)) := by rw [← hW0]; exact (xT.set _).alloc _
    have bC : Boxed W0 W1.heap.size 3 (.int .i64 (cyc s)) := by rw [← hW0]; exact (xC.other (by omega) _).alloc _
    have b00 : Boxed W0 (w.heap.size + 1) 3 (.int .i64 0) := by rw [← hW0]; exact (x0.other (by omega) _).alloc _
    have b10 : Boxed W0 (w.heap.size + 1 + 1) 3 (.int .i64 0) := by rw [← hW0]; exact (x1.other (by omega) _).alloc _
    have bN : Boxed W0 (W1.heap.size + 1) 22 (.slice a s.length c) := by
      rw [← hW0]
      have := Boxed.new ((W1.alloc (.cells #[.int .i64 (cyc s)] 3)).setCell ⟨w.heap.size, 0, none⟩ (.int .i64 (heldOf t))) 22 (.slice a s.length c)
      rwa [World.size_setCell, World.size_alloc] at this
    have hBW : Below w.heap.size w W0 := by rw [← hW0]; exact (((hBT.alloc (by omega) _).setCell (p := ⟨w.heap.size, 0, none⟩) (Nat.le_refl _) _).alloc (by simp; omega) _)
    have hs0 : W0.heap.size = W1.heap.size + 2 := by rw [← hW0]; simp
    rw [hW0]
    clear hW0 xT x0 x1 xC cT fT bT b0 b1 bT2 b02 hB0 hS1 hB1 hBT hcb
    refine wpIn_rangeFunc_ownF hro (by omega) (gf := 37) (lb := #[.pointer (some ⟨W1.heap.size + 1, 0, none⟩)]) rfl trivial (enters_of Try.func37 (by kernel_rfl) rfl)
      (counts_stops Fence.wide (4 - 1) trivial hro (by omega) (W1.heap.size + 1) _ s w W0 (by omega) bN.cell HS.out hBW) (fun h k => h.trans k) (fun W l o o' hl ho hc _ => KpS.book (by omega) W l o o' hl ho hc) (Below.refl _ _) (fun _ => rfl)
      (fun pre W => (Boxed W w.heap.size 3 (.int .i64 (heldOf t)) ∧ Boxed W W1.heap.size 3 (.int .i64 (cyc s)) ∧ Boxed W (w.heap.size + 1) 3 (.int .i64 (atF (heldOf t) (heldOf t % cyc s) (pre.map (·.1))).1) ∧ Boxed W (w.heap.size + 1 + 1) 3 (.int .i64 (atF (heldOf t) (heldOf t % cyc s) (pre.map (·.1))).2)) ∧ Below w.heap.size w W)
      (fun _ _ _ => False)
      (OwnFrom.and (Own.from (fun q A B row hs hg hr => ⟨boxed_own w.heap.size 3 (fun (_ : List (EntS s)) => .int .i64 (heldOf t)) q A B row hs.1 hg hr, boxed_own W1.heap.size 3 (fun (_ : List (EntS s)) => .int .i64 (cyc s)) q A B row hs.2.1 hg hr, boxed_own (w.heap.size + 1) 3 (fun (pre : List (EntS s)) => .int .i64 (atF (heldOf t) (heldOf t % cyc s) (pre.map (·.1))).1) q A B row hs.2.2.1 hg hr, boxed_own (w.heap.size + 1 + 1) 3 (fun (pre : List (EntS s)) => .int .i64 (atF (heldOf t) (heldOf t % cyc s) (pre.map (·.1))).2) q A B row hs.2.2.2 hg hr⟩) _) (ownFrom_below (Nat.le_refl _) (by omega)))
      (fun _ _ _ _ _ hs _ _ => hs)
      ⟨⟨bt, bC, b00, b10⟩, hBW⟩
      (fun x => { tmps := #[.slice a s.length c, .int .i64 t, undef, .pointer (some ⟨w.heap.size, 0, none⟩), .pointer (some ⟨w.heap.size + 1, 0, none⟩), .pointer (some ⟨w.heap.size + 1 + 1, 0, none⟩), .pointer (some ⟨W1.heap.size, 0, none⟩), .int .i64 (x.1.n : Int), .int .i64 x.1.at_, .slice a s.length c,
          .int .i64 (cyc s), .int .i64 (cyc s), .bool false, .int .i64 t, .int .i64 (heldOf t), .slice a s.length c, .func (.func 37) #[] #[.pointer (some ⟨W1.heap.size + 1, 0, none⟩)], .int .i64 (x.1.n : Int), .int .i64 x.1.at_, undef, undef, undef, undef, undef, undef, undef, undef, undef, undef, undef, undef, undef, undef, undef], defers := [] }) ?assign ?body ?done ?stop
    case assign =>
      intro l x W K hK
      gi_wp2
      exact hK
    case body =>
      rintro l pre x W ⟨⟨ht, hC, h0, h1⟩, hB⟩ _
      obtain ⟨-, hn16, -, hl1, hl16, ha0, hac⟩ := entsOf_mem x.2
      have hcb := cyc_bd s
      have hth := heldOf_bd t
      have hr0 := Int.emod_nonneg (heldOf t) hc0
      have hr1 := Int.emod_lt_of_pos (heldOf t) (show 0 < cyc s by omega)
      have ct := ht.cell
      have cC := hC.cell
      have hcn : (cyc s == 0) = false := by simp [hc0]
      have e1 := hid (atF_snoc (heldOf t) (heldOf t % cyc s) (pre.map (·.1)) x.1)
      have HB := hid hB
      have H0 := hid h0
      have H1 := hid h1
      have f0 := h0.frozen
      have f1 := h1.frozen
      have c0 := h0.cell
      have c1 := h1.cell
      by_cases hx : x.1.at_ ≤ heldOf t % cyc s
      · have hm : (heldOf t).tmod (cyc s) = heldOf t % cyc s := Int.tmod_eq_emod_of_nonneg hth.1
        obtain ⟨r, hr⟩ : ∃ r, heldOf t % cyc s = r := ⟨_, rfl⟩
        rw [hr] at hm hr0 hr1 hx e1 ⊢
        have w1 : IntKind.i64.wrap (heldOf t - r) = heldOf t - r := IntWalk.i64_in _ ⟨by omega, by omega⟩
        have w2 : IntKind.i64.wrap (heldOf t - r + x.1.at_) = heldOf t - r + x.1.at_ := IntWalk.i64_in _ ⟨by omega, by omega⟩
        gi_wp2
        refine wpIn_region_text [0,0,0,0,0,0,0,0,2,2] (fun W' => W'.cell? ⟨w.heap.size, 0, none⟩ = some (.int .i64 (heldOf t)) ∧ W'.cell? ⟨W1.heap.size, 0, none⟩ = some (.int .i64 (cyc s))) (by kernel_rfl) (by kernel_rfl) (by kernel_rfl) ⟨ct, cC⟩ ?_
        repeat (first
          | (refine' wpT_calm (v := _) (by rfl) (fun W hW => ?_) ?_; rotate_left
             · ((try dsimp only at hW); go_simp; first | done | rfl)
             simp only [Act.put, List.setIfInBounds_toArray, List.set_cons_zero, List.set_cons_succ])
          | (refine' wpT_reads (v := _) (by rfl) ?_ ?_; rotate_left
             · (go_simp; first | done | rfl)
             simp only [Act.put, List.setIfInBounds_toArray, List.set_cons_zero, List.set_cons_succ])
          | (refine wpT_skip (by rfl) rfl ?_; simp only [Act.put, List.setIfInBounds_toArray, List.set_cons_zero, List.set_cons_succ])
          | (refine wpT_does (by rfl) (fun K hK => ?_); go_simp; refine hK _ _ ?_ ?_
             · (trivial)
             clear hK K; try simp only [Act.put, List.setIfInBounds_toArray, List.set_cons_zero, List.set_cons_succ])
          | (refine wpT_last (by rfl) (fun K hK => ?_); go_simp; refine hK _ _ ?_; clear hK K)
          | (refine wpT_nil ?_))
        have e2 : atF (heldOf t) r (pre.map (·.1) ++ [x.1]) = ((x.1.n : Int), heldOf t - r + x.1.at_) := by rw [e1.out, if_pos hx]
        have E2 := hid e2
        have t1 := ht.other (B' := w.heap.size + 1) (by omega) (.int .i64 (x.1.n : Int))
        have C1 := hC.other (B' := w.heap.size + 1) (by omega) (.int .i64 (x.1.n : Int))
        have z0 := H0.out.set (.int .i64 (x.1.n : Int))
        have z1 := H1.out.other (B' := w.heap.size + 1) (by omega) (.int .i64 (x.1.n : Int))
        have t2 := t1.other (B' := w.heap.size + 1 + 1) (by omega) (.int .i64 (heldOf t - r + x.1.at_))
        have C2 := C1.other (B' := w.heap.size + 1 + 1) (by omega) (.int .i64 (heldOf t - r + x.1.at_))
        have y0 := z0.other (B' := w.heap.size + 1 + 1) (by omega) (.int .i64 (heldOf t - r + x.1.at_))
        have y1 := z1.set (.int .i64 (heldOf t - r + x.1.at_))
        have z1c := z1.cell
        have z1f := z1.frozen
        have KK := ((KpS.refl w.heap.size (W1.heap.size + 2) W).set (p := ⟨w.heap.size + 1, 0, none⟩) (by simp) (by simp; omega) (.int .i64 (x.1.n : Int))).set (p := ⟨w.heap.size + 1 + 1, 0, none⟩) (by simp; omega) (by simp; omega) (.int .i64 (heldOf t - r + x.1.at_))
        have BB := (HB.out.setCell (p := ⟨w.heap.size + 1, 0, none⟩) (by simp) (.int .i64 (x.1.n : Int))).setCell (p := ⟨w.heap.size + 1 + 1, 0, none⟩) (by simp; omega) (.int .i64 (heldOf t - r + x.1.at_))
        have KO := (KeepsOthers.setCell W ⟨w.heap.size + 1, 0, none⟩ (.int .i64 (x.1.n : Int))).trans (KeepsOthers.setCell _ ⟨w.heap.size + 1 + 1, 0, none⟩ (.int .i64 (heldOf t - r + x.1.at_)))
        have T1 := hid t1
        have C1 := hid C1
        have T2 := hid t2
        have C2 := hid C2
        have Y0 := hid y0
        have Y1 := hid y1
        have KK := hid KK
        have BB := hid BB
        have KO := hid KO
        clear t1 t2 y0 y1 z0 z1 e2
        refine wpT_does (by rfl) (fun K hK => ?_)
        go_simp
        refine hK _ _ ⟨T1.out.cell, C1.out.cell⟩ ?_
        clear hK K
        try simp only [Act.put, List.setIfInBounds_toArray, List.set_cons_zero, List.set_cons_succ]
        refine wpT_does (by rfl) (fun K hK => ?_)
        go_simp
        refine hK _ _ ⟨T2.out.cell, C2.out.cell⟩ ?_
        clear hK K
        try simp only [Act.put, List.setIfInBounds_toArray, List.set_cons_zero, List.set_cons_succ]
        refine wpT_nil ?_
        gi_wp2
        refine ⟨KO.out.trans (KeepsOthers.drew _), by rw [hs0]; exact KK.out.drew, ⟨T2.out, C2.out, ?_, ?_⟩, BB.out.drew⟩
        · have := Y0.out
          show Boxed _ _ _ (.int .i64 (atF (heldOf t) r ((pre ++ [x]).map (·.1))).1)
          rw [List.map_append]
          show Boxed _ _ _ (.int .i64 (atF (heldOf t) r (pre.map (·.1) ++ [x.1])).1)
          rw [E2.out]; exact this
        · have := Y1.out
          show Boxed _ _ _ (.int .i64 (atF (heldOf t) r ((pre ++ [x]).map (·.1))).2)
          rw [List.map_append]
          show Boxed _ _ _ (.int .i64 (atF (heldOf t) r (pre.map (·.1) ++ [x.1])).2)
          rw [E2.out]; exact this
      · have E2 := hid (e1.out.trans (if_neg hx))
        have hT := hid ht
        have hC2 := hid hC
        gi_wp2
        refine ⟨KeepsOthers.refl _, KpS.refl _ _ _, ⟨hT.out, hC2.out, ?_, ?_⟩, HB.out⟩
        · show Boxed _ _ _ (.int .i64 (atF (heldOf t) (heldOf t % cyc s) ((pre ++ [x]).map (·.1))).1)
          rw [List.map_append]
          show Boxed _ _ _ (.int .i64 (atF (heldOf t) (heldOf t % cyc s) (pre.map (·.1) ++ [x.1])).1)
          rw [E2.out]; exact H0.out
        · show Boxed _ _ _ (.int .i64 (atF (heldOf t) (heldOf t % cyc s) ((pre ++ [x]).map (·.1))).2)
          rw [List.map_append]
          show Boxed _ _ _ (.int .i64 (atF (heldOf t) (heldOf t % cyc s) (pre.map (·.1) ++ [x.1])).2)
          rw [E2.out]; exact H1.out
    case done =>
      rintro D ys W hD hys ⟨⟨ht, hC, h0, h1⟩, hB⟩ hK
      rw [hys] at h0 h1
      have e1 : Hid (atOf s t = atF (heldOf t) (heldOf t % cyc s) (entsOf s)) := hid (by unfold atOf; rw [if_neg hc0])
      have f0 := h0.frozen
      have f1 := h1.frozen
      have c0 := h0.cell
      have c1 := h1.cell
      obtain ⟨⟨p, q⟩, hpq⟩ : ∃ p, atF (heldOf t) (heldOf t % cyc s) (entsOf s) = p := ⟨_, rfl⟩
      rw [hpq] at h0 h1 c0 c1 e1
      dsimp only at h0 h1 c0 c1
      have hne1 : W1.heap.size ≠ w.heap.size := by omega
      have z0 := h0.set (.int .i64 p)
      have z1 := h1.other (B' := w.heap.size + 1) (by omega) (.int .i64 p)
      have y0 := hid (z0.other (B' := w.heap.size + 1 + 1) (by omega) (.int .i64 q))
      have y1 := hid (z1.set (.int .i64 q))
      have z0c := z0.cell
      have z0f := z0.frozen
      have z1c := z1.cell
      have z1f := z1.frozen
      gi_wp2
      refine wpIn_region_text [0,0,2,2] (fun W' => W'.cell? ⟨w.heap.size + 1, 0, none⟩ = some (.int .i64 p) ∧ W'.cell? ⟨w.heap.size + 1 + 1, 0, none⟩ = some (.int .i64 q)) (by kernel_rfl) (by kernel_rfl) (by kernel_rfl) ⟨c0, c1⟩ ?_
      repeat (first
        | (refine' wpT_calm (v := _) (by rfl) (fun W hW => ?_) ?_; rotate_left
           · ((try dsimp only at hW); go_simp; first | done | rfl)
           simp only [Act.put, List.setIfInBounds_toArray, List.set_cons_zero, List.set_cons_succ])
        | (refine' wpT_reads (v := _) (by rfl) ?_ ?_; rotate_left
           · (go_simp; first | done | rfl)
           simp only [Act.put, List.setIfInBounds_toArray, List.set_cons_zero, List.set_cons_succ])
        | (refine wpT_skip (by rfl) rfl ?_; simp only [Act.put, List.setIfInBounds_toArray, List.set_cons_zero, List.set_cons_succ])
        | (refine wpT_does (by rfl) (fun K hK => ?_); go_simp; refine hK _ _ ?_ ?_
           · (trivial)
           clear hK K; try simp only [Act.put, List.setIfInBounds_toArray, List.set_cons_zero, List.set_cons_succ])
        | (refine wpT_last (by rfl) (fun K hK => ?_); go_simp; refine hK _ _ ?_; clear hK K)
        | (refine wpT_nil ?_))
      refine wpT_does (by rfl) (fun K hK => ?_)
      go_simp
      refine hK _ _ ⟨y0.out.cell, y1.out.cell⟩ ?_
      clear hK K
      try simp only [Act.put, List.setIfInBounds_toArray, List.set_cons_zero, List.set_cons_succ]
      refine wpT_nil ?_
      gi_wp2
      have hK' := (((KeepsOthers.setCell W ⟨w.heap.size + 1, 0, none⟩ (.int .i64 p)).trans (KeepsOthers.setCell _ ⟨w.heap.size + 1 + 1, 0, none⟩ (.int .i64 q))).trans (KeepsOthers.drew _)).same D _ hK rfl
      refine ⟨by simp, .inl ⟨_, _, rfl, run_takeDeferred hK', ?_⟩⟩
      have hc5 := cell_kept (show (World.drew ((W.setCell ⟨w.heap.size + 1, 0, none⟩ (.int .i64 p)).setCell ⟨w.heap.size + 1 + 1, 0, none⟩ (.int .i64 q))).cell? ⟨w.heap.size + 1, 0, none⟩ = some (.int .i64 p) from y0.out.cell) (grownBy_putObj' _ D (.deferred none)) (fun r e => by cases e; exact ⟨_, hK', rfl⟩)
      have hc6 := cell_kept (show (World.drew ((W.setCell ⟨w.heap.size + 1, 0, none⟩ (.int .i64 p)).setCell ⟨w.heap.size + 1 + 1, 0, none⟩ (.int .i64 q))).cell? ⟨w.heap.size + 1 + 1, 0, none⟩ = some (.int .i64 q) from y1.out.cell) (grownBy_putObj' _ D (.deferred none)) (fun r e => by cases e; exact ⟨_, hK', rfl⟩)
      refine ⟨.tuple #[.int .i64 p, .int .i64 q], by simp [results, Try.f12, go_sem, hc5, hc6], by rw [e1.out], ?_⟩
      exact (((hB.setCell (p := ⟨w.heap.size + 1, 0, none⟩) (by simp) (.int .i64 p)).setCell (p := ⟨w.heap.size + 1 + 1, 0, none⟩) (by simp; omega) (.int .i64 q)).drew).trans (belowK_b (w := w) (Nat.le_refl _) _ D _ _ (by omega) hK' rfl rfl)
    case stop =>
      rintro D c pre W _ _ h _
      exact h.elim
end Go.Proofs.Ythnocalnlonniaa
