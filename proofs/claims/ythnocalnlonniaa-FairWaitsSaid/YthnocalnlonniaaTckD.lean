/- The walks of package tick: Next, Add. -/
import Derived.Test.YthnocalnlonniaaTckC
namespace Go.Proofs.Ythnocalnlonniaa
open Go Go.RowKit Go.Shelf

attribute [local go_sem] Oper.semAt_some

theorem emod_le_self' {a b : Int} (h : 0 ≤ a) (hb : 0 < b) : a % b ≤ a := by
  have h1 := Int.ediv_nonneg h (Int.le_of_lt hb)
  have h2 := Int.mul_ediv_add_emod a b
  have h3 := Int.mul_nonneg (Int.le_of_lt hb) h1
  omega

set_option maxRecDepth 100000 in
set_option maxHeartbeats 8000000 in
theorem tnext_any {w : World} {v : Value} {s : List (Int × Int)} (dom t : Int) (h : SlotsR w v s) :
    Calls Try.prog 17 #[v, .int .i64 dom, .int .i64 t] w fun e w' => e = .returned (.tuple #[.int .i64 (nextOf s dom t).1, .bool (nextOf s dom t).2]) ∧ Below w.heap.size w w' := by
  obtain ⟨a, c, hv⟩ := h.form
  subst hv
  refine (callsIn_wide (n := 4)).1 ?_
  have hro : Fence.wide.round = none := rfl
  have HS := hid h
  have bL := Boxed.new w 22 (.slice a s.length c)
  have bD := Boxed.new (w.alloc (.cells #[.slice a s.length c] 22)) 3 (.int .i64 dom)
  have bT := Boxed.new ((w.alloc (.cells #[.slice a s.length c] 22)).alloc (.cells #[.int .i64 dom] 3)) 3 (.int .i64 t)
  rw [World.size_alloc] at bD bT
  rw [World.size_alloc] at bT
  have hB0 : Below w.heap.size w (((w.alloc (.cells #[.slice a s.length c] 22)).alloc (.cells #[.int .i64 dom] 3)).alloc (.cells #[.int .i64 t] 3)) := (((Below.refl _ w).alloc (Nat.le_refl _) _).alloc (by simp) _).alloc (by first | (simp; done) | (simp; omega)) _
  have hS1 : SlotsR (((w.alloc (.cells #[.slice a s.length c] 22)).alloc (.cells #[.int .i64 dom] 3)).alloc (.cells #[.int .i64 t] 3)) (.slice a s.length c) s := h.keep (F := fun _ => False) ((((Keep.refl _ w).alloc _).alloc _).alloc _) (fun _ _ h => h)
  have bL2 := (bL.alloc (.cells #[.int .i64 dom] 3)).alloc (.cells #[.int .i64 t] 3)
  have bD2 := bD.alloc (.cells #[.int .i64 t] 3)
  have hsz3 : (((w.alloc (.cells #[.slice a s.length c] 22)).alloc (.cells #[.int .i64 dom] 3)).alloc (.cells #[.int .i64 t] 3)).heap.size = w.heap.size + 3 := by simp
  refine callsIn_of_wp_marks Try.func17 rfl trivial ?_ hro
  simp only [Try.ntmps17, List.size_toArray, List.length_cons, List.length_nil, Nat.reduceAdd, Nat.reduceSub, Array.replicate_succ, Array.replicate_zero, List.push_toArray, List.append_toArray, List.nil_append, List.cons_append]
  clear h
  have cL := bL2.cell
  by_cases hc0 : cyc s = 0
  · have E0 : Hid (nextOf s dom t = (0, false)) := hid (by unfold nextOf; rw [if_pos hc0])
    gi_wp2_with (refine ⟨trivial, ?_⟩; gi_at_call 15; refine (callsIn_wide.2 (cycle_any hS1)).mono ?_; rintro e W1 ⟨rfl, hB1⟩; rw [hc0])
    have hsz := hB1.size
    rw [hsz3] at hsz
    refine ⟨.tuple #[.int .i64 0, .bool false], by simp [results, Try.f17, go_sem], by rw [E0.out], ?_⟩
    exact ((hB0.trans (hB1.mono (by omega))).alloc (by omega) _).alloc (by first | (simp; done) | (simp; omega)) _
  · gi_wp2_with (first
      | (refine ⟨trivial, ?_⟩; gi_at_call 15; refine (callsIn_wide.2 (cycle_any hS1)).mono ?_; rintro e W1 ⟨rfl, hB1⟩; have xL := ((boxed_below bL2 hB1).alloc (.cells #[.int .i64 (cyc s)] 3)).alloc (.cells #[.int .i64 (-1)] 3); have xD := ((boxed_below bD2 hB1).alloc (.cells #[.int .i64 (cyc s)] 3)).alloc (.cells #[.int .i64 (-1)] 3); have xT := ((boxed_below bT hB1).alloc (.cells #[.int .i64 (cyc s)] 3)).alloc (.cells #[.int .i64 (-1)] 3); have xC := (Boxed.new W1 3 (.int .i64 (cyc s))).alloc (.cells #[.int .i64 (-1)] 3); have xB := Boxed.new (W1.alloc (.cells #[.int .i64 (cyc s)] 3)) 3 (.int .i64 (-1)); rw [World.size_alloc] at xB; have cT := xT.cell; have fT := xT.frozen; have cC := xC.cell; have hcb : (cyc s == 0) = false := (by simp [hc0]); have xL2 := xL.other (B' := w.heap.size + 1 + 1) (by omega) (.int .i64 (heldOf t)); have cL2 := xL2.cell)
      | (refine ⟨trivial, ?_⟩; gi_at_call 30; refine (callsIn_wide.2 (held_any _ _)).mono ?_; rintro e _ ⟨rfl, rfl⟩)
      | (refine ⟨trivial, ?_⟩; gi_at_call 31; refine (counts_in Fence.wide (4 - 1) trivial hro _ _ _ _).mono ?_; rintro e w' ⟨rfl, rfl⟩))
    have hsz := hB1.size
    rw [hsz3] at hsz
    have hBT : Below w.heap.size w W1 := hB0.trans (hB1.mono (by omega))
    obtain ⟨W0, hW0⟩ : ∃ x, ((((W1.alloc (.cells #[.int .i64 (cyc s)] 3)).alloc (.cells #[.int .i64 (-1)] 3)).setCell ⟨w.heap.size + 1 + 1, 0, none⟩ (.int .i64 (heldOf t))).alloc (.cells #[.slice a s.length c] 22)) = x := ⟨_, rfl⟩
    have dL : Boxed W0 w.heap.size 22 (.slice a s.length c) := by rw [← hW0]; exact xL2.alloc _
    have dD : Boxed W0 (w.heap.size + 1) 3 (.int .i64 dom) := by rw [← hW0]; exact (xD.other (by omega) _).alloc _
    have dT : Boxed W0 (w.heap.size + 1 + 1) 3 (.int .i64 (heldOf t)) := by rw [← hW0]; exact (xT.set _).alloc _
    have dC : Boxed W0 W1.heap.size 3 (.int .i64 (cyc s)) := by rw [← hW0]; exact (xC.other (by omega) _).alloc _
    have dB : Boxed W0 (W1.heap.size + 1) 3 (.int .i64 (-1)) := by rw [← hW0]; exact (xB.other (by omega) _).alloc _
    have bN : Boxed W0 (W1.heap.size + 1 + 1) 22 (.slice a s.length c) := by
      rw [← hW0]
      have := Boxed.new (((W1.alloc (.cells #[.int .i64 (cyc s)] 3)).alloc (.cells #[.int .i64 (-1)] 3)).setCell ⟨w.heap.size + 1 + 1, 0, none⟩ (.int .i64 (heldOf t))) 22 (.slice a s.length c)
      rwa [World.size_setCell, World.size_alloc, World.size_alloc] at this
    have hBW : Below w.heap.size w W0 := by rw [← hW0]; exact ((((hBT.alloc (by omega) _).alloc (by first | (simp; done) | (simp; omega)) _).setCell (p := ⟨w.heap.size + 1 + 1, 0, none⟩) (by first | (simp; done) | (simp; omega)) _).alloc (by first | (simp; done) | (simp; omega)) _)
    have hs0 : W0.heap.size = W1.heap.size + 3 := by rw [← hW0]; simp
    rw [hW0]
    clear hW0 xL xD xT xC xB cT fT cC cL cL2 xL2 bL bD bT bL2 bD2 hB0 hS1 hB1 hBT hcb
    refine wpIn_rangeFunc_ownF hro (by omega) (gf := 37) (lb := #[.pointer (some ⟨W1.heap.size + 1 + 1, 0, none⟩)]) rfl trivial (enters_of Try.func37 (by kernel_rfl) rfl)
      (counts_stops Fence.wide (4 - 1) trivial hro (by omega) (W1.heap.size + 1 + 1) _ s w W0 (by omega) bN.cell HS.out hBW) (fun h k => h.trans k) (fun W l o o' hl ho hc _ => KpS.book (by omega) W l o o' hl ho hc) (Below.refl _ _) (fun _ => rfl)
      (fun pre W => (Boxed W w.heap.size 22 (.slice a s.length c) ∧ Boxed W (w.heap.size + 1) 3 (.int .i64 dom) ∧ Boxed W (w.heap.size + 1 + 1) 3 (.int .i64 (heldOf t)) ∧ Boxed W W1.heap.size 3 (.int .i64 (cyc s)) ∧ Boxed W (W1.heap.size + 1) 3 (.int .i64 (nxF dom (cyc s) (heldOf t) (heldOf t % cyc s) (pre.map (·.1))))) ∧ Below w.heap.size w W)
      (fun _ _ _ => False)
      (OwnFrom.and (Own.from (fun q A B row hs hg hr => ⟨boxed_own w.heap.size 22 (fun (_ : List (EntS s)) => .slice a s.length c) q A B row hs.1 hg hr, boxed_own (w.heap.size + 1) 3 (fun (_ : List (EntS s)) => .int .i64 dom) q A B row hs.2.1 hg hr, boxed_own (w.heap.size + 1 + 1) 3 (fun (_ : List (EntS s)) => .int .i64 (heldOf t)) q A B row hs.2.2.1 hg hr, boxed_own W1.heap.size 3 (fun (_ : List (EntS s)) => .int .i64 (cyc s)) q A B row hs.2.2.2.1 hg hr, boxed_own (W1.heap.size + 1) 3 (fun (pre : List (EntS s)) => .int .i64 (nxF dom (cyc s) (heldOf t) (heldOf t % cyc s) (pre.map (·.1)))) q A B row hs.2.2.2.2 hg hr⟩) _) (ownFrom_below (Nat.le_refl _) (by omega)))
      (fun _ _ _ _ _ hs _ _ => hs)
      ⟨⟨dL, dD, dT, dC, dB⟩, hBW⟩
      (fun x => { tmps := #[.slice a s.length c, .int .i64 dom, .int .i64 t, .pointer (some ⟨w.heap.size, 0, none⟩), .pointer (some ⟨w.heap.size + 1, 0, none⟩), .pointer (some ⟨w.heap.size + 1 + 1, 0, none⟩), .int .i64 0, .bool false, .pointer (some ⟨W1.heap.size, 0, none⟩), .pointer (some ⟨W1.heap.size + 1, 0, none⟩), .int .i64 (x.1.n : Int), .int .i64 x.1.at_, undef,
          .slice a s.length c, .int .i64 (cyc s), .int .i64 (cyc s), .bool false, .int .i64 t, .int .i64 (heldOf t), .slice a s.length c, .func (.func 37) #[] #[.pointer (some ⟨W1.heap.size + 1 + 1, 0, none⟩)], .int .i64 (x.1.n : Int), .int .i64 x.1.at_, undef, undef, undef, undef, undef, undef, undef, undef, undef, undef, undef, undef, undef, undef, undef, undef, undef, undef, undef, undef, undef, undef, undef, undef, undef, undef, undef, undef, undef, undef, undef, undef, undef, undef, undef, undef], defers := [] }) ?assign ?body ?done ?stop
    case assign =>
      intro l x W K hK
      gi_wp2
      exact hK
    case body =>
      rintro l pre x W ⟨⟨hL, hD, hT, hC, hBB⟩, hB⟩ _
      obtain ⟨g, off, rfl, -, hns, hgw, hmx, k1, -⟩ := HS.out.ent x
      have k1' := (hB.cell (p := ⟨g, off + x.1.n * 2, none⟩) hgw).trans k1
      obtain ⟨-, hn16, -, hl1, hl16, ha0, hac⟩ := entsOf_mem x.2
      unfold maxLen at hmx
      have hcb := cyc_bd s
      have hth := heldOf_bd t
      have hr0 := Int.emod_nonneg (heldOf t) hc0
      have hr1 := Int.emod_lt_of_pos (heldOf t) (show 0 < cyc s by omega)
      have hrT := emod_le_self' hth.1 (show 0 < cyc s by omega)
      have cL := hL.cell
      have cD := hD.cell
      have cT := hT.cell
      have cC := hC.cell
      have cB := hBB.cell
      have fB := hBB.frozen
      have hcn : (cyc s == 0) = false := by simp [hc0]
      have hm : (heldOf t).tmod (cyc s) = heldOf t % cyc s := Int.tmod_eq_emod_of_nonneg hth.1
      obtain ⟨r, hr⟩ : ∃ r, heldOf t % cyc s = r := ⟨_, rfl⟩
      rw [hr] at hm hr0 hr1 hrT cB hBB ⊢
      have e1 := hid (nxF_snoc dom (cyc s) (heldOf t) r (pre.map (·.1)) x.1)
      obtain ⟨bst, hbst⟩ : ∃ q, nxF dom (cyc s) (heldOf t) r (pre.map (·.1)) = q := ⟨_, rfl⟩
      rw [hbst] at e1 hBB cB
      obtain ⟨T, hTT⟩ : ∃ T, heldOf t = T := ⟨_, rfl⟩
      rw [hTT] at hm hth hrT cT hT e1 ⊢
      obtain ⟨CC, hCC⟩ : ∃ q, cyc s = q := ⟨_, rfl⟩
      rw [hCC] at hm hcb hr1 hac cC hC hcn e1 ⊢
      have hcz : ¬ CC = 0 := by intro e; rw [e] at hcn; simp at hcn
      have w1 : IntKind.i64.wrap (T - r) = T - r := IntWalk.i64_in _ ⟨by omega, by omega⟩
      have w2 : IntKind.i64.wrap (T - r + x.1.at_) = T - r + x.1.at_ := IntWalk.i64_in _ ⟨by omega, by omega⟩
      have HL := hid hL
      have HD := hid hD
      have HT := hid hT
      have HC := hid hC
      have HB := hid hB
      have HBB := hid hBB
      have FIN : ∀ (W' : World) (q : Int), (nxF dom CC T r ((pre ++ [x]).map (·.1)) = q) → KeepsOthers W W' → KpS w.heap.size W0.heap.size W W' → Boxed W' w.heap.size 22 (.slice (some ⟨g, off, none⟩) s.length c) → Boxed W' (w.heap.size + 1) 3 (.int .i64 dom) → Boxed W' (w.heap.size + 1 + 1) 3 (.int .i64 T) → Boxed W' W1.heap.size 3 (.int .i64 CC) → Boxed W' (W1.heap.size + 1) 3 (.int .i64 q) → Below w.heap.size w W' →
          KeepsOthers W W' ∧ KpS w.heap.size W0.heap.size W W' ∧ (Boxed W' w.heap.size 22 (.slice (some ⟨g, off, none⟩) s.length c) ∧ Boxed W' (w.heap.size + 1) 3 (.int .i64 dom) ∧ Boxed W' (w.heap.size + 1 + 1) 3 (.int .i64 T) ∧ Boxed W' W1.heap.size 3 (.int .i64 CC) ∧ Boxed W' (W1.heap.size + 1) 3 (.int .i64 (nxF dom CC T r ((pre ++ [x]).map (·.1))))) ∧ Below w.heap.size w W' :=
        fun W' q hq a1 a2 a3 a4 a5 a6 a7 a8 => ⟨a1, a2, ⟨a3, a4, a5, a6, by rw [hq]; exact a7⟩, a8⟩
      have FIN2 := FIN
      rw [hs0] at FIN2
      have FIN := hid FIN
      have FIN3 := hid FIN2
      clear FIN2
      have e2 : nxF dom CC T r ((pre ++ [x]).map (·.1)) = if x.1.dom = dom ∧ cand CC T r x.1 ≤ 4611686018427387904 ∧ (bst < 0 ∨ cand CC T r x.1 < bst) then cand CC T r x.1 else bst := by
        rw [List.map_append]; exact e1.out
      have E2 := hid e2
      clear e2 hbst hTT hCC hr hL hD hT hC hB hBB e1 k1
      by_cases hd : x.1.dom = dom
      · have hdb : (x.1.dom != dom) = false := by simp [hd]
        have cd : cand CC T r x.1 = if T - r + x.1.at_ < T then T - r + x.1.at_ + CC else T - r + x.1.at_ := rfl
        obtain ⟨xd, hxd⟩ : ∃ q, x.1.dom = q := ⟨_, rfl⟩
        rw [hxd] at k1' hdb
        have HX := hid hxd
        have HDD := hid hd
        clear hxd hd
        have CD := hid cd
        clear cd
        rcases (by omega : T - r + x.1.at_ < T ∨ ¬ T - r + x.1.at_ < T) with hlt | hlt
        · have hcd := CD.out
          rw [if_pos hlt] at hcd
          have ec := E2.out
          rw [hcd] at ec
          have EC := hid ec
          clear ec hcd CD E2
          gi_wp2
          refine wpIn_region_text [0,0,0,0,0,0,0] (fun W' => W'.cell? ⟨w.heap.size, 0, none⟩ = some (.slice (some ⟨g, off, none⟩) s.length c) ∧ W'.cell? ⟨w.heap.size + 1, 0, none⟩ = some (.int .i64 dom) ∧ W'.cell? ⟨g, off + x.1.n * 2, none⟩ = some (.int .i64 xd)) (by kernel_rfl) (by kernel_rfl) (by kernel_rfl) ⟨cL, cD, k1'⟩ ?_
          repeat (first
            | (refine' wpT_calm (v := _) (by rfl) (fun W hW => ?_) ?_; rotate_left
               · ((try dsimp only at hW); go_simp; first | done | rfl)
               simp only [Act.put, List.setIfInBounds_toArray, List.set_cons_zero, List.set_cons_succ])
            | (refine' wpT_reads (v := _) (by rfl) ?_ ?_; rotate_left
               · (go_simp; first | done | rfl)
               simp only [Act.put, List.setIfInBounds_toArray, List.set_cons_zero, List.set_cons_succ])
            | (refine wpT_skip (by rfl) rfl ?_; simp only [Act.put, List.setIfInBounds_toArray, List.set_cons_zero, List.set_cons_succ])
            | (refine wpT_does (by rfl) (fun K hK => ?_); go_simp; refine hK _ _ ?_ ?_
               · (trivial)
               clear hK K; try simp only [Act.put, List.setIfInBounds_toArray, List.set_cons_zero, List.set_cons_succ])
            | (refine wpT_last (by rfl) (fun K hK => ?_); go_simp; refine hK _ _ ?_; clear hK K)
            | (refine wpT_nil ?_))
          gi_wp2
          refine wpIn_region_text [0,0,0,0,0,0,0,0] (fun W' => W'.cell? ⟨w.heap.size + 1 + 1, 0, none⟩ = some (.int .i64 T) ∧ W'.cell? ⟨W1.heap.size, 0, none⟩ = some (.int .i64 CC)) (by kernel_rfl) (by kernel_rfl) (by kernel_rfl) ⟨cT, cC⟩ ?_
          repeat (first
            | (refine' wpT_calm (v := _) (by rfl) (fun W hW => ?_) ?_; rotate_left
               · ((try dsimp only at hW); go_simp; first | done | rfl)
               simp only [Act.put, List.setIfInBounds_toArray, List.set_cons_zero, List.set_cons_succ])
            | (refine' wpT_reads (v := _) (by rfl) ?_ ?_; rotate_left
               · (go_simp; first | done | rfl)
               simp only [Act.put, List.setIfInBounds_toArray, List.set_cons_zero, List.set_cons_succ])
            | (refine wpT_skip (by rfl) rfl ?_; simp only [Act.put, List.setIfInBounds_toArray, List.set_cons_zero, List.set_cons_succ])
            | (refine wpT_does (by rfl) (fun K hK => ?_); go_simp; refine hK _ _ ?_ ?_
               · (trivial)
               clear hK K; try simp only [Act.put, List.setIfInBounds_toArray, List.set_cons_zero, List.set_cons_succ])
            | (refine wpT_last (by rfl) (fun K hK => ?_); go_simp; refine hK _ _ ?_; clear hK K)
            | (refine wpT_nil ?_))
          obtain ⟨A, hA⟩ : ∃ A, T - r + x.1.at_ = A := ⟨_, rfl⟩
          rw [hA] at hlt EC ⊢
          have hA1 : A ≤ 4611686018427388160 := by omega
          have hA0 : 0 ≤ A := by omega
          clear hA w1 w2 hm
          rcases (by omega : A + CC ≤ 4611686018427387904 ∨ ¬ A + CC ≤ 4611686018427387904) with hle | hle
          · rcases (by omega : bst < 0 ∨ (¬ bst < 0 ∧ A + CC < bst) ∨ (¬ bst < 0 ∧ ¬ A + CC < bst)) with hb | ⟨hb, hb2⟩ | ⟨hb, hb2⟩
            · have ec := EC.out
              rw [if_pos ⟨HDD.out, hle, .inl hb⟩] at ec
              have EC := hid ec
              clear ec
              gi_wp2
              first
                | exact FIN.out _ _ EC.out ((KeepsOthers.setCell W ⟨W1.heap.size + 1, 0, none⟩ (.int .i64 (A + CC))).trans ((KeepsOthers.drew _).trans (KeepsOthers.drew _))) (((KpS.refl _ _ W).set (p := ⟨W1.heap.size + 1, 0, none⟩) (by first | (simp; done) | (simp; omega)) (by first | (simp; done) | (simp; omega)) _).drew.drew) (HL.out.other (by omega) _) (HD.out.other (by omega) _) (HT.out.other (by omega) _) (HC.out.other (by omega) _) (HBB.out.set _) ((HB.out.setCell (p := ⟨W1.heap.size + 1, 0, none⟩) (by first | (simp; done) | (simp; omega)) _).drew.drew)
                | exact FIN3.out _ _ EC.out ((KeepsOthers.setCell W ⟨W1.heap.size + 1, 0, none⟩ (.int .i64 (A + CC))).trans ((KeepsOthers.drew _).trans (KeepsOthers.drew _))) (((KpS.refl _ _ W).set (p := ⟨W1.heap.size + 1, 0, none⟩) (by first | (simp; done) | (simp; omega)) (by first | (simp; done) | (simp; omega)) _).drew.drew) (HL.out.other (by omega) _) (HD.out.other (by omega) _) (HT.out.other (by omega) _) (HC.out.other (by omega) _) (HBB.out.set _) ((HB.out.setCell (p := ⟨W1.heap.size + 1, 0, none⟩) (by first | (simp; done) | (simp; omega)) _).drew.drew)
            · have ec := EC.out
              rw [if_pos ⟨HDD.out, hle, .inr hb2⟩] at ec
              have EC := hid ec
              clear ec
              gi_wp2
              first
                | exact FIN.out _ _ EC.out ((KeepsOthers.setCell W ⟨W1.heap.size + 1, 0, none⟩ (.int .i64 (A + CC))).trans ((KeepsOthers.drew _).trans (KeepsOthers.drew _))) (((KpS.refl _ _ W).set (p := ⟨W1.heap.size + 1, 0, none⟩) (by first | (simp; done) | (simp; omega)) (by first | (simp; done) | (simp; omega)) _).drew.drew) (HL.out.other (by omega) _) (HD.out.other (by omega) _) (HT.out.other (by omega) _) (HC.out.other (by omega) _) (HBB.out.set _) ((HB.out.setCell (p := ⟨W1.heap.size + 1, 0, none⟩) (by first | (simp; done) | (simp; omega)) _).drew.drew)
                | exact FIN3.out _ _ EC.out ((KeepsOthers.setCell W ⟨W1.heap.size + 1, 0, none⟩ (.int .i64 (A + CC))).trans ((KeepsOthers.drew _).trans (KeepsOthers.drew _))) (((KpS.refl _ _ W).set (p := ⟨W1.heap.size + 1, 0, none⟩) (by first | (simp; done) | (simp; omega)) (by first | (simp; done) | (simp; omega)) _).drew.drew) (HL.out.other (by omega) _) (HD.out.other (by omega) _) (HT.out.other (by omega) _) (HC.out.other (by omega) _) (HBB.out.set _) ((HB.out.setCell (p := ⟨W1.heap.size + 1, 0, none⟩) (by first | (simp; done) | (simp; omega)) _).drew.drew)
            · have ec := EC.out
              rw [if_neg (fun h => h.2.2.elim hb hb2)] at ec
              have EC := hid ec
              clear ec
              gi_wp2
              first
                | exact FIN.out _ _ EC.out ((KeepsOthers.drew _).trans (KeepsOthers.drew _)) ((KpS.refl _ _ W).drew.drew) HL.out HD.out HT.out HC.out HBB.out HB.out.drew.drew
                | exact FIN3.out _ _ EC.out ((KeepsOthers.drew _).trans (KeepsOthers.drew _)) ((KpS.refl _ _ W).drew.drew) HL.out HD.out HT.out HC.out HBB.out HB.out.drew.drew
          · have ec := EC.out
            rw [if_neg (fun h => hle h.2.1)] at ec
            have EC := hid ec
            clear ec
            gi_wp2
            first
              | exact FIN.out _ _ EC.out ((KeepsOthers.drew _).trans (KeepsOthers.drew _)) ((KpS.refl _ _ W).drew.drew) HL.out HD.out HT.out HC.out HBB.out HB.out.drew.drew
              | exact FIN3.out _ _ EC.out ((KeepsOthers.drew _).trans (KeepsOthers.drew _)) ((KpS.refl _ _ W).drew.drew) HL.out HD.out HT.out HC.out HBB.out HB.out.drew.drew
        · have hcd := CD.out
          rw [if_neg hlt] at hcd
          have ec := E2.out
          rw [hcd] at ec
          have EC := hid ec
          clear ec hcd CD E2
          gi_wp2
          refine wpIn_region_text [0,0,0,0,0,0,0] (fun W' => W'.cell? ⟨w.heap.size, 0, none⟩ = some (.slice (some ⟨g, off, none⟩) s.length c) ∧ W'.cell? ⟨w.heap.size + 1, 0, none⟩ = some (.int .i64 dom) ∧ W'.cell? ⟨g, off + x.1.n * 2, none⟩ = some (.int .i64 xd)) (by kernel_rfl) (by kernel_rfl) (by kernel_rfl) ⟨cL, cD, k1'⟩ ?_
          repeat (first
            | (refine' wpT_calm (v := _) (by rfl) (fun W hW => ?_) ?_; rotate_left
               · ((try dsimp only at hW); go_simp; first | done | rfl)
               simp only [Act.put, List.setIfInBounds_toArray, List.set_cons_zero, List.set_cons_succ])
            | (refine' wpT_reads (v := _) (by rfl) ?_ ?_; rotate_left
               · (go_simp; first | done | rfl)
               simp only [Act.put, List.setIfInBounds_toArray, List.set_cons_zero, List.set_cons_succ])
            | (refine wpT_skip (by rfl) rfl ?_; simp only [Act.put, List.setIfInBounds_toArray, List.set_cons_zero, List.set_cons_succ])
            | (refine wpT_does (by rfl) (fun K hK => ?_); go_simp; refine hK _ _ ?_ ?_
               · (trivial)
               clear hK K; try simp only [Act.put, List.setIfInBounds_toArray, List.set_cons_zero, List.set_cons_succ])
            | (refine wpT_last (by rfl) (fun K hK => ?_); go_simp; refine hK _ _ ?_; clear hK K)
            | (refine wpT_nil ?_))
          gi_wp2
          refine wpIn_region_text [0,0,0,0,0,0,0,0] (fun W' => W'.cell? ⟨w.heap.size + 1 + 1, 0, none⟩ = some (.int .i64 T) ∧ W'.cell? ⟨W1.heap.size, 0, none⟩ = some (.int .i64 CC)) (by kernel_rfl) (by kernel_rfl) (by kernel_rfl) ⟨cT, cC⟩ ?_
          repeat (first
            | (refine' wpT_calm (v := _) (by rfl) (fun W hW => ?_) ?_; rotate_left
               · ((try dsimp only at hW); go_simp; first | done | rfl)
               simp only [Act.put, List.setIfInBounds_toArray, List.set_cons_zero, List.set_cons_succ])
            | (refine' wpT_reads (v := _) (by rfl) ?_ ?_; rotate_left
               · (go_simp; first | done | rfl)
               simp only [Act.put, List.setIfInBounds_toArray, List.set_cons_zero, List.set_cons_succ])
            | (refine wpT_skip (by rfl) rfl ?_; simp only [Act.put, List.setIfInBounds_toArray, List.set_cons_zero, List.set_cons_succ])
            | (refine wpT_does (by rfl) (fun K hK => ?_); go_simp; refine hK _ _ ?_ ?_
               · (trivial)
               clear hK K; try simp only [Act.put, List.setIfInBounds_toArray, List.set_cons_zero, List.set_cons_succ])
            | (refine wpT_last (by rfl) (fun K hK => ?_); go_simp; refine hK _ _ ?_; clear hK K)
            | (refine wpT_nil ?_))
          obtain ⟨A, hA⟩ : ∃ A, T - r + x.1.at_ = A := ⟨_, rfl⟩
          rw [hA] at hlt EC ⊢
          have hA1 : A ≤ 4611686018427388160 := by omega
          have hA0 : 0 ≤ A := by omega
          clear hA w1 w2 hm
          rcases (by omega : A ≤ 4611686018427387904 ∨ ¬ A ≤ 4611686018427387904) with hle | hle
          · rcases (by omega : bst < 0 ∨ (¬ bst < 0 ∧ A < bst) ∨ (¬ bst < 0 ∧ ¬ A < bst)) with hb | ⟨hb, hb2⟩ | ⟨hb, hb2⟩
            · have ec := EC.out
              rw [if_pos ⟨HDD.out, hle, .inl hb⟩] at ec
              have EC := hid ec
              clear ec
              gi_wp2
              first
                | exact FIN.out _ _ EC.out ((KeepsOthers.setCell W ⟨W1.heap.size + 1, 0, none⟩ (.int .i64 (A))).trans ((KeepsOthers.drew _).trans (KeepsOthers.drew _))) (((KpS.refl _ _ W).set (p := ⟨W1.heap.size + 1, 0, none⟩) (by first | (simp; done) | (simp; omega)) (by first | (simp; done) | (simp; omega)) _).drew.drew) (HL.out.other (by omega) _) (HD.out.other (by omega) _) (HT.out.other (by omega) _) (HC.out.other (by omega) _) (HBB.out.set _) ((HB.out.setCell (p := ⟨W1.heap.size + 1, 0, none⟩) (by first | (simp; done) | (simp; omega)) _).drew.drew)
                | exact FIN3.out _ _ EC.out ((KeepsOthers.setCell W ⟨W1.heap.size + 1, 0, none⟩ (.int .i64 (A))).trans ((KeepsOthers.drew _).trans (KeepsOthers.drew _))) (((KpS.refl _ _ W).set (p := ⟨W1.heap.size + 1, 0, none⟩) (by first | (simp; done) | (simp; omega)) (by first | (simp; done) | (simp; omega)) _).drew.drew) (HL.out.other (by omega) _) (HD.out.other (by omega) _) (HT.out.other (by omega) _) (HC.out.other (by omega) _) (HBB.out.set _) ((HB.out.setCell (p := ⟨W1.heap.size + 1, 0, none⟩) (by first | (simp; done) | (simp; omega)) _).drew.drew)
            · have ec := EC.out
              rw [if_pos ⟨HDD.out, hle, .inr hb2⟩] at ec
              have EC := hid ec
              clear ec
              gi_wp2
              first
                | exact FIN.out _ _ EC.out ((KeepsOthers.setCell W ⟨W1.heap.size + 1, 0, none⟩ (.int .i64 (A))).trans ((KeepsOthers.drew _).trans (KeepsOthers.drew _))) (((KpS.refl _ _ W).set (p := ⟨W1.heap.size + 1, 0, none⟩) (by first | (simp; done) | (simp; omega)) (by first | (simp; done) | (simp; omega)) _).drew.drew) (HL.out.other (by omega) _) (HD.out.other (by omega) _) (HT.out.other (by omega) _) (HC.out.other (by omega) _) (HBB.out.set _) ((HB.out.setCell (p := ⟨W1.heap.size + 1, 0, none⟩) (by first | (simp; done) | (simp; omega)) _).drew.drew)
                | exact FIN3.out _ _ EC.out ((KeepsOthers.setCell W ⟨W1.heap.size + 1, 0, none⟩ (.int .i64 (A))).trans ((KeepsOthers.drew _).trans (KeepsOthers.drew _))) (((KpS.refl _ _ W).set (p := ⟨W1.heap.size + 1, 0, none⟩) (by first | (simp; done) | (simp; omega)) (by first | (simp; done) | (simp; omega)) _).drew.drew) (HL.out.other (by omega) _) (HD.out.other (by omega) _) (HT.out.other (by omega) _) (HC.out.other (by omega) _) (HBB.out.set _) ((HB.out.setCell (p := ⟨W1.heap.size + 1, 0, none⟩) (by first | (simp; done) | (simp; omega)) _).drew.drew)
            · have ec := EC.out
              rw [if_neg (fun h => h.2.2.elim hb hb2)] at ec
              have EC := hid ec
              clear ec
              gi_wp2
              first
                | exact FIN.out _ _ EC.out ((KeepsOthers.drew _).trans (KeepsOthers.drew _)) ((KpS.refl _ _ W).drew.drew) HL.out HD.out HT.out HC.out HBB.out HB.out.drew.drew
                | exact FIN3.out _ _ EC.out ((KeepsOthers.drew _).trans (KeepsOthers.drew _)) ((KpS.refl _ _ W).drew.drew) HL.out HD.out HT.out HC.out HBB.out HB.out.drew.drew
          · have ec := EC.out
            rw [if_neg (fun h => hle h.2.1)] at ec
            have EC := hid ec
            clear ec
            gi_wp2
            first
              | exact FIN.out _ _ EC.out ((KeepsOthers.drew _).trans (KeepsOthers.drew _)) ((KpS.refl _ _ W).drew.drew) HL.out HD.out HT.out HC.out HBB.out HB.out.drew.drew
              | exact FIN3.out _ _ EC.out ((KeepsOthers.drew _).trans (KeepsOthers.drew _)) ((KpS.refl _ _ W).drew.drew) HL.out HD.out HT.out HC.out HBB.out HB.out.drew.drew
      · have hdb : (x.1.dom != dom) = true := by simp [hd]
        have ec := hid (E2.out.trans (if_neg (fun h => hd h.1)))
        obtain ⟨xd, hxd⟩ : ∃ q, x.1.dom = q := ⟨_, rfl⟩
        rw [hxd] at k1' hdb
        clear hxd hd E2
        gi_wp2
        refine wpIn_region_text [0,0,0,0,0,0,0] (fun W' => W'.cell? ⟨w.heap.size, 0, none⟩ = some (.slice (some ⟨g, off, none⟩) s.length c) ∧ W'.cell? ⟨w.heap.size + 1, 0, none⟩ = some (.int .i64 dom) ∧ W'.cell? ⟨g, off + x.1.n * 2, none⟩ = some (.int .i64 xd)) (by kernel_rfl) (by kernel_rfl) (by kernel_rfl) ⟨cL, cD, k1'⟩ ?_
        repeat (first
          | (refine' wpT_calm (v := _) (by rfl) (fun W hW => ?_) ?_; rotate_left
             · ((try dsimp only at hW); go_simp; first | done | rfl)
             simp only [Act.put, List.setIfInBounds_toArray, List.set_cons_zero, List.set_cons_succ])
          | (refine' wpT_reads (v := _) (by rfl) ?_ ?_; rotate_left
             · (go_simp; first | done | rfl)
             simp only [Act.put, List.setIfInBounds_toArray, List.set_cons_zero, List.set_cons_succ])
          | (refine wpT_skip (by rfl) rfl ?_; simp only [Act.put, List.setIfInBounds_toArray, List.set_cons_zero, List.set_cons_succ])
          | (refine wpT_does (by rfl) (fun K hK => ?_); go_simp; refine hK _ _ ?_ ?_
             · (trivial)
             clear hK K; try simp only [Act.put, List.setIfInBounds_toArray, List.set_cons_zero, List.set_cons_succ])
          | (refine wpT_last (by rfl) (fun K hK => ?_); go_simp; refine hK _ _ ?_; clear hK K)
          | (refine wpT_nil ?_))
        gi_wp2
        first
          | exact FIN.out _ _ ec.out (KeepsOthers.drew _) (KpS.refl _ _ W).drew HL.out HD.out HT.out HC.out HBB.out HB.out.drew
          | exact FIN3.out _ _ ec.out (KeepsOthers.drew _) (KpS.refl _ _ W).drew HL.out HD.out HT.out HC.out HBB.out HB.out.drew
    case done =>
      rintro D ys W hD hys ⟨⟨hL, hDD, hT, hC, hBB⟩, hB⟩ hK
      rw [hys] at hBB
      obtain ⟨q, hq⟩ : ∃ q, nxF dom (cyc s) (heldOf t) (heldOf t % cyc s) (entsOf s) = q := ⟨_, rfl⟩
      have e1 : Hid (nextOf s dom t = (max q 0, decide (q ≥ 0))) := hid (by unfold nextOf; rw [if_neg hc0]; dsimp only; rw [hq])
      rw [hq] at hBB
      have cB := hBB.cell
      gi_wp2
      refine wpIn_wide.2 ?_
      refine wp_region_text [0,0,0,0,0,0] (fun W' => W'.cell? ⟨W1.heap.size + 1, 0, none⟩ = some (.int .i64 q)) (by kernel_rfl) (by kernel_rfl) cB ?_
      repeat (first
        | (refine' wpT_calm (v := _) (by rfl) (fun W hW => ?_) ?_; rotate_left
           · ((try dsimp only at hW); go_simp; first | done | rfl)
           simp only [Act.put, List.setIfInBounds_toArray, List.set_cons_zero, List.set_cons_succ])
        | (refine' wpT_reads (v := _) (by rfl) ?_ ?_; rotate_left
           · (go_simp; first | done | rfl)
           simp only [Act.put, List.setIfInBounds_toArray, List.set_cons_zero, List.set_cons_succ])
        | (refine wpT_skip (by rfl) rfl ?_; simp only [Act.put, List.setIfInBounds_toArray, List.set_cons_zero, List.set_cons_succ])
        | (refine wpT_does (by rfl) (fun K hK => ?_); go_simp; refine hK _ _ ?_ ?_
           · (trivial)
           clear hK K; try simp only [Act.put, List.setIfInBounds_toArray, List.set_cons_zero, List.set_cons_succ])
        | (refine wpT_last (by rfl) (fun K hK => ?_); go_simp; refine hK _ _ ?_; clear hK K)
        | (refine wpT_nil ?_))
      gi_wp2
      all_goals
        have hK1 : (World.drew W).heap[D]? = some (.deferred (some [])) := hK
        refine ⟨by simp, .inl ⟨_, _, rfl, run_takeDeferred hK1, ?_⟩⟩
        refine ⟨.tuple #[.int .i64 (max q 0), .bool (decide (q ≥ 0))], by simp [results, Try.f17, go_sem] <;> omega, by rw [e1.out], ?_⟩
        exact hB.drew.trans (belowK_b (w := w) (Nat.le_refl _) _ D _ _ (by omega) hK1 rfl rfl)
    case stop =>
      rintro D c pre W _ _ h _
      exact h.elim

def addOf (t d : Int) : Int := heldOf t + max 0 (min d (4611686018427387904 - heldOf t))

set_option maxHeartbeats 1000000 in
theorem tadd_any (t d : Int) (w : World) : Calls Try.prog 19 #[.int .i64 t, .int .i64 d] w fun e w' => e = .returned (.int .i64 (addOf t d)) ∧ w = w' := by
  have hb := heldOf_bd t
  have E0 : Hid (addOf t d = heldOf t + max 0 (min d (4611686018427387904 - heldOf t))) := hid rfl
  go_enter Try.func19, Try.ntmps19
  go_wp2_with fail
  refine (held_any t w).mono ?_
  rintro _ _ ⟨rfl, rfl⟩
  obtain ⟨T, hT⟩ : ∃ T, heldOf t = T := ⟨_, rfl⟩
  rw [hT] at hb E0 ⊢
  go_wp2
  all_goals
    go_ret
    exact ⟨by rw [E0.out]; simp only [Ending.returned.injEq]; show Value.int _ _ = _; congr 1; omega, rfl⟩
end Go.Proofs.Ythnocalnlonniaa
