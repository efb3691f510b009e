/- The walk of SemaKeeps. -/
import Derived.Test.YtegpoocmhamlpaaSmG
namespace Go.Proofs.Ytegpoocmhamlpaa
open Go Go.RowKit

/-- Two lists of the call's own, apart from the object and from each other. -/
def Ap (w : World) (G : Nat → Prop) (v u : Value) : Prop := (∀ x, v.ownBlock = some x → w.heap.size ≤ x ∧ ¬ G x) ∧ (∀ x, u.ownBlock = some x → w.heap.size ≤ x ∧ ¬ G x) ∧ ∀ x, v.ownBlock = some x → u.ownBlock ≠ some x

theorem Ap.on {w w1 w2 : World} {G G' : Nat → Prop} {v u : Value} {l m : List Int} (h : Ap w G v u) (hv : OwnI w1 v l) (hu : OwnI w1 u m) (hs : w1.heap.size ≤ w2.heap.size) (J : ∀ k, G' k → G k ∨ w2.heap.size ≤ k) : Ap w G' v u :=
  ⟨fun x hx => ⟨(h.1 x hx).1, fun hg => (J x hg).elim (h.1 x hx).2 (fun h' => by have := own_lt hv hx; omega)⟩, fun x hx => ⟨(h.2.1 x hx).1, fun hg => (J x hg).elim (h.2.1 x hx).2 (fun h' => by have := own_lt hu hx; omega)⟩, h.2.2⟩

set_option maxRecDepth 10000 in
set_option maxHeartbeats 2000000 in
theorem walk_SemaKeeps (w : World) (s : Int) (hs : (Lit.int .u8 s).wf = true) (v1 : Value) (n1 : Nat) (f1 : Nat → Nat → Int) (w1 : ArgRows w v1 [.u8, .i64, .i64] n1 f1) :
    Calls Try.prog 4 #[.int .u8 s, v1] w fun en w' => en = .returned (.bool true) ∧ Below w.heap.size w w' := by
  obtain ⟨a1, c1, hv1⟩ := w1.form
  have A1 := hid w1
  have V1 := hid hv1
  rw [hv1]
  clear w1 hv1
  obtain ⟨M, hM, hM16⟩ := u8_mod s 16 hs (by decide)
  obtain ⟨N, hN⟩ : ∃ N : Int, 1 + (M : Int) = N := ⟨_, rfl⟩
  have HN := hid hN
  have hN1 : 1 ≤ N := by omega
  have hN16 : N ≤ 16 := by omega
  clear hN
  go_enter Try.func4, Try.ntmps4
  go_wp2_with fail
  refine (mnew_any (1 + M) w).mono ?_
  rintro e W1 ⟨rfl, G1, N1⟩
  rw [HN.out] at N1
  obtain ⟨b, hb⟩ : ∃ x, w.heap.size = x := ⟨_, rfl⟩
  rw [show szOf N = N by unfold szOf; rw [if_neg (by omega), if_neg (by omega)]] at N1
  rw [hb] at N1 ⊢
  try rw [HN.out]
  clear hM hM16
  have kA : Keep (fun _ => False) W1 ((W1.alloc (.cells #[] 3)).alloc (.cells #[] 3)) := ((Keep.refl _ _).alloc _).alloc _
  have N2 := hid (N1.quiet kA)
  have oW : OwnI ((W1.alloc (.cells #[] 3)).alloc (.cells #[] 3)) (.slice (some ⟨W1.heap.size, 0, none⟩) 0 0) [] := OwnI.keep (made_rowI W1) ((Keep.refl (fun _ => False) _).alloc _) (fun _ _ h => h)
  have oM : OwnI ((W1.alloc (.cells #[] 3)).alloc (.cells #[] 3)) (.slice (some ⟨W1.heap.size + 1, 0, none⟩) 0 0) [] := by
    have := (made_rowI (W1.alloc (.cells #[] 3)) : OwnI _ _ [])
    rw [World.size_alloc] at this
    exact this
  have ap : (∀ x, (Value.slice (some ⟨W1.heap.size, 0, none⟩) 0 0).ownBlock = some x → w.heap.size ≤ x ∧ ¬ G1 x) ∧ (∀ x, (Value.slice (some ⟨W1.heap.size + 1, 0, none⟩) 0 0).ownBlock = some x → w.heap.size ≤ x ∧ ¬ G1 x) ∧ ∀ x, (Value.slice (some ⟨W1.heap.size, 0, none⟩) 0 0).ownBlock = some x → (Value.slice (some ⟨W1.heap.size + 1, 0, none⟩) 0 0).ownBlock ≠ some x := by
    have z := N1.2.2.size
    refine ⟨fun x hx => ?_, fun x hx => ?_, fun x hx h => ?_⟩
    · have e := Option.some.inj hx; dsimp only at e
      exact ⟨by omega, fun h => by have := N1.1.2.1 x h; omega⟩
    · have e := Option.some.inj hx; dsimp only at e
      exact ⟨by omega, fun h => by have := N1.1.2.1 x h; omega⟩
    · have e := Option.some.inj hx; have e2 := Option.some.inj h; dsimp only at e e2; omega
  have OW := hid oW
  have OM := hid oM
  have AP := hid ap
  clear N1 oW oM ap kA
  go_wp2_with fail
  go_loopw [7, 8, 9, 10] (fun wo mn tk i wr => ∃ (k : Nat) (S : SS) (who many : List Int) (aW : Option Addr) (cW : Nat) (aM : Option Addr) (cM : Nat) (G : Nat → Prop), k ≤ n1 ∧ k ≤ 60 ∧ i = .int .i64 k ∧ wo = .slice aW who.length cW ∧ mn = .slice aM who.length cM ∧ tk = .int .i64 (N - S.free) ∧ S.size = N ∧ S.l.length ≤ k ∧ who.length ≤ k ∧ who.length = many.length ∧ KInv S who many ∧ OwnI wr (.slice aW who.length cW) who ∧ OwnI wr (.slice aM who.length cM) many ∧ MNew 69 w wr G b (scs S) ∧ Ap w G (.slice aW who.length cW) (.slice aM who.length cM)) (fun _ _ _ i _ => 60 - (intOf i).toNat)
  case atStart => exact ⟨0, ⟨N, N, []⟩, [], [], _, _, _, _, G1, Nat.zero_le _, by omega, rfl, rfl, rfl, by show _ = Value.int .i64 (N - N); rw [Int.sub_self], rfl, Nat.le_refl _, Nat.le_refl _, rfl, ⟨good_0 N hN1 hN16, List.nodup_nil, by simp⟩, OW.out, OM.out, N2.out, AP.out⟩
  case round =>
    obtain ⟨k, S, who, many, aW, cW, aM, cM, G, hk, hk60, rfl, rfl, rfl, rfl, hSz, hSl, hwk, hwm, hKI, hOW, hOM, hNN, hAP⟩ := hrel
    have KI := hid hKI
    have OWr := hid hOW
    have OMr := hid hOM
    have Nr := hid hNN
    have APr := hid hAP
    have WM := hid hwm
    have SZ := hid hSz
    have f0 := hKI.good.f0
    have f1' := hKI.good.f1
    rw [hSz] at f1'
    clear hKI hOW hOM hNN hAP N2 OW OM AP hwm hSz
    by_cases hlt : k < n1 ∧ k < 60
    · obtain ⟨g, off, cc, hv, hg, hmx, hc⟩ := arg_act3 A1.out (by omega)
      have hav : a1 = some ⟨g, off, none⟩ ∧ c1 = cc := by rw [V1.out] at hv; cases hv; exact ⟨rfl, rfl⟩
      obtain ⟨rfl, rfl⟩ := hav
      obtain ⟨⟨k1, k2, k3⟩, u1⟩ := hc k hlt.1
      have k1 := (Nr.out.2.2.cell (p := ⟨g, off + k * 3, none⟩) hg (fun h => h)).trans k1
      have k2 := (Nr.out.2.2.cell (p := ⟨g, off + k * 3 + 1, none⟩) hg (fun h => h)).trans k2
      have k3 := (Nr.out.2.2.cell (p := ⟨g, off + k * 3 + 2, none⟩) hg (fun h => h)).trans k3
      have hgr := Nat.lt_of_lt_of_le hg Nr.out.2.2.size
      have hgne := Nat.ne_of_lt hgr
      have hlt1 : (k : Int) < (n1 : Int) := by omega
      have hlt2 : (k : Int) < 60 := by omega
      obtain ⟨Q, hQ, hQ4⟩ := u8_mod (f1 k 0) 4 u1 (by decide)
      have d0 : 0 ≤ f1 k 0 := (u8_bd _ u1).1
      have d1 : f1 k 0 ≤ 255 := (u8_bd _ u1).2
      have hqm : f1 k 0 % 4 = (Q : Int) := by rw [← hQ, Int.tmod_eq_emod_of_nonneg d0]
      generalize f1 k 0 = d at k1 d0 d1 hQ hqm
      obtain ⟨t, ht⟩ : ∃ t, f1 k 1 = t := ⟨_, rfl⟩
      obtain ⟨nn, hnn⟩ : ∃ x, f1 k 2 = x := ⟨_, rfl⟩
      rw [ht] at k2
      rw [hnn] at k3
      unfold maxLen at hmx
      clear hc hv u1 ht hnn
      have kB : Keep (fun _ => False) wr ((wr.alloc (.cells #[.int .u8 d, .int .i64 t, .int .i64 nn] 36)).alloc (.cells #[] 3)) := ((Keep.refl _ _).alloc _).alloc _
      have N0 := hid (Nr.out.quiet kB)
      have OW0 := hid (OWr.out.keep kB fun _ _ h => h)
      have OM0 := hid (OMr.out.keep kB fun _ _ h => h)
      have x2 : ((wr.alloc (.cells #[.int .u8 d, .int .i64 t, .int .i64 nn] 36)).alloc (.cells #[] 3)).cell? ⟨wr.heap.size, 2, none⟩ = some (.int .i64 nn) := by
        rw [World.cell?_alloc_old _ _ _ (by rw [World.size_alloc]; exact Nat.ne_of_lt (Nat.lt_succ_self _)), World.cell?_alloc_new]; rfl
      have X2 := hid x2
      have x1 : ((wr.alloc (.cells #[.int .u8 d, .int .i64 t, .int .i64 nn] 36)).alloc (.cells #[] 3)).cell? ⟨wr.heap.size, 1, none⟩ = some (.int .i64 t) := by
        rw [World.cell?_alloc_old _ _ _ (by rw [World.size_alloc]; exact Nat.ne_of_lt (Nat.lt_succ_self _)), World.cell?_alloc_new]; rfl
      have X1 := hid x1
      have HQ1 := hid (fun x (hx : (Value.slice aW who.length cW).ownBlock = some x) => own_lt OWr.out hx)
      have HQ2 := hid (fun x (hx : (Value.slice aM who.length cM).ownBlock = some x) => own_lt OMr.out hx)
      have xl : wr.heap.size < ((wr.alloc (.cells #[.int .u8 d, .int .i64 t, .int .i64 nn] 36)).alloc (.cells #[] 3)).heap.size := by rw [World.size_alloc, World.size_alloc]; omega
      have xG : ¬ G wr.heap.size := fun h => by have := Nr.out.1.2.1 _ h; omega
      have hS1000 : S.l.length ≤ 1000 := by omega
      have z0 := hid Nr.out.2.2.size
      have r0 : OwnI ((wr.alloc (.cells #[.int .u8 d, .int .i64 t, .int .i64 nn] 36)).alloc (.cells #[] 3)) (.slice (some ⟨wr.heap.size + 1, 0, none⟩) 0 0) [] := by
        have := (made_rowI (wr.alloc (.cells #[.int .u8 d, .int .i64 t, .int .i64 nn] 36)) : OwnI _ _ [])
        rw [World.size_alloc] at this
        exact this
      have R0 := hid r0.reads
      clear x2 x1 r0
      rcases (by omega : Q = 0 ∨ Q = 1 ∨ 2 ≤ Q) with hq | hq | hq
      · subst hq
        obtain ⟨o, bb, S', hb'⟩ : ∃ o bb S', mdp S t = (o, bb, S') := ⟨_, _, _, rfl⟩
        obtain ⟨P, rfl, hHas, hbd, hfree, hsize, hinv, hl1, hl2⟩ := keeps_drop KI.out t hb'
        have HB := hid hb'
        have HH := hid hHas
        have KI' := hid hinv
        have BD := hid hbd
        have SZ' := hid (hsize.trans SZ.out)
        have hT : N - S.free + sumP P = N - S'.free := by rw [hfree]; omega
        have HT := hid hT
        clear hb' hHas hinv hbd hsize hfree hT
        clear kB
        go_wp2_with fail
        refine (mdrop_any t N0.out KI.out.good hS1000 HB.out).mono ?_
        rintro e W5 ⟨a5, m5, rfl, R5, K5, G5, N5, J5, Q5⟩
        rw [List.length_map] at R5 ⊢
        have OW5 := hid (OW0.out.keep K5 fun x hx => (APr.out.1 x hx).2)
        have OM5 := hid (OM0.out.keep K5 fun x hx => (APr.out.2.1 x hx).2)
        have AP5 := hid (APr.out.on OW0.out OM0.out (Nat.le_refl _) J5)
        have N5 := hid N5
        have R5 := hid R5
        obtain ⟨T, hTe⟩ : ∃ T, N - S.free = T := ⟨_, rfl⟩
        rw [hTe] at HT ⊢
        have HL := hid (And.intro hl1 hl2)
        have hT0 : -100 ≤ T := by omega
        have hT1 : T ≤ 100 := by omega
        clear J5 K5 Q5 hTe
        go_wp2_with fail
        go_loopw [9, 16] (fun tk kk wq => ∃ j : Nat, j ≤ P.length ∧ kk = .int .i64 j ∧ tk = .int .i64 (T + sumP (P.take j)) ∧ Keep (fun _ => False) W5 wq) (fun _ kk _ => P.length - (intOf kk).toNat)
        case atStart => exact ⟨0, Nat.zero_le _, rfl, by rw [List.take_zero, sumP, Int.add_zero], Keep.refl _ _⟩
        case round =>
          obtain ⟨j, hj, rfl, rfl, hKq⟩ := hrel
          have KQ := hid hKq
          clear hKq
          by_cases hjl : j < P.length
          · have hjl' : (j : Int) < (P.length : Int) := by omega
            obtain ⟨gG, oG, cG, hvG, hmxG, hcG⟩ := R5.out.at (n := P.length) (by rw [List.length_map]) (by omega)
            cases hvG
            have kG := hcG j hjl
            rw [at2_fst P j hjl] at kG
            have E := hid (at2_fst P j hjl)
            obtain ⟨i, hi1, hi2, hi3⟩ := HH.out _ (at2_mem hjl)
            have ST := hid (sumP_take P j hjl)
            have B1 := sumP_bd P j BD.out
            have Bp := BD.out _ (at2_mem hjl)
            obtain ⟨x, hx⟩ : ∃ x, (at2 P j).1 = x := ⟨_, rfl⟩
            obtain ⟨y, hy⟩ : ∃ y, (at2 P j).2 = y := ⟨_, rfl⟩
            rw [hx] at kG hi2 E
            rw [hy] at hi3 ST Bp
            have PL : P.length ≤ 1000 := by have := HL.out.2; omega
            obtain ⟨X, hX⟩ : ∃ X, T + sumP (P.take j) = X := ⟨_, rfl⟩
            rw [hX]
            have X0 : -100000 ≤ X := by omega
            have X1 : X ≤ 100000 := by omega
            have HX := hid hX
            have HI := hid (And.intro hi2 hi3)
            obtain ⟨gW, oW, cW', hvW, hmxW, hcW⟩ := OW5.out.reads.at rfl (by omega)
            cases hvW
            obtain ⟨gM, oM, cM', hvM, hmxM, hcM⟩ := OM5.out.reads.at (n := who.length) WM.out.symm (by omega)
            cases hvM
            have HCW := hid hcW
            have HCM := hid hcM
            have KG := hid kG
            unfold maxLen at hmxG hmxW hmxM
            clear hcG hx hy B1 hX hi2 hi3 hcW hcM kG
            go_wp2_with fail
            go_loopw [17, 18] (fun la jj wz => ∃ h : Nat, h ≤ who.length ∧ jj = .int .i64 h ∧ la = .int .i64 (lst who x h) ∧ Keep (fun _ => False) W5 wz) (fun _ jj _ => who.length - (intOf jj).toNat)
            case atStart => exact ⟨0, Nat.zero_le _, rfl, rfl, KQ.out⟩
            case round =>
              obtain ⟨h, hh, rfl, rfl, hKz⟩ := hrel
              have KZ := hid hKz
              clear hKz
              by_cases hhl : h < who.length
              · have hhl' : (h : Int) < (who.length : Int) := by omega
                have kG := (KZ.out.cell (p := ⟨gG, oG + j, none⟩) (World.block_lt_of_cell? _ _ KG.out) (fun h => h)).trans KG.out
                have kW0 := HCW.out h hhl
                have kW := (KZ.out.cell (p := ⟨gW, oW + h, none⟩) (World.block_lt_of_cell? _ _ kW0) (fun h => h)).trans kW0
                have LS : Hid (lst who x (h + 1) = if nth who h = x then (h : Int) else lst who x h) := hid rfl
                obtain ⟨z, hz⟩ : ∃ z, nth who h = z := ⟨_, rfl⟩
                obtain ⟨la, hla⟩ : ∃ la, lst who x h = la := ⟨_, rfl⟩
                rw [hz] at kW LS
                rw [hla] at LS ⊢
                clear kW0 hz hla
                have KZ2 := hid (KZ.out.trans ((Keep.refl _ _).drew))
                by_cases hzx : z = x
                · have e := LS.out
                  rw [if_pos hzx] at e
                  have LS2 := hid e
                  have hb1 : (z == x) = true := by simp [hzx]
                  clear hzx e LS
                  go_wp2_with fail
                  refine wp_region_text [0,0,0,1,0,0,0,1,0] (fun _ => True) (by kernel_rfl) (by kernel_rfl) trivial ?_
                  repeat (first
                    | (refine' wpT_calm (v := _) (by rfl) (fun W hW => ?_) ?_; rotate_left
                       · ((try dsimp only at hW); go_simp; first | done | rfl)
                       simp only [Act.put, List.setIfInBounds_toArray, List.set_cons_zero, List.set_cons_succ])
                    | (refine' wpT_reads (v := _) (by rfl) ?_ ?_; rotate_left
                       · (go_simp; first | done | rfl)
                       simp only [Act.put, List.setIfInBounds_toArray, List.set_cons_zero, List.set_cons_succ])
                    | (refine wpT_skip (by rfl) rfl ?_; simp only [Act.put, List.setIfInBounds_toArray, List.set_cons_zero, List.set_cons_succ])
                    | (refine wpT_does (by rfl) (fun K hK => ?_); go_simp; refine hK _ _ ?_ ?_
                       · (trivial)
                       clear hK K; try simp only [Act.put, List.setIfInBounds_toArray, List.set_cons_zero, List.set_cons_succ])
                    | (refine wpT_last (by rfl) (fun K hK => ?_); go_simp; refine hK _ _ ?_; clear hK K)
                    | (refine wpT_nil ?_))
                  go_wp2_with fail
                  go_roundw
                  case rel => exact ⟨h + 1, by omega, by go_num, by rw [LS2.out], KZ2.out⟩
                  case measure => simp [intOf]; omega
                · have e := LS.out
                  rw [if_neg hzx] at e
                  have LS2 := hid e
                  have hb1 : (z == x) = false := by simp [hzx]
                  clear hzx e LS
                  go_wp2_with fail
                  refine wp_region_text [0,0,0,1,0,0,0,1,0] (fun _ => True) (by kernel_rfl) (by kernel_rfl) trivial ?_
                  repeat (first
                    | (refine' wpT_calm (v := _) (by rfl) (fun W hW => ?_) ?_; rotate_left
                       · ((try dsimp only at hW); go_simp; first | done | rfl)
                       simp only [Act.put, List.setIfInBounds_toArray, List.set_cons_zero, List.set_cons_succ])
                    | (refine' wpT_reads (v := _) (by rfl) ?_ ?_; rotate_left
                       · (go_simp; first | done | rfl)
                       simp only [Act.put, List.setIfInBounds_toArray, List.set_cons_zero, List.set_cons_succ])
                    | (refine wpT_skip (by rfl) rfl ?_; simp only [Act.put, List.setIfInBounds_toArray, List.set_cons_zero, List.set_cons_succ])
                    | (refine wpT_does (by rfl) (fun K hK => ?_); go_simp; refine hK _ _ ?_ ?_
                       · (trivial)
                       clear hK K; try simp only [Act.put, List.setIfInBounds_toArray, List.set_cons_zero, List.set_cons_succ])
                    | (refine wpT_last (by rfl) (fun K hK => ?_); go_simp; refine hK _ _ ?_; clear hK K)
                    | (refine wpT_nil ?_))
                  go_wp2_with fail
                  go_roundw
                  case rel => exact ⟨h + 1, by omega, by go_num, by rw [LS2.out], KZ2.out⟩
                  case measure => simp [intOf]; omega
              obtain rfl : h = who.length := by omega
              have hhl' : ¬ ((who.length : Int) < (who.length : Int)) := by omega
              rw [HI.out.1]
              have kM0 := HCM.out i hi1
              rw [HI.out.2] at kM0
              have kM := (KZ.out.cell (p := ⟨gM, oM + i, none⟩) (World.block_lt_of_cell? _ _ kM0) (fun h => h)).trans kM0
              have i0 : (0 : Int) ≤ (i : Int) := by omega
              have i1 : (i : Int) < (who.length : Int) := by omega
              clear kM0
              go_wp2_with fail
              go_roundw
              case rel => exact ⟨j + 1, by omega, by go_num, by rw [ST.out, ← HX.out]; congr 1; omega, KZ.out⟩
              case measure => simp [intOf]; omega
          obtain rfl : j = P.length := by omega
          have hjl' : ¬ ((P.length : Int) < (P.length : Int)) := by omega
          rw [List.take_length, HT.out]
          obtain ⟨T2, hT2⟩ : ∃ T2, N - S'.free = T2 := ⟨_, rfl⟩
          rw [hT2]
          have N6 := hid (N5.out.quiet KQ.out)
          have OW6 := hid (OW5.out.keep KQ.out fun _ _ h => h)
          have OM6 := hid (OM5.out.keep KQ.out fun _ _ h => h)
          have g1 := KI'.out.good.f0
          have g2 := KI'.out.good.f1
          rw [SZ'.out] at g2
          have HS' := hid (And.intro SZ'.out KI'.out)
          have t1 : 0 ≤ T2 := by omega
          have t2 : T2 ≤ N := by omega
          have t3 : (S'.free != N - T2) = false := by simp; omega
          have HT2 := hid hT2
          clear R5 hT2
          go_wp2_with fail
          refine (mfree_any N6.out).mono ?_
          rintro _ _ ⟨rfl, rfl⟩
          go_wp2_with fail
          go_roundw
          case rel => exact ⟨k + 1, S', who, many, _, _, _, _, G5, by omega, by omega, by go_num, rfl, rfl, by rw [HT2.out], SZ'.out, by have := HL.out.1; omega, by omega, WM.out, KI'.out, OW6.out, OM6.out, N6.out, AP5.out⟩
          case measure => simp [intOf]; omega
      · subst hq
        obtain ⟨o, e, S', hb'⟩ : ∃ o e S', mrl S nn = (o, e, S') := ⟨_, _, _, rfl⟩
        obtain ⟨hn16, P, rfl, hHas, hbd, hfree, hsize, hinv, hl1, hl2⟩ := keeps_rel KI.out nn hb'
        have HB := hid hb'
        have HH := hid hHas
        have KI' := hid hinv
        have BD := hid hbd
        have SZ' := hid (hsize.trans SZ.out)
        have HF := hid hfree
        have HN16 := hid hn16
        have HL := hid (And.intro hl1 hl2)
        clear hb' hHas hinv hbd hsize hfree hn16
        clear kB
        go_wp2_with fail
        refine (mrel_any nn N0.out KI.out.good hS1000 HB.out).mono ?_
        rintro en W5 ⟨a5, m5, rfl, R5, K5, G5, N5, J5, Q5⟩
        rw [List.length_map] at R5 ⊢
        have OW5 := hid (OW0.out.keep K5 fun x hx => (APr.out.1 x hx).2)
        have OM5 := hid (OM0.out.keep K5 fun x hx => (APr.out.2.1 x hx).2)
        have AP5 := hid (APr.out.on OW0.out OM0.out (Nat.le_refl _) J5)
        have x5 := (K5.cell (p := ⟨wr.heap.size, 2, none⟩) xl xG).trans X2.out
        have N5 := hid N5
        have R5 := hid R5
        by_cases he : e = 0
        · subst he
          have n16 := HN16.out rfl
          have hT : N - S.free - nn + sumP P = N - S'.free := by have := HF.out; rw [if_pos rfl] at this; omega
          have HT := hid hT
          obtain ⟨T0, hTe⟩ : ∃ T, N - S.free = T := ⟨_, rfl⟩
          rw [hTe] at HT ⊢
          obtain ⟨T, hT2⟩ : ∃ T, T0 - nn = T := ⟨_, rfl⟩
          rw [hT2] at HT
          have t01 : 0 ≤ T0 := by omega
          have t02 : T0 ≤ 16 := by omega
          have HT3 := hid hT2
          clear J5 K5 Q5 hTe hT hT2
          go_wp2_with fail
          rw [HT3.out]
          have hT0 : -100 ≤ T := by have := HT3.out; omega
          have hT1 : T ≤ 100 := by have := HT3.out; omega
          clear x5
          go_loopw [9, 16] (fun tk kk wq => ∃ j : Nat, j ≤ P.length ∧ kk = .int .i64 j ∧ tk = .int .i64 (T + sumP (P.take j)) ∧ Keep (fun _ => False) W5 wq) (fun _ kk _ => P.length - (intOf kk).toNat)
          case atStart => exact ⟨0, Nat.zero_le _, rfl, by rw [List.take_zero, sumP, Int.add_zero], Keep.refl _ _⟩
          case round =>
            obtain ⟨j, hj, rfl, rfl, hKq⟩ := hrel
            have KQ := hid hKq
            clear hKq
            by_cases hjl : j < P.length
            · have hjl' : (j : Int) < (P.length : Int) := by omega
              obtain ⟨gG, oG, cG, hvG, hmxG, hcG⟩ := R5.out.at (n := P.length) (by rw [List.length_map]) (by omega)
              cases hvG
              have kG := hcG j hjl
              rw [at2_fst P j hjl] at kG
              have E := hid (at2_fst P j hjl)
              obtain ⟨i, hi1, hi2, hi3⟩ := HH.out _ (at2_mem hjl)
              have ST := hid (sumP_take P j hjl)
              have B1 := sumP_bd P j BD.out
              have Bp := BD.out _ (at2_mem hjl)
              obtain ⟨x, hx⟩ : ∃ x, (at2 P j).1 = x := ⟨_, rfl⟩
              obtain ⟨y, hy⟩ : ∃ y, (at2 P j).2 = y := ⟨_, rfl⟩
              rw [hx] at kG hi2 E
              rw [hy] at hi3 ST Bp
              have PL : P.length ≤ 1000 := by have := HL.out.2; omega
              obtain ⟨X, hX⟩ : ∃ X, T + sumP (P.take j) = X := ⟨_, rfl⟩
              rw [hX]
              have X0 : -100000 ≤ X := by omega
              have X1 : X ≤ 100000 := by omega
              have HX := hid hX
              have HI := hid (And.intro hi2 hi3)
              obtain ⟨gW, oW, cW', hvW, hmxW, hcW⟩ := OW5.out.reads.at rfl (by omega)
              cases hvW
              obtain ⟨gM, oM, cM', hvM, hmxM, hcM⟩ := OM5.out.reads.at (n := who.length) WM.out.symm (by omega)
              cases hvM
              have HCW := hid hcW
              have HCM := hid hcM
              have KG := hid kG
              unfold maxLen at hmxG hmxW hmxM
              clear hcG hx hy B1 hX hi2 hi3 hcW hcM kG
              go_wp2_with fail
              go_loopw [17, 18] (fun la jj wz => ∃ h : Nat, h ≤ who.length ∧ jj = .int .i64 h ∧ la = .int .i64 (lst who x h) ∧ Keep (fun _ => False) W5 wz) (fun _ jj _ => who.length - (intOf jj).toNat)
              case atStart => exact ⟨0, Nat.zero_le _, rfl, rfl, KQ.out⟩
              case round =>
                obtain ⟨h, hh, rfl, rfl, hKz⟩ := hrel
                have KZ := hid hKz
                clear hKz
                by_cases hhl : h < who.length
                · have hhl' : (h : Int) < (who.length : Int) := by omega
                  have kG := (KZ.out.cell (p := ⟨gG, oG + j, none⟩) (World.block_lt_of_cell? _ _ KG.out) (fun h => h)).trans KG.out
                  have kW0 := HCW.out h hhl
                  have kW := (KZ.out.cell (p := ⟨gW, oW + h, none⟩) (World.block_lt_of_cell? _ _ kW0) (fun h => h)).trans kW0
                  have LS : Hid (lst who x (h + 1) = if nth who h = x then (h : Int) else lst who x h) := hid rfl
                  obtain ⟨z, hz⟩ : ∃ z, nth who h = z := ⟨_, rfl⟩
                  obtain ⟨la, hla⟩ : ∃ la, lst who x h = la := ⟨_, rfl⟩
                  rw [hz] at kW LS
                  rw [hla] at LS ⊢
                  clear kW0 hz hla
                  have KZ2 := hid (KZ.out.trans ((Keep.refl _ _).drew))
                  by_cases hzx : z = x
                  · have e := LS.out
                    rw [if_pos hzx] at e
                    have LS2 := hid e
                    have hb1 : (z == x) = true := by simp [hzx]
                    clear hzx e LS
                    go_wp2_with fail
                    refine wp_region_text [0,0,0,1,0,0,0,1,0] (fun _ => True) (by kernel_rfl) (by kernel_rfl) trivial ?_
                    repeat (first
                      | (refine' wpT_calm (v := _) (by rfl) (fun W hW => ?_) ?_; rotate_left
                         · ((try dsimp only at hW); go_simp; first | done | rfl)
                         simp only [Act.put, List.setIfInBounds_toArray, List.set_cons_zero, List.set_cons_succ])
                      | (refine' wpT_reads (v := _) (by rfl) ?_ ?_; rotate_left
                         · (go_simp; first | done | rfl)
                         simp only [Act.put, List.setIfInBounds_toArray, List.set_cons_zero, List.set_cons_succ])
                      | (refine wpT_skip (by rfl) rfl ?_; simp only [Act.put, List.setIfInBounds_toArray, List.set_cons_zero, List.set_cons_succ])
                      | (refine wpT_does (by rfl) (fun K hK => ?_); go_simp; refine hK _ _ ?_ ?_
                         · (trivial)
                         clear hK K; try simp only [Act.put, List.setIfInBounds_toArray, List.set_cons_zero, List.set_cons_succ])
                      | (refine wpT_last (by rfl) (fun K hK => ?_); go_simp; refine hK _ _ ?_; clear hK K)
                      | (refine wpT_nil ?_))
                    go_wp2_with fail
                    go_roundw
                    case rel => exact ⟨h + 1, by omega, by go_num, by rw [LS2.out], KZ2.out⟩
                    case measure => simp [intOf]; omega
                  · have e := LS.out
                    rw [if_neg hzx] at e
                    have LS2 := hid e
                    have hb1 : (z == x) = false := by simp [hzx]
                    clear hzx e LS
                    go_wp2_with fail
                    refine wp_region_text [0,0,0,1,0,0,0,1,0] (fun _ => True) (by kernel_rfl) (by kernel_rfl) trivial ?_
                    repeat (first
                      | (refine' wpT_calm (v := _) (by rfl) (fun W hW => ?_) ?_; rotate_left
                         · ((try dsimp only at hW); go_simp; first | done | rfl)
                         simp only [Act.put, List.setIfInBounds_toArray, List.set_cons_zero, List.set_cons_succ])
                      | (refine' wpT_reads (v := _) (by rfl) ?_ ?_; rotate_left
                         · (go_simp; first | done | rfl)
                         simp only [Act.put, List.setIfInBounds_toArray, List.set_cons_zero, List.set_cons_succ])
                      | (refine wpT_skip (by rfl) rfl ?_; simp only [Act.put, List.setIfInBounds_toArray, List.set_cons_zero, List.set_cons_succ])
                      | (refine wpT_does (by rfl) (fun K hK => ?_); go_simp; refine hK _ _ ?_ ?_
                         · (trivial)
                         clear hK K; try simp only [Act.put, List.setIfInBounds_toArray, List.set_cons_zero, List.set_cons_succ])
                      | (refine wpT_last (by rfl) (fun K hK => ?_); go_simp; refine hK _ _ ?_; clear hK K)
                      | (refine wpT_nil ?_))
                    go_wp2_with fail
                    go_roundw
                    case rel => exact ⟨h + 1, by omega, by go_num, by rw [LS2.out], KZ2.out⟩
                    case measure => simp [intOf]; omega
                obtain rfl : h = who.length := by omega
                have hhl' : ¬ ((who.length : Int) < (who.length : Int)) := by omega
                rw [HI.out.1]
                have kM0 := HCM.out i hi1
                rw [HI.out.2] at kM0
                have kM := (KZ.out.cell (p := ⟨gM, oM + i, none⟩) (World.block_lt_of_cell? _ _ kM0) (fun h => h)).trans kM0
                have i0 : (0 : Int) ≤ (i : Int) := by omega
                have i1 : (i : Int) < (who.length : Int) := by omega
                clear kM0
                go_wp2_with fail
                go_roundw
                case rel => exact ⟨j + 1, by omega, by go_num, by rw [ST.out, ← HX.out]; congr 1; omega, KZ.out⟩
                case measure => simp [intOf]; omega
            obtain rfl : j = P.length := by omega
            have hjl' : ¬ ((P.length : Int) < (P.length : Int)) := by omega
            rw [List.take_length, HT.out]
            obtain ⟨T2, hT2⟩ : ∃ T2, N - S'.free = T2 := ⟨_, rfl⟩
            rw [hT2]
            have N6 := hid (N5.out.quiet KQ.out)
            have OW6 := hid (OW5.out.keep KQ.out fun _ _ h => h)
            have OM6 := hid (OM5.out.keep KQ.out fun _ _ h => h)
            have g1 := KI'.out.good.f0
            have g2 := KI'.out.good.f1
            rw [SZ'.out] at g2
            have HS' := hid (And.intro SZ'.out KI'.out)
            have t1 : 0 ≤ T2 := by omega
            have t2 : T2 ≤ N := by omega
            have t3 : (S'.free != N - T2) = false := by simp; omega
            have HT2 := hid hT2
            clear R5 hT2
            go_wp2_with fail
            refine (mfree_any N6.out).mono ?_
            rintro _ _ ⟨rfl, rfl⟩
            go_wp2_with fail
            go_roundw
            case rel => exact ⟨k + 1, S', who, many, _, _, _, _, G5, by omega, by omega, by go_num, rfl, rfl, by rw [HT2.out], SZ'.out, by have := HL.out.1; omega, by omega, WM.out, KI'.out, OW6.out, OM6.out, N6.out, AP5.out⟩
            case measure => simp [intOf]; omega
        · have he0 : (e == 0) = false := by simp [he]
          have hT : N - S.free + sumP P = N - S'.free := by have := HF.out; rw [if_neg he] at this; omega
          have HT := hid hT
          obtain ⟨T, hTe⟩ : ∃ T, N - S.free = T := ⟨_, rfl⟩
          rw [hTe] at HT ⊢
          have hT0 : -100 ≤ T := by omega
          have hT1 : T ≤ 100 := by omega
          clear J5 K5 Q5 hTe hT he x5
          go_wp2_with fail
          go_loopw [9, 16] (fun tk kk wq => ∃ j : Nat, j ≤ P.length ∧ kk = .int .i64 j ∧ tk = .int .i64 (T + sumP (P.take j)) ∧ Keep (fun _ => False) W5 wq) (fun _ kk _ => P.length - (intOf kk).toNat)
          case atStart => exact ⟨0, Nat.zero_le _, rfl, by rw [List.take_zero, sumP, Int.add_zero], Keep.refl _ _⟩
          case round =>
            obtain ⟨j, hj, rfl, rfl, hKq⟩ := hrel
            have KQ := hid hKq
            clear hKq
            by_cases hjl : j < P.length
            · have hjl' : (j : Int) < (P.length : Int) := by omega
              obtain ⟨gG, oG, cG, hvG, hmxG, hcG⟩ := R5.out.at (n := P.length) (by rw [List.length_map]) (by omega)
              cases hvG
              have kG := hcG j hjl
              rw [at2_fst P j hjl] at kG
              have E := hid (at2_fst P j hjl)
              obtain ⟨i, hi1, hi2, hi3⟩ := HH.out _ (at2_mem hjl)
              have ST := hid (sumP_take P j hjl)
              have B1 := sumP_bd P j BD.out
              have Bp := BD.out _ (at2_mem hjl)
              obtain ⟨x, hx⟩ : ∃ x, (at2 P j).1 = x := ⟨_, rfl⟩
              obtain ⟨y, hy⟩ : ∃ y, (at2 P j).2 = y := ⟨_, rfl⟩
              rw [hx] at kG hi2 E
              rw [hy] at hi3 ST Bp
              have PL : P.length ≤ 1000 := by have := HL.out.2; omega
              obtain ⟨X, hX⟩ : ∃ X, T + sumP (P.take j) = X := ⟨_, rfl⟩
              rw [hX]
              have X0 : -100000 ≤ X := by omega
              have X1 : X ≤ 100000 := by omega
              have HX := hid hX
              have HI := hid (And.intro hi2 hi3)
              obtain ⟨gW, oW, cW', hvW, hmxW, hcW⟩ := OW5.out.reads.at rfl (by omega)
              cases hvW
              obtain ⟨gM, oM, cM', hvM, hmxM, hcM⟩ := OM5.out.reads.at (n := who.length) WM.out.symm (by omega)
              cases hvM
              have HCW := hid hcW
              have HCM := hid hcM
              have KG := hid kG
              unfold maxLen at hmxG hmxW hmxM
              clear hcG hx hy B1 hX hi2 hi3 hcW hcM kG
              go_wp2_with fail
              go_loopw [17, 18] (fun la jj wz => ∃ h : Nat, h ≤ who.length ∧ jj = .int .i64 h ∧ la = .int .i64 (lst who x h) ∧ Keep (fun _ => False) W5 wz) (fun _ jj _ => who.length - (intOf jj).toNat)
              case atStart => exact ⟨0, Nat.zero_le _, rfl, rfl, KQ.out⟩
              case round =>
                obtain ⟨h, hh, rfl, rfl, hKz⟩ := hrel
                have KZ := hid hKz
                clear hKz
                by_cases hhl : h < who.length
                · have hhl' : (h : Int) < (who.length : Int) := by omega
                  have kG := (KZ.out.cell (p := ⟨gG, oG + j, none⟩) (World.block_lt_of_cell? _ _ KG.out) (fun h => h)).trans KG.out
                  have kW0 := HCW.out h hhl
                  have kW := (KZ.out.cell (p := ⟨gW, oW + h, none⟩) (World.block_lt_of_cell? _ _ kW0) (fun h => h)).trans kW0
                  have LS : Hid (lst who x (h + 1) = if nth who h = x then (h : Int) else lst who x h) := hid rfl
                  obtain ⟨z, hz⟩ : ∃ z, nth who h = z := ⟨_, rfl⟩
                  obtain ⟨la, hla⟩ : ∃ la, lst who x h = la := ⟨_, rfl⟩
                  rw [hz] at kW LS
                  rw [hla] at LS ⊢
                  clear kW0 hz hla
                  have KZ2 := hid (KZ.out.trans ((Keep.refl _ _).drew))
                  by_cases hzx : z = x
                  · have e := LS.out
                    rw [if_pos hzx] at e
                    have LS2 := hid e
                    have hb1 : (z == x) = true := by simp [hzx]
                    clear hzx e LS
                    go_wp2_with fail
                    refine wp_region_text [0,0,0,1,0,0,0,1,0] (fun _ => True) (by kernel_rfl) (by kernel_rfl) trivial ?_
                    repeat (first
                      | (refine' wpT_calm (v := _) (by rfl) (fun W hW => ?_) ?_; rotate_left
                         · ((try dsimp only at hW); go_simp; first | done | rfl)
                         simp only [Act.put, List.setIfInBounds_toArray, List.set_cons_zero, List.set_cons_succ])
                      | (refine' wpT_reads (v := _) (by rfl) ?_ ?_; rotate_left
                         · (go_simp; first | done | rfl)
                         simp only [Act.put, List.setIfInBounds_toArray, List.set_cons_zero, List.set_cons_succ])
                      | (refine wpT_skip (by rfl) rfl ?_; simp only [Act.put, List.setIfInBounds_toArray, List.set_cons_zero, List.set_cons_succ])
                      | (refine wpT_does (by rfl) (fun K hK => ?_); go_simp; refine hK _ _ ?_ ?_
                         · (trivial)
                         clear hK K; try simp only [Act.put, List.setIfInBounds_toArray, List.set_cons_zero, List.set_cons_succ])
                      | (refine wpT_last (by rfl) (fun K hK => ?_); go_simp; refine hK _ _ ?_; clear hK K)
                      | (refine wpT_nil ?_))
                    go_wp2_with fail
                    go_roundw
                    case rel => exact ⟨h + 1, by omega, by go_num, by rw [LS2.out], KZ2.out⟩
                    case measure => simp [intOf]; omega
                  · have e := LS.out
                    rw [if_neg hzx] at e
                    have LS2 := hid e
                    have hb1 : (z == x) = false := by simp [hzx]
                    clear hzx e LS
                    go_wp2_with fail
                    refine wp_region_text [0,0,0,1,0,0,0,1,0] (fun _ => True) (by kernel_rfl) (by kernel_rfl) trivial ?_
                    repeat (first
                      | (refine' wpT_calm (v := _) (by rfl) (fun W hW => ?_) ?_; rotate_left
                         · ((try dsimp only at hW); go_simp; first | done | rfl)
                         simp only [Act.put, List.setIfInBounds_toArray, List.set_cons_zero, List.set_cons_succ])
                      | (refine' wpT_reads (v := _) (by rfl) ?_ ?_; rotate_left
                         · (go_simp; first | done | rfl)
                         simp only [Act.put, List.setIfInBounds_toArray, List.set_cons_zero, List.set_cons_succ])
                      | (refine wpT_skip (by rfl) rfl ?_; simp only [Act.put, List.setIfInBounds_toArray, List.set_cons_zero, List.set_cons_succ])
                      | (refine wpT_does (by rfl) (fun K hK => ?_); go_simp; refine hK _ _ ?_ ?_
                         · (trivial)
                         clear hK K; try simp only [Act.put, List.setIfInBounds_toArray, List.set_cons_zero, List.set_cons_succ])
                      | (refine wpT_last (by rfl) (fun K hK => ?_); go_simp; refine hK _ _ ?_; clear hK K)
                      | (refine wpT_nil ?_))
                    go_wp2_with fail
                    go_roundw
                    case rel => exact ⟨h + 1, by omega, by go_num, by rw [LS2.out], KZ2.out⟩
                    case measure => simp [intOf]; omega
                obtain rfl : h = who.length := by omega
                have hhl' : ¬ ((who.length : Int) < (who.length : Int)) := by omega
                rw [HI.out.1]
                have kM0 := HCM.out i hi1
                rw [HI.out.2] at kM0
                have kM := (KZ.out.cell (p := ⟨gM, oM + i, none⟩) (World.block_lt_of_cell? _ _ kM0) (fun h => h)).trans kM0
                have i0 : (0 : Int) ≤ (i : Int) := by omega
                have i1 : (i : Int) < (who.length : Int) := by omega
                clear kM0
                go_wp2_with fail
                go_roundw
                case rel => exact ⟨j + 1, by omega, by go_num, by rw [ST.out, ← HX.out]; congr 1; omega, KZ.out⟩
                case measure => simp [intOf]; omega
            obtain rfl : j = P.length := by omega
            have hjl' : ¬ ((P.length : Int) < (P.length : Int)) := by omega
            rw [List.take_length, HT.out]
            obtain ⟨T2, hT2⟩ : ∃ T2, N - S'.free = T2 := ⟨_, rfl⟩
            rw [hT2]
            have N6 := hid (N5.out.quiet KQ.out)
            have OW6 := hid (OW5.out.keep KQ.out fun _ _ h => h)
            have OM6 := hid (OM5.out.keep KQ.out fun _ _ h => h)
            have g1 := KI'.out.good.f0
            have g2 := KI'.out.good.f1
            rw [SZ'.out] at g2
            have HS' := hid (And.intro SZ'.out KI'.out)
            have t1 : 0 ≤ T2 := by omega
            have t2 : T2 ≤ N := by omega
            have t3 : (S'.free != N - T2) = false := by simp; omega
            have HT2 := hid hT2
            clear R5 hT2
            go_wp2_with fail
            refine (mfree_any N6.out).mono ?_
            rintro _ _ ⟨rfl, rfl⟩
            go_wp2_with fail
            go_roundw
            case rel => exact ⟨k + 1, S', who, many, _, _, _, _, G5, by omega, by omega, by go_num, rfl, rfl, by rw [HT2.out], SZ'.out, by have := HL.out.1; omega, by omega, WM.out, KI'.out, OW6.out, OM6.out, N6.out, AP5.out⟩
            case measure => simp [intOf]; omega
      · have hq0 : ((Q : Int) == 0) = false := by simp; omega
        have hq1 : ((Q : Int) == 1) = false := by simp; omega
        obtain ⟨e, S', hb'⟩ : ∃ e S', maq S t nn = (e, S') := ⟨_, _, rfl⟩
        obtain ⟨hn16, hfree, hsize, hl1, hin, hout⟩ := keeps_acq KI.out WM.out t nn hb'
        have HB := hid hb'
        have SZ' := hid (hsize.trans SZ.out)
        have HF := hid hfree
        have HN16 := hid hn16
        have HIN := hid hin
        have HOUT := hid hout
        have HL := hid (And.intro hl1 hl1)
        clear hb' hin hout hsize hfree hn16
        clear kB
        go_wp2_with fail
        refine (macq_any t nn N0.out KI.out.good hS1000 HB.out).mono ?_
        rintro en W5 ⟨rfl, G5, N5, J5, K5⟩
        have OW5 := hid (OW0.out.keep K5 fun x hx => (APr.out.1 x hx).2)
        have OM5 := hid (OM0.out.keep K5 fun x hx => (APr.out.2.1 x hx).2)
        have AP5 := hid (APr.out.on OW0.out OM0.out (Nat.le_refl _) J5)
        have x5 := (K5.cell (p := ⟨wr.heap.size, 2, none⟩) xl xG).trans X2.out
        have N5 := hid N5
        by_cases he : e = 0
        · subst he
          have n16 := HN16.out rfl
          have KI' := hid (HOUT.out (by decide))
          obtain ⟨T0, hTe⟩ : ∃ T, N - S.free = T := ⟨_, rfl⟩
          have HT3 : Hid (T0 + nn = N - S'.free) := hid (by have := HF.out; rw [if_pos rfl] at this; omega)
          rw [hTe]
          have t01 : 0 ≤ T0 := by omega
          have t02 : T0 ≤ 16 := by omega
          clear J5 K5 hTe
          go_wp2_with fail
          rw [HT3.out]
          clear x5
          go_loopw [9, 16] (fun tk kk wq => kk = .int .i64 0 ∧ tk = .int .i64 (N - S'.free) ∧ Keep (fun _ => False) W5 wq) (fun _ _ _ => 0)
          case atStart => exact ⟨rfl, rfl, Keep.refl _ _⟩
          case round =>
            obtain ⟨rfl, rfl, hKq⟩ := hrel
            have KQ := hid hKq
            clear hKq
            obtain ⟨T2, hT2⟩ : ∃ T2, N - S'.free = T2 := ⟨_, rfl⟩
            rw [hT2]
            have N6 := hid (N5.out.quiet KQ.out)
            have OW6 := hid (OW5.out.keep KQ.out fun _ _ h => h)
            have OM6 := hid (OM5.out.keep KQ.out fun _ _ h => h)
            have g1 := KI'.out.good.f0
            have g2 := KI'.out.good.f1
            rw [SZ'.out] at g2
            have HS' := hid (And.intro SZ'.out KI'.out)
            have t1 : 0 ≤ T2 := by omega
            have t2 : T2 ≤ N := by omega
            have t3 : (S'.free != N - T2) = false := by simp; omega
            have HT2 := hid hT2
            clear hT2
            go_wp2_with fail
            refine (mfree_any N6.out).mono ?_
            rintro _ _ ⟨rfl, rfl⟩
            go_wp2_with fail
            go_roundw
            case rel => exact ⟨k + 1, S', who, many, _, _, _, _, G5, by omega, by omega, by go_num, rfl, rfl, by rw [HT2.out], SZ'.out, by have := HL.out.1; omega, by omega, WM.out, KI'.out, OW6.out, OM6.out, N6.out, AP5.out⟩
            case measure => simp [intOf]; omega
        by_cases he2 : e = 14
        · subst he2
          have KI' := hid (HIN.out rfl)
          have HT3 : Hid (N - S.free = N - S'.free) := hid (by have := HF.out; rw [if_neg (by decide)] at this; omega)
          rw [HT3.out]
          have WM9 : Hid ((who ++ [t]).length = (many ++ [nn]).length) := hid (by rw [List.length_append, List.length_append, WM.out]; rfl)
          have x1_0 := (K5.cell (p := ⟨wr.heap.size, 1, none⟩) xl xG).trans X1.out
          have x2_0 := x5
          have KK0 : Keep (fun x => (Value.slice aW who.length cW).ownBlock = some x) W5 W5 := Keep.refl _ _
          have KF0 : Keep (fun _ => False) W5 W5 := Keep.refl _ _
          clear J5 K5 he x5
          go_wp2_with fail
          refine wp_region_steps [0,0,0,2,2,0,0,0,2,2,0,0] (fun W : World => W.cell? ⟨wr.heap.size, 1, none⟩ = some (.int .i64 t) ∧ W.cell? ⟨wr.heap.size, 2, none⟩ = some (.int .i64 nn)) (by kernel_rfl) ⟨x1_0, x2_0⟩ ?_
          refine' anyX_calm (v := _) 0 rfl (by kernel_rfl) (by rfl) (fun W hW => ?_) ?_; rotate_left
          · ((try dsimp only at hW); go_simp; first | done | rfl)
          try simp only [Act.put, List.setIfInBounds_toArray, List.set_cons_zero, List.set_cons_succ]
          refine' anyX_calm (v := _) 1 rfl (by kernel_rfl) (by rfl) (fun W hW => ?_) ?_; rotate_left
          · ((try dsimp only at hW); go_simp; first | done | rfl)
          try simp only [Act.put, List.setIfInBounds_toArray, List.set_cons_zero, List.set_cons_succ]
          refine' anyX_calm (v := _) 2 rfl (by kernel_rfl) (by rfl) (fun W hW => ?_) ?_; rotate_left
          · ((try dsimp only at hW); go_simp; first | done | rfl)
          try simp only [Act.put, List.setIfInBounds_toArray, List.set_cons_zero, List.set_cons_succ]
          refine' anyX_calm (v := _) 5 rfl (by kernel_rfl) (by rfl) (fun W hW => ?_) ?_; rotate_left
          · ((try dsimp only at hW); go_simp; first | done | rfl)
          try simp only [Act.put, List.setIfInBounds_toArray, List.set_cons_zero, List.set_cons_succ]
          refine' anyX_calm (v := _) 6 rfl (by kernel_rfl) (by rfl) (fun W hW => ?_) ?_; rotate_left
          · ((try dsimp only at hW); go_simp; first | done | rfl)
          try simp only [Act.put, List.setIfInBounds_toArray, List.set_cons_zero, List.set_cons_succ]
          refine' anyX_calm (v := _) 7 rfl (by kernel_rfl) (by rfl) (fun W hW => ?_) ?_; rotate_left
          · ((try dsimp only at hW); go_simp; first | done | rfl)
          try simp only [Act.put, List.setIfInBounds_toArray, List.set_cons_zero, List.set_cons_succ]
          refine anyX_two 3 8 rfl rfl (by kernel_rfl) rfl rfl (by rfl) (by rfl) (fun K hK => ?_) (fun K hK => ?_)
          · go_simp
            have KA1 : Keep (fun _ => False) W5 ((W5.alloc (.cells #[.int .i64 t] 3)).drew) := ((Keep.refl _ _).alloc _).drew
            have x1_1 := (KA1.cell (p := ⟨wr.heap.size, 1, none⟩) (World.block_lt_of_cell? _ _ x1_0) (fun h => h)).trans x1_0
            have x2_1 := (KA1.cell (p := ⟨wr.heap.size, 2, none⟩) (World.block_lt_of_cell? _ _ x2_0) (fun h => h)).trans x2_0
            have s1_1 : Src ((W5.alloc (.cells #[.int .i64 t] 3)).drew) (.slice (some ⟨W5.heap.size, 0, none⟩) 1 1) 1 1 (flat1 [t]) := one_srcI W5 t
            have p1 : Hid (W5.heap.size ≤ W5.heap.size) := hid KK0.size
            have KK1 := KK0.trans (KA1.mono fun _ _ h => h.elim)
            have KF1 := KF0.trans KA1
            refine hK _ _ ⟨x1_1, x2_1⟩ ?_
            clear hK K
            try simp only [Act.put, List.setIfInBounds_toArray, List.set_cons_zero, List.set_cons_succ]
            obtain ⟨Y1, hY1⟩ : ∃ x, ((W5.alloc (.cells #[.int .i64 t] 3)).drew) = x := ⟨_, rfl⟩
            rw [hY1] at KK1 x1_1 x2_1 s1_1 KF1 ⊢
            clear hY1 KA1
            refine anyX_two 4 8 rfl rfl (by kernel_rfl) rfl rfl (by rfl) (by rfl) (fun K hK => ?_) (fun K hK => ?_)
            · have ow := OW5.out.keep KF1 (fun _ _ h => h)
              refine wp_append_ints _ (.tmp 59) (.tmp 62) rfl _ who rfl ow _ 1 [t] rfl s1_1 (by omega) ?_
              intro u1 Y2 o1_2 f1 k1
              have x1_2 := (k1.cell (p := ⟨wr.heap.size, 1, none⟩) (World.block_lt_of_cell? _ _ x1_1) (fun h => Nat.lt_irrefl _ (HQ1.out _ h))).trans x1_1
              have x2_2 := (k1.cell (p := ⟨wr.heap.size, 2, none⟩) (World.block_lt_of_cell? _ _ x2_1) (fun h => Nat.lt_irrefl _ (HQ1.out _ h))).trans x2_1
              have KK2 := KK1.trans k1
              have F1 : ∀ x, u1.ownBlock = some x → (Value.slice aW who.length cW).ownBlock = some x ∨ W5.heap.size ≤ x := fun x hx => (f1 x hx).elim .inl (fun h => .inr (Nat.le_trans KK1.size h))
              obtain ⟨au, cu, hu1⟩ := o1_2.form
              obtain ⟨m1, hm1⟩ : ∃ m, (who ++ [t]).length = m := ⟨_, rfl⟩
              rw [hm1] at hu1
              have HM1 := hid hm1
              clear hm1
              subst hu1
              refine hK _ _ ⟨x1_2, x2_2⟩ ?_
              clear hK K f1 k1 ow
              try simp only [Act.put, List.setIfInBounds_toArray, List.set_cons_zero, List.set_cons_succ]
              refine anyX_does 8 rfl (by kernel_rfl) (by rfl) (fun K hK => ?_)
              go_simp
              have KA3 : Keep (fun _ => False) Y2 (Y2.alloc (.cells #[.int .i64 nn] 3)) := (Keep.refl _ _).alloc _
              have x1_3 := (KA3.cell (p := ⟨wr.heap.size, 1, none⟩) (World.block_lt_of_cell? _ _ x1_2) (fun h => h)).trans x1_2
              have x2_3 := (KA3.cell (p := ⟨wr.heap.size, 2, none⟩) (World.block_lt_of_cell? _ _ x2_2) (fun h => h)).trans x2_2
              have s2_3 : Src (Y2.alloc (.cells #[.int .i64 nn] 3)) (.slice (some ⟨Y2.heap.size, 0, none⟩) 1 1) 1 1 (flat1 [nn]) := one_srcI Y2 nn
              have p2 : Hid (W5.heap.size ≤ Y2.heap.size) := hid KK2.size
              have KK3 := KK2.trans (KA3.mono fun _ _ h => h.elim)
              have o1_3 := o1_2.keep KA3 (fun _ _ h => h)
              refine hK _ _ ⟨x1_3, x2_3⟩ ?_
              clear hK K
              try simp only [Act.put, List.setIfInBounds_toArray, List.set_cons_zero, List.set_cons_succ]
              obtain ⟨Y3, hY3⟩ : ∃ x, (Y2.alloc (.cells #[.int .i64 nn] 3)) = x := ⟨_, rfl⟩
              rw [hY3] at KK3 x1_3 x2_3 s2_3 o1_3 ⊢
              clear hY3 KA3
              refine anyX_does 9 rfl (by kernel_rfl) (by rfl) (fun K hK => ?_)
              have om := OM5.out.keep KK3 (fun x hx h => AP5.out.2.2 x h hx)
              refine wp_append_ints _ (.tmp 64) (.tmp 67) rfl _ many rfl om _ 1 [nn] rfl s2_3 (by have := WM.out; omega) ?_
              intro u2 Y4 o2 f2 k2
              have x1_4 := (k2.cell (p := ⟨wr.heap.size, 1, none⟩) (World.block_lt_of_cell? _ _ x1_3) (fun h => Nat.lt_irrefl _ (HQ2.out _ h))).trans x1_3
              have x2_4 := (k2.cell (p := ⟨wr.heap.size, 2, none⟩) (World.block_lt_of_cell? _ _ x2_3) (fun h => Nat.lt_irrefl _ (HQ2.out _ h))).trans x2_3
              have OW9 := hid (o1_3.keep k2 (fun x hx h => (F1 x hx).elim (fun e => AP5.out.2.2 x e h) (fun e => by have := own_lt OM5.out h; omega)))
              have N9 := hid ((N5.out.keep KK3 (fun x hx => AP5.out.1 x hx)).keep k2 (fun x hx => AP5.out.2.1 x hx))
              have AP9 : Ap w G5 (.slice au m1 cu) u2 := ⟨fun x hx => (F1 x hx).elim (AP5.out.1 x) (fun h => ⟨Nat.le_trans N5.out.2.2.size h, fun hg => by have := N5.out.1.2.1 x hg; omega⟩), fun x hx => (f2 x hx).elim (AP5.out.2.1 x) (fun h => ⟨Nat.le_trans N5.out.2.2.size (Nat.le_trans KK3.size h), fun hg => by have := N5.out.1.2.1 x hg; have := KK3.size; omega⟩), fun x hx h => (f2 x h).elim (fun e => (F1 x hx).elim (fun e2 => AP5.out.2.2 x e2 e) (fun e2 => by have := own_lt OM5.out e; omega)) (fun e => by have := own_lt o1_3 hx; omega)⟩
              obtain ⟨am, cm, hu2⟩ := o2.form
              rw [show (many ++ [nn]).length = m1 by rw [← HM1.out]; simp; exact WM.out.symm] at hu2
              subst hu2
              have OM9 := hid o2
              have AP9 := hid AP9
              have X9 := And.intro x1_4 x2_4
              refine hK _ _ X9 ?_
              clear hK K f2 k2 om o2 F1 X9 x1_4 x2_4 o1_3 KK3 s2_3
              try simp only [Act.put, List.setIfInBounds_toArray, List.set_cons_zero, List.set_cons_succ]
              refine' anyX_calm (v := _) 10 rfl (by kernel_rfl) (by rfl) (fun W hW => ?_) ?_; rotate_left
              · ((try dsimp only at hW); go_simp; first | done | rfl)
              try simp only [Act.put, List.setIfInBounds_toArray, List.set_cons_zero, List.set_cons_succ]
              refine' anyX_calm (v := _) 11 rfl (by kernel_rfl) (by rfl) (fun W hW => ?_) ?_; rotate_left
              · ((try dsimp only at hW); go_simp; first | done | rfl)
              try simp only [Act.put, List.setIfInBounds_toArray, List.set_cons_zero, List.set_cons_succ]
              refine anyX_done (by kernel_rfl) ?_
              go_wp2_with fail
              go_loopw [9, 16] (fun tk kk wq => kk = .int .i64 0 ∧ tk = .int .i64 (N - S'.free) ∧ Keep (fun _ => False) Y4 wq) (fun _ _ _ => 0)
              case atStart => exact ⟨rfl, rfl, Keep.refl _ _⟩
              case round =>
                obtain ⟨rfl, rfl, hKq⟩ := hrel
                have KQ := hid hKq
                clear hKq
                obtain ⟨T2, hT2⟩ : ∃ T2, N - S'.free = T2 := ⟨_, rfl⟩
                rw [hT2]
                have N6 := hid (N9.out.quiet KQ.out)
                have OW6 := hid (OW9.out.keep KQ.out fun _ _ h => h)
                have OM6 := hid (OM9.out.keep KQ.out fun _ _ h => h)
                have g1 := KI'.out.good.f0
                have g2 := KI'.out.good.f1
                rw [SZ'.out] at g2
                have HS' := hid (And.intro SZ'.out KI'.out)
                have t1 : 0 ≤ T2 := by omega
                have t2 : T2 ≤ N := by omega
                have t3 : (S'.free != N - T2) = false := by simp; omega
                have HT2 := hid hT2
                clear hT2
                go_wp2_with fail
                refine (mfree_any N6.out).mono ?_
                rintro _ _ ⟨rfl, rfl⟩
                go_wp2_with fail
                go_roundw
                case rel => exact ⟨k + 1, S', (who ++ [t]), (many ++ [nn]), au, cu, am, cm, G5, by omega, by omega, by go_num, by rw [HM1.out], by rw [HM1.out], by rw [HT2.out], SZ'.out, by have := HL.out.1; omega, by rw [HM1.out]; have := HM1.out; simp at this; omega, WM9.out, KI'.out, by rw [HM1.out]; exact OW6.out, by rw [HM1.out]; exact OM6.out, N6.out, by rw [HM1.out]; exact AP9.out⟩
                case measure => simp [intOf]; omega
            · go_simp
              have KA2 : Keep (fun _ => False) Y1 (Y1.alloc (.cells #[.int .i64 nn] 3)) := (Keep.refl _ _).alloc _
              have x1_2 := (KA2.cell (p := ⟨wr.heap.size, 1, none⟩) (World.block_lt_of_cell? _ _ x1_1) (fun h => h)).trans x1_1
              have x2_2 := (KA2.cell (p := ⟨wr.heap.size, 2, none⟩) (World.block_lt_of_cell? _ _ x2_1) (fun h => h)).trans x2_1
              have s2_2 : Src (Y1.alloc (.cells #[.int .i64 nn] 3)) (.slice (some ⟨Y1.heap.size, 0, none⟩) 1 1) 1 1 (flat1 [nn]) := one_srcI Y1 nn
              have p2 : Hid (W5.heap.size ≤ Y1.heap.size) := hid KK1.size
              have KK2 := KK1.trans (KA2.mono fun _ _ h => h.elim)
              have KF2 := KF1.trans KA2
              have s1_2 := s1_1.keep KA2 (fun _ _ h => h)
              refine hK _ _ ⟨x1_2, x2_2⟩ ?_
              clear hK K
              try simp only [Act.put, List.setIfInBounds_toArray, List.set_cons_zero, List.set_cons_succ]
              obtain ⟨Y2, hY2⟩ : ∃ x, (Y1.alloc (.cells #[.int .i64 nn] 3)) = x := ⟨_, rfl⟩
              rw [hY2] at KK2 x1_2 x2_2 s2_2 KF2 s1_2 ⊢
              clear hY2 KA2
              refine anyX_does 4 rfl (by kernel_rfl) (by rfl) (fun K hK => ?_)
              have ow := OW5.out.keep KF2 (fun _ _ h => h)
              refine wp_append_ints _ (.tmp 59) (.tmp 62) rfl _ who rfl ow _ 1 [t] rfl s1_2 (by omega) ?_
              intro u1 Y3 o1_3 f1 k1
              have x1_3 := (k1.cell (p := ⟨wr.heap.size, 1, none⟩) (World.block_lt_of_cell? _ _ x1_2) (fun h => Nat.lt_irrefl _ (HQ1.out _ h))).trans x1_2
              have x2_3 := (k1.cell (p := ⟨wr.heap.size, 2, none⟩) (World.block_lt_of_cell? _ _ x2_2) (fun h => Nat.lt_irrefl _ (HQ1.out _ h))).trans x2_2
              have KK3 := KK2.trans k1
              have F1 : ∀ x, u1.ownBlock = some x → (Value.slice aW who.length cW).ownBlock = some x ∨ W5.heap.size ≤ x := fun x hx => (f1 x hx).elim .inl (fun h => .inr (Nat.le_trans KK2.size h))
              have s2_3 := s2_2.keep k1 (fun x hx h => by have e := Option.some.inj hx; dsimp only at e; have := own_lt OW5.out h; have := p2.out; omega)
              obtain ⟨au, cu, hu1⟩ := o1_3.form
              obtain ⟨m1, hm1⟩ : ∃ m, (who ++ [t]).length = m := ⟨_, rfl⟩
              rw [hm1] at hu1
              have HM1 := hid hm1
              clear hm1
              subst hu1
              refine hK _ _ ⟨x1_3, x2_3⟩ ?_
              clear hK K f1 k1 ow
              try simp only [Act.put, List.setIfInBounds_toArray, List.set_cons_zero, List.set_cons_succ]
              refine anyX_does 9 rfl (by kernel_rfl) (by rfl) (fun K hK => ?_)
              have om := OM5.out.keep KK3 (fun x hx h => AP5.out.2.2 x h hx)
              refine wp_append_ints _ (.tmp 64) (.tmp 67) rfl _ many rfl om _ 1 [nn] rfl s2_3 (by have := WM.out; omega) ?_
              intro u2 Y4 o2 f2 k2
              have x1_4 := (k2.cell (p := ⟨wr.heap.size, 1, none⟩) (World.block_lt_of_cell? _ _ x1_3) (fun h => Nat.lt_irrefl _ (HQ2.out _ h))).trans x1_3
              have x2_4 := (k2.cell (p := ⟨wr.heap.size, 2, none⟩) (World.block_lt_of_cell? _ _ x2_3) (fun h => Nat.lt_irrefl _ (HQ2.out _ h))).trans x2_3
              have OW9 := hid (o1_3.keep k2 (fun x hx h => (F1 x hx).elim (fun e => AP5.out.2.2 x e h) (fun e => by have := own_lt OM5.out h; omega)))
              have N9 := hid ((N5.out.keep KK3 (fun x hx => AP5.out.1 x hx)).keep k2 (fun x hx => AP5.out.2.1 x hx))
              have AP9 : Ap w G5 (.slice au m1 cu) u2 := ⟨fun x hx => (F1 x hx).elim (AP5.out.1 x) (fun h => ⟨Nat.le_trans N5.out.2.2.size h, fun hg => by have := N5.out.1.2.1 x hg; omega⟩), fun x hx => (f2 x hx).elim (AP5.out.2.1 x) (fun h => ⟨Nat.le_trans N5.out.2.2.size (Nat.le_trans KK3.size h), fun hg => by have := N5.out.1.2.1 x hg; have := KK3.size; omega⟩), fun x hx h => (f2 x h).elim (fun e => (F1 x hx).elim (fun e2 => AP5.out.2.2 x e2 e) (fun e2 => by have := own_lt OM5.out e; omega)) (fun e => by have := own_lt o1_3 hx; omega)⟩
              obtain ⟨am, cm, hu2⟩ := o2.form
              rw [show (many ++ [nn]).length = m1 by rw [← HM1.out]; simp; exact WM.out.symm] at hu2
              subst hu2
              have OM9 := hid o2
              have AP9 := hid AP9
              have X9 := And.intro x1_4 x2_4
              refine hK _ _ X9 ?_
              clear hK K f2 k2 om o2 F1 X9 x1_4 x2_4 o1_3 KK3 s2_3
              try simp only [Act.put, List.setIfInBounds_toArray, List.set_cons_zero, List.set_cons_succ]
              refine' anyX_calm (v := _) 10 rfl (by kernel_rfl) (by rfl) (fun W hW => ?_) ?_; rotate_left
              · ((try dsimp only at hW); go_simp; first | done | rfl)
              try simp only [Act.put, List.setIfInBounds_toArray, List.set_cons_zero, List.set_cons_succ]
              refine' anyX_calm (v := _) 11 rfl (by kernel_rfl) (by rfl) (fun W hW => ?_) ?_; rotate_left
              · ((try dsimp only at hW); go_simp; first | done | rfl)
              try simp only [Act.put, List.setIfInBounds_toArray, List.set_cons_zero, List.set_cons_succ]
              refine anyX_done (by kernel_rfl) ?_
              go_wp2_with fail
              go_loopw [9, 16] (fun tk kk wq => kk = .int .i64 0 ∧ tk = .int .i64 (N - S'.free) ∧ Keep (fun _ => False) Y4 wq) (fun _ _ _ => 0)
              case atStart => exact ⟨rfl, rfl, Keep.refl _ _⟩
              case round =>
                obtain ⟨rfl, rfl, hKq⟩ := hrel
                have KQ := hid hKq
                clear hKq
                obtain ⟨T2, hT2⟩ : ∃ T2, N - S'.free = T2 := ⟨_, rfl⟩
                rw [hT2]
                have N6 := hid (N9.out.quiet KQ.out)
                have OW6 := hid (OW9.out.keep KQ.out fun _ _ h => h)
                have OM6 := hid (OM9.out.keep KQ.out fun _ _ h => h)
                have g1 := KI'.out.good.f0
                have g2 := KI'.out.good.f1
                rw [SZ'.out] at g2
                have HS' := hid (And.intro SZ'.out KI'.out)
                have t1 : 0 ≤ T2 := by omega
                have t2 : T2 ≤ N := by omega
                have t3 : (S'.free != N - T2) = false := by simp; omega
                have HT2 := hid hT2
                clear hT2
                go_wp2_with fail
                refine (mfree_any N6.out).mono ?_
                rintro _ _ ⟨rfl, rfl⟩
                go_wp2_with fail
                go_roundw
                case rel => exact ⟨k + 1, S', (who ++ [t]), (many ++ [nn]), au, cu, am, cm, G5, by omega, by omega, by go_num, by rw [HM1.out], by rw [HM1.out], by rw [HT2.out], SZ'.out, by have := HL.out.1; omega, by rw [HM1.out]; have := HM1.out; simp at this; omega, WM9.out, KI'.out, by rw [HM1.out]; exact OW6.out, by rw [HM1.out]; exact OM6.out, N6.out, by rw [HM1.out]; exact AP9.out⟩
                case measure => simp [intOf]; omega
          · go_simp
            have KA1 : Keep (fun _ => False) W5 ((W5.alloc (.cells #[.int .i64 nn] 3)).drew) := ((Keep.refl _ _).alloc _).drew
            have x1_1 := (KA1.cell (p := ⟨wr.heap.size, 1, none⟩) (World.block_lt_of_cell? _ _ x1_0) (fun h => h)).trans x1_0
            have x2_1 := (KA1.cell (p := ⟨wr.heap.size, 2, none⟩) (World.block_lt_of_cell? _ _ x2_0) (fun h => h)).trans x2_0
            have s2_1 : Src ((W5.alloc (.cells #[.int .i64 nn] 3)).drew) (.slice (some ⟨W5.heap.size, 0, none⟩) 1 1) 1 1 (flat1 [nn]) := one_srcI W5 nn
            have p2 : Hid (W5.heap.size ≤ W5.heap.size) := hid KK0.size
            have KK1 := KK0.trans (KA1.mono fun _ _ h => h.elim)
            have KF1 := KF0.trans KA1
            refine hK _ _ ⟨x1_1, x2_1⟩ ?_
            clear hK K
            try simp only [Act.put, List.setIfInBounds_toArray, List.set_cons_zero, List.set_cons_succ]
            obtain ⟨Y1, hY1⟩ : ∃ x, ((W5.alloc (.cells #[.int .i64 nn] 3)).drew) = x := ⟨_, rfl⟩
            rw [hY1] at KK1 x1_1 x2_1 s2_1 KF1 ⊢
            clear hY1 KA1
            refine anyX_does 3 rfl (by kernel_rfl) (by rfl) (fun K hK => ?_)
            go_simp
            have KA2 : Keep (fun _ => False) Y1 (Y1.alloc (.cells #[.int .i64 t] 3)) := (Keep.refl _ _).alloc _
            have x1_2 := (KA2.cell (p := ⟨wr.heap.size, 1, none⟩) (World.block_lt_of_cell? _ _ x1_1) (fun h => h)).trans x1_1
            have x2_2 := (KA2.cell (p := ⟨wr.heap.size, 2, none⟩) (World.block_lt_of_cell? _ _ x2_1) (fun h => h)).trans x2_1
            have s1_2 : Src (Y1.alloc (.cells #[.int .i64 t] 3)) (.slice (some ⟨Y1.heap.size, 0, none⟩) 1 1) 1 1 (flat1 [t]) := one_srcI Y1 t
            have p1 : Hid (W5.heap.size ≤ Y1.heap.size) := hid KK1.size
            have KK2 := KK1.trans (KA2.mono fun _ _ h => h.elim)
            have KF2 := KF1.trans KA2
            have s2_2 := s2_1.keep KA2 (fun _ _ h => h)
            refine hK _ _ ⟨x1_2, x2_2⟩ ?_
            clear hK K
            try simp only [Act.put, List.setIfInBounds_toArray, List.set_cons_zero, List.set_cons_succ]
            obtain ⟨Y2, hY2⟩ : ∃ x, (Y1.alloc (.cells #[.int .i64 t] 3)) = x := ⟨_, rfl⟩
            rw [hY2] at KK2 x1_2 x2_2 s1_2 KF2 s2_2 ⊢
            clear hY2 KA2
            refine anyX_does 4 rfl (by kernel_rfl) (by rfl) (fun K hK => ?_)
            have ow := OW5.out.keep KF2 (fun _ _ h => h)
            refine wp_append_ints _ (.tmp 59) (.tmp 62) rfl _ who rfl ow _ 1 [t] rfl s1_2 (by omega) ?_
            intro u1 Y3 o1_3 f1 k1
            have x1_3 := (k1.cell (p := ⟨wr.heap.size, 1, none⟩) (World.block_lt_of_cell? _ _ x1_2) (fun h => Nat.lt_irrefl _ (HQ1.out _ h))).trans x1_2
            have x2_3 := (k1.cell (p := ⟨wr.heap.size, 2, none⟩) (World.block_lt_of_cell? _ _ x2_2) (fun h => Nat.lt_irrefl _ (HQ1.out _ h))).trans x2_2
            have KK3 := KK2.trans k1
            have F1 : ∀ x, u1.ownBlock = some x → (Value.slice aW who.length cW).ownBlock = some x ∨ W5.heap.size ≤ x := fun x hx => (f1 x hx).elim .inl (fun h => .inr (Nat.le_trans KK2.size h))
            have s2_3 := s2_2.keep k1 (fun x hx h => by have e := Option.some.inj hx; dsimp only at e; have := own_lt OW5.out h; have := p2.out; omega)
            obtain ⟨au, cu, hu1⟩ := o1_3.form
            obtain ⟨m1, hm1⟩ : ∃ m, (who ++ [t]).length = m := ⟨_, rfl⟩
            rw [hm1] at hu1
            have HM1 := hid hm1
            clear hm1
            subst hu1
            refine hK _ _ ⟨x1_3, x2_3⟩ ?_
            clear hK K f1 k1 ow
            try simp only [Act.put, List.setIfInBounds_toArray, List.set_cons_zero, List.set_cons_succ]
            refine anyX_does 9 rfl (by kernel_rfl) (by rfl) (fun K hK => ?_)
            have om := OM5.out.keep KK3 (fun x hx h => AP5.out.2.2 x h hx)
            refine wp_append_ints _ (.tmp 64) (.tmp 67) rfl _ many rfl om _ 1 [nn] rfl s2_3 (by have := WM.out; omega) ?_
            intro u2 Y4 o2 f2 k2
            have x1_4 := (k2.cell (p := ⟨wr.heap.size, 1, none⟩) (World.block_lt_of_cell? _ _ x1_3) (fun h => Nat.lt_irrefl _ (HQ2.out _ h))).trans x1_3
            have x2_4 := (k2.cell (p := ⟨wr.heap.size, 2, none⟩) (World.block_lt_of_cell? _ _ x2_3) (fun h => Nat.lt_irrefl _ (HQ2.out _ h))).trans x2_3
            have OW9 := hid (o1_3.keep k2 (fun x hx h => (F1 x hx).elim (fun e => AP5.out.2.2 x e h) (fun e => by have := own_lt OM5.out h; omega)))
            have N9 := hid ((N5.out.keep KK3 (fun x hx => AP5.out.1 x hx)).keep k2 (fun x hx => AP5.out.2.1 x hx))
            have AP9 : Ap w G5 (.slice au m1 cu) u2 := ⟨fun x hx => (F1 x hx).elim (AP5.out.1 x) (fun h => ⟨Nat.le_trans N5.out.2.2.size h, fun hg => by have := N5.out.1.2.1 x hg; omega⟩), fun x hx => (f2 x hx).elim (AP5.out.2.1 x) (fun h => ⟨Nat.le_trans N5.out.2.2.size (Nat.le_trans KK3.size h), fun hg => by have := N5.out.1.2.1 x hg; have := KK3.size; omega⟩), fun x hx h => (f2 x h).elim (fun e => (F1 x hx).elim (fun e2 => AP5.out.2.2 x e2 e) (fun e2 => by have := own_lt OM5.out e; omega)) (fun e => by have := own_lt o1_3 hx; omega)⟩
            obtain ⟨am, cm, hu2⟩ := o2.form
            rw [show (many ++ [nn]).length = m1 by rw [← HM1.out]; simp; exact WM.out.symm] at hu2
            subst hu2
            have OM9 := hid o2
            have AP9 := hid AP9
            have X9 := And.intro x1_4 x2_4
            refine hK _ _ X9 ?_
            clear hK K f2 k2 om o2 F1 X9 x1_4 x2_4 o1_3 KK3 s2_3
            try simp only [Act.put, List.setIfInBounds_toArray, List.set_cons_zero, List.set_cons_succ]
            refine' anyX_calm (v := _) 10 rfl (by kernel_rfl) (by rfl) (fun W hW => ?_) ?_; rotate_left
            · ((try dsimp only at hW); go_simp; first | done | rfl)
            try simp only [Act.put, List.setIfInBounds_toArray, List.set_cons_zero, List.set_cons_succ]
            refine' anyX_calm (v := _) 11 rfl (by kernel_rfl) (by rfl) (fun W hW => ?_) ?_; rotate_left
            · ((try dsimp only at hW); go_simp; first | done | rfl)
            try simp only [Act.put, List.setIfInBounds_toArray, List.set_cons_zero, List.set_cons_succ]
            refine anyX_done (by kernel_rfl) ?_
            go_wp2_with fail
            go_loopw [9, 16] (fun tk kk wq => kk = .int .i64 0 ∧ tk = .int .i64 (N - S'.free) ∧ Keep (fun _ => False) Y4 wq) (fun _ _ _ => 0)
            case atStart => exact ⟨rfl, rfl, Keep.refl _ _⟩
            case round =>
              obtain ⟨rfl, rfl, hKq⟩ := hrel
              have KQ := hid hKq
              clear hKq
              obtain ⟨T2, hT2⟩ : ∃ T2, N - S'.free = T2 := ⟨_, rfl⟩
              rw [hT2]
              have N6 := hid (N9.out.quiet KQ.out)
              have OW6 := hid (OW9.out.keep KQ.out fun _ _ h => h)
              have OM6 := hid (OM9.out.keep KQ.out fun _ _ h => h)
              have g1 := KI'.out.good.f0
              have g2 := KI'.out.good.f1
              rw [SZ'.out] at g2
              have HS' := hid (And.intro SZ'.out KI'.out)
              have t1 : 0 ≤ T2 := by omega
              have t2 : T2 ≤ N := by omega
              have t3 : (S'.free != N - T2) = false := by simp; omega
              have HT2 := hid hT2
              clear hT2
              go_wp2_with fail
              refine (mfree_any N6.out).mono ?_
              rintro _ _ ⟨rfl, rfl⟩
              go_wp2_with fail
              go_roundw
              case rel => exact ⟨k + 1, S', (who ++ [t]), (many ++ [nn]), au, cu, am, cm, G5, by omega, by omega, by go_num, by rw [HM1.out], by rw [HM1.out], by rw [HT2.out], SZ'.out, by have := HL.out.1; omega, by rw [HM1.out]; have := HM1.out; simp at this; omega, WM9.out, KI'.out, by rw [HM1.out]; exact OW6.out, by rw [HM1.out]; exact OM6.out, N6.out, by rw [HM1.out]; exact AP9.out⟩
              case measure => simp [intOf]; omega
        · have KI' := hid (HOUT.out he2)
          have he0 : (e == 0) = false := by simp [he]
          have he14 : (e == 14) = false := by simp [he2]
          have HT3 : Hid (N - S.free = N - S'.free) := hid (by have := HF.out; rw [if_neg he] at this; omega)
          rw [HT3.out]
          clear J5 K5 he he2 x5
          go_wp2_with fail
          go_loopw [9, 16] (fun tk kk wq => kk = .int .i64 0 ∧ tk = .int .i64 (N - S'.free) ∧ Keep (fun _ => False) W5 wq) (fun _ _ _ => 0)
          case atStart => exact ⟨rfl, rfl, Keep.refl _ _⟩
          case round =>
            obtain ⟨rfl, rfl, hKq⟩ := hrel
            have KQ := hid hKq
            clear hKq
            obtain ⟨T2, hT2⟩ : ∃ T2, N - S'.free = T2 := ⟨_, rfl⟩
            rw [hT2]
            have N6 := hid (N5.out.quiet KQ.out)
            have OW6 := hid (OW5.out.keep KQ.out fun _ _ h => h)
            have OM6 := hid (OM5.out.keep KQ.out fun _ _ h => h)
            have g1 := KI'.out.good.f0
            have g2 := KI'.out.good.f1
            rw [SZ'.out] at g2
            have HS' := hid (And.intro SZ'.out KI'.out)
            have t1 : 0 ≤ T2 := by omega
            have t2 : T2 ≤ N := by omega
            have t3 : (S'.free != N - T2) = false := by simp; omega
            have HT2 := hid hT2
            clear hT2
            go_wp2_with fail
            refine (mfree_any N6.out).mono ?_
            rintro _ _ ⟨rfl, rfl⟩
            go_wp2_with fail
            go_roundw
            case rel => exact ⟨k + 1, S', who, many, _, _, _, _, G5, by omega, by omega, by go_num, rfl, rfl, by rw [HT2.out], SZ'.out, by have := HL.out.1; omega, by omega, WM.out, KI'.out, OW6.out, OM6.out, N6.out, AP5.out⟩
            case measure => simp [intOf]; omega
    · have hge : ¬ ((k : Int) < (n1 : Int)) ∨ (k : Int) < (n1 : Int) ∧ ¬ ((k : Int) < 60) := by omega
      rcases hge with hge1 | ⟨hge1, hge2⟩
      all_goals
        go_wp2_with fail
        refine (mawake_any _).mono ?_
        rintro _ W4 ⟨rfl, K4⟩
        have N4 := hid (Nr.out.quiet K4)
        clear K4
        go_wp2
        go_ret
        exact ⟨rfl, N4.out.2.2.below (fun _ h => h.elim) (Nat.le_refl _)⟩
end Go.Proofs.Ytegpoocmhamlpaa
