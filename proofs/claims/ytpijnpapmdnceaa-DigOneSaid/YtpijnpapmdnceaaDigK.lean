/- Law 20: DigOne. -/
import Derived.Test.YtpijnpapmdnceaaDigI
import Derived.Test.YtpijnpapmdnceaaDigJ
namespace Go.Proofs.Ytpijnpapmdnceaa
open Go Go.RowKit

set_option maxRecDepth 10000 in
set_option maxHeartbeats 2000000 in
theorem walk_DigOne (w : World) (v : Value) (l : List B8) (h : ReadC w v l) :
    Calls Try.prog 4 #[v] w fun e w' => e = .returned (.bool true) ∧ Below w.heap.size w w' := by
  obtain ⟨_, a, c, rfl, hc1, hc2⟩ := id h
  have r0 : RowL (w.alloc (.cells (stv z25).toArray 28)) w.heap.size 28 z25 := heap_alloc_new w _
  have k0 : Keep (fun _ => False) w (w.alloc (.cells (stv z25).toArray 28)) := (Keep.refl _ _).alloc _
  obtain ⟨L, m, H, HL, hm, hgt, SL⟩ : ∃ L m, Hid (ReadY w (.slice a m c) L) ∧ Hid (L.length = m) ∧ m ≤ 134 ∧ ((l.length : Int) > 134 ∨ ¬ (l.length : Int) > 134 ∧ m = l.length) ∧ ∀ W, (l.length : Int) > 134 → (Instr.slice 22 (.slice a l.length c) none (some (.int .i64 134)) none).run Try.prog W = .ok (.slice a m c) W := by
    by_cases hl : l.length > 134
    · have ht := readC_take h 134 hl
      refine ⟨l.take 134, 134, hid ht.1, hid (by rw [List.length_take]; omega), Nat.le_refl _, .inl (by omega), fun W _ => ?_⟩
      have hc : (134 : Int) ≤ (c : Int) := by omega
      go_simp
    · exact ⟨l, l.length, hid h.1, hid rfl, by omega, .inr ⟨by omega, rfl⟩, fun W hh => absurd hh (by omega)⟩
  have r0 := hid r0
  have k0 := hid k0
  have hgt2 : ((l.length : Int) > 134 ∧ ∀ W, (Instr.slice 22 (.slice a l.length c) none (some (.int .i64 134)) none).run Try.prog W = .ok (.slice a m c) W) ∨ ¬ (l.length : Int) > 134 ∧ m = l.length :=
    hgt.elim (fun h => .inl ⟨h, fun W => SL W h⟩) .inr
  clear h SL hgt hc1 hc2
  rcases hgt2 with ⟨hgt, SL⟩ | ⟨hgt, hml⟩
  case' inr =>
    rw [← hml] at hgt ⊢
    clear hml
  all_goals
    go_enter Try.func4, Try.ntmps4
    go_wp2_with (first | (with_reducible refine wpList_bd built37 rfl rfl ?_) | ((with_reducible refine wpList_st (.tmp 3) (.tmp 13) rfl rfl _ rfl z25 rfl rfl z25 rfl ?_ ?_); exact r0.out))
    try clear SL
    clear hgt
    have R0 := hid (r0.out.row (s' := z25))
    have K0 := hid (k0.out.setRow (g := w.heap.size) (Nat.le_refl _) (stv z25).toArray)
    go_loopw [4] (fun i wr => ∃ k : Nat, k ≤ m ∧ i = .int .i64 k ∧ RowL wr w.heap.size 28 (bytesK (padF L) 0 z25 k) ∧ Keep (fun _ => False) w wr) (fun i _ => m - (intOf i).toNat)
    case atStart => exact ⟨0, Nat.zero_le _, rfl, R0.out, K0.out⟩
    case round =>
      obtain ⟨k, hk, rfl, hR, hK⟩ := hrel
      clear R0 K0
      have R := hid hR
      have KK := hid hK
      have BL := hid (show (bytesK (padF L) 0 z25 k).length = 25 from bytesK_len _ _ _ _)
      clear hR hK
      by_cases hlt : k < m
      · have hlt' : (k : Int) < (m : Int) := by omega
        obtain ⟨g, off, c1, hv1, hg, hmx, hc⟩ := (H.out.keep KK.out (fun _ _ h => h)).at HL.out (by omega)
        have HV := hid hv1
        simp only [Value.slice.injEq] at hv1
        obtain ⟨rfl, -, rfl⟩ := hv1
        have kc := hc k hlt
        have PN := hid (byte_next (padF L) k (by omega))
        rw [padF_in L k (by rw [HL.out]; exact hlt)] at PN
        obtain ⟨u, hu⟩ : ∃ u, bytesK (padF L) 0 z25 k = u := ⟨_, rfl⟩
        rw [hu] at R BL PN
        obtain ⟨q, hq⟩ : ∃ q, k / 8 = q := ⟨_, rfl⟩
        obtain ⟨r, hr⟩ : ∃ r, k % 8 = r := ⟨_, rfl⟩
        rw [hq, hr] at PN
        have q17 : q < 17 := by omega
        have r8 : r < 8 := by omega
        have hqd : (k : Int).tdiv 8 = (q : Int) := by rw [Int.tdiv_eq_ediv_of_nonneg (by omega), ← hq]; rfl
        have hrd : (k : Int).tmod 8 = (r : Int) := by rw [Int.tmod_eq_emod_of_nonneg (by omega), ← hr]; rfl
        have hqe : (k : Int) / 8 = (q : Int) := by omega
        have hre : (k : Int) % 8 = (r : Int) := by omega
        have hqi : (q : Int) < 25 := by omega
        have wq : IntKind.i64.wrap (q : Int) = (q : Int) := IntWalk.i64_in _ ⟨by omega, by omega⟩
        have wr8 : IntKind.i64.wrap (8 * (r : Int)) = ((8 * r : Nat) : Int) := by rw [IntWalk.i64_in _ ⟨by omega, by omega⟩]; omega
        have ck := R.out.cell q (by rw [BL.out]; omega)
        have fk := R.out.fro q
        obtain ⟨x, hx⟩ : ∃ x, gb L k = x := ⟨_, rfl⟩
        obtain ⟨X, hX⟩ : ∃ X, gl u q = X := ⟨_, rfl⟩
        rw [hx] at kc PN
        rw [hX] at ck PN
        have b8 := b8_lt x
        have IV := hid (inl8_val x r)
        have EQ : Hid (IntKind.u64.wrap ((X.toNat : Int) + IntKind.u64.wrap (IntKind.u64.wrap (x.toNat : Int) * 2 ^ min (IntKind.u64.wrap (8 * (r : Int))).toNat 64)) = ((X + inl8 x r).toNat : Int)) := hid (by
          have e1 : IntKind.u64.wrap (x.toNat : Int) = (x.toNat : Int) := by rw [IntKind.wrap_u64]; omega
          have e2 : IntKind.u64.wrap (8 * (r : Int)) = ((8 * r : Nat) : Int) := by rw [IntKind.wrap_u64]; omega
          rw [e1, e2, Int.toNat_natCast, Nat.min_eq_left (by omega), IV.out, add_val])
        unfold maxLen at hmx
        clear hu hq hr hx hX hc
        go_wp2_with fail
        refine wp_region_text [0,0,0,0,0,0,0,0,0,0,0,0,0,0,0,0,3] (fun W => W.cell? ⟨w.heap.size, q, none⟩ = some (.int .u64 (X.toNat : Int)) ∧ W.cell? ⟨g, off + k, none⟩ = some (.int .u8 (x.toNat : Int))) (by kernel_rfl) (by kernel_rfl) ⟨ck, kc⟩ ?_
        repeat (first
          | (refine' wpT_calm (v := _) (by rfl) (fun W hW => ?_) ?_; rotate_left
             · ((try dsimp only at hW); go_simp; first | done | rfl)
             simp only [Act.put, List.setIfInBounds_toArray, List.set_cons_zero, List.set_cons_succ])
          | (refine' wpT_reads (v := _) (by rfl) ?_ ?_; rotate_left
             · (go_simp; first | done | rfl)
             simp only [Act.put, List.setIfInBounds_toArray, List.set_cons_zero, List.set_cons_succ])
          | (refine wpT_skip (by rfl) rfl ?_; simp only [Act.put, List.setIfInBounds_toArray, List.set_cons_zero, List.set_cons_succ])
          | (refine wpT_does (by rfl) (fun K hK => ?_); go_simp; refine hK _ _ ?_ ?_
             · (trivial)
             clear hK K; try simp only [Act.put, List.setIfInBounds_toArray, List.set_cons_zero, List.set_cons_succ])
          | (refine wpT_last (by rfl) (fun K hK => ?_); go_simp; refine hK _ _ ?_; clear hK K)
          | (refine wpT_nil ?_))
        rw [EQ.out]
        have R1 := hid ((R.out.set q (X + inl8 x r)).keep ((Keep.refl (fun _ => False) _).drew) (fun h => h))
        have K1 := hid ((KK.out.setCell (p := ⟨w.heap.size, q, none⟩) (.inr (Nat.le_refl _)) (.int .u64 ((X + inl8 x r).toNat : Int))).drew)
        rw [PN.out] at R1
        generalize IntKind.u64.wrap (IntKind.u64.wrap (x.toNat : Int) * 2 ^ min (IntKind.u64.wrap (8 * (r : Int))).toNat 64) = J1
        generalize IntKind.u64.wrap (8 * (r : Int)) = J2
        generalize IntKind.u64.wrap (x.toNat : Int) = J3
        clear kc hqd hrd hqe hre wq wr8 ck fk EQ
        go_wp2_with fail
        go_roundw
        case rel => exact ⟨k + 1, by omega, by go_num, R1.out, K1.out⟩
        case measure => simp [intOf]; omega
      · obtain rfl : k = m := by omega
        have hlt' : ¬ (k : Int) < (k : Int) := by omega
        have PN := hid (byte_next (padF L) k (by omega))
        have p6 := padF_six L (by rw [HL.out]; exact hm)
        have OB := one_block L (by rw [HL.out]; exact hm)
        have DO := dgt_one L (by rw [HL.out]; exact hm)
        rw [HL.out] at p6 OB
        rw [p6] at PN
        obtain ⟨u, hu⟩ : ∃ u, bytesK (padF L) 0 z25 k = u := ⟨_, rfl⟩
        rw [hu] at R BL PN
        have BL1 : (bytesK (padF L) 0 z25 (k + 1)).length = 25 := bytesK_len _ _ _ _
        have BL2 : (bytesK (padF L) 0 z25 136).length = 25 := bytesK_len _ _ _ _
        obtain ⟨u1, hu1⟩ : ∃ u, bytesK (padF L) 0 z25 (k + 1) = u := ⟨_, rfl⟩
        rw [hu1] at PN BL1 OB
        obtain ⟨u2, hu2⟩ : ∃ u, bytesK (padF L) 0 z25 136 = u := ⟨_, rfl⟩
        rw [hu2] at OB BL2 DO
        have OB := hid OB
        have DO := hid DO
        have BL1 := hid BL1
        have BL2 := hid BL2
        obtain ⟨q, hq⟩ : ∃ q, k / 8 = q := ⟨_, rfl⟩
        obtain ⟨r, hr⟩ : ∃ r, k % 8 = r := ⟨_, rfl⟩
        rw [hq, hr] at PN
        have q17 : q < 17 := by omega
        have r8 : r < 8 := by omega
        have hqd : (k : Int).tdiv 8 = (q : Int) := by rw [Int.tdiv_eq_ediv_of_nonneg (by omega), ← hq]; rfl
        have hrd : (k : Int).tmod 8 = (r : Int) := by rw [Int.tmod_eq_emod_of_nonneg (by omega), ← hr]; rfl
        have hqe : (k : Int) / 8 = (q : Int) := by omega
        have hre : (k : Int) % 8 = (r : Int) := by omega
        have hqi : (q : Int) < 25 := by omega
        have wq : IntKind.i64.wrap (q : Int) = (q : Int) := IntWalk.i64_in _ ⟨by omega, by omega⟩
        have wr8 : IntKind.i64.wrap (8 * (r : Int)) = ((8 * r : Nat) : Int) := by rw [IntWalk.i64_in _ ⟨by omega, by omega⟩]; omega
        have ck := R.out.cell q (by rw [BL.out]; omega)
        have fk := R.out.fro q
        obtain ⟨X, hX⟩ : ∃ X, gl u q = X := ⟨_, rfl⟩
        rw [hX] at ck PN
        have IV := hid (inl8_val 6#8 r)
        have E1 : IntKind.u64.wrap (6 * 2 ^ (8 * r)) = ((inl8 6#8 r).toNat : Int) := IV.out
        obtain ⟨N, hN⟩ : ∃ N, inl8 6#8 r = N := ⟨_, rfl⟩
        rw [hN] at E1 PN
        have E2 := add_val X N
        obtain ⟨V, hV⟩ : ∃ V, X + N = V := ⟨_, rfl⟩
        rw [hV] at E2 PN
        have R1' := R.out.set q V
        rw [PN.out] at R1'
        have c16 := R1'.cell 16 (by rw [BL1.out]; decide)
        have f16 := R1'.fro 16
        have R2' := R1'.set 16 (gl u1 16 ^^^ 9223372036854775808#64)
        rw [OB.out] at R2'
        have K2 := hid ((KK.out.setCell (p := ⟨w.heap.size, q, none⟩) (.inr (Nat.le_refl _)) (.int .u64 (V.toNat : Int))).setCell (p := ⟨w.heap.size, 16, none⟩) (.inr (Nat.le_refl _)) (.int .u64 ((gl u1 16 ^^^ 9223372036854775808#64).toNat : Int)))
        obtain ⟨Y, hY⟩ : ∃ Y, gl u1 16 = Y := ⟨_, rfl⟩
        rw [hY] at c16 R2' K2
        have XV : bits .xor .u64 (Y.toNat : Int) 9223372036854775808 = ((Y ^^^ 9223372036854775808#64).toNat : Int) := xor_val Y 9223372036854775808#64
        obtain ⟨Z, hZ⟩ : ∃ Z, Y ^^^ 9223372036854775808#64 = Z := ⟨_, rfl⟩
        rw [hZ] at R2' K2 XV
        have R2 := hid R2'
        have PL := hid (perm_length u2 BL2.out)
        clear hu hu1 hu2 hq hr hX hlt p6 IV hY R1' R2' OB PN R hN hV hZ
        go_wp2_with (with_reducible refine wpList_ld (.tmp 3) rfl rfl _ rfl u2 BL2.out R2.out ?_)
        refine (perm_any u2 BL2.out _).mono ?_
        rintro _ W3 ⟨rfl, k3⟩
        have K3 := hid (K2.out.trans k3)
        have H3 := hid (H.out.keep K3.out (fun _ _ h => h))
        obtain ⟨s, hs⟩ : ∃ s, perm u2 = s := ⟨_, rfl⟩
        rw [hs] at PL DO ⊢
        clear hs k3 K2 R2 c16 f16 XV E1 E2 ck fk hqd hrd hqe hre wq wr8 KK
        obtain ⟨b2, hb2⟩ : ∃ b, W3.heap.size = b := ⟨_, rfl⟩
        have hb : w.heap.size ≤ b2 := by rw [← hb2]; exact K3.out.size
        have r4 : RowL (W3.alloc (.cells (stv z25).toArray 28)) W3.heap.size 28 z25 := heap_alloc_new W3 _
        rw [hb2] at r4
        have k4 := (K3.out.alloc (.cells (stv z25).toArray 28))
        have R4 := hid (r4.row (s' := s))
        have K4 := hid (k4.setRow (g := b2) hb (stv s).toArray)
        have r4 := hid r4
        clear k4 K3
        go_wp2_with ((with_reducible refine wpList_st (.tmp 5) (.tmp 54) rfl rfl _ rfl s PL.out rfl z25 rfl ?_ ?_); exact r4.out)
        clear r4 hb2
        refine (of_any (H.out.keep K4.out (fun _ _ h => h)) (by rw [HL.out]; omega)).mono ?_
        rintro _ W5 ⟨rfl, k5⟩
        rw [DO.out]
        have R5 := hid (R4.out.keep k5 (fun h => h))
        have K5 := hid (K4.out.trans k5)
        obtain ⟨S, hS, hSs, hSi⟩ : ∃ S : ByteArray, bstr (dgB s) = .string S ∧ S.size = 32 ∧ Hid (∀ i h, i < 32 → (S[i]'h).toNat = (byt s i).toNat) :=
          ⟨bya (dgB s), rfl, by rw [bya_size]; simp [dgB], hid (fun i h hi => by rw [bya_get, dgB_gb s i hi])⟩
        rw [hS]
        clear hS k5 R4 K4 DO H3
        go_wp2_with fail
        go_loopw [7] (fun i wr => ∃ k : Nat, k ≤ 32 ∧ i = .int .i64 k ∧ RowL wr b2 28 s ∧ Keep (fun _ => False) w wr) (fun i _ => 32 - (intOf i).toNat)
        case atStart => exact ⟨0, Nat.zero_le _, rfl, R5.out, K5.out⟩
        case round =>
          obtain ⟨j, hj, rfl, hR, hK⟩ := hrel
          have R6 := hid hR
          have K6 := hid hK
          clear R5 K5 hR hK
          by_cases hjl : j < 32
          · have hjl' : (j : Int) < 32 := by omega
            have BV := byt_val (gl s (j / 8)) (8 * (j % 8))
            have SI : ∀ h, (S[j]'h).toNat = (byt s j).toNat := fun h => hSi.out j h hjl
            have BD : Hid (byt s j = (gl s (j / 8) >>> (8 * (j % 8))).setWidth 8) := hid rfl
            obtain ⟨B, hB⟩ : ∃ B, byt s j = B := ⟨_, rfl⟩
            simp only [hB] at SI
            rw [hB] at BD
            obtain ⟨q2, hq⟩ : ∃ q, j / 8 = q := ⟨_, rfl⟩
            obtain ⟨r2, hr⟩ : ∃ r, j % 8 = r := ⟨_, rfl⟩
            rw [hq, hr] at BV BD
            rw [← BD.out] at BV
            have q25 : q2 < 25 := by omega
            have r28 : r2 < 8 := by omega
            have hqe : (j : Int) / 8 = (q2 : Int) := by omega
            have hre : (j : Int) % 8 = (r2 : Int) := by omega
            have hqi : (q2 : Int) < 25 := by omega
            have wq : IntKind.i64.wrap (q2 : Int) = (q2 : Int) := IntWalk.i64_in _ ⟨by omega, by omega⟩
            have wr8 : IntKind.i64.wrap (8 * (r2 : Int)) = ((8 * r2 : Nat) : Int) := by rw [IntWalk.i64_in _ ⟨by omega, by omega⟩]; omega
            have hqd : (j : Int).tdiv 8 = (q2 : Int) := by rw [Int.tdiv_eq_ediv_of_nonneg (by omega), hqe]
            have hrd : (j : Int).tmod 8 = (r2 : Int) := by rw [Int.tmod_eq_emod_of_nonneg (by omega), hre]
            have ck := R6.out.cell q2 (by rw [PL.out]; exact q25)
            obtain ⟨X, hX⟩ : ∃ X, gl s q2 = X := ⟨_, rfl⟩
            rw [hX] at ck BV
            have NEQ : Hid (((B.toNat : Int) != IntKind.u8.wrap ((X.toNat : Int) / 2 ^ min (IntKind.u64.wrap (8 * (r2 : Int))).toNat 64)) = false) := hid (by
              have e2 : IntKind.u64.wrap (8 * (r2 : Int)) = ((8 * r2 : Nat) : Int) := by rw [IntKind.wrap_u64]; omega
              rw [e2, Int.toNat_natCast, Nat.min_eq_left (by omega), IntKind.wrap_u8', BV]
              simp)
            clear hX hq hr hB BD BV
            go_wp2_with fail
            refine wp_region_text [0,0,0,0,0,0,0,0,0,0,0,0,0,0] (fun W => W.cell? ⟨b2, q2, none⟩ = some (.int .u64 (X.toNat : Int))) (by kernel_rfl) (by kernel_rfl) ck ?_
            repeat (first
              | (refine' wpT_calm (v := _) (by rfl) (fun W hW => ?_) ?_; rotate_left
                 · ((try dsimp only at hW); go_simp; first | done | rfl)
                 simp only [Act.put, List.setIfInBounds_toArray, List.set_cons_zero, List.set_cons_succ])
              | (refine' wpT_reads (v := _) (by rfl) ?_ ?_; rotate_left
                 · (go_simp; first | done | rfl)
                 simp only [Act.put, List.setIfInBounds_toArray, List.set_cons_zero, List.set_cons_succ])
              | (refine wpT_skip (by rfl) rfl ?_; simp only [Act.put, List.setIfInBounds_toArray, List.set_cons_zero, List.set_cons_succ])
              | (refine wpT_does (by rfl) (fun K hK => ?_); go_simp; refine hK _ _ ?_ ?_
                 · (trivial)
                 clear hK K; try simp only [Act.put, List.setIfInBounds_toArray, List.set_cons_zero, List.set_cons_succ])
              | (refine wpT_last (by rfl) (fun K hK => ?_); go_simp; refine hK _ _ ?_; clear hK K)
              | (refine wpT_nil ?_))
            rw [NEQ.out]
            have K7 := hid K6.out.drew
            have R7 := hid (R6.out.keep ((Keep.refl (fun _ => False) _).drew) (fun h => h))
            generalize IntKind.u8.wrap ((X.toNat : Int) / 2 ^ min (IntKind.u64.wrap (8 * (r2 : Int))).toNat 64) = J1
            generalize (X.toNat : Int) / 2 ^ min (IntKind.u64.wrap (8 * (r2 : Int))).toNat 64 = J2
            generalize IntKind.u64.wrap (8 * (r2 : Int)) = J3
            clear ck wr8 wq hqe hre hqd hrd SI R6 K6 NEQ
            go_wp2_with fail
            go_roundw
            case rel => exact ⟨j + 1, by omega, by go_num, R7.out, K7.out⟩
            case measure => simp [intOf]; omega
          · obtain rfl : j = 32 := by omega
            have hjl' : ¬ ((32 : Nat) : Int) < 32 := by omega
            clear hj hjl
            go_wp2_with fail
            refine (dawake_any _).mono ?_
            rintro _ W7 ⟨rfl, k7⟩
            have K7 := hid (K6.out.trans k7)
            clear k7 K6
            go_wp2_with fail
            go_ret
            exact ⟨rfl, K7.out.below (fun _ h => h.elim) (Nat.le_refl _)⟩
end Go.Proofs.Ytpijnpapmdnceaa
