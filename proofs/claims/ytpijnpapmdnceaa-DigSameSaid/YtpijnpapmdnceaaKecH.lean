/- The walks of keccak.mark, keccak.Round, keccak.Permute. -/
import Derived.Test.YtpijnpapmdnceaaKecG
namespace Go.Proofs.Ytpijnpapmdnceaa
open Go Go.RowKit

theorem lf1_lt : ∀ r : Fin 256, lf1 r.1 < 256 := by decide +kernel
theorem lf_lt : ∀ k, lf k < 256
  | 0 => by decide
  | k + 1 => lf1_lt ⟨lf k, lf_lt k⟩
theorem bit_one : ∀ r : Fin 256, bits .and .i64 ((r.1 : Nat) : Int) 1 = ((r.1 % 2 : Nat) : Int) := by decide +kernel
theorem lf_xor : ∀ r : Fin 256, 256 ≤ 2 * r.1 → bits .xor .i64 (((r.1 : Nat) : Int) * 2) 369 = ((lf1 r.1 : Nat) : Int) := by decide +kernel
theorem lf1_small {r : Nat} (h : ¬ 256 ≤ 2 * r) : lf1 r = 2 * r := by unfold lf1; rw [if_neg h]
theorem mkS_succ (n k : Nat) : mkS n (k + 1) = mk1 n (mkS n k) k := by unfold mkS; rw [List.range_succ, List.foldl_append, List.foldl_cons, List.foldl_nil]

theorem one_shl (b m : Nat) (hb : b ≤ 1) (hm : m ≤ 63) : (BitVec.ofNat 64 b <<< m).toNat = b * 2 ^ m := by
  have h2 : 2 ^ m ≤ 2 ^ 63 := Nat.pow_le_pow_right (by decide) hm
  rw [BitVec.toNat_shiftLeft, BitVec.toNat_ofNat, Nat.shiftLeft_eq, Nat.mod_eq_of_lt (by omega : b < 2 ^ 64)]
  rcases (by omega : b = 0 ∨ b = 1) with rfl | rfl
  · simp
  · rw [Nat.one_mul, Nat.mod_eq_of_lt (by omega)]

theorem or_bit (o : L64) (b m : Nat) (hb : b ≤ 1) (hm : m ≤ 63) {e : Int} (he : e = ((b * 2 ^ m : Nat) : Int)) : bits .or .u64 (o.toNat : Int) e = ((o ||| (BitVec.ofNat 64 b <<< m)).toNat : Int) := by
  rw [he, ← one_shl b m hb hm, or_val]

set_option maxRecDepth 10000 in
set_option maxHeartbeats 4000000 in
theorem mark_any (n : Nat) (hn : n < 24) (w : World) :
    Calls Try.prog 50 #[.int .i64 (n : Int)] w fun e w' => e = .returned (.int .u64 ((mark n).toNat : Int)) ∧ w = w' := by
  go_enter Try.func50, Try.ntmps50
  go_wp2
  go_loop [3, 4, 10] (fun r o i => ∃ k : Nat, k ≤ 7 * (n + 1) ∧ i = .int .i64 k ∧ r = .int .i64 (lf k) ∧ o = .int .u64 ((mkS n k).toNat : Int)) (fun _ _ i => 7 * (n + 1) - (intOf i).toNat)
  case atStart => exact ⟨0, Nat.zero_le _, rfl, rfl, rfl⟩
  case round =>
    obtain ⟨k, hk, rfl, rfl, rfl⟩ := hrel
    have hr := lf_lt k
    by_cases hlt : k < 7 * (n + 1)
    · have M := mkS_succ n k
      have L : lf (k + 1) = lf1 (lf k) := rfl
      have x1 := bit_one ⟨lf k, hr⟩
      have x2 := lf_xor ⟨lf k, hr⟩
      have x3 := @lf1_small (lf k)
      dsimp only at x1 x2
      unfold mk1 at M
      obtain ⟨r, hrr⟩ : ∃ r, lf k = r := ⟨_, rfl⟩
      obtain ⟨o, ho⟩ : ∃ o, mkS n k = o := ⟨_, rfl⟩
      rw [hrr] at hr M L x1 x2 x3 ⊢
      rw [ho] at M ⊢
      obtain ⟨b, hb⟩ : ∃ b, r % 2 = b := ⟨_, rfl⟩
      have hb1 : b ≤ 1 := by omega
      have hbi : (b : Int) ≤ 1 := by omega
      have hb0 : (0 : Int) ≤ (b : Int) := by omega
      rw [hb] at x1 M
      have r0 : (0 : Int) ≤ (r : Int) := by omega
      have r1 : (r : Int) ≤ 255 := by omega
      have hkl : (k : Int) < 7 * ((n : Int) + 1) := by omega
      have nn : (n : Int) ≤ 23 := by omega
      have kk : (k : Int) ≤ 200 := by omega
      clear hrr ho hb hr
      by_cases hbig : 256 ≤ 2 * r
      · have x2 := x2 hbig
        obtain ⟨r', hr'⟩ : ∃ r', lf1 r = r' := ⟨_, rfl⟩
        rw [hr'] at x2 L
        have LL := hid L
        have t1 : decide (256 ≤ (r : Int) * 2) = true := decide_eq_true (by omega)
        clear x3 hr' L
        by_cases h7 : 7 * n ≤ k
        · rw [if_pos h7] at M
          obtain ⟨j, hj⟩ : ∃ j, k - 7 * n = j := ⟨_, rfl⟩
          rw [hj] at M
          rcases (by omega : j = 0 ∨ j = 1 ∨ j = 2 ∨ j = 3 ∨ j = 4 ∨ j = 5 ∨ j = 6) with rfl | rfl | rfl | rfl | rfl | rfl | rfl
          · have hji : (k : Int) - 7 * (n : Int) = 0 := by omega
            have M := hid M
            have HH := hid hbig
            have X := hid (fun e he => or_bit o b 0 hb1 (by decide) (e := e) he)
            clear hj h7 hbig
            go_wp2
            go_round
            case rel => exact ⟨k + 1, by omega, by go_num, by rw [LL.out], by rw [M.out]; congr 1; exact X.out _ (by simp)⟩
            case measure => simp [intOf]; omega
          · have hji : (k : Int) - 7 * (n : Int) = 1 := by omega
            have M := hid M
            have HH := hid hbig
            have X := hid (fun e he => or_bit o b 1 hb1 (by decide) (e := e) he)
            clear hj h7 hbig
            go_wp2
            go_round
            case rel => exact ⟨k + 1, by omega, by go_num, by rw [LL.out], by rw [M.out]; congr 1; exact X.out _ (by simp)⟩
            case measure => simp [intOf]; omega
          · have hji : (k : Int) - 7 * (n : Int) = 2 := by omega
            have M := hid M
            have HH := hid hbig
            have X := hid (fun e he => or_bit o b 3 hb1 (by decide) (e := e) he)
            clear hj h7 hbig
            go_wp2
            go_round
            case rel => exact ⟨k + 1, by omega, by go_num, by rw [LL.out], by rw [M.out]; congr 1; exact X.out _ (by simp)⟩
            case measure => simp [intOf]; omega
          · have hji : (k : Int) - 7 * (n : Int) = 3 := by omega
            have M := hid M
            have HH := hid hbig
            have X := hid (fun e he => or_bit o b 7 hb1 (by decide) (e := e) he)
            clear hj h7 hbig
            go_wp2
            go_round
            case rel => exact ⟨k + 1, by omega, by go_num, by rw [LL.out], by rw [M.out]; congr 1; exact X.out _ (by simp)⟩
            case measure => simp [intOf]; omega
          · have hji : (k : Int) - 7 * (n : Int) = 4 := by omega
            have M := hid M
            have HH := hid hbig
            have X := hid (fun e he => or_bit o b 15 hb1 (by decide) (e := e) he)
            clear hj h7 hbig
            go_wp2
            go_round
            case rel => exact ⟨k + 1, by omega, by go_num, by rw [LL.out], by rw [M.out]; congr 1; exact X.out _ (by simp)⟩
            case measure => simp [intOf]; omega
          · have hji : (k : Int) - 7 * (n : Int) = 5 := by omega
            have M := hid M
            have HH := hid hbig
            have X := hid (fun e he => or_bit o b 31 hb1 (by decide) (e := e) he)
            clear hj h7 hbig
            go_wp2
            go_round
            case rel => exact ⟨k + 1, by omega, by go_num, by rw [LL.out], by rw [M.out]; congr 1; exact X.out _ (by simp)⟩
            case measure => simp [intOf]; omega
          · have hji : (k : Int) - 7 * (n : Int) = 6 := by omega
            have M := hid M
            have HH := hid hbig
            have X := hid (fun e he => or_bit o b 63 hb1 (by decide) (e := e) he)
            clear hj h7 hbig
            go_wp2
            go_round
            case rel => exact ⟨k + 1, by omega, by go_num, by rw [LL.out], by rw [M.out]; congr 1; exact X.out _ (by simp)⟩
            case measure => simp [intOf]; omega
        · rw [if_neg h7] at M
          have hji : (k : Int) - 7 * (n : Int) < 0 := by omega
          have M := hid M
          have HH := hid hbig
          clear h7 hbig
          go_wp2
          go_round
          case rel => exact ⟨k + 1, by omega, by go_num, by rw [LL.out], by rw [M.out]⟩
          case measure => simp [intOf]; omega
      · have x3 := x3 hbig
        rw [x3] at L
        have LL := hid L
        have t1 : decide (256 ≤ (r : Int) * 2) = false := decide_eq_false (by omega)
        clear x3 x2 L
        by_cases h7 : 7 * n ≤ k
        · rw [if_pos h7] at M
          obtain ⟨j, hj⟩ : ∃ j, k - 7 * n = j := ⟨_, rfl⟩
          rw [hj] at M
          rcases (by omega : j = 0 ∨ j = 1 ∨ j = 2 ∨ j = 3 ∨ j = 4 ∨ j = 5 ∨ j = 6) with rfl | rfl | rfl | rfl | rfl | rfl | rfl
          · have hji : (k : Int) - 7 * (n : Int) = 0 := by omega
            have M := hid M
            have HH := hid hbig
            have X := hid (fun e he => or_bit o b 0 hb1 (by decide) (e := e) he)
            clear hj h7 hbig
            go_wp2
            go_round
            case rel => exact ⟨k + 1, by omega, by go_num, by rw [LL.out]; (first | rfl | (congr 1; omega)), by rw [M.out]; congr 1; exact X.out _ (by simp)⟩
            case measure => simp [intOf]; omega
          · have hji : (k : Int) - 7 * (n : Int) = 1 := by omega
            have M := hid M
            have HH := hid hbig
            have X := hid (fun e he => or_bit o b 1 hb1 (by decide) (e := e) he)
            clear hj h7 hbig
            go_wp2
            go_round
            case rel => exact ⟨k + 1, by omega, by go_num, by rw [LL.out]; (first | rfl | (congr 1; omega)), by rw [M.out]; congr 1; exact X.out _ (by simp)⟩
            case measure => simp [intOf]; omega
          · have hji : (k : Int) - 7 * (n : Int) = 2 := by omega
            have M := hid M
            have HH := hid hbig
            have X := hid (fun e he => or_bit o b 3 hb1 (by decide) (e := e) he)
            clear hj h7 hbig
            go_wp2
            go_round
            case rel => exact ⟨k + 1, by omega, by go_num, by rw [LL.out]; (first | rfl | (congr 1; omega)), by rw [M.out]; congr 1; exact X.out _ (by simp)⟩
            case measure => simp [intOf]; omega
          · have hji : (k : Int) - 7 * (n : Int) = 3 := by omega
            have M := hid M
            have HH := hid hbig
            have X := hid (fun e he => or_bit o b 7 hb1 (by decide) (e := e) he)
            clear hj h7 hbig
            go_wp2
            go_round
            case rel => exact ⟨k + 1, by omega, by go_num, by rw [LL.out]; (first | rfl | (congr 1; omega)), by rw [M.out]; congr 1; exact X.out _ (by simp)⟩
            case measure => simp [intOf]; omega
          · have hji : (k : Int) - 7 * (n : Int) = 4 := by omega
            have M := hid M
            have HH := hid hbig
            have X := hid (fun e he => or_bit o b 15 hb1 (by decide) (e := e) he)
            clear hj h7 hbig
            go_wp2
            go_round
            case rel => exact ⟨k + 1, by omega, by go_num, by rw [LL.out]; (first | rfl | (congr 1; omega)), by rw [M.out]; congr 1; exact X.out _ (by simp)⟩
            case measure => simp [intOf]; omega
          · have hji : (k : Int) - 7 * (n : Int) = 5 := by omega
            have M := hid M
            have HH := hid hbig
            have X := hid (fun e he => or_bit o b 31 hb1 (by decide) (e := e) he)
            clear hj h7 hbig
            go_wp2
            go_round
            case rel => exact ⟨k + 1, by omega, by go_num, by rw [LL.out]; (first | rfl | (congr 1; omega)), by rw [M.out]; congr 1; exact X.out _ (by simp)⟩
            case measure => simp [intOf]; omega
          · have hji : (k : Int) - 7 * (n : Int) = 6 := by omega
            have M := hid M
            have HH := hid hbig
            have X := hid (fun e he => or_bit o b 63 hb1 (by decide) (e := e) he)
            clear hj h7 hbig
            go_wp2
            go_round
            case rel => exact ⟨k + 1, by omega, by go_num, by rw [LL.out]; (first | rfl | (congr 1; omega)), by rw [M.out]; congr 1; exact X.out _ (by simp)⟩
            case measure => simp [intOf]; omega
        · rw [if_neg h7] at M
          have hji : (k : Int) - 7 * (n : Int) < 0 := by omega
          have M := hid M
          have HH := hid hbig
          clear h7 hbig
          go_wp2
          go_round
          case rel => exact ⟨k + 1, by omega, by go_num, by rw [LL.out]; (first | rfl | (congr 1; omega)), by rw [M.out]⟩
          case measure => simp [intOf]; omega
    · have hk2 : k = 7 * (n + 1) := by omega
      have HE : mark n = mkS n k := by rw [hk2]; rfl
      have HE := hid HE
      have hkl : ¬ (k : Int) < 7 * ((n : Int) + 1) := by omega
      clear hk2
      go_wp2
      go_ret
      first | exact ⟨rfl, rfl⟩ | exact ⟨by rw [HE.out]; rfl, rfl⟩

theorem boxes2 (w : World) (A B : List L64) (a b : Nat) :
    RowL ((w.alloc (.cells (stv A).toArray a)).alloc (.cells (stv B).toArray b)) w.heap.size a A ∧
    RowL ((w.alloc (.cells (stv A).toArray a)).alloc (.cells (stv B).toArray b)) (w.heap.size + 1) b B ∧
    Keep (fun _ => False) w ((w.alloc (.cells (stv A).toArray a)).alloc (.cells (stv B).toArray b)) := by
  have e1 : RowL (w.alloc (.cells (stv A).toArray a)) w.heap.size a A := heap_alloc_new w _
  have e2 : RowL ((w.alloc (.cells (stv A).toArray a)).alloc (.cells (stv B).toArray b)) (w.heap.size + 1) b B := by
    have := heap_alloc_new (w.alloc (.cells (stv A).toArray a)) (.cells (stv B).toArray b)
    rw [World.size_alloc] at this; exact this
  exact ⟨e1.keep ((Keep.refl (fun _ => False) _).alloc _) (fun h => h), e2, ((Keep.refl _ _).alloc _).alloc _⟩

set_option maxRecDepth 10000 in
set_option maxHeartbeats 2000000 in
theorem round_out (s : List L64) (hs : s.length = 25) (n : Int) (hn : n < 0 ∨ 24 ≤ n) (w : World) :
    Calls Try.prog 36 #[.agg (stv s).toArray, .int .i64 n] w fun e w' => e = .returned (.agg (stv s).toArray) ∧ Keep (fun _ => False) w w' := by
  obtain ⟨q1, q2, kk⟩ := boxes2 w s z25 28 28
  have q1 := hid q1
  have q2 := hid q2
  have kk := hid kk
  rcases (by omega : n < 0 ∨ (¬ n < 0 ∧ 24 ≤ n)) with h | ⟨h, h'⟩
  all_goals
    go_enter Try.func36, Try.ntmps36
    go_wp2_with (first | ((with_reducible refine wpList_ld (.tmp 2) rfl rfl _ rfl s hs ?_ ?_); exact q1.out) | ((with_reducible refine wpList_st (.tmp 4) (.tmp 11) rfl rfl _ rfl s hs rfl z25 rfl ?_ ?_); exact q2.out))
    exact bodyPost_ret (res_cell (p := 4) (g := w.heap.size + 1) (s := s) rfl _ _ hs rfl q2.out.row) rfl ⟨rfl, kk.out.setRow (by omega) _⟩

set_option maxRecDepth 10000 in
set_option maxHeartbeats 2000000 in
theorem round_in (s : List L64) (hs : s.length = 25) (n : Nat) (hn : n < 24) (w : World) :
    Calls Try.prog 36 #[.agg (stv s).toArray, .int .i64 (n : Int)] w fun e w' => e = .returned (.agg (stv (rnd s n)).toArray) ∧ Keep (fun _ => False) w w' := by
  obtain ⟨q1, q2, kk⟩ := boxes2 w s z25 28 28
  have q1 := hid q1
  have q2 := hid q2
  have kk := hid kk
  have h0 : (0 : Int) ≤ n := by omega
  have h1 : (n : Int) < 24 := by omega
  go_enter Try.func36, Try.ntmps36
  go_wp2_with ((with_reducible refine wpList_ld (.tmp 2) rfl rfl _ rfl s hs ?_ ?_); exact q1.out)
  refine (theta_any s hs _).mono ?_
  rintro _ W1 ⟨rfl, K1⟩
  have q1' := hid (q1.out.keep K1 (fun h => h))
  have q2' := hid (q2.out.keep K1 (fun h => h))
  have kk' := hid (kk.out.trans K1)
  clear K1 q1 q2 kk
  go_wp2_with fail
  refine (move_any (theta s) (by rw [theta_len, hs]) W1).mono ?_
  rintro _ W2 ⟨rfl, K2⟩
  have q1 := hid (q1'.out.keep K2 (fun h => h))
  have q2 := hid (q2'.out.keep K2 (fun h => h))
  have kk := hid (kk'.out.trans K2)
  clear K2 q1' q2' kk'
  go_wp2_with fail
  refine (chi_any (move (theta s)) (move_len _) W2).mono ?_
  rintro _ W3 ⟨rfl, K3⟩
  have q1' := hid (q1.out.keep K3 (fun h => h))
  have q2' := hid (q2.out.keep K3 (fun h => h))
  have kk' := hid (kk.out.trans K3)
  clear K3 q1 q2 kk
  have hul : (chi (move (theta s))).length = 25 := core_len s
  have HC : Is (core s) (chi (move (theta s))) := ⟨rfl⟩
  obtain ⟨u, hu⟩ : ∃ u, chi (move (theta s)) = u := ⟨_, rfl⟩
  rw [hu] at hul HC ⊢
  clear hu
  have q1 := hid (q1'.out.row (s' := u))
  have q2 := hid (q2'.out.otherRow w.heap.size (stv u).toArray (by omega))
  have kk := hid (kk'.out.setRow (g := w.heap.size) (by omega) (stv u).toArray)
  go_wp2_with ((with_reducible refine wpList_st (.tmp 2) (.tmp 15) rfl rfl _ rfl u hul rfl s hs ?_ ?_); exact q1'.out)
  obtain ⟨W4, hW⟩ : ∃ W4, W3.setRow w.heap.size (stv u).toArray = W4 := ⟨_, rfl⟩
  rw [hW] at q1 q2 kk ⊢
  clear hW q1' q2' kk'
  have c1 := q1.out.cell 0 (by omega)
  have f1 := q1.out.fro 0
  have X1 := hid (xor_val (gl u 0) (mark n))
  refine wp_region_text [0,0,0,2,0,0,3] (fun W => W.cell? ⟨w.heap.size, 0, none⟩ = some (.int .u64 ((gl u 0).toNat : Int))) (by kernel_rfl) (by kernel_rfl) c1 ?_
  repeat (first
    | (refine' wpT_calm (v := _) (by rfl) (fun W hW => ?_) ?_; rotate_left
       · ((try dsimp only at hW); go_simp; first | done | rfl)
       simp only [Act.put, List.setIfInBounds_toArray, List.set_cons_zero, List.set_cons_succ])
    | (refine' wpT_reads (v := _) (by rfl) ?_ ?_; rotate_left
       · (go_simp; first | done | rfl)
       simp only [Act.put, List.setIfInBounds_toArray, List.set_cons_zero, List.set_cons_succ])
    | (refine wpT_skip (by rfl) rfl ?_; simp only [Act.put, List.setIfInBounds_toArray, List.set_cons_zero, List.set_cons_succ])
    | (refine wpT_does (by rfl) (fun K hK => ?_); go_simp; refine hK _ _ ?_ ?_
       · (trivial)
       clear hK K; try simp only [Act.put, List.setIfInBounds_toArray, List.set_cons_zero, List.set_cons_succ])
    | (refine wpT_last (by rfl) (fun K hK => ?_); go_simp; refine hK _ _ ?_; clear hK K)
    | (refine wpT_nil ?_))
  refine wpT_does (by rfl) (fun K hK => ?_)
  go_simp
  refine (mark_any n hn _).mono ?_
  rintro _ _ ⟨rfl, rfl⟩
  refine hK _ _ c1 ?_
  clear hK K
  try simp only [Act.put, List.setIfInBounds_toArray, List.set_cons_zero, List.set_cons_succ]
  repeat (first
    | (refine' wpT_calm (v := _) (by rfl) (fun W hW => ?_) ?_; rotate_left
       · ((try dsimp only at hW); go_simp; first | done | rfl)
       simp only [Act.put, List.setIfInBounds_toArray, List.set_cons_zero, List.set_cons_succ])
    | (refine' wpT_reads (v := _) (by rfl) ?_ ?_; rotate_left
       · (go_simp; first | done | rfl)
       simp only [Act.put, List.setIfInBounds_toArray, List.set_cons_zero, List.set_cons_succ])
    | (refine wpT_skip (by rfl) rfl ?_; simp only [Act.put, List.setIfInBounds_toArray, List.set_cons_zero, List.set_cons_succ])
    | (refine wpT_does (by rfl) (fun K hK => ?_); go_simp; refine hK _ _ ?_ ?_
       · (trivial)
       clear hK K; try simp only [Act.put, List.setIfInBounds_toArray, List.set_cons_zero, List.set_cons_succ])
    | (refine wpT_last (by rfl) (fun K hK => ?_); go_simp; refine hK _ _ ?_; clear hK K)
    | (refine wpT_nil ?_))
  have q5 := RowL.set (w := W4.drew) q1.out 0 (gl u 0 ^^^ mark n)
  have q6 := RowL.other (w := W4.drew) q2.out ⟨w.heap.size, 0, none⟩ (.int .u64 ((gl u 0 ^^^ mark n).toNat : Int)) (by dsimp only; omega)
  have k7 := kk.out.drew.setCell (p := ⟨w.heap.size, 0, none⟩) (.inr (by dsimp only; omega)) (.int .u64 ((gl u 0 ^^^ mark n).toNat : Int))
  rw [← X1.out] at q5 q6 k7
  have hvl : (u.set 0 (gl u 0 ^^^ mark n)).length = 25 := by rw [List.length_set, hul]
  have HR : Is (rnd s n) (u.set 0 (gl u 0 ^^^ mark n)) := ⟨by unfold rnd; rw [HC.eq]⟩
  have q5 := hid q5
  have q6 := hid q6
  have k7 := hid k7
  obtain ⟨v, hv⟩ : ∃ v, u.set 0 (gl u 0 ^^^ mark n) = v := ⟨_, rfl⟩
  rw [hv] at q5 hvl HR
  clear hv X1 c1 f1 q1 q2 kk HC
  go_wp2_with (first | ((with_reducible refine wpList_ld (.tmp 2) rfl rfl _ rfl v hvl ?_ ?_); exact q5.out) | ((with_reducible refine wpList_st (.tmp 4) (.tmp 22) rfl rfl _ rfl v hvl rfl z25 rfl ?_ ?_); exact q6.out))
  refine bodyPost_ret (res_cell (p := 4) (g := w.heap.size + 1) (s := v) rfl _ _ hvl rfl q6.out.row) rfl ⟨?_, k7.out.setRow (by omega) _⟩
  rw [HR.eq]

end Go.Proofs.Ytpijnpapmdnceaa
