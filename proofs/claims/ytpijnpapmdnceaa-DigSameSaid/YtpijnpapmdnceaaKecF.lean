/- The walks of keccak.chi, keccak.move. -/
import Derived.Test.YtpijnpapmdnceaaKecE
namespace Go.Proofs.Ytpijnpapmdnceaa
open Go Go.RowKit

theorem at_eq {x y r : Int} (hx : 0 ≤ x) (hx1 : x ≤ 100) (hy : 0 ≤ y) (hy1 : y ≤ 100) (hr : x % 5 + 5 * (y % 5) = r) (w : World) :
    Calls Try.prog 55 #[.int .i64 x, .int .i64 y] w fun e w' => e = .returned (.int .i64 r) ∧ w = w' := by
  have h := at_any x.toNat y.toNat w (by omega) (by omega)
  rw [Int.toNat_of_nonneg hx, Int.toNat_of_nonneg hy] at h
  refine h.mono ?_
  rintro e w' ⟨rfl, rfl⟩
  exact ⟨by congr 2; omega, rfl⟩

theorem rot_eq {m : Int} (a : L64) (n : Nat) (hm : m = (n : Int)) (hn : n < 64) (w : World) :
    Calls Try.prog 56 #[.int .u64 (a.toNat : Int), .int .i64 m] w fun e w' => e = .returned (.int .u64 ((rot a n).toNat : Int)) ∧ w = w' := by
  subst hm; exact rot_any a n hn w

theorem chS_succ (s : List L64) (k : Nat) : chS s (k + 1) = (chS s k).set k (gl (chS s k) k ^^^ (gl s ((k % 5 + 2) % 5 + 5 * (k / 5)) &&& ~~~ (gl s ((k % 5 + 1) % 5 + 5 * (k / 5))))) := by
  unfold chS; rw [List.range_succ, List.foldl_append, List.foldl_cons, List.foldl_nil]; rfl

set_option maxRecDepth 10000 in
set_option maxHeartbeats 2000000 in
theorem chi_any (s : List L64) (hs : s.length = 25) (w : World) :
    Calls Try.prog 47 #[.agg (stv s).toArray] w fun e w' => e = .returned (.agg (stv (chi s)).toArray) ∧ Keep (fun _ => False) w w' := by
  have r1 : RowL (w.alloc (.cells (stv s).toArray 28)) w.heap.size 28 s := heap_alloc_new w _
  obtain ⟨q1, q2, q3, kk⟩ := boxes3 w s z25 z25 28 28 28
  have Q1 := hid (RowL.row (s' := s) q3)
  have Q2 := hid (q2.otherRow (w.heap.size + 1 + 1) (stv s).toArray (by omega))
  have Q3 := hid (q1.otherRow (w.heap.size + 1 + 1) (stv s).toArray (by omega))
  have kk := hid (kk.setRow (g := w.heap.size + 1 + 1) (by omega) (stv s).toArray)
  have q3 := hid q3
  clear q1 q2
  go_enter Try.func47, Try.ntmps47
  go_wp2_with (first | (with_reducible refine wpList_ld (.tmp 1) rfl rfl _ rfl s hs (RowL.keep r1 ((Keep.refl (fun _ => False) _).alloc _) (fun h => h)) ?_) | ((with_reducible refine wpList_st (.tmp 3) (.tmp 7) rfl rfl _ rfl s hs rfl z25 rfl ?_ ?_); exact q3.out))
  clear r1 q3
  go_loopw [8] (fun i wr => ∃ k : Nat, k ≤ 25 ∧ i = .int .i64 k ∧ RowL wr w.heap.size 28 s ∧ RowL wr (w.heap.size + 1) 28 z25 ∧ RowL wr (w.heap.size + 1 + 1) 28 (chS s k) ∧ Keep (fun _ => False) w wr) (fun i _ => 25 - (intOf i).toNat)
  case atStart => exact ⟨0, Nat.zero_le _, rfl, Q3.out, Q2.out, Q1.out, kk.out⟩
  case round =>
    obtain ⟨k, hk, rfl, h1, h2, h3, hK⟩ := hrel
    clear Q1 Q2 Q3 kk
    have H1 := hid h1
    have H2 := hid h2
    have H3 := hid h3
    have HK := hid hK
    by_cases hlt : k < 25
    · obtain ⟨x, hx⟩ : ∃ x, k % 5 = x := ⟨_, rfl⟩
      obtain ⟨y, hy⟩ : ∃ y, k / 5 = y := ⟨_, rfl⟩
      have hx5 : x < 5 := by omega
      have hy5 : y < 5 := by omega
      have hki : (k : Int) % 5 = (x : Int) := by omega
      have hkd : (k : Int) / 5 = (y : Int) := by omega
      obtain ⟨p, hp⟩ : ∃ p, (x + 2) % 5 + 5 * y = p := ⟨_, rfl⟩
      obtain ⟨q, hq⟩ : ∃ q, (x + 1) % 5 + 5 * y = q := ⟨_, rfl⟩
      have p5 : (p : Int) < 25 := by omega
      have q5 : (q : Int) < 25 := by omega
      have p0 : (0 : Int) ≤ p := by omega
      have q0 : (0 : Int) ≤ q := by omega
      have k25 : (k : Int) < 25 := by omega
      have k0 : (0 : Int) ≤ k := by omega
      have x0 : (0 : Int) ≤ x := by omega
      have x5 : (x : Int) < 5 := by omega
      have y0 : (0 : Int) ≤ y := by omega
      have y5 : (y : Int) < 5 := by omega
      have e1 : IntKind.i64.wrap ((x : Int) + 2) = (x : Int) + 2 := wrap64_in _ (by omega) (by omega)
      have e2 : IntKind.i64.wrap ((x : Int) + 1) = (x : Int) + 1 := wrap64_in _ (by omega) (by omega)
      have TS := chS_succ s k
      rw [hx, hy, hp, hq] at TS
      have c1 := h3.cell k (by rw [chS_len]; omega)
      have f1 := h3.fro k
      have c2 := h1.cell p (by omega)
      have c3 := h1.cell q (by omega)
      have X1 := hid (andNot_val (gl s p) (gl s q))
      have X2 := hid (xor_val (gl (chS s k) k) (gl s p &&& ~~~ (gl s q)))
      have A1 := hid (by omega : ((x : Int) + 2) % 5 + 5 * ((y : Int) % 5) = (p : Int))
      have A2 := hid (by omega : ((x : Int) + 1) % 5 + 5 * ((y : Int) % 5) = (q : Int))
      have TS := hid TS
      clear h1 h2 h3 hK hx hy hx5 hy5 hp hq
      go_wp2_with fail
      try rw [hki]
      try rw [hkd]
      refine wp_region_text [0,0,0,0,0,0,2,0,0,0,0,0,2,0,0,0,0,0,3] (fun W => W.cell? ⟨w.heap.size + 1 + 1, k, none⟩ = some (.int .u64 ((gl (chS s k) k).toNat : Int)) ∧ W.cell? ⟨w.heap.size, p, none⟩ = some (.int .u64 ((gl s p).toNat : Int)) ∧ W.cell? ⟨w.heap.size, q, none⟩ = some (.int .u64 ((gl s q).toNat : Int))) (by kernel_rfl) (by kernel_rfl) ⟨c1, c2, c3⟩ ?_
      repeat (first
        | (refine' wpT_calm (v := _) (by rfl) (fun W hW => ?_) ?_; rotate_left
           · ((try dsimp only at hW); go_simp; first | done | rfl)
           simp only [Act.put, List.setIfInBounds_toArray, List.set_cons_zero, List.set_cons_succ])
        | (refine' wpT_reads (v := _) (by rfl) ?_ ?_; rotate_left
           · (go_simp; first | done | rfl)
           simp only [Act.put, List.setIfInBounds_toArray, List.set_cons_zero, List.set_cons_succ])
        | (refine wpT_skip (by rfl) rfl ?_; simp only [Act.put, List.setIfInBounds_toArray, List.set_cons_zero, List.set_cons_succ])
        | (refine wpT_does (by rfl) (fun K hK => ?_); go_simp; refine hK _ _ ?_ ?_
           · (trivial)
           clear hK K; try simp only [Act.put, List.setIfInBounds_toArray, List.set_cons_zero, List.set_cons_succ])
        | (refine wpT_last (by rfl) (fun K hK => ?_); go_simp; refine hK _ _ ?_; clear hK K)
        | (refine wpT_nil ?_))
      refine wpT_does (by rfl) (fun K hK => ?_)
      go_simp
      refine (at_eq (by omega) (by omega) (by omega) (by omega) A1.out _).mono ?_
      rintro _ _ ⟨rfl, rfl⟩
      refine hK _ _ ⟨c1, c2, c3⟩ ?_
      clear hK K
      try simp only [Act.put, List.setIfInBounds_toArray, List.set_cons_zero, List.set_cons_succ]
      repeat (first
        | (refine' wpT_calm (v := _) (by rfl) (fun W hW => ?_) ?_; rotate_left
           · ((try dsimp only at hW); go_simp; first | done | rfl)
           simp only [Act.put, List.setIfInBounds_toArray, List.set_cons_zero, List.set_cons_succ])
        | (refine' wpT_reads (v := _) (by rfl) ?_ ?_; rotate_left
           · (go_simp; first | done | rfl)
           simp only [Act.put, List.setIfInBounds_toArray, List.set_cons_zero, List.set_cons_succ])
        | (refine wpT_skip (by rfl) rfl ?_; simp only [Act.put, List.setIfInBounds_toArray, List.set_cons_zero, List.set_cons_succ])
        | (refine wpT_does (by rfl) (fun K hK => ?_); go_simp; refine hK _ _ ?_ ?_
           · (trivial)
           clear hK K; try simp only [Act.put, List.setIfInBounds_toArray, List.set_cons_zero, List.set_cons_succ])
        | (refine wpT_last (by rfl) (fun K hK => ?_); go_simp; refine hK _ _ ?_; clear hK K)
        | (refine wpT_nil ?_))
      refine wpT_does (by rfl) (fun K hK => ?_)
      go_simp
      refine (at_eq (by omega) (by omega) (by omega) (by omega) A2.out _).mono ?_
      rintro _ _ ⟨rfl, rfl⟩
      refine hK _ _ ⟨c1, c2, c3⟩ ?_
      clear hK K
      try simp only [Act.put, List.setIfInBounds_toArray, List.set_cons_zero, List.set_cons_succ]
      repeat (first
        | (refine' wpT_calm (v := _) (by rfl) (fun W hW => ?_) ?_; rotate_left
           · ((try dsimp only at hW); go_simp; first | done | rfl)
           simp only [Act.put, List.setIfInBounds_toArray, List.set_cons_zero, List.set_cons_succ])
        | (refine' wpT_reads (v := _) (by rfl) ?_ ?_; rotate_left
           · (go_simp; first | done | rfl)
           simp only [Act.put, List.setIfInBounds_toArray, List.set_cons_zero, List.set_cons_succ])
        | (refine wpT_skip (by rfl) rfl ?_; simp only [Act.put, List.setIfInBounds_toArray, List.set_cons_zero, List.set_cons_succ])
        | (refine wpT_does (by rfl) (fun K hK => ?_); go_simp; refine hK _ _ ?_ ?_
           · (trivial)
           clear hK K; try simp only [Act.put, List.setIfInBounds_toArray, List.set_cons_zero, List.set_cons_succ])
        | (refine wpT_last (by rfl) (fun K hK => ?_); go_simp; refine hK _ _ ?_; clear hK K)
        | (refine wpT_nil ?_))
      go_wp2
      go_roundw
      case rel => exact ⟨k + 1, by omega, by go_num, RowL.other (w := wr.drew) H1.out _ _ (by dsimp only; omega), RowL.other (w := wr.drew) H2.out _ _ (by dsimp only; omega), by rw [TS.out, X1.out, X2.out]; exact RowL.set (w := wr.drew) H3.out _ _, HK.out.drew.setCell (.inr (by dsimp only; omega)) _⟩
      case measure => simp [intOf]; omega
    · obtain rfl : k = 25 := by omega
      clear h1 h2 h3 hK hk hlt
      have hl : (chS s 25).length = 25 := by rw [chS_len, hs]
      have HE : Is (chi s) (chS s 25) := ⟨rfl⟩
      obtain ⟨u, hu⟩ : ∃ u, chS s 25 = u := ⟨_, rfl⟩
      rw [hu] at H3 hl HE
      clear hu
      go_wp2_with (first | (with_reducible refine wpList_ld (.tmp 3) rfl rfl _ rfl u hl H3.out ?_) | (with_reducible refine wpList_st (.tmp 2) (.tmp 34) rfl rfl _ rfl u hl rfl z25 rfl H2.out ?_))
      refine bodyPost_ret (res_cell (p := 2) (g := w.heap.size + 1) (s := u) rfl _ _ hl rfl H2.out.row) rfl ⟨?_, HK.out.setRow (by omega) _⟩
      rw [HE.eq]

theorem mvS_succ (s : List L64) (k : Nat) : mvS s (k + 1) = mv1 s (mvS s k) k := by
  unfold mvS; rw [List.range_succ, List.foldl_append, List.foldl_cons, List.foldl_nil]
theorem mvS_pos (s : List L64) : ∀ k, (mvS s k).x < 5 ∧ (mvS s k).y < 5
  | 0 => ⟨by show 1 < 5; decide, by show 0 < 5; decide⟩
  | k + 1 => by
    have := mvS_pos s k
    rw [mvS_succ]
    exact ⟨this.2, Nat.mod_lt _ (by decide)⟩

end Go.Proofs.Ytpijnpapmdnceaa
