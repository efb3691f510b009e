/- The walk of keccak.move. -/
import Derived.Test.YtpijnpapmdnceaaKecF
namespace Go.Proofs.Ytpijnpapmdnceaa
open Go Go.RowKit

theorem mvS_len' (s : List L64) (k : Nat) : (mvS s k).o.length = 25 := mvS_len s k

set_option maxRecDepth 10000 in
set_option maxHeartbeats 2000000 in
theorem move_any (s : List L64) (hs : s.length = 25) (w : World) :
    Calls Try.prog 48 #[.agg (stv s).toArray] w fun e w' => e = .returned (.agg (stv (move s)).toArray) ∧ Keep (fun _ => False) w w' := by
  have r1 : RowL (w.alloc (.cells (stv s).toArray 28)) w.heap.size 28 s := heap_alloc_new w _
  have cc := stv_get s 0 (by omega)
  have cc2 : (stv s).toArray[0]? = some (.int .u64 ((gl s 0).toNat : Int)) := by rw [List.getElem?_toArray]; exact cc
  obtain ⟨q1, q2, q3, kk⟩ := boxes3 w s z25 z25 28 28 28
  obtain ⟨u, hu⟩ : ∃ u, z25.set 0 (gl s 0) = u := ⟨_, rfl⟩
  have hul : u.length = 25 := by rw [← hu]; simp [z25]
  have Q1 := hid (RowL.row (s' := u) q3)
  have Q2 := hid (q2.otherRow (w.heap.size + 1 + 1) (stv u).toArray (by omega))
  have Q3 := hid (q1.otherRow (w.heap.size + 1 + 1) (stv u).toArray (by omega))
  have kk := hid (kk.setRow (g := w.heap.size + 1 + 1) (by omega) (stv u).toArray)
  have q3 := hid q3
  have HU : Is (mvS s 0).o u := ⟨hu⟩
  clear q1 q2 r1 hu
  go_enter Try.func48, Try.ntmps48
  go_wp2_with ((with_reducible refine wpList_st (.tmp 3) (.tmp 11) rfl rfl _ rfl u hul ?_ z25 rfl ?_ ?_); (case refine_1 => rw [← HU.eq]; rfl); exact q3.out)
  have HU2 : Is z25 z25 := ⟨rfl⟩
  clear q3 cc cc2
  go_loopw [4, 5, 12] (fun x y i wr => ∃ k : Nat, k ≤ 24 ∧ i = .int .i64 k ∧ x = .int .i64 (mvS s k).x ∧ y = .int .i64 (mvS s k).y ∧ RowL wr w.heap.size 28 s ∧ RowL wr (w.heap.size + 1) 28 z25 ∧ RowL wr (w.heap.size + 1 + 1) 28 (mvS s k).o ∧ Keep (fun _ => False) w wr) (fun _ _ i _ => 24 - (intOf i).toNat)
  case atStart => exact ⟨0, Nat.zero_le _, rfl, rfl, rfl, Q3.out, Q2.out, by rw [HU.eq]; exact Q1.out, kk.out⟩
  case round =>
    obtain ⟨k, hk, rfl, rfl, rfl, h1, h2, h3, hK⟩ := hrel
    clear Q1 Q2 Q3 kk HU HU2
    have H1 := hid h1
    have H2 := hid h2
    have H3 := hid h3
    have HK := hid hK
    obtain ⟨hx5, hy5⟩ := mvS_pos s k
    have hol := mvS_len' s k
    have TS := mvS_succ s k
    unfold mv1 at TS
    by_cases hlt : k < 24
    · obtain ⟨x, hx⟩ : ∃ x, (mvS s k).x = x := ⟨_, rfl⟩
      obtain ⟨y, hy⟩ : ∃ y, (mvS s k).y = y := ⟨_, rfl⟩
      obtain ⟨z, hz⟩ : ∃ z, (2 * x + 3 * y) % 5 = z := ⟨_, rfl⟩
      obtain ⟨p, hp⟩ : ∃ p, y + 5 * z = p := ⟨_, rfl⟩
      obtain ⟨q, hq⟩ : ∃ q, x + 5 * y = q := ⟨_, rfl⟩
      obtain ⟨n, hn⟩ : ∃ n, (k + 1) * (k + 2) / 2 % 64 = n := ⟨_, rfl⟩
      rw [hx, hy] at TS ⊢
      rw [hx] at hx5
      rw [hy] at hy5
      rw [hz, hp, hq, hn] at TS
      have z5 : z < 5 := by omega
      have n64 : n < 64 := by omega
      have hnn : ((k : Int) + 1) * ((k : Int) + 2) / 2 % 64 = (n : Int) := by rw [← hn]; norm_cast
      have m1 : (k + 1) * (k + 2) ≤ 25 * 26 := Nat.mul_le_mul (by omega) (by omega)
      have m2 : ((k : Int) + 1) * ((k : Int) + 2) ≤ 650 := by exact_mod_cast m1
      have m3 : 0 ≤ ((k : Int) + 1) * ((k : Int) + 2) := by exact_mod_cast Nat.zero_le ((k + 1) * (k + 2))
      have hzz : (2 * (x : Int) + 3 * (y : Int)) % 5 = (z : Int) := by omega
      have p5 : (p : Int) < 25 := by omega
      have q5 : (q : Int) < 25 := by omega
      have p0 : (0 : Int) ≤ p := by omega
      have q0 : (0 : Int) ≤ q := by omega
      have k25 : (k : Int) < 24 := by omega
      have k0 : (0 : Int) ≤ k := by omega
      have x0 : (0 : Int) ≤ x := by omega
      have x5 : (x : Int) < 5 := by omega
      have y0 : (0 : Int) ≤ y := by omega
      have y5 : (y : Int) < 5 := by omega
      have z0 : (0 : Int) ≤ z := by omega
      have z5' : (z : Int) < 5 := by omega
      have c2 := h1.cell q (by omega)
      have c3 := h3.cell p (by omega)
      have f3 := h3.fro p
      have A1 := hid (by rw [Int.emod_eq_of_lt y0 y5, Int.emod_eq_of_lt z0 z5', ← hp]; simp : (y : Int) % 5 + 5 * ((z : Int) % 5) = (p : Int))
      have A2 := hid (by rw [Int.emod_eq_of_lt x0 x5, Int.emod_eq_of_lt y0 y5, ← hq]; simp : (x : Int) % 5 + 5 * ((y : Int) % 5) = (q : Int))
      have TS := hid TS
      have N := hid hnn
      clear h1 h2 h3 hK hx hy hx5 hy5 hp hq hz hol hn m1
      go_wp2_with fail
      refine (at_eq (by omega) (by omega) (by omega) (by omega) A1.out _).mono ?_
      rintro _ _ ⟨rfl, rfl⟩
      go_wp2_with fail
      refine (at_eq (by omega) (by omega) (by omega) (by omega) A2.out _).mono ?_
      rintro _ _ ⟨rfl, rfl⟩
      go_wp2_with fail
      refine (rot_any _ n n64 _).mono ?_
      rintro _ _ ⟨rfl, rfl⟩
      go_wp2
      go_roundw
      case rel => exact ⟨k + 1, by omega, by go_num, by rw [TS.out], by rw [TS.out], H1.out.other _ _ (by dsimp only; omega), H2.out.other _ _ (by dsimp only; omega), by rw [TS.out]; exact H3.out.set _ _, HK.out.setCell (.inr (by dsimp only; omega)) _⟩
      case measure => simp [intOf]; omega
    · have hk24 : k = 24 := by omega
      have HE : Is (move s) (mvS s k).o := ⟨by rw [hk24]; rfl⟩
      obtain ⟨x, hx⟩ : ∃ x, (mvS s k).x = x := ⟨_, rfl⟩
      obtain ⟨y, hy⟩ : ∃ y, (mvS s k).y = y := ⟨_, rfl⟩
      obtain ⟨u, hu⟩ : ∃ u, (mvS s k).o = u := ⟨_, rfl⟩
      rw [hx, hy]
      rw [hu] at H3 hol HE
      clear h1 h2 h3 hK hk hu TS hx5 hy5 hx hy hk24
      go_wp2_with (first | (with_reducible refine wpList_ld (.tmp 3) rfl rfl _ rfl u hol H3.out ?_) | (with_reducible refine wpList_st (.tmp 2) (.tmp 42) rfl rfl _ rfl u hol rfl z25 rfl H2.out ?_))
      refine bodyPost_ret (res_cell (p := 2) (g := w.heap.size + 1) (s := u) rfl _ _ hol rfl H2.out.row) rfl ⟨?_, HK.out.setRow (by omega) _⟩
      rw [HE.eq]
end Go.Proofs.Ytpijnpapmdnceaa
