/- The products of chapter 27. -/
import Derived.Test.YthnocalnlonniaaTckD
import Derived.Shelf.Bits.Mul64
namespace Go.Proofs.Ythnocalnlonniaa
open Go Go.RowKit Go.Proofs

set_option maxHeartbeats 1000000 in
theorem mul64_any (x y : Nat) (hx : x < 18446744073709551616) (hy : y < 18446744073709551616) (w : World) :
    Calls Try.prog 38 #[.int .u64 x, .int .u64 y] w fun e w' => e = .returned (.tuple #[.int .u64 ((x * y / 18446744073709551616 : Nat) : Int), .int .u64 ((x * y % 18446744073709551616 : Nat) : Int)]) ∧ w = w' := by
  obtain ⟨bd, bt, bw, hhi⟩ := Lib.mul64_hi x y hx hy
  have ba := Lib.half_mul_le (a := x / 4294967296) (b := y / 4294967296) (by omega) (by omega)
  have bb := Lib.half_mul_le (a := x / 4294967296) (b := y % 4294967296) (by omega) (by omega)
  have bc := Lib.half_mul_le (a := x % 4294967296) (b := y / 4294967296) (by omega) (by omega)
  have ba' : x / 4294967296 * (y / 4294967296) < 18446744073709551616 := by omega
  have bb' : x / 4294967296 * (y % 4294967296) < 18446744073709551616 := by omega
  have bc' : x % 4294967296 * (y / 4294967296) < 18446744073709551616 := by omega
  have bh1 : x / 4294967296 * (y / 4294967296) + (x / 4294967296 * (y % 4294967296) + x % 4294967296 * (y % 4294967296) / 4294967296) / 4294967296 < 18446744073709551616 := by omega
  have bh : x / 4294967296 * (y / 4294967296) + (x / 4294967296 * (y % 4294967296) + x % 4294967296 * (y % 4294967296) / 4294967296) / 4294967296 + ((x / 4294967296 * (y % 4294967296) + x % 4294967296 * (y % 4294967296) / 4294967296) % 4294967296 + x % 4294967296 * (y / 4294967296)) / 4294967296 < 18446744073709551616 := by omega
  go_enter Try.func38, Try.ntmps38
  go_wp2
  simp only [Mul64.maskN x hx, Mul64.maskN y hy, Mul64.divN, Mul64.mulN, Mul64.addN, Mul64.wrapN _ bd, Mul64.wrapN _ bb', Mul64.wrapN _ bt, Mul64.maskN _ bt, Mul64.wrapN _ bc', Mul64.wrapN _ bw, Mul64.wrapN _ ba', Mul64.wrapN _ bh1, Mul64.wrapN _ bh, Mul64.wrapM (x * y)]
  rw [hhi]
  go_ret2
  exact ⟨rfl, rfl⟩

/-- A product, but no more than may be. -/
def prodOf (a b : Int) : Int := if a ≤ 0 ∨ b ≤ 0 then 0 else if a * b > 4611686018427387904 then 4611686018427387904 else a * b

theorem prodOf_bd (a b : Int) : 0 ≤ prodOf a b ∧ prodOf a b ≤ 4611686018427387904 := by
  unfold prodOf
  split
  · omega
  rename_i h
  have h1 : 0 < a := by omega
  have h2 : 0 < b := by omega
  have := Int.mul_pos h1 h2
  split <;> omega

theorem prodOf_mono {a b c d : Int} (h1 : a ≤ c) (h2 : b ≤ d) : prodOf a b ≤ prodOf c d := by
  have hc := prodOf_bd c d
  by_cases h : a ≤ 0 ∨ b ≤ 0
  · have : prodOf a b = 0 := by unfold prodOf; rw [if_pos h]
    omega
  have hm : a * b ≤ c * d := Int.mul_le_mul h1 h2 (by omega) (by omega)
  unfold prodOf
  rw [if_neg h, if_neg (show ¬ (c ≤ 0 ∨ d ≤ 0) by omega)]
  split <;> split <;> omega

theorem prod_nat (a b : Int) (X Y : Nat) (hX : max a 0 = (X : Int)) (hY : max b 0 = (Y : Int)) : prodOf a b = if X * Y > 4611686018427387904 then 4611686018427387904 else ((X * Y : Nat) : Int) := by
  unfold prodOf
  by_cases h : a ≤ 0 ∨ b ≤ 0
  · rw [if_pos h]
    have : X * Y = 0 := by
      rcases h with h | h
      · have : X = 0 := by omega
        rw [this, Nat.zero_mul]
      · have : Y = 0 := by omega
        rw [this, Nat.mul_zero]
    rw [this]; rfl
  · rw [if_neg h]
    have ha : a = (X : Int) := by omega
    have hb : b = (Y : Int) := by omega
    have e : a * b = ((X * Y : Nat) : Int) := by rw [ha, hb, Int.natCast_mul]
    rw [e]
    split <;> split <;> omega

set_option maxHeartbeats 1000000 in
theorem ftimes_any (a b : Int) (ha : (Lit.int .i64 a).wf = true) (hb : (Lit.int .i64 b).wf = true) (w : World) :
    Calls Try.prog 35 #[.int .i64 a, .int .i64 b] w fun e w' => e = .returned (.int .i64 (prodOf a b)) ∧ w = w' := by
  simp only [Lit.wf, Bool.and_eq_true, decide_eq_true_eq] at ha hb
  obtain ⟨X, hX⟩ : ∃ X : Nat, max a 0 = (X : Int) := ⟨(max a 0).toNat, by omega⟩
  obtain ⟨Y, hY⟩ : ∃ Y : Nat, max b 0 = (Y : Int) := ⟨(max b 0).toNat, by omega⟩
  have hX1 : X < 18446744073709551616 := by have := Int.le_trans ha.2 (show IntKind.i64.max ≤ 9223372036854775807 by decide); omega
  have hY1 : Y < 18446744073709551616 := by have := Int.le_trans hb.2 (show IntKind.i64.max ≤ 9223372036854775807 by decide); omega
  have PN := hid (prod_nat a b X Y hX hY)
  have M := hid (fun w => mul64_any X Y hX1 hY1 w)
  obtain ⟨p, hp⟩ : ∃ p : Nat, X * Y = p := ⟨_, rfl⟩
  rw [hp] at M PN
  clear ha hb hp
  obtain ⟨H, hH⟩ : ∃ H : Nat, p / 18446744073709551616 = H := ⟨_, rfl⟩
  obtain ⟨L, hL⟩ : ∃ L : Nat, p % 18446744073709551616 = L := ⟨_, rfl⟩
  rw [hH, hL] at M
  have cs : (0 < H ∧ p > 4611686018427387904) ∨ (H = 0 ∧ L > 4611686018427387904 ∧ p > 4611686018427387904) ∨ (H = 0 ∧ L ≤ 4611686018427387904 ∧ ¬ p > 4611686018427387904 ∧ L = p) := by omega
  clear hH hL
  rcases (by omega : (a < 0 ∧ X = 0) ∨ (0 ≤ a ∧ a = (X : Int))) with ⟨h1, rfl⟩ | ⟨h1, rfl⟩ <;> rcases (by omega : (b < 0 ∧ Y = 0) ∨ (0 ≤ b ∧ b = (Y : Int))) with ⟨h2, rfl⟩ | ⟨h2, rfl⟩
  all_goals
    clear hX hY
    go_enter Try.func35, Try.ntmps35
    go_wp2_with fail
    refine (M.out _).mono ?_
    rintro _ _ ⟨rfl, rfl⟩
    rcases cs with ⟨c1, c2⟩ | ⟨rfl, c1, c2⟩ | ⟨rfl, c1, c2, rfl⟩
    · have c1' : (0 : Int) < (H : Int) := by omega
      have e := hid (PN.out.trans (if_pos c2))
      go_wp2
      go_ret
      exact ⟨by rw [e.out]; rfl, rfl⟩
    · have c1' : (4611686018427387904 : Int) < (L : Int) := by omega
      have e := hid (PN.out.trans (if_pos c2))
      go_wp2
      go_ret
      exact ⟨by rw [e.out]; rfl, rfl⟩
    · have c1' : ¬ ((4611686018427387904 : Int) < (L : Int)) := by omega
      have e := hid (PN.out.trans (if_neg c2))
      have w1 : IntKind.i64.wrap (L : Int) = L := IntWalk.i64_in _ ⟨by omega, by omega⟩
      go_wp2
      go_ret
      exact ⟨by rw [e.out]; rfl, rfl⟩
end Go.Proofs.Ythnocalnlonniaa
