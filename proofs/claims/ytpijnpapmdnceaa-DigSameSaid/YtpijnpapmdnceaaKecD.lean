/- Lanes as values; the small calls of Keccak. -/
import Derived.Test.YtpijnpapmdnceaaRows
import Derived.Test.YtpijnpapmdnceaaKecC
import Derived.Test.YtpijnpapmdnceaaOwn
import Derived.Test.YtpijnpapmdnceaaTxt
import Derived.Outline
import Derived.Laws.BitsAllLaws
namespace Go.Proofs.Ytpijnpapmdnceaa
open Go Go.RowKit

theorem wrap_u64 (n : Int) : IntKind.u64.wrap n = n % 18446744073709551616 := by simp [IntKind.wrap, IntKind.bits, IntKind.signed]
theorem of_lane (a : L64) : BitVec.ofInt 64 (a.toNat : Int) = a := by rw [BitVec.ofInt_natCast, BitVec.ofNat_toNat]; simp
theorem wrap_lane (a : L64) : IntKind.u64.wrap (a.toNat : Int) = (a.toNat : Int) := by rw [wrap_u64]; have := a.isLt; omega
theorem xor_val (a b : L64) : bits .xor .u64 (a.toNat : Int) (b.toNat : Int) = ((a ^^^ b).toNat : Int) := by
  show IntKind.u64.wrap ((BitVec.ofInt 64 (a.toNat : Int) ^^^ BitVec.ofInt 64 (b.toNat : Int)).toNat : Int) = _
  rw [of_lane, of_lane, wrap_lane]
theorem or_val (a b : L64) : bits .or .u64 (a.toNat : Int) (b.toNat : Int) = ((a ||| b).toNat : Int) := by
  show IntKind.u64.wrap ((BitVec.ofInt 64 (a.toNat : Int) ||| BitVec.ofInt 64 (b.toNat : Int)).toNat : Int) = _
  rw [of_lane, of_lane, wrap_lane]
theorem and_val (a b : L64) : bits .and .u64 (a.toNat : Int) (b.toNat : Int) = ((a &&& b).toNat : Int) := by
  show IntKind.u64.wrap ((BitVec.ofInt 64 (a.toNat : Int) &&& BitVec.ofInt 64 (b.toNat : Int)).toNat : Int) = _
  rw [of_lane, of_lane, wrap_lane]
theorem andNot_val (a b : L64) : bits .andNot .u64 (a.toNat : Int) (b.toNat : Int) = ((a &&& ~~~ b).toNat : Int) := by
  show IntKind.u64.wrap ((BitVec.ofInt 64 (a.toNat : Int) &&& ~~~ BitVec.ofInt 64 (b.toNat : Int)).toNat : Int) = _
  rw [of_lane, of_lane, wrap_lane]
theorem shl_val (a : L64) (n : Nat) : IntKind.u64.wrap ((a.toNat : Int) * 2 ^ n) = ((a <<< n).toNat : Int) := by
  rw [wrap_u64, BitVec.toNat_shiftLeft, Nat.shiftLeft_eq, Int.natCast_emod, Int.natCast_mul, Int.natCast_pow]
  rfl
theorem shr_val (a : L64) (n : Nat) : (a.toNat : Int) / 2 ^ n = ((a >>> n).toNat : Int) := by
  rw [BitVec.toNat_ushiftRight, Nat.shiftRight_eq_div_pow, Int.natCast_ediv, Int.natCast_pow]
  rfl
theorem and63 (n : Nat) (hn : n < 64) : bits .and .u64 (n : Int) 63 = (n : Int) := by
  have h : ∀ k : Fin 64, bits .and .u64 ((k.1 : Nat) : Int) 63 = ((k.1 : Nat) : Int) := by decide
  exact h ⟨n, hn⟩
theorem rot_val (a : L64) (n : Nat) : bits .or .u64 (IntKind.u64.wrap ((a.toNat : Int) * 2 ^ n)) ((a.toNat : Int) / 2 ^ (64 - n)) = ((rot a n).toNat : Int) := by
  rw [shl_val, shr_val, or_val]; rfl

theorem at_any (x y : Nat) (w : World) (hx : x ≤ 100) (hy : y ≤ 100) :
    Calls Try.prog 55 #[.int .i64 x, .int .i64 y] w fun e w' => e = .returned (.int .i64 ((x % 5 + 5 * (y % 5) : Nat) : Int)) ∧ w = w' := by
  go_enter Try.func55, Try.ntmps55
  go_wp2
  go_ret
  exact ⟨rfl, rfl⟩

theorem rot_any (a : L64) (n : Nat) (hn : n < 64) (w : World) :
    Calls Try.prog 56 #[.int .u64 (a.toNat : Int), .int .i64 (n : Int)] w fun e w' => e = .returned (.int .u64 ((rot a n).toNat : Int)) ∧ w = w' := by
  have e1 : bits .and .u64 (n : Int) 63 = (n : Int) := and63 n hn
  have b1 : (0 : Int) ≤ (n : Int) := by omega
  have b2 : (n : Int) ≤ 63 := by omega
  go_enter Try.func56, Try.ntmps56
  go_wp2
  go_ret
  exact ⟨by rw [← rot_val a n]; rfl, rfl⟩

theorem turned_any (a : L64) (n : Nat) (hn : n < 64) (w : World) :
    Calls Try.prog 52 #[.int .u64 (a.toNat : Int), .int .i64 (n : Int)] w fun e w' => e = .returned (.int .u64 ((rot a n).toNat : Int)) ∧ w = w' := by
  by_cases h0 : n = 0
  · subst h0
    have e := hid (rot_0 a)
    go_enter Try.func52, Try.ntmps52
    go_wp2
    go_ret
    exact ⟨by rw [e.out]; rfl, rfl⟩
  · have b1 : (0 : Int) ≤ (n : Int) := by omega
    have b2 : (n : Int) ≤ 63 := by omega
    have h1 : ((n : Int) == 0) = false := by simp [h0]
    go_enter Try.func52, Try.ntmps52
    go_wp2
    go_ret
    exact ⟨by rw [← rot_val a n]; rfl, rfl⟩
end Go.Proofs.Ytpijnpapmdnceaa
