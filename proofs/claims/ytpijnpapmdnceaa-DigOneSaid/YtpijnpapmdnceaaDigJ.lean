/- Law 20: bytes that are added up are as bytes that are laid over each other; less than a block is one permutation. -/
import Derived.Test.YtpijnpapmdnceaaDigD
namespace Go.Proofs.Ytpijnpapmdnceaa
open Go Go.RowKit

theorem add_xor (a c : L64) (n : Nat) (ha : ∀ i, n ≤ i → a.getLsbD i = false) (hc : ∀ i, i < n → c.getLsbD i = false) : a + c = a ^^^ c := by
  rw [← or_xor a c n ha hc]
  apply BitVec.add_eq_or_of_and_eq_zero
  apply BitVec.eq_of_getLsbD_eq
  intro i _
  rw [BitVec.getLsbD_and, BitVec.getLsbD_zero]
  by_cases h : i < n
  · rw [hc i h]; simp
  · rw [ha i (by omega)]; simp
theorem gl_there (s : List L64) (i j : Nat) (x : L64) (h : i ≠ j) : gl (s.set i x) j = gl s j := by
  unfold gl
  rw [List.getD_eq_getElem?_getD, List.getD_eq_getElem?_getD, List.getElem?_set_ne h]
theorem lanesK_far (f : Nat → B8) (b : Nat) (s : List L64) (j : Nat) : ∀ k, k ≤ j → gl (lanesK f b s k) j = gl s j
  | 0, _ => rfl
  | k + 1, h => by rw [lanesK_succ, gl_there _ _ _ _ (by omega), lanesK_far f b s j k (by omega)]
theorem gl_z25 (i : Nat) : gl z25 i = 0#64 := by
  unfold gl z25
  rw [List.getD_eq_getElem?_getD]
  by_cases h : i < 25
  · rw [List.getElem?_replicate, if_pos h]; rfl
  · rw [List.getElem?_replicate, if_neg h]; rfl
/-- The lane in which byte k comes: what is there. -/
theorem here_num (f : Nat → B8) (k : Nat) (hk : k < 200) : gl (bytesK f 0 z25 k) (k / 8) = numX f (8 * (k / 8)) (k % 8) := by
  have e : 8 * (k / 8) + k % 8 = k := by omega
  have hl : k / 8 < z25.length := by show k / 8 < 25; omega
  have h := bytes_lane f 0 z25 (k / 8) hl (bytes_lanes f 0 z25 (k / 8) (Nat.le_of_lt hl)) (k % 8) (by omega)
  rw [e] at h
  rw [h, gl_here _ _ _ (by rw [lanesK_len]; exact hl), lanesK_far f 0 z25 (k / 8) (k / 8) (Nat.le_refl _), gl_z25, BitVec.zero_xor, Nat.zero_add]
/-- A byte that is added. -/
theorem add_byte (f : Nat → B8) (k : Nat) (hk : k < 200) (x : B8) : gl (bytesK f 0 z25 k) (k / 8) + inl8 x (k % 8) = gl (bytesK f 0 z25 k) (k / 8) ^^^ inl8 x (k % 8) := by
  rw [here_num f k hk]
  exact add_xor _ _ (8 * (k % 8)) (numX_high f _ _) (inl8_low x _)
theorem byte_next (f : Nat → B8) (k : Nat) (hk : k < 200) : (bytesK f 0 z25 k).set (k / 8) (gl (bytesK f 0 z25 k) (k / 8) + inl8 (f k) (k % 8)) = bytesK f 0 z25 (k + 1) := by
  rw [add_byte f k hk, bytesK_succ, Nat.zero_add]
theorem inl8_zero (k : Nat) : inl8 0#8 k = 0#64 := by unfold inl8; simp
theorem byte_none (f : Nat → B8) (k : Nat) (h : f k = 0#8) : bytesK f 0 z25 (k + 1) = bytesK f 0 z25 k := by
  rw [bytesK_succ, Nat.zero_add, h, inl8_zero, BitVec.xor_zero, set_gl]
theorem byte_nones (f : Nat → B8) (k : Nat) : ∀ m, (∀ i, i < m → f (k + i) = 0#8) → bytesK f 0 z25 (k + m) = bytesK f 0 z25 k
  | 0, _ => rfl
  | m + 1, h => by rw [← Nat.add_assoc, byte_none f (k + m) (h m (by omega)), byte_nones f k m (fun i hi => h i (by omega))]
/-- Of less than a block: the six, and the last bit. -/
theorem one_block (l : List B8) (h : l.length ≤ 134) : (bytesK (padF l) 0 z25 (l.length + 1)).set 16 (gl (bytesK (padF l) 0 z25 (l.length + 1)) 16 ^^^ 9223372036854775808#64) = bytesK (padF l) 0 z25 136 := by
  have ha : allN l.length = 136 := by unfold allN; omega
  have h1 : bytesK (padF l) 0 z25 135 = bytesK (padF l) 0 z25 (l.length + 1) := by
    have := byte_nones (padF l) (l.length + 1) (134 - l.length) (fun i hi => by
      unfold padF patb
      rw [if_neg (by omega), if_neg (by omega), ha, if_neg (by omega)]
      rfl)
    rwa [show l.length + 1 + (134 - l.length) = 135 by omega] at this
  have h2 := bytesK_succ (padF l) 0 z25 135
  rw [Nat.zero_add, h1] at h2
  have h3 : padF l 135 = 128#8 := by
    unfold padF patb
    rw [if_neg (by omega), if_neg (by omega), ha, if_pos (by omega)]
    rfl
  rw [h2, h3]
  rfl
theorem dgt_one (l : List B8) (h : l.length ≤ 134) : dgt l = dgB (perm (bytesK (padF l) 0 z25 136)) := by
  have ha : allN l.length / 136 = 1 := by unfold allN; omega
  have h1 := bytes_lanes (padF l) 0 z25 17 (by decide)
  unfold dgt
  rw [ha, dgS, dgS, Nat.mul_zero, ← h1]
theorem padF_in (l : List B8) (k : Nat) (h : k < l.length) : padF l k = gb l k := by unfold padF patb; rw [if_pos h]
theorem padF_six (l : List B8) (h : l.length ≤ 134) : padF l l.length = 6#8 := by
  have ha : allN l.length = 136 := by unfold allN; omega
  unfold padF patb
  rw [if_neg (by omega), if_pos rfl, ha, if_neg (by omega)]
  rfl
theorem add_val (a b : L64) : IntKind.u64.wrap ((a.toNat : Int) + (b.toNat : Int)) = ((a + b).toNat : Int) := by
  rw [IntKind.wrap_u64, BitVec.toNat_add]; omega
theorem dgB_gb (s : List L64) (i : Nat) (h : i < 32) : gb (dgB s) i = byt s i := by
  rw [gb_get _ _ (by simp [dgB]; exact h)]
  simp [dgB]
end Go.Proofs.Ytpijnpapmdnceaa
