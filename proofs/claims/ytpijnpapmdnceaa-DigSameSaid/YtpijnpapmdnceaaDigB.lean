/- The plain law of a block: byte by byte, or lane by lane. -/
import Derived.Test.YtpijnpapmdnceaaDigA
namespace Go.Proofs.Ytpijnpapmdnceaa
open Go Go.RowKit

/-- Eight bytes from b on, added up. -/
def numX (f : Nat → B8) (b : Nat) : Nat → L64
  | 0 => 0#64
  | k + 1 => numX f b k ^^^ inl8 (f (b + k)) k

theorem inl8_low (x : B8) (k i : Nat) (h : i < 8 * k) : (inl8 x k).getLsbD i = false := by
  unfold inl8
  rw [BitVec.getLsbD_shiftLeft]
  simp [h]
theorem inl8_high (x : B8) (k i : Nat) (h : 8 * (k + 1) ≤ i) : (inl8 x k).getLsbD i = false := by
  unfold inl8
  rw [BitVec.getLsbD_shiftLeft]
  have : (BitVec.zeroExtend 64 x).getLsbD (i - 8 * k) = false := by
    show (BitVec.setWidth 64 x).getLsbD (i - 8 * k) = false
    rw [BitVec.getLsbD_setWidth, BitVec.getLsbD_of_ge x _ (by omega)]
    simp
  rw [this]
  simp
theorem numX_high (f : Nat → B8) (b : Nat) : ∀ k i, 8 * k ≤ i → (numX f b k).getLsbD i = false
  | 0, i, _ => by simp [numX]
  | k + 1, i, h => by
    rw [numX, BitVec.getLsbD_xor, numX_high f b k i (by omega), inl8_high _ k i (by omega)]
    rfl
theorem or_xor (a c : L64) (n : Nat) (ha : ∀ i, n ≤ i → a.getLsbD i = false) (hc : ∀ i, i < n → c.getLsbD i = false) : a ||| c = a ^^^ c := by
  apply BitVec.eq_of_getLsbD_eq
  intro i _
  rw [BitVec.getLsbD_or, BitVec.getLsbD_xor]
  by_cases h : i < n
  · rw [hc i h]; simp
  · rw [ha i (by omega)]; simp
theorem num_eq (l : List B8) (f : Nat → B8) (b : Nat) : ∀ k, (∀ i, i < k → gb l i = f (b + i)) → num l k = numX f b k
  | 0, _ => rfl
  | k + 1, h => by
    rw [num, numX, num_eq l f b k (fun i hi => h i (by omega)), h k (by omega)]
    exact or_xor _ _ (8 * k) (numX_high f b k) (inl8_low _ k)

/-- Lane by lane; byte by byte. -/
def lanesK (f : Nat → B8) (b : Nat) (s : List L64) (k : Nat) : List L64 := (List.range k).foldl (fun s i => s.set i (gl s i ^^^ numX f (b + 8 * i) 8)) s
def bytesK (f : Nat → B8) (b : Nat) (s : List L64) (k : Nat) : List L64 := (List.range k).foldl (fun s k => s.set (k / 8) (gl s (k / 8) ^^^ inl8 (f (b + k)) (k % 8))) s
theorem lanesK_succ (f : Nat → B8) (b : Nat) (s : List L64) (k : Nat) : lanesK f b s (k + 1) = (lanesK f b s k).set k (gl (lanesK f b s k) k ^^^ numX f (b + 8 * k) 8) := by
  unfold lanesK
  rw [List.range_succ, List.foldl_append]
  rfl
theorem bytesK_succ (f : Nat → B8) (b : Nat) (s : List L64) (k : Nat) : bytesK f b s (k + 1) = (bytesK f b s k).set (k / 8) (gl (bytesK f b s k) (k / 8) ^^^ inl8 (f (b + k)) (k % 8)) := by
  unfold bytesK
  rw [List.range_succ, List.foldl_append]
  rfl
theorem lanesK_len (f : Nat → B8) (b : Nat) (s : List L64) : ∀ k, (lanesK f b s k).length = s.length
  | 0 => rfl
  | k + 1 => by rw [lanesK_succ, List.length_set, lanesK_len f b s k]
theorem bytesK_len (f : Nat → B8) (b : Nat) (s : List L64) : ∀ k, (bytesK f b s k).length = s.length
  | 0 => rfl
  | k + 1 => by rw [bytesK_succ, List.length_set, bytesK_len f b s k]

theorem set_gl (s : List L64) (i : Nat) : s.set i (gl s i) = s := by
  by_cases h : i < s.length
  · unfold gl
    rw [List.getD_eq_getElem?_getD, List.getElem?_eq_getElem h]
    exact List.set_getElem_self h
  · exact List.set_eq_of_length_le (by omega)
theorem gl_here (s : List L64) (i : Nat) (x : L64) (h : i < s.length) : gl (s.set i x) i = x := by
  unfold gl
  rw [List.getD_eq_getElem?_getD, List.getElem?_set_self h]
  rfl

theorem bytes_lane (f : Nat → B8) (b : Nat) (s : List L64) (i : Nat) (hi : i < s.length) (h : bytesK f b s (8 * i) = lanesK f b s i) :
    ∀ r, r ≤ 8 → bytesK f b s (8 * i + r) = (lanesK f b s i).set i (gl (lanesK f b s i) i ^^^ numX f (b + 8 * i) r)
  | 0, _ => by rw [Nat.add_zero, h, numX, BitVec.xor_zero, set_gl]
  | r + 1, hr => by
    have e1 : (8 * i + r) / 8 = i := by omega
    have e2 : (8 * i + r) % 8 = r := by omega
    rw [← Nat.add_assoc, bytesK_succ, bytes_lane f b s i hi h r (by omega), e1, e2, gl_here _ _ _ (by rw [lanesK_len]; exact hi), List.set_set, numX, BitVec.xor_assoc, Nat.add_assoc]
theorem bytes_lanes (f : Nat → B8) (b : Nat) (s : List L64) : ∀ i, i ≤ s.length → bytesK f b s (8 * i) = lanesK f b s i
  | 0, _ => rfl
  | i + 1, h => by
    have := bytes_lane f b s i (by omega) (bytes_lanes f b s i (by omega)) 8 (Nat.le_refl _)
    rw [show 8 * (i + 1) = 8 * i + 8 by omega, this, lanesK_succ]
end Go.Proofs.Ytpijnpapmdnceaa
