/- The digest, plain; the state behind each byte. -/
import Derived.Test.YtpijnpapmdnceaaDigB
import Derived.Test.YtpijnpapmdnceaaKecL
namespace Go.Proofs.Ytpijnpapmdnceaa
open Go Go.RowKit

theorem bytesK_zero (f : Nat → B8) (b : Nat) (s : List L64) : bytesK f b s 0 = s := rfl

/-- How many bytes there are, filled up to blocks. -/
def allN (n : Nat) : Nat := (n / 136 + 1) * 136
theorem allN_lt (n : Nat) : n < allN n ∧ allN n ≤ n + 136 := by unfold allN; omega
def padF (l : List B8) (i : Nat) : B8 := patb l (allN l.length) i
/-- The state behind so many blocks; behind so many bytes. -/
def dgS (l : List B8) : Nat → List L64
  | 0 => z25
  | j + 1 => perm (lanesK (padF l) (136 * j) (dgS l j) 17)
def stN (l : List B8) (n : Nat) : List L64 := bytesK (padF l) (136 * (n / 136)) (dgS l (n / 136)) (n % 136)

theorem perm_length (s : List L64) (h : s.length = 25) : (perm s).length = 25 := rnds_len h 24
theorem dgS_len (l : List B8) : ∀ j, (dgS l j).length = 25
  | 0 => rfl
  | j + 1 => by rw [dgS]; exact perm_length _ (by rw [lanesK_len, dgS_len l j])
theorem stN_len (l : List B8) (n : Nat) : (stN l n).length = 25 := by rw [stN, bytesK_len, dgS_len]
theorem stN_zero (l : List B8) : stN l 0 = z25 := rfl
theorem stN_mid (l : List B8) (n k : Nat) (hk : n % 136 = k) (h : k ≠ 135) : stN l (n + 1) = (stN l n).set (k / 8) (gl (stN l n) (k / 8) ^^^ inl8 (padF l n) (k % 8)) := by
  have e1 : (n + 1) / 136 = n / 136 := by omega
  have e2 : (n + 1) % 136 = k + 1 := by omega
  have e3 : 136 * (n / 136) + k = n := by omega
  unfold stN
  rw [e1, e2, hk, bytesK_succ, e3]
theorem stN_end (l : List B8) (n : Nat) (hk : n % 136 = 135) : stN l (n + 1) = perm ((stN l n).set 16 (gl (stN l n) 16 ^^^ inl8 (padF l n) 7)) := by
  have e1 : (n + 1) / 136 = n / 136 + 1 := by omega
  have e2 : (n + 1) % 136 = 0 := by omega
  have e3 : 136 * (n / 136) + 135 = n := by omega
  have h := bytes_lanes (padF l) (136 * (n / 136)) (dgS l (n / 136)) 17 (by rw [dgS_len]; omega)
  have h2 := bytesK_succ (padF l) (136 * (n / 136)) (dgS l (n / 136)) 135
  rw [e3] at h2
  rw [show 135 / 8 = 16 from rfl, show 135 % 8 = 7 from rfl] at h2
  unfold stN
  rw [e1, e2, hk, bytesK_zero, dgS, ← h, ← h2]
end Go.Proofs.Ytpijnpapmdnceaa
