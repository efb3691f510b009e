/- Keccak in plain words: lanes of 64 bits, states as lists of 25. Keccak: both rounds are one. Keccak: a round loses nothing. Lanes as values; the small calls of Keccak. The walk of keccak.theta. The walks of keccak.chi, keccak.move. The walk of keccak.move. The walks of keccak.mark, keccak.Round, keccak.Permute. The walk of keccak.Permute. -/
import Derived.WalkKit
import Derived.Test.YtpijnpapmdnceaaRows
import Derived.Test.YtpijnpapmdnceaaGaa
import Derived.Outline
import Derived.Laws.BitsAllLaws
import Derived.ChangeKeysEq
import Derived.IntWalk
import Derived.Deep.Cut

namespace Go.Proofs.Ytpijnpapmdnceaa
open Go

abbrev L64 := BitVec 64

/-- A lane whose bits are moved up. -/
def rot (a : L64) (n : Nat) : L64 := (a <<< n) ||| (a >>> (64 - n))

theorem rot_bit (a : L64) (n i : Nat) (hn : n ≤ 64) (hi : i < 64) : (rot a n).getLsbD i = if i < n then a.getLsbD (64 - n + i) else a.getLsbD (i - n) := by
  unfold rot
  rw [BitVec.getLsbD_or, BitVec.getLsbD_shiftLeft, BitVec.getLsbD_ushiftRight]
  by_cases h : i < n
  · simp [h, hi]
  · have : a.getLsbD (64 - n + i) = false := BitVec.getLsbD_of_ge _ _ (by omega)
    simp [h, hi, this]

theorem rot_xor (a b : L64) (n : Nat) (hn : n ≤ 64) : rot (a ^^^ b) n = rot a n ^^^ rot b n := by
  refine BitVec.eq_of_getLsbD_eq fun i hi => ?_
  rw [BitVec.getLsbD_xor, rot_bit _ _ _ hn hi, rot_bit _ _ _ hn hi, rot_bit _ _ _ hn hi]
  split <;> rw [BitVec.getLsbD_xor]

theorem rot_rot (a : L64) (n : Nat) (hn : n ≤ 32) : rot (rot a n) n = rot a (2 * n) := by
  refine BitVec.eq_of_getLsbD_eq fun i hi => ?_
  rw [rot_bit _ _ _ (by omega) hi, rot_bit _ _ _ (by omega) hi]
  by_cases h : i < n
  · rw [if_pos h, if_pos (by omega), rot_bit _ _ _ (by omega) (by omega)]
    split
    · congr 1; omega
    · congr 1; omega
  · rw [if_neg h, rot_bit _ _ _ (by omega) (by omega)]
    by_cases h2 : i - n < n
    · rw [if_pos h2, if_pos (by omega)]; congr 1; omega
    · rw [if_neg h2, if_neg (by omega)]; congr 1; omega

theorem rot_64 (a : L64) : rot a 64 = a := by
  refine BitVec.eq_of_getLsbD_eq fun i hi => ?_
  rw [rot_bit _ _ _ (by omega) hi, if_pos hi]
  congr 1; omega

theorem rot_0 (a : L64) : rot a 0 = a := by
  refine BitVec.eq_of_getLsbD_eq fun i hi => ?_
  rw [rot_bit _ _ _ (by omega) hi, if_neg (by omega)]
  congr 1

theorem rot_inj (a b : L64) (n : Nat) (hn : n ≤ 64) (h : rot a n = rot b n) : a = b := by
  refine BitVec.eq_of_getLsbD_eq fun i hi => ?_
  by_cases h2 : i + n < 64
  · have := congrArg (fun x => x.getLsbD (i + n)) h
    try dsimp only at this
    rw [rot_bit _ _ _ hn h2, rot_bit _ _ _ hn h2, if_neg (by omega), if_neg (by omega)] at this
    rw [show i + n - n = i by omega] at this
    exact this
  · have h3 : i + n - 64 < 64 := by omega
    have := congrArg (fun x => x.getLsbD (i + n - 64)) h
    try dsimp only at this
    rw [rot_bit _ _ _ hn h3, rot_bit _ _ _ hn h3, if_pos (by omega), if_pos (by omega)] at this
    rw [show 64 - n + (i + n - 64) = i by omega] at this
    exact this

/-- A lane of a list. -/
def gl (s : List L64) (i : Nat) : L64 := s.getD i 0#64
def z5 : List L64 := [0#64, 0#64, 0#64, 0#64, 0#64]
def z25 : List L64 := List.replicate 25 0#64

/-! The program's steps, loop by loop. -/
def thC1 (s : List L64) (c : List L64) (i : Nat) : List L64 := c.set (i % 5) (gl c (i % 5) ^^^ gl s i)
def thC (s : List L64) (k : Nat) : List L64 := (List.range k).foldl (thC1 s) z5
def thS1 (c : List L64) (s : List L64) (i : Nat) : List L64 := s.set i (gl s i ^^^ (gl c ((i % 5 + 4) % 5) ^^^ rot (gl c ((i % 5 + 1) % 5)) 1))
def thS (c s : List L64) (k : Nat) : List L64 := (List.range k).foldl (thS1 c) s
def theta (s : List L64) : List L64 := thS (thC s 25) s 25

/-- Where a move is, and what it has laid. -/
structure Mv where
  x : Nat
  y : Nat
  o : List L64
def mv1 (s : List L64) (m : Mv) (t : Nat) : Mv := ⟨m.y, (2 * m.x + 3 * m.y) % 5, m.o.set (m.y + 5 * ((2 * m.x + 3 * m.y) % 5)) (rot (gl s (m.x + 5 * m.y)) ((t + 1) * (t + 2) / 2 % 64))⟩
def mvS (s : List L64) (k : Nat) : Mv := (List.range k).foldl (mv1 s) ⟨1, 0, z25.set 0 (gl s 0)⟩
def move (s : List L64) : List L64 := (mvS s 24).o

def ch1 (s o : List L64) (i : Nat) : List L64 := o.set i (gl o i ^^^ (gl s ((i % 5 + 2) % 5 + 5 * (i / 5)) &&& ~~~ (gl s ((i % 5 + 1) % 5 + 5 * (i / 5)))))
def chS (s : List L64) (k : Nat) : List L64 := (List.range k).foldl (ch1 s) s
def chi (s : List L64) : List L64 := chS s 25

/-- The register, and what is marked so far. -/
def lf1 (r : Nat) : Nat := if 256 ≤ 2 * r then (2 * r) ^^^ 0x171 else 2 * r
def lf : Nat → Nat
  | 0 => 1
  | t + 1 => lf1 (lf t)
def mk1 (n : Nat) (o : L64) (t : Nat) : L64 := if 7 * n ≤ t then o ||| (BitVec.ofNat 64 (lf t % 2) <<< (2 ^ (t - 7 * n) - 1)) else o
def mkS (n k : Nat) : L64 := (List.range k).foldl (mk1 n) 0#64
def mark (n : Nat) : L64 := mkS n (7 * (n + 1))

def core (s : List L64) : List L64 := chi (move (theta s))
def rnd (s : List L64) (n : Nat) : List L64 := (core s).set 0 (gl (core s) 0 ^^^ mark n)
def rnds (s : List L64) (k : Nat) : List L64 := (List.range k).foldl rnd s
def perm (s : List L64) : List L64 := rnds s 24

/-! The reference's steps. -/
def ra3 (s : List L64) (x y : Nat) (a : List L64) (k : Nat) : List L64 := a.set (x * 5 + y) (gl a (x * 5 + y) ^^^ gl s ((x + 4) % 5 + 5 * k) ^^^ rot (gl s ((x + 1) % 5 + 5 * k)) 1)
def ra2 (s : List L64) (x : Nat) (a : List L64) (y : Nat) : List L64 := (List.range 5).foldl (ra3 s x y) (a.set (x * 5 + y) (gl s (x + 5 * y)))
def ra1 (s : List L64) (a : List L64) (x : Nat) : List L64 := (List.range 5).foldl (ra2 s x) a
def rA (s : List L64) : List L64 := (List.range 5).foldl (ra1 s) z25

/-- The turns: x, y, and the table. -/
structure Tn where
  x : Nat
  y : Nat
  o : List Nat
def zn : List Nat := [0, 0, 0, 0, 0, 0, 0, 0, 0, 0, 0, 0, 0, 0, 0, 0, 0, 0, 0, 0, 0, 0, 0, 0, 0]
def tn1 (m : Tn) (t : Nat) : Tn := ⟨m.y, (2 * m.x + 3 * m.y) % 5, m.o.set (m.x * 5 + m.y) ((t + 1) * (t + 2) / 2 % 64)⟩
def tnS (k : Nat) : Tn := (List.range k).foldl tn1 ⟨1, 0, zn⟩
def turns : List Nat := (tnS 24).o

def rb2 (a : List L64) (x : Nat) (b : List L64) (y : Nat) : List L64 := b.set (y * 5 + (2 * x + 3 * y) % 5) (rot (gl a (x * 5 + y)) (turns.getD (x * 5 + y) 0))
def rb1 (a b : List L64) (x : Nat) : List L64 := (List.range 5).foldl (rb2 a x) b
def rB (a : List L64) : List L64 := (List.range 5).foldl (rb1 a) z25

def ro2 (b : List L64) (x : Nat) (o : List L64) (y : Nat) : List L64 := o.set (x + 5 * y) (gl b (x * 5 + y) ^^^ (gl b ((x + 2) % 5 * 5 + y) &&& ~~~ (gl b ((x + 1) % 5 * 5 + y))))
def ro1 (b o : List L64) (x : Nat) : List L64 := (List.range 5).foldl (ro2 b x) o
def rO (b : List L64) : List L64 := (List.range 5).foldl (ro1 b) z25

def rm1 (n : Nat) (o : L64) (j : Nat) : L64 := o ^^^ (BitVec.ofNat 64 (lf (j + 7 * n) % 2) <<< (2 ^ j - 1))
def rM (n : Nat) (o : L64) (k : Nat) : L64 := (List.range k).foldl (rm1 n) o
def rrnd (s : List L64) (n : Nat) : List L64 := (rO (rB (rA s))).set 0 (rM n (gl (rO (rB (rA s))) 0) 7)

/-! Both are one. -/
theorem list25 (s : List L64) (h : s.length = 25) : ∃ a0 a1 a2 a3 a4 a5 a6 a7 a8 a9 a10 a11 a12 a13 a14 a15 a16 a17 a18 a19 a20 a21 a22 a23 a24 : L64,
    s = [a0, a1, a2, a3, a4, a5, a6, a7, a8, a9, a10, a11, a12, a13, a14, a15, a16, a17, a18, a19, a20, a21, a22, a23, a24] := by
  match s, h with
  | [a0, a1, a2, a3, a4, a5, a6, a7, a8, a9, a10, a11, a12, a13, a14, a15, a16, a17, a18, a19, a20, a21, a22, a23, a24], _ => exact ⟨_, _, _, _, _, _, _, _, _, _, _, _, _, _, _, _, _, _, _, _, _, _, _, _, _, rfl⟩

end Go.Proofs.Ytpijnpapmdnceaa

namespace Go.Proofs.Ytpijnpapmdnceaa
open Go

/-- Rows for columns. -/
def tr (t : List L64) : List L64 := (List.range 25).map fun n => gl t (n / 5 + 5 * (n % 5))

theorem lane_eq (a p0 p1 p2 p3 p4 n0 n1 n2 n3 n4 : L64) :
    a ^^^ p0 ^^^ rot n0 1 ^^^ p1 ^^^ rot n1 1 ^^^ p2 ^^^ rot n2 1 ^^^ p3 ^^^ rot n3 1 ^^^ p4 ^^^ rot n4 1 = a ^^^ ((0#64 ^^^ p0 ^^^ p1 ^^^ p2 ^^^ p3 ^^^ p4) ^^^ rot (0#64 ^^^ n0 ^^^ n1 ^^^ n2 ^^^ n3 ^^^ n4) 1) := by
  rw [BitVec.zero_xor, BitVec.zero_xor, rot_xor _ _ _ (by decide), rot_xor _ _ _ (by decide), rot_xor _ _ _ (by decide), rot_xor _ _ _ (by decide)]
  ac_rfl

theorem rA_list (a0 a1 a2 a3 a4 a5 a6 a7 a8 a9 a10 a11 a12 a13 a14 a15 a16 a17 a18 a19 a20 a21 a22 a23 a24 : L64) : rA [a0, a1, a2, a3, a4, a5, a6, a7, a8, a9, a10, a11, a12, a13, a14, a15, a16, a17, a18, a19, a20, a21, a22, a23, a24] = tr (theta [a0, a1, a2, a3, a4, a5, a6, a7, a8, a9, a10, a11, a12, a13, a14, a15, a16, a17, a18, a19, a20, a21, a22, a23, a24]) := by
  have e1 : rA [a0, a1, a2, a3, a4, a5, a6, a7, a8, a9, a10, a11, a12, a13, a14, a15, a16, a17, a18, a19, a20, a21, a22, a23, a24] = [a0 ^^^ a4 ^^^ rot a1 1 ^^^ a9 ^^^ rot a6 1 ^^^ a14 ^^^ rot a11 1 ^^^ a19 ^^^ rot a16 1 ^^^ a24 ^^^ rot a21 1, a5 ^^^ a4 ^^^ rot a1 1 ^^^ a9 ^^^ rot a6 1 ^^^ a14 ^^^ rot a11 1 ^^^ a19 ^^^ rot a16 1 ^^^ a24 ^^^ rot a21 1, a10 ^^^ a4 ^^^ rot a1 1 ^^^ a9 ^^^ rot a6 1 ^^^ a14 ^^^ rot a11 1 ^^^ a19 ^^^ rot a16 1 ^^^ a24 ^^^ rot a21 1, a15 ^^^ a4 ^^^ rot a1 1 ^^^ a9 ^^^ rot a6 1 ^^^ a14 ^^^ rot a11 1 ^^^ a19 ^^^ rot a16 1 ^^^ a24 ^^^ rot a21 1, a20 ^^^ a4 ^^^ rot a1 1 ^^^ a9 ^^^ rot a6 1 ^^^ a14 ^^^ rot a11 1 ^^^ a19 ^^^ rot a16 1 ^^^ a24 ^^^ rot a21 1, a1 ^^^ a0 ^^^ rot a2 1 ^^^ a5 ^^^ rot a7 1 ^^^ a10 ^^^ rot a12 1 ^^^ a15 ^^^ rot a17 1 ^^^ a20 ^^^ rot a22 1, a6 ^^^ a0 ^^^ rot a2 1 ^^^ a5 ^^^ rot a7 1 ^^^ a10 ^^^ rot a12 1 ^^^ a15 ^^^ rot a17 1 ^^^ a20 ^^^ rot a22 1, a11 ^^^ a0 ^^^ rot a2 1 ^^^ a5 ^^^ rot a7 1 ^^^ a10 ^^^ rot a12 1 ^^^ a15 ^^^ rot a17 1 ^^^ a20 ^^^ rot a22 1, a16 ^^^ a0 ^^^ rot a2 1 ^^^ a5 ^^^ rot a7 1 ^^^ a10 ^^^ rot a12 1 ^^^ a15 ^^^ rot a17 1 ^^^ a20 ^^^ rot a22 1, a21 ^^^ a0 ^^^ rot a2 1 ^^^ a5 ^^^ rot a7 1 ^^^ a10 ^^^ rot a12 1 ^^^ a15 ^^^ rot a17 1 ^^^ a20 ^^^ rot a22 1, a2 ^^^ a1 ^^^ rot a3 1 ^^^ a6 ^^^ rot a8 1 ^^^ a11 ^^^ rot a13 1 ^^^ a16 ^^^ rot a18 1 ^^^ a21 ^^^ rot a23 1, a7 ^^^ a1 ^^^ rot a3 1 ^^^ a6 ^^^ rot a8 1 ^^^ a11 ^^^ rot a13 1 ^^^ a16 ^^^ rot a18 1 ^^^ a21 ^^^ rot a23 1, a12 ^^^ a1 ^^^ rot a3 1 ^^^ a6 ^^^ rot a8 1 ^^^ a11 ^^^ rot a13 1 ^^^ a16 ^^^ rot a18 1 ^^^ a21 ^^^ rot a23 1, a17 ^^^ a1 ^^^ rot a3 1 ^^^ a6 ^^^ rot a8 1 ^^^ a11 ^^^ rot a13 1 ^^^ a16 ^^^ rot a18 1 ^^^ a21 ^^^ rot a23 1, a22 ^^^ a1 ^^^ rot a3 1 ^^^ a6 ^^^ rot a8 1 ^^^ a11 ^^^ rot a13 1 ^^^ a16 ^^^ rot a18 1 ^^^ a21 ^^^ rot a23 1, a3 ^^^ a2 ^^^ rot a4 1 ^^^ a7 ^^^ rot a9 1 ^^^ a12 ^^^ rot a14 1 ^^^ a17 ^^^ rot a19 1 ^^^ a22 ^^^ rot a24 1, a8 ^^^ a2 ^^^ rot a4 1 ^^^ a7 ^^^ rot a9 1 ^^^ a12 ^^^ rot a14 1 ^^^ a17 ^^^ rot a19 1 ^^^ a22 ^^^ rot a24 1, a13 ^^^ a2 ^^^ rot a4 1 ^^^ a7 ^^^ rot a9 1 ^^^ a12 ^^^ rot a14 1 ^^^ a17 ^^^ rot a19 1 ^^^ a22 ^^^ rot a24 1, a18 ^^^ a2 ^^^ rot a4 1 ^^^ a7 ^^^ rot a9 1 ^^^ a12 ^^^ rot a14 1 ^^^ a17 ^^^ rot a19 1 ^^^ a22 ^^^ rot a24 1, a23 ^^^ a2 ^^^ rot a4 1 ^^^ a7 ^^^ rot a9 1 ^^^ a12 ^^^ rot a14 1 ^^^ a17 ^^^ rot a19 1 ^^^ a22 ^^^ rot a24 1, a4 ^^^ a3 ^^^ rot a0 1 ^^^ a8 ^^^ rot a5 1 ^^^ a13 ^^^ rot a10 1 ^^^ a18 ^^^ rot a15 1 ^^^ a23 ^^^ rot a20 1, a9 ^^^ a3 ^^^ rot a0 1 ^^^ a8 ^^^ rot a5 1 ^^^ a13 ^^^ rot a10 1 ^^^ a18 ^^^ rot a15 1 ^^^ a23 ^^^ rot a20 1, a14 ^^^ a3 ^^^ rot a0 1 ^^^ a8 ^^^ rot a5 1 ^^^ a13 ^^^ rot a10 1 ^^^ a18 ^^^ rot a15 1 ^^^ a23 ^^^ rot a20 1, a19 ^^^ a3 ^^^ rot a0 1 ^^^ a8 ^^^ rot a5 1 ^^^ a13 ^^^ rot a10 1 ^^^ a18 ^^^ rot a15 1 ^^^ a23 ^^^ rot a20 1, a24 ^^^ a3 ^^^ rot a0 1 ^^^ a8 ^^^ rot a5 1 ^^^ a13 ^^^ rot a10 1 ^^^ a18 ^^^ rot a15 1 ^^^ a23 ^^^ rot a20 1] := by kernel_rfl
  have e2 : tr (theta [a0, a1, a2, a3, a4, a5, a6, a7, a8, a9, a10, a11, a12, a13, a14, a15, a16, a17, a18, a19, a20, a21, a22, a23, a24]) = [a0 ^^^ ((0#64 ^^^ a4 ^^^ a9 ^^^ a14 ^^^ a19 ^^^ a24) ^^^ rot (0#64 ^^^ a1 ^^^ a6 ^^^ a11 ^^^ a16 ^^^ a21) 1), a5 ^^^ ((0#64 ^^^ a4 ^^^ a9 ^^^ a14 ^^^ a19 ^^^ a24) ^^^ rot (0#64 ^^^ a1 ^^^ a6 ^^^ a11 ^^^ a16 ^^^ a21) 1), a10 ^^^ ((0#64 ^^^ a4 ^^^ a9 ^^^ a14 ^^^ a19 ^^^ a24) ^^^ rot (0#64 ^^^ a1 ^^^ a6 ^^^ a11 ^^^ a16 ^^^ a21) 1), a15 ^^^ ((0#64 ^^^ a4 ^^^ a9 ^^^ a14 ^^^ a19 ^^^ a24) ^^^ rot (0#64 ^^^ a1 ^^^ a6 ^^^ a11 ^^^ a16 ^^^ a21) 1), a20 ^^^ ((0#64 ^^^ a4 ^^^ a9 ^^^ a14 ^^^ a19 ^^^ a24) ^^^ rot (0#64 ^^^ a1 ^^^ a6 ^^^ a11 ^^^ a16 ^^^ a21) 1), a1 ^^^ ((0#64 ^^^ a0 ^^^ a5 ^^^ a10 ^^^ a15 ^^^ a20) ^^^ rot (0#64 ^^^ a2 ^^^ a7 ^^^ a12 ^^^ a17 ^^^ a22) 1), a6 ^^^ ((0#64 ^^^ a0 ^^^ a5 ^^^ a10 ^^^ a15 ^^^ a20) ^^^ rot (0#64 ^^^ a2 ^^^ a7 ^^^ a12 ^^^ a17 ^^^ a22) 1), a11 ^^^ ((0#64 ^^^ a0 ^^^ a5 ^^^ a10 ^^^ a15 ^^^ a20) ^^^ rot (0#64 ^^^ a2 ^^^ a7 ^^^ a12 ^^^ a17 ^^^ a22) 1), a16 ^^^ ((0#64 ^^^ a0 ^^^ a5 ^^^ a10 ^^^ a15 ^^^ a20) ^^^ rot (0#64 ^^^ a2 ^^^ a7 ^^^ a12 ^^^ a17 ^^^ a22) 1), a21 ^^^ ((0#64 ^^^ a0 ^^^ a5 ^^^ a10 ^^^ a15 ^^^ a20) ^^^ rot (0#64 ^^^ a2 ^^^ a7 ^^^ a12 ^^^ a17 ^^^ a22) 1), a2 ^^^ ((0#64 ^^^ a1 ^^^ a6 ^^^ a11 ^^^ a16 ^^^ a21) ^^^ rot (0#64 ^^^ a3 ^^^ a8 ^^^ a13 ^^^ a18 ^^^ a23) 1), a7 ^^^ ((0#64 ^^^ a1 ^^^ a6 ^^^ a11 ^^^ a16 ^^^ a21) ^^^ rot (0#64 ^^^ a3 ^^^ a8 ^^^ a13 ^^^ a18 ^^^ a23) 1), a12 ^^^ ((0#64 ^^^ a1 ^^^ a6 ^^^ a11 ^^^ a16 ^^^ a21) ^^^ rot (0#64 ^^^ a3 ^^^ a8 ^^^ a13 ^^^ a18 ^^^ a23) 1), a17 ^^^ ((0#64 ^^^ a1 ^^^ a6 ^^^ a11 ^^^ a16 ^^^ a21) ^^^ rot (0#64 ^^^ a3 ^^^ a8 ^^^ a13 ^^^ a18 ^^^ a23) 1), a22 ^^^ ((0#64 ^^^ a1 ^^^ a6 ^^^ a11 ^^^ a16 ^^^ a21) ^^^ rot (0#64 ^^^ a3 ^^^ a8 ^^^ a13 ^^^ a18 ^^^ a23) 1), a3 ^^^ ((0#64 ^^^ a2 ^^^ a7 ^^^ a12 ^^^ a17 ^^^ a22) ^^^ rot (0#64 ^^^ a4 ^^^ a9 ^^^ a14 ^^^ a19 ^^^ a24) 1), a8 ^^^ ((0#64 ^^^ a2 ^^^ a7 ^^^ a12 ^^^ a17 ^^^ a22) ^^^ rot (0#64 ^^^ a4 ^^^ a9 ^^^ a14 ^^^ a19 ^^^ a24) 1), a13 ^^^ ((0#64 ^^^ a2 ^^^ a7 ^^^ a12 ^^^ a17 ^^^ a22) ^^^ rot (0#64 ^^^ a4 ^^^ a9 ^^^ a14 ^^^ a19 ^^^ a24) 1), a18 ^^^ ((0#64 ^^^ a2 ^^^ a7 ^^^ a12 ^^^ a17 ^^^ a22) ^^^ rot (0#64 ^^^ a4 ^^^ a9 ^^^ a14 ^^^ a19 ^^^ a24) 1), a23 ^^^ ((0#64 ^^^ a2 ^^^ a7 ^^^ a12 ^^^ a17 ^^^ a22) ^^^ rot (0#64 ^^^ a4 ^^^ a9 ^^^ a14 ^^^ a19 ^^^ a24) 1), a4 ^^^ ((0#64 ^^^ a3 ^^^ a8 ^^^ a13 ^^^ a18 ^^^ a23) ^^^ rot (0#64 ^^^ a0 ^^^ a5 ^^^ a10 ^^^ a15 ^^^ a20) 1), a9 ^^^ ((0#64 ^^^ a3 ^^^ a8 ^^^ a13 ^^^ a18 ^^^ a23) ^^^ rot (0#64 ^^^ a0 ^^^ a5 ^^^ a10 ^^^ a15 ^^^ a20) 1), a14 ^^^ ((0#64 ^^^ a3 ^^^ a8 ^^^ a13 ^^^ a18 ^^^ a23) ^^^ rot (0#64 ^^^ a0 ^^^ a5 ^^^ a10 ^^^ a15 ^^^ a20) 1), a19 ^^^ ((0#64 ^^^ a3 ^^^ a8 ^^^ a13 ^^^ a18 ^^^ a23) ^^^ rot (0#64 ^^^ a0 ^^^ a5 ^^^ a10 ^^^ a15 ^^^ a20) 1), a24 ^^^ ((0#64 ^^^ a3 ^^^ a8 ^^^ a13 ^^^ a18 ^^^ a23) ^^^ rot (0#64 ^^^ a0 ^^^ a5 ^^^ a10 ^^^ a15 ^^^ a20) 1)] := by kernel_rfl
  rw [e1, e2]
  simp only [lane_eq]

theorem rB_list (a0 a1 a2 a3 a4 a5 a6 a7 a8 a9 a10 a11 a12 a13 a14 a15 a16 a17 a18 a19 a20 a21 a22 a23 a24 : L64) : rB (tr [a0, a1, a2, a3, a4, a5, a6, a7, a8, a9, a10, a11, a12, a13, a14, a15, a16, a17, a18, a19, a20, a21, a22, a23, a24]) = tr (move [a0, a1, a2, a3, a4, a5, a6, a7, a8, a9, a10, a11, a12, a13, a14, a15, a16, a17, a18, a19, a20, a21, a22, a23, a24]) := by
  have e1 : tr (move [a0, a1, a2, a3, a4, a5, a6, a7, a8, a9, a10, a11, a12, a13, a14, a15, a16, a17, a18, a19, a20, a21, a22, a23, a24]) = [a0, rot a3 28, rot a1 1, rot a4 27, rot a2 62, rot a6 44, rot a9 20, rot a7 6, rot a5 36, rot a8 55, rot a12 43, rot a10 3, rot a13 25, rot a11 10, rot a14 39, rot a18 21, rot a16 45, rot a19 8, rot a17 15, rot a15 41, rot a24 14, rot a22 61, rot a20 18, rot a23 56, rot a21 2] := by kernel_rfl
  have e2 : rB (tr [a0, a1, a2, a3, a4, a5, a6, a7, a8, a9, a10, a11, a12, a13, a14, a15, a16, a17, a18, a19, a20, a21, a22, a23, a24]) = [rot a0 0, rot a3 28, rot a1 1, rot a4 27, rot a2 62, rot a6 44, rot a9 20, rot a7 6, rot a5 36, rot a8 55, rot a12 43, rot a10 3, rot a13 25, rot a11 10, rot a14 39, rot a18 21, rot a16 45, rot a19 8, rot a17 15, rot a15 41, rot a24 14, rot a22 61, rot a20 18, rot a23 56, rot a21 2] := by kernel_rfl
  rw [e1, e2, rot_0]

theorem rO_list (a0 a1 a2 a3 a4 a5 a6 a7 a8 a9 a10 a11 a12 a13 a14 a15 a16 a17 a18 a19 a20 a21 a22 a23 a24 : L64) : rO (tr [a0, a1, a2, a3, a4, a5, a6, a7, a8, a9, a10, a11, a12, a13, a14, a15, a16, a17, a18, a19, a20, a21, a22, a23, a24]) = chi [a0, a1, a2, a3, a4, a5, a6, a7, a8, a9, a10, a11, a12, a13, a14, a15, a16, a17, a18, a19, a20, a21, a22, a23, a24] := by kernel_rfl

theorem rA_eq {s : List L64} (h : s.length = 25) : rA s = tr (theta s) := by
  obtain ⟨a0, a1, a2, a3, a4, a5, a6, a7, a8, a9, a10, a11, a12, a13, a14, a15, a16, a17, a18, a19, a20, a21, a22, a23, a24, rfl⟩ := list25 s h
  exact rA_list _ _ _ _ _ _ _ _ _ _ _ _ _ _ _ _ _ _ _ _ _ _ _ _ _
theorem rB_eq {s : List L64} (h : s.length = 25) : rB (tr s) = tr (move s) := by
  obtain ⟨a0, a1, a2, a3, a4, a5, a6, a7, a8, a9, a10, a11, a12, a13, a14, a15, a16, a17, a18, a19, a20, a21, a22, a23, a24, rfl⟩ := list25 s h
  exact rB_list _ _ _ _ _ _ _ _ _ _ _ _ _ _ _ _ _ _ _ _ _ _ _ _ _
theorem rO_eq {s : List L64} (h : s.length = 25) : rO (tr s) = chi s := by
  obtain ⟨a0, a1, a2, a3, a4, a5, a6, a7, a8, a9, a10, a11, a12, a13, a14, a15, a16, a17, a18, a19, a20, a21, a22, a23, a24, rfl⟩ := list25 s h
  exact rO_list _ _ _ _ _ _ _ _ _ _ _ _ _ _ _ _ _ _ _ _ _ _ _ _ _

theorem fold_len {A : Type} (f : List L64 → A → List L64) (hf : ∀ s a, (f s a).length = s.length) (l : List A) (s : List L64) : (l.foldl f s).length = s.length := by
  induction l generalizing s with
  | nil => rfl
  | cons a l ih => rw [List.foldl_cons, ih, hf]
theorem thC_len (s : List L64) (k : Nat) : (thC s k).length = 5 := fold_len _ (fun c i => by simp [thC1]) _ _
theorem thS_len (c s : List L64) (k : Nat) : (thS c s k).length = s.length := fold_len _ (fun c i => by simp [thS1]) _ _
theorem theta_len (s : List L64) : (theta s).length = s.length := thS_len _ _ _
theorem mvS_len (s : List L64) (k : Nat) : (mvS s k).o.length = 25 := by
  unfold mvS
  have : ∀ (l : List Nat) (m : Mv), (l.foldl (mv1 s) m).o.length = m.o.length := by
    intro l
    induction l with
    | nil => intro m; rfl
    | cons a l ih => intro m; rw [List.foldl_cons, ih]; simp [mv1]
  rw [this]; simp [z25]
theorem move_len (s : List L64) : (move s).length = 25 := mvS_len _ _
theorem chS_len (s : List L64) (k : Nat) : (chS s k).length = s.length := fold_len _ (fun c i => by simp [ch1]) _ _
theorem chi_len (s : List L64) : (chi s).length = s.length := chS_len _ _
theorem core_len (s : List L64) : (core s).length = 25 := by unfold core; rw [chi_len, move_len]
theorem rnd_len (s : List L64) (n : Nat) : (rnd s n).length = 25 := by unfold rnd; rw [List.length_set, core_len]
theorem rnds_len {s : List L64} (h : s.length = 25) (k : Nat) : (rnds s k).length = 25 := by
  cases k with
  | zero => exact h
  | succ k => unfold rnds; rw [List.range_succ, List.foldl_append, List.foldl_cons, List.foldl_nil]; exact rnd_len _ _
theorem rnds_succ (s : List L64) (k : Nat) : rnds s (k + 1) = rnd (rnds s k) k := by unfold rnds; rw [List.range_succ, List.foldl_append, List.foldl_cons, List.foldl_nil]

theorem rM_zero : ∀ n : Fin 24, rM n.1 0#64 7 = mark n.1 := by decide +kernel
theorem rM_out (n : Nat) (o : L64) : ∀ k, rM n o k = o ^^^ rM n 0#64 k
  | 0 => by simp [rM]
  | k + 1 => by
    have e : ∀ o, rM n o (k + 1) = rm1 n (rM n o k) k := fun o => by unfold rM; rw [List.range_succ, List.foldl_append, List.foldl_cons, List.foldl_nil]
    rw [e, e, rM_out n o k]
    unfold rm1
    rw [BitVec.xor_assoc]

/-- Both rounds are one. -/
theorem rrnd_eq {s : List L64} (h : s.length = 25) (n : Nat) (hn : n < 24) : rrnd s n = rnd s n := by
  unfold rrnd rnd core
  rw [rA_eq h, rB_eq (by rw [theta_len, h]), rO_eq (move_len _), rM_out, rM_zero ⟨n, hn⟩]

/-- What the whole comes to out of nothing. -/
theorem perm_zero : perm z25 ≠ z25 ∧ rnd z25 0 = z25.set 0 1#64 := by
  constructor
  · decide +kernel
  · decide +kernel
end Go.Proofs.Ytpijnpapmdnceaa

namespace Go.Proofs.Ytpijnpapmdnceaa
open Go

/-- A column's sum. -/
def col (s : List L64) (x : Fin 5) : L64 := gl s x.1 ^^^ gl s (x.1 + 5) ^^^ gl s (x.1 + 10) ^^^ gl s (x.1 + 15) ^^^ gl s (x.1 + 20)
/-- What a column and its neighbours come to. -/
def qq (d : Fin 5) (r : Nat) (c : Fin 5 → L64) : Fin 5 → L64 := fun x => c x ^^^ c (x - d) ^^^ rot (c (x + d)) r

theorem bits_eq {a b : L64} (h : ∀ i, i < 64 → a.getLsbD i = b.getLsbD i) : a = b := BitVec.eq_of_getLsbD_eq h

theorem x6 (a b r b2 ra r2 : L64) : (a ^^^ b ^^^ r) ^^^ (b ^^^ b2 ^^^ ra) ^^^ (r ^^^ ra ^^^ r2) = a ^^^ b2 ^^^ r2 := by
  refine bits_eq fun i _ => ?_
  simp only [BitVec.getLsbD_xor]
  generalize a.getLsbD i = a
  generalize b.getLsbD i = b
  generalize r.getLsbD i = r
  generalize b2.getLsbD i = b2
  generalize ra.getLsbD i = ra
  generalize r2.getLsbD i = r2
  revert a b r b2 ra r2
  decide

theorem qq_qq (d : Fin 5) (r : Nat) (hr : r ≤ 32) (c : Fin 5 → L64) : qq d r (qq d r c) = qq (d + d) (2 * r) c := by
  funext x
  have h1 : x - d + d = x := by revert x d; decide
  have h2 : x + d - d = x := by revert x d; decide
  have h3 : x - d - d = x - (d + d) := by revert x d; decide
  have h4 : x + d + d = x + (d + d) := by revert x d; decide
  simp only [qq]
  rw [rot_xor _ _ _ (by omega), rot_xor _ _ _ (by omega), rot_rot _ _ hr, h1, h2, h3, h4]
  exact x6 _ _ _ _ _ _

theorem t3 (c : Fin 5 → L64) : qq 4 64 (qq 4 64 (qq 4 64 c)) = c := by
  funext x
  have h : ∀ (c : Fin 5 → L64) x, qq 4 64 c x = c x ^^^ c (x + 1) ^^^ c (x + 4) := fun c x => by
    have : x - 4 = x + 1 := by revert x; decide
    unfold qq
    rw [rot_64, this]
  simp only [h]
  have h1 : x + 1 + 1 = x + 2 := by revert x; decide
  have h2 : x + 1 + 4 = x := by revert x; decide
  have h3 : x + 4 + 1 = x := by revert x; decide
  have h4 : x + 4 + 4 = x + 3 := by revert x; decide
  have h5 : x + 2 + 1 = x + 3 := by revert x; decide
  have h6 : x + 2 + 4 = x + 1 := by revert x; decide
  have h7 : x + 3 + 1 = x + 4 := by revert x; decide
  have h8 : x + 3 + 4 = x + 2 := by revert x; decide
  simp only [h1, h2, h3, h4, h5, h6, h7, h8]
  generalize c x = a
  generalize c (x + 1) = b
  generalize c (x + 2) = d
  generalize c (x + 3) = e
  generalize c (x + 4) = f
  refine bits_eq fun i _ => ?_
  simp only [BitVec.getLsbD_xor]
  generalize a.getLsbD i = a
  generalize b.getLsbD i = b
  generalize d.getLsbD i = d
  generalize e.getLsbD i = e
  generalize f.getLsbD i = f
  revert a b d e f
  decide

theorem qq_inj {c c' : Fin 5 → L64} (h : qq 1 1 c = qq 1 1 c') : c = c' := by
  have up : ∀ (d : Fin 5) (r : Nat), r ≤ 32 → qq d r c = qq d r c' → qq (d + d) (2 * r) c = qq (d + d) (2 * r) c' := fun d r hr h => by
    rw [← qq_qq d r hr, ← qq_qq d r hr, h]
  have h1 := up 1 1 (by decide) h
  have h2 := up _ _ (by decide) h1
  have h3 := up _ _ (by decide) h2
  have h4 := up _ _ (by decide) h3
  have h5 := up _ _ (by decide) h4
  have h6 := up _ _ (by decide) h5
  have h7 : qq 4 64 c = qq 4 64 c' := h6
  rw [← t3 c, ← t3 c', h7]

theorem gl_set (s : List L64) (n i : Nat) (v : L64) (hn : n < s.length) : gl (s.set n v) i = if n = i then v else gl s i := by
  unfold gl
  rw [List.getD_eq_getElem?_getD, List.getD_eq_getElem?_getD]
  by_cases e : n = i
  · subst e; rw [if_pos rfl, List.getElem?_set_self hn]; rfl
  · rw [if_neg e, List.getElem?_set_ne e]

theorem fold_set (f : Nat → L64 → L64) (s : List L64) (i : Nat) : ∀ n, n ≤ s.length → gl ((List.range n).foldl (fun s i => s.set i (f i (gl s i))) s) i = if i < n then f i (gl s i) else gl s i
  | 0, _ => by simp
  | n + 1, h => by
    have hl : ((List.range n).foldl (fun s i => s.set i (f i (gl s i))) s).length = s.length := fold_len _ (fun s a => by simp) _ _
    rw [List.range_succ, List.foldl_append, List.foldl_cons, List.foldl_nil, gl_set _ _ _ _ (by rw [hl]; omega), fold_set f s i n (by omega)]
    by_cases e : n = i
    · subst e; rw [if_pos rfl, if_pos (by omega), fold_set f s n n (by omega), if_neg (by omega)]
    · rw [if_neg e]
      by_cases h2 : i < n
      · rw [if_pos h2, if_pos (by omega)]
      · rw [if_neg h2, if_neg (by omega)]

theorem thC_list (a0 a1 a2 a3 a4 a5 a6 a7 a8 a9 a10 a11 a12 a13 a14 a15 a16 a17 a18 a19 a20 a21 a22 a23 a24 : L64) : thC [a0, a1, a2, a3, a4, a5, a6, a7, a8, a9, a10, a11, a12, a13, a14, a15, a16, a17, a18, a19, a20, a21, a22, a23, a24] 25 = [0#64 ^^^ a0 ^^^ a5 ^^^ a10 ^^^ a15 ^^^ a20, 0#64 ^^^ a1 ^^^ a6 ^^^ a11 ^^^ a16 ^^^ a21, 0#64 ^^^ a2 ^^^ a7 ^^^ a12 ^^^ a17 ^^^ a22, 0#64 ^^^ a3 ^^^ a8 ^^^ a13 ^^^ a18 ^^^ a23, 0#64 ^^^ a4 ^^^ a9 ^^^ a14 ^^^ a19 ^^^ a24] := by kernel_rfl

theorem thC_at {s : List L64} (h : s.length = 25) (x : Nat) (hx : x < 5) : gl (thC s 25) x = col s ⟨x, hx⟩ := by
  obtain ⟨a0, a1, a2, a3, a4, a5, a6, a7, a8, a9, a10, a11, a12, a13, a14, a15, a16, a17, a18, a19, a20, a21, a22, a23, a24, rfl⟩ := list25 s h
  rw [thC_list]
  simp only [BitVec.zero_xor]
  match x, hx with
  | 0, _ => rfl
  | 1, _ => rfl
  | 2, _ => rfl
  | 3, _ => rfl
  | 4, _ => rfl

theorem theta_at {s : List L64} (h : s.length = 25) (i : Nat) (hi : i < 25) : gl (theta s) i = gl s i ^^^ (col s ⟨(i % 5 + 4) % 5, Nat.mod_lt _ (by decide)⟩ ^^^ rot (col s ⟨(i % 5 + 1) % 5, Nat.mod_lt _ (by decide)⟩) 1) := by
  have := fold_set (fun i v => v ^^^ (gl (thC s 25) ((i % 5 + 4) % 5) ^^^ rot (gl (thC s 25) ((i % 5 + 1) % 5)) 1)) s i 25 (by omega)
  rw [if_pos hi, thC_at h _ (Nat.mod_lt _ (by decide)), thC_at h _ (Nat.mod_lt _ (by decide))] at this
  exact this

theorem x10 (s0 s1 s2 s3 s4 p q : L64) : (s0 ^^^ (p ^^^ q)) ^^^ (s1 ^^^ (p ^^^ q)) ^^^ (s2 ^^^ (p ^^^ q)) ^^^ (s3 ^^^ (p ^^^ q)) ^^^ (s4 ^^^ (p ^^^ q)) = (s0 ^^^ s1 ^^^ s2 ^^^ s3 ^^^ s4) ^^^ p ^^^ q := by
  refine bits_eq fun i _ => ?_
  simp only [BitVec.getLsbD_xor]
  generalize s0.getLsbD i = s0
  generalize s1.getLsbD i = s1
  generalize s2.getLsbD i = s2
  generalize s3.getLsbD i = s3
  generalize s4.getLsbD i = s4
  generalize p.getLsbD i = p
  generalize q.getLsbD i = q
  revert s0 s1 s2 s3 s4 p q
  decide

theorem col_theta {s : List L64} (h : s.length = 25) : col (theta s) = qq 1 1 (col s) := by
  funext x
  have one : ∀ k, k < 5 → gl (theta s) (x.1 + 5 * k) = gl s (x.1 + 5 * k) ^^^ (col s (x - 1) ^^^ rot (col s (x + 1)) 1) := fun k hk => by
    rw [theta_at h _ (by omega)]
    have e1 : (⟨((x.1 + 5 * k) % 5 + 4) % 5, Nat.mod_lt _ (by decide)⟩ : Fin 5) = x - 1 := by
      rw [Nat.add_mul_mod_self_left]; revert x; decide
    have e2 : (⟨((x.1 + 5 * k) % 5 + 1) % 5, Nat.mod_lt _ (by decide)⟩ : Fin 5) = x + 1 := by
      clear e1
      rw [Nat.add_mul_mod_self_left]; revert x; decide
    rw [e1, e2]
  have g0 := one 0 (by decide)
  have g1 := one 1 (by decide)
  have g2 := one 2 (by decide)
  have g3 := one 3 (by decide)
  have g4 := one 4 (by decide)
  simp only [Nat.mul_zero, Nat.add_zero, Nat.mul_one, Nat.reduceMul] at g0 g1 g2 g3 g4
  show gl (theta s) x.1 ^^^ gl (theta s) (x.1 + 5) ^^^ gl (theta s) (x.1 + 10) ^^^ gl (theta s) (x.1 + 15) ^^^ gl (theta s) (x.1 + 20) = _
  rw [g0, g1, g2, g3, g4]
  exact x10 _ _ _ _ _ _ _

theorem gl_ext {s t : List L64} (h : s.length = 25) (h' : t.length = 25) (hh : ∀ i, i < 25 → gl s i = gl t i) : s = t := by
  refine List.ext_getElem (by rw [h, h']) fun i h1 h2 => ?_
  have := hh i (by omega)
  unfold gl at this
  rw [List.getD_eq_getElem?_getD, List.getD_eq_getElem?_getD, List.getElem?_eq_getElem h1, List.getElem?_eq_getElem h2] at this
  exact this

theorem theta_inj {s t : List L64} (h : s.length = 25) (h' : t.length = 25) (hh : theta s = theta t) : s = t := by
  have hc : col s = col t := qq_inj (by rw [← col_theta h, ← col_theta h', hh])
  refine gl_ext h h' fun i hi => ?_
  have e := congrArg (fun u => gl u i) hh
  try dsimp only at e
  rw [theta_at h i hi, theta_at h' i hi, hc] at e
  exact (BitVec.xor_left_inj _).1 e

theorem move_list (a0 a1 a2 a3 a4 a5 a6 a7 a8 a9 a10 a11 a12 a13 a14 a15 a16 a17 a18 a19 a20 a21 a22 a23 a24 : L64) : move [a0, a1, a2, a3, a4, a5, a6, a7, a8, a9, a10, a11, a12, a13, a14, a15, a16, a17, a18, a19, a20, a21, a22, a23, a24] = [a0, rot a6 44, rot a12 43, rot a18 21, rot a24 14, rot a3 28, rot a9 20, rot a10 3, rot a16 45, rot a22 61, rot a1 1, rot a7 6, rot a13 25, rot a19 8, rot a20 18, rot a4 27, rot a5 36, rot a11 10, rot a17 15, rot a23 56, rot a2 62, rot a8 55, rot a14 39, rot a15 41, rot a21 2] := by kernel_rfl

theorem move_inj {s t : List L64} (h : s.length = 25) (h' : t.length = 25) (hh : move s = move t) : s = t := by
  obtain ⟨a0, a1, a2, a3, a4, a5, a6, a7, a8, a9, a10, a11, a12, a13, a14, a15, a16, a17, a18, a19, a20, a21, a22, a23, a24, rfl⟩ := list25 s h
  obtain ⟨b0, b1, b2, b3, b4, b5, b6, b7, b8, b9, b10, b11, b12, b13, b14, b15, b16, b17, b18, b19, b20, b21, b22, b23, b24, rfl⟩ := list25 t h'
  rw [move_list, move_list] at hh
  simp only [List.cons.injEq, and_true] at hh
  obtain ⟨h0, h1, h2, h3, h4, h5, h6, h7, h8, h9, h10, h11, h12, h13, h14, h15, h16, h17, h18, h19, h20, h21, h22, h23, h24⟩ := hh
  rw [h0, rot_inj _ _ _ (by decide) h10, rot_inj _ _ _ (by decide) h20, rot_inj _ _ _ (by decide) h5, rot_inj _ _ _ (by decide) h15, rot_inj _ _ _ (by decide) h16, rot_inj _ _ _ (by decide) h1, rot_inj _ _ _ (by decide) h11, rot_inj _ _ _ (by decide) h21, rot_inj _ _ _ (by decide) h6, rot_inj _ _ _ (by decide) h7, rot_inj _ _ _ (by decide) h17, rot_inj _ _ _ (by decide) h2, rot_inj _ _ _ (by decide) h12, rot_inj _ _ _ (by decide) h22, rot_inj _ _ _ (by decide) h23, rot_inj _ _ _ (by decide) h8, rot_inj _ _ _ (by decide) h18, rot_inj _ _ _ (by decide) h3, rot_inj _ _ _ (by decide) h13, rot_inj _ _ _ (by decide) h14, rot_inj _ _ _ (by decide) h24, rot_inj _ _ _ (by decide) h9, rot_inj _ _ _ (by decide) h19, rot_inj _ _ _ (by decide) h4]

theorem chi_list (a0 a1 a2 a3 a4 a5 a6 a7 a8 a9 a10 a11 a12 a13 a14 a15 a16 a17 a18 a19 a20 a21 a22 a23 a24 : L64) : chi [a0, a1, a2, a3, a4, a5, a6, a7, a8, a9, a10, a11, a12, a13, a14, a15, a16, a17, a18, a19, a20, a21, a22, a23, a24] = [a0 ^^^ (a2 &&& ~~~ a1), a1 ^^^ (a3 &&& ~~~ a2), a2 ^^^ (a4 &&& ~~~ a3), a3 ^^^ (a0 &&& ~~~ a4), a4 ^^^ (a1 &&& ~~~ a0), a5 ^^^ (a7 &&& ~~~ a6), a6 ^^^ (a8 &&& ~~~ a7), a7 ^^^ (a9 &&& ~~~ a8), a8 ^^^ (a5 &&& ~~~ a9), a9 ^^^ (a6 &&& ~~~ a5), a10 ^^^ (a12 &&& ~~~ a11), a11 ^^^ (a13 &&& ~~~ a12), a12 ^^^ (a14 &&& ~~~ a13), a13 ^^^ (a10 &&& ~~~ a14), a14 ^^^ (a11 &&& ~~~ a10), a15 ^^^ (a17 &&& ~~~ a16), a16 ^^^ (a18 &&& ~~~ a17), a17 ^^^ (a19 &&& ~~~ a18), a18 ^^^ (a15 &&& ~~~ a19), a19 ^^^ (a16 &&& ~~~ a15), a20 ^^^ (a22 &&& ~~~ a21), a21 ^^^ (a23 &&& ~~~ a22), a22 ^^^ (a24 &&& ~~~ a23), a23 ^^^ (a20 &&& ~~~ a24), a24 ^^^ (a21 &&& ~~~ a20)] := by kernel_rfl

theorem row_bits : ∀ a b c d e : Bool, ∀ a' b' c' d' e' : Bool, (a ^^ (c && !b)) = (a' ^^ (c' && !b')) → (b ^^ (d && !c)) = (b' ^^ (d' && !c')) → (c ^^ (e && !d)) = (c' ^^ (e' && !d')) → (d ^^ (a && !e)) = (d' ^^ (a' && !e')) → (e ^^ (b && !a)) = (e' ^^ (b' && !a')) → a = a' ∧ b = b' ∧ c = c' ∧ d = d' ∧ e = e' := by decide +kernel

theorem row_inj {a b c d e a' b' c' d' e' : L64} (h0 : a ^^^ (c &&& ~~~ b) = a' ^^^ (c' &&& ~~~ b')) (h1 : b ^^^ (d &&& ~~~ c) = b' ^^^ (d' &&& ~~~ c')) (h2 : c ^^^ (e &&& ~~~ d) = c' ^^^ (e' &&& ~~~ d')) (h3 : d ^^^ (a &&& ~~~ e) = d' ^^^ (a' &&& ~~~ e')) (h4 : e ^^^ (b &&& ~~~ a) = e' ^^^ (b' &&& ~~~ a')) :
    a = a' ∧ b = b' ∧ c = c' ∧ d = d' ∧ e = e' := by
  have key : ∀ i, i < 64 → a.getLsbD i = a'.getLsbD i ∧ b.getLsbD i = b'.getLsbD i ∧ c.getLsbD i = c'.getLsbD i ∧ d.getLsbD i = d'.getLsbD i ∧ e.getLsbD i = e'.getLsbD i := fun i hi => by
    have g0 := congrArg (fun u => BitVec.getLsbD u i) h0
    have g1 := congrArg (fun u => BitVec.getLsbD u i) h1
    have g2 := congrArg (fun u => BitVec.getLsbD u i) h2
    have g3 := congrArg (fun u => BitVec.getLsbD u i) h3
    have g4 := congrArg (fun u => BitVec.getLsbD u i) h4
    simp only [BitVec.getLsbD_xor, BitVec.getLsbD_and, BitVec.getLsbD_not, hi, decide_true, Bool.true_and] at g0 g1 g2 g3 g4
    exact row_bits _ _ _ _ _ _ _ _ _ _ g0 g1 g2 g3 g4
  exact ⟨bits_eq fun i hi => (key i hi).1, bits_eq fun i hi => (key i hi).2.1, bits_eq fun i hi => (key i hi).2.2.1, bits_eq fun i hi => (key i hi).2.2.2.1, bits_eq fun i hi => (key i hi).2.2.2.2⟩

theorem chi_inj {s t : List L64} (h : s.length = 25) (h' : t.length = 25) (hh : chi s = chi t) : s = t := by
  obtain ⟨a0, a1, a2, a3, a4, a5, a6, a7, a8, a9, a10, a11, a12, a13, a14, a15, a16, a17, a18, a19, a20, a21, a22, a23, a24, rfl⟩ := list25 s h
  obtain ⟨b0, b1, b2, b3, b4, b5, b6, b7, b8, b9, b10, b11, b12, b13, b14, b15, b16, b17, b18, b19, b20, b21, b22, b23, b24, rfl⟩ := list25 t h'
  rw [chi_list, chi_list] at hh
  simp only [List.cons.injEq, and_true] at hh
  obtain ⟨h0, h1, h2, h3, h4, h5, h6, h7, h8, h9, h10, h11, h12, h13, h14, h15, h16, h17, h18, h19, h20, h21, h22, h23, h24⟩ := hh
  obtain ⟨rfl, rfl, rfl, rfl, rfl⟩ := row_inj h0 h1 h2 h3 h4
  obtain ⟨rfl, rfl, rfl, rfl, rfl⟩ := row_inj h5 h6 h7 h8 h9
  obtain ⟨rfl, rfl, rfl, rfl, rfl⟩ := row_inj h10 h11 h12 h13 h14
  obtain ⟨rfl, rfl, rfl, rfl, rfl⟩ := row_inj h15 h16 h17 h18 h19
  obtain ⟨rfl, rfl, rfl, rfl, rfl⟩ := row_inj h20 h21 h22 h23 h24
  rfl

theorem core_inj {s t : List L64} (h : s.length = 25) (h' : t.length = 25) (hh : core s = core t) : s = t :=
  theta_inj h h' (move_inj (by rw [theta_len, h]) (by rw [theta_len, h']) (chi_inj (move_len _) (move_len _) hh))

theorem rnd_inj {s t : List L64} (h : s.length = 25) (h' : t.length = 25) (n : Nat) (hh : rnd s n = rnd t n) : s = t := by
  refine core_inj h h' (gl_ext (core_len _) (core_len _) fun i hi => ?_)
  have e := congrArg (fun u => gl u i) hh
  simp only [rnd] at e
  rw [gl_set _ _ _ _ (by rw [core_len]; decide), gl_set _ _ _ _ (by rw [core_len]; decide)] at e
  by_cases h0 : 0 = i
  · subst h0
    rw [if_pos rfl, if_pos rfl] at e
    exact (BitVec.xor_left_inj _).1 e
  · rw [if_neg h0, if_neg h0] at e
    exact e

theorem rnds_inj {s t : List L64} (h : s.length = 25) (h' : t.length = 25) : ∀ k, rnds s k = rnds t k → s = t
  | 0, hh => hh
  | k + 1, hh => rnds_inj h h' k (by
    rw [rnds_succ, rnds_succ] at hh
    exact rnd_inj (rnds_len h k) (rnds_len h' k) k hh)
theorem perm_inj {s t : List L64} (h : s.length = 25) (h' : t.length = 25) (hh : perm s = perm t) : s = t := rnds_inj h h' 24 hh
end Go.Proofs.Ytpijnpapmdnceaa

namespace Go.Proofs.Ytpijnpapmdnceaa
open Go Go.RowKit

theorem wrap_u64 (n : Int) : IntKind.u64.wrap n = n % 18446744073709551616 := by simp [IntKind.wrap, IntKind.bits, IntKind.signed]
theorem of_lane (a : L64) : BitVec.ofInt 64 (a.toNat : Int) = a := by rw [BitVec.ofInt_natCast, BitVec.ofNat_toNat]; simp
theorem wrap_lane (a : L64) : IntKind.u64.wrap (a.toNat : Int) = (a.toNat : Int) := by rw [wrap_u64]; have := a.isLt; omega
theorem xor_val (a b : L64) : bits .xor .u64 (a.toNat : Int) (b.toNat : Int) = ((a ^^^ b).toNat : Int) := by
  show IntKind.u64.wrap ((BitVec.ofInt 64 (a.toNat : Int) ^^^ BitVec.ofInt 64 (b.toNat : Int)).toNat : Int) = _
  rw [of_lane, of_lane, wrap_lane]
theorem or_val (a b : L64) : bits .or .u64 (a.toNat : Int) (b.toNat : Int) = ((a ||| b).toNat : Int) := by
  show IntKind.u64.wrap ((BitVec.ofInt 64 (a.toNat : Int) ||| BitVec.ofInt 64 (b.toNat : Int)).toNat : Int) = _
  rw [of_lane, of_lane, wrap_lane]
theorem and_val (a b : L64) : bits .and .u64 (a.toNat : Int) (b.toNat : Int) = ((a &&& b).toNat : Int) := by
  show IntKind.u64.wrap ((BitVec.ofInt 64 (a.toNat : Int) &&& BitVec.ofInt 64 (b.toNat : Int)).toNat : Int) = _
  rw [of_lane, of_lane, wrap_lane]
theorem andNot_val (a b : L64) : bits .andNot .u64 (a.toNat : Int) (b.toNat : Int) = ((a &&& ~~~ b).toNat : Int) := by
  show IntKind.u64.wrap ((BitVec.ofInt 64 (a.toNat : Int) &&& ~~~ BitVec.ofInt 64 (b.toNat : Int)).toNat : Int) = _
  rw [of_lane, of_lane, wrap_lane]
theorem shl_val (a : L64) (n : Nat) : IntKind.u64.wrap ((a.toNat : Int) * 2 ^ n) = ((a <<< n).toNat : Int) := by
  rw [wrap_u64, BitVec.toNat_shiftLeft, Nat.shiftLeft_eq, Int.natCast_emod, Int.natCast_mul, Int.natCast_pow]
  rfl
theorem shr_val (a : L64) (n : Nat) : (a.toNat : Int) / 2 ^ n = ((a >>> n).toNat : Int) := by
  rw [BitVec.toNat_ushiftRight, Nat.shiftRight_eq_div_pow, Int.natCast_ediv, Int.natCast_pow]
  rfl
theorem and63 (n : Nat) (hn : n < 64) : bits .and .u64 (n : Int) 63 = (n : Int) := by
  have h : ∀ k : Fin 64, bits .and .u64 ((k.1 : Nat) : Int) 63 = ((k.1 : Nat) : Int) := by decide
  exact h ⟨n, hn⟩
theorem rot_val (a : L64) (n : Nat) : bits .or .u64 (IntKind.u64.wrap ((a.toNat : Int) * 2 ^ n)) ((a.toNat : Int) / 2 ^ (64 - n)) = ((rot a n).toNat : Int) := by
  rw [shl_val, shr_val, or_val]; rfl

theorem at_any (x y : Nat) (w : World) (hx : x ≤ 100) (hy : y ≤ 100) :
    Calls Try.prog 55 #[.int .i64 x, .int .i64 y] w fun e w' => e = .returned (.int .i64 ((x % 5 + 5 * (y % 5) : Nat) : Int)) ∧ w = w' := by
  go_enter Try.func55, Try.ntmps55
  go_wp2
  go_ret
  exact ⟨rfl, rfl⟩

theorem rot_any (a : L64) (n : Nat) (hn : n < 64) (w : World) :
    Calls Try.prog 56 #[.int .u64 (a.toNat : Int), .int .i64 (n : Int)] w fun e w' => e = .returned (.int .u64 ((rot a n).toNat : Int)) ∧ w = w' := by
  have e1 : bits .and .u64 (n : Int) 63 = (n : Int) := and63 n hn
  have b1 : (0 : Int) ≤ (n : Int) := by omega
  have b2 : (n : Int) ≤ 63 := by omega
  go_enter Try.func56, Try.ntmps56
  go_wp2
  go_ret
  exact ⟨by rw [← rot_val a n]; rfl, rfl⟩

theorem turned_any (a : L64) (n : Nat) (hn : n < 64) (w : World) :
    Calls Try.prog 52 #[.int .u64 (a.toNat : Int), .int .i64 (n : Int)] w fun e w' => e = .returned (.int .u64 ((rot a n).toNat : Int)) ∧ w = w' := by
  by_cases h0 : n = 0
  · subst h0
    have e := hid (rot_0 a)
    go_enter Try.func52, Try.ntmps52
    go_wp2
    go_ret
    exact ⟨by rw [e.out]; rfl, rfl⟩
  · have b1 : (0 : Int) ≤ (n : Int) := by omega
    have b2 : (n : Int) ≤ 63 := by omega
    have h1 : ((n : Int) == 0) = false := by simp [h0]
    go_enter Try.func52, Try.ntmps52
    go_wp2
    go_ret
    exact ⟨by rw [← rot_val a n]; rfl, rfl⟩
end Go.Proofs.Ytpijnpapmdnceaa

namespace Go.Proofs.Ytpijnpapmdnceaa
open Go Go.RowKit

/-- A state's cells. -/
def stv (s : List L64) : List Value := s.map fun a => .int .u64 (a.toNat : Int)
/-- Block b holds these lanes. -/
def RowL (w : World) (b T : Nat) (s : List L64) : Prop := w.heap[b]? = some (.cells (stv s).toArray T (0, 0))

theorem stv_len (s : List L64) : (stv s).length = s.length := by simp [stv]
theorem stv_get (s : List L64) (i : Nat) (h : i < s.length) : (stv s)[i]? = some (.int .u64 ((gl s i).toNat : Int)) := by
  simp [stv, gl, h]
theorem stv_set (s : List L64) (i : Nat) (a : L64) : (stv s).set i (.int .u64 (a.toNat : Int)) = stv (s.set i a) := by
  simp [stv, List.map_set]
theorem stv_one (s : List L64) : ((stv s).toArray).all (·.oneCell') = true := by
  rw [Array.all_eq_true_iff_forall_mem]
  intro v hv
  simp only [stv, List.mem_toArray, List.mem_map] at hv
  obtain ⟨a, _, rfl⟩ := hv
  rfl
theorem stv_inj : ∀ {s t : List L64}, stv s = stv t → s = t
  | [], [], _ => rfl
  | a :: s, b :: t, h => by
    simp only [stv, List.map_cons, List.cons.injEq, Value.int.injEq, true_and] at h
    have h1 : a = b := BitVec.eq_of_toNat_eq (by omega)
    rw [h1, stv_inj h.2]

theorem Try.infoS : (Try.prog.info? 28).map (·.size) = some 25 := by kernel_rfl
theorem Try.infoC : (Try.prog.info? 78).map (·.size) = some 5 := by kernel_rfl

section
variable {w w' : World} {b T : Nat} {s : List L64}
theorem RowL.lt (h : RowL w b T s) : b < w.heap.size := lt_of_heap h
theorem RowL.cell (h : RowL w b T s) (i : Nat) (hi : i < s.length) : w.cell? ⟨b, i, none⟩ = some (.int .u64 ((gl s i).toNat : Int)) := by
  rw [cell_of_row w b i _ _ _ h, List.getElem?_toArray]; exact stv_get s i hi
theorem RowL.fro (h : RowL w b T s) (i : Nat) : w.frozen? ⟨b, i, none⟩ = false := frozen_of_row w b i _ _ h
theorem RowL.set (h : RowL w b T s) (i : Nat) (a : L64) : RowL (w.setCell ⟨b, i, none⟩ (.int .u64 (a.toNat : Int))) b T (s.set i a) := by
  have := heap_setCell_same w b i _ T (.int .u64 (a.toNat : Int)) h
  rw [List.setIfInBounds_toArray, stv_set] at this
  exact this
theorem RowL.other (h : RowL w b T s) (a : Addr) (v : Value) (hne : b ≠ a.block) : RowL (w.setCell a v) b T s := (heap_setCell_other w a b v hne).trans h
theorem RowL.keep {F : Nat → Prop} (h : RowL w b T s) (hK : Keep F w w') (hF : ¬ F b) : RowL w' b T s := (hK.block b h.lt hF).trans h
theorem RowL.row {s' : List L64} (h : RowL w b T s) : RowL (w.setRow b (stv s').toArray) b T s' := setRow_heap w b _ _ T _ h
theorem RowL.otherRow (h : RowL w b T s) (g : Nat) (cs : Array Value) (hne : b ≠ g) : RowL (w.setRow g cs) b T s := (setRow_other w g b cs hne).trans h
end

theorem Try.sizeL : (Try.prog.info? 27).map (·.size) = some 1 := by kernel_rfl
theorem run_index_L (s : List L64) (hs : s.length = 25) (k : Nat) (hk : k < 25) (w : World) : (Instr.index 28 (.agg (stv s).toArray) (.int .i64 (k : Int))).run Try.prog w = .ok (.int .u64 ((gl s k).toNat : Int)) w := by
  obtain ⟨i, hi, h1⟩ : ∃ i, Try.prog.info? 27 = some i ∧ i.size = 1 := by
    have := Try.sizeL
    cases h : Try.prog.info? 27 with
    | none => rw [h] at this; cases this
    | some i => rw [h] at this; exact ⟨i, rfl, by simpa using this⟩
  have hg : (stv s).toArray[k]? = some (.int .u64 ((gl s k).toNat : Int)) := by rw [List.getElem?_toArray]; exact stv_get s k (by omega)
  have hp := run_part_plain (P := Try.prog) w (e := 27) (by kernel_rfl) hg
  have hz := run_sizeOf (P := Try.prog) w hi
  have hk2 : (0 : Int) ≤ (k : Int) ∧ (k : Int) < 25 := by omega
  have hc : Try.prog.cellsOf 27 = 1 := by kernel_rfl
  rw [hc] at hz
  simp only [Instr.index, asIntOf, Sem.run_bind, Sem.run_pure, Result.andThen_ok, run_underlying Try.underlying28]
  rw [if_pos (by exact hk2)]
  simp only [Sem.run_bind, hz, Result.andThen_ok, Int.toNat_natCast, Nat.mul_one]
  exact hp

section
variable {ops : Array Oper} {rest : List Oper} {o : Oper} {a : Act} {w : World} {K : Act → World → Prop} {Q : Exit → Act → World → Prop}
theorem wp_ld (x : Operand) (ho : o.op = .load 28 x) (g : Nat) (hx : a.eval x = .pointer (some ⟨g, 0, none⟩)) (s : List L64) (hs : s.length = 25) (hg : RowL w g 28 s)
    (h : K (a.put o.dst (.agg (stv s).toArray)) w) : o.wp Try.prog a w K Q :=
  wp_load_row _ x ho g hx _ _ _ _ hg Try.underlying28 rfl (by rw [Try.infoS]; simp [stv_len, hs]) h
theorem wpList_ld (x : Operand) (hgd : o.guard = none) (ho : o.op = .load 28 x) (g : Nat) (hx : a.eval x = .pointer (some ⟨g, 0, none⟩)) (s : List L64) (hs : s.length = 25) (hg : RowL w g 28 s)
    (h : wpList Try.prog ops Q rest (a.put o.dst (.agg (stv s).toArray)) w) : wpList Try.prog ops Q (o :: rest) a w :=
  wpList_load_row hgd _ x ho g hx _ _ _ _ hg Try.underlying28 rfl (by rw [Try.infoS]; simp [stv_len, hs]) h
theorem wp_st (x y : Operand) (ho : o.op = .store 28 x y) (g : Nat) (hx : a.eval x = .pointer (some ⟨g, 0, none⟩)) (s : List L64) (hs : s.length = 25) (hy : a.eval y = .agg (stv s).toArray) (u : List L64) (hu : u.length = 25) (hg : RowL w g 28 u)
    (h : K (a.put o.dst undef) (w.setRow g (stv s).toArray)) : o.wp Try.prog a w K Q :=
  wp_store_row _ x y ho g _ hx hy _ _ hg (by rw [Try.infoS]; simp [stv_len, hs]) (by simp [stv_len, hs, hu]) (stv_one s) h
theorem wpList_st (x y : Operand) (hgd : o.guard = none) (ho : o.op = .store 28 x y) (g : Nat) (hx : a.eval x = .pointer (some ⟨g, 0, none⟩)) (s : List L64) (hs : s.length = 25) (hy : a.eval y = .agg (stv s).toArray) (u : List L64) (hu : u.length = 25) (hg : RowL w g 28 u)
    (h : wpList Try.prog ops Q rest (a.put o.dst undef) (w.setRow g (stv s).toArray)) : wpList Try.prog ops Q (o :: rest) a w :=
  wpList_store_row hgd _ x y ho g _ hx hy _ _ hg (by rw [Try.infoS]; simp [stv_len, hs]) (by simp [stv_len, hs, hu]) (stv_one s) h
end

theorem res_cell {fn : Func} {p : Nat} {g : Nat} {s : List L64} (h : fn.results = #[.cell p 28]) (tmps : Array Value) (w : World) (hs : s.length = 25) (hp : tmps.getD p undef = .pointer (some ⟨g, 0, none⟩)) (hg : RowL w g 28 s) :
    (results fn tmps).run Try.prog w = .ok (.agg (stv s).toArray) w :=
  results_cell_row h tmps w g _ _ _ _ hp hg Try.underlying28 rfl (by rw [Try.infoS]; simp [stv_len, hs])
theorem Keep.setRow {F : Nat → Prop} {a w : World} (h : Keep F a w) {g : Nat} (hg : a.heap.size ≤ g) (cs : Array Value) : Keep F a (w.setRow g cs) := by
  obtain ⟨h1, h2, h3, h4, h5⟩ := h
  refine ⟨h1, h2, h3, by rw [size_setRow]; exact h4, fun i hi hf => (setRow_other w g i cs (by omega)).trans (h5 i hi hf)⟩

theorem Keep.setRowOwn {F : Nat → Prop} {a w : World} (h : Keep F a w) {g : Nat} (hg : F g) (cs : Array Value) : Keep F a (w.setRow g cs) := by
  obtain ⟨h1, h2, h3, h4, h5⟩ := h
  refine ⟨h1, h2, h3, by rw [size_setRow]; exact h4, fun i hi hf => (setRow_other w g i cs (fun e => hf (e ▸ hg))).trans (h5 i hi hf)⟩

theorem boxes3 (w : World) (A B C : List L64) (a b c : Nat) :
    RowL (((w.alloc (.cells (stv A).toArray a)).alloc (.cells (stv B).toArray b)).alloc (.cells (stv C).toArray c)) w.heap.size a A ∧
    RowL (((w.alloc (.cells (stv A).toArray a)).alloc (.cells (stv B).toArray b)).alloc (.cells (stv C).toArray c)) (w.heap.size + 1) b B ∧
    RowL (((w.alloc (.cells (stv A).toArray a)).alloc (.cells (stv B).toArray b)).alloc (.cells (stv C).toArray c)) (w.heap.size + 1 + 1) c C ∧
    Keep (fun _ => False) w (((w.alloc (.cells (stv A).toArray a)).alloc (.cells (stv B).toArray b)).alloc (.cells (stv C).toArray c)) := by
  have e1 : RowL (w.alloc (.cells (stv A).toArray a)) w.heap.size a A := heap_alloc_new w _
  have e2 : RowL ((w.alloc (.cells (stv A).toArray a)).alloc (.cells (stv B).toArray b)) (w.heap.size + 1) b B := by
    have := heap_alloc_new (w.alloc (.cells (stv A).toArray a)) (.cells (stv B).toArray b)
    rw [World.size_alloc] at this; exact this
  have e3 : RowL (((w.alloc (.cells (stv A).toArray a)).alloc (.cells (stv B).toArray b)).alloc (.cells (stv C).toArray c)) (w.heap.size + 1 + 1) c C := by
    have := heap_alloc_new ((w.alloc (.cells (stv A).toArray a)).alloc (.cells (stv B).toArray b)) (.cells (stv C).toArray c)
    rw [World.size_alloc, World.size_alloc] at this; exact this
  exact ⟨(e1.keep ((Keep.refl (fun _ => False) _).alloc _) (fun h => h)).keep ((Keep.refl (fun _ => False) _).alloc _) (fun h => h), e2.keep ((Keep.refl (fun _ => False) _).alloc _) (fun h => h), e3, (((Keep.refl _ _).alloc _).alloc _).alloc _⟩

theorem wrap64_in (n : Int) (h1 : -9223372036854775808 ≤ n) (h2 : n ≤ 9223372036854775807) : IntKind.i64.wrap n = n := IntWalk.i64_in n ⟨h1, h2⟩

/-- Two states are one. -/
structure Is (s t : List L64) : Prop where
  eq : s = t

/-- The columns' sums. -/
structure IsC (s c : List L64) : Prop where
  eq : thC s 25 = c

theorem thC_succ (s : List L64) (k : Nat) : thC s (k + 1) = (thC s k).set (k % 5) (gl (thC s k) (k % 5) ^^^ gl s k) := by
  unfold thC; rw [List.range_succ, List.foldl_append, List.foldl_cons, List.foldl_nil]; rfl
theorem thS_succ (c s : List L64) (k : Nat) : thS c s (k + 1) = (thS c s k).set k (gl (thS c s k) k ^^^ (gl c ((k % 5 + 4) % 5) ^^^ rot (gl c ((k % 5 + 1) % 5)) 1)) := by
  unfold thS; rw [List.range_succ, List.foldl_append, List.foldl_cons, List.foldl_nil]; rfl

set_option maxRecDepth 10000 in
set_option maxHeartbeats 2000000 in
theorem theta_any (s : List L64) (hs : s.length = 25) (w : World) :
    Calls Try.prog 49 #[.agg (stv s).toArray] w fun e w' => e = .returned (.agg (stv (theta s)).toArray) ∧ Keep (fun _ => False) w w' := by
  have r1 : RowL (w.alloc (.cells (stv s).toArray 28)) w.heap.size 28 s := heap_alloc_new w _
  go_enter Try.func49, Try.ntmps49
  go_wp2_with (with_reducible refine wpList_ld (.tmp 1) rfl rfl _ rfl s hs (RowL.keep r1 (((Keep.refl (fun _ => False) _).alloc _).alloc _) (fun h => h)) ?_)
  obtain ⟨q1, q2, q3, kk⟩ := boxes3 w s z25 z5 28 28 78
  have q1 := hid q1
  have q2 := hid q2
  have q3 := hid q3
  have kk := hid kk
  clear r1
  go_loopw [9] (fun i wr => ∃ k : Nat, k ≤ 25 ∧ i = .int .i64 k ∧ RowL wr w.heap.size 28 s ∧ RowL wr (w.heap.size + 1) 28 z25 ∧ RowL wr (w.heap.size + 1 + 1) 78 (thC s k) ∧ Keep (fun _ => False) w wr) (fun i _ => 25 - (intOf i).toNat)
  case atStart => exact ⟨0, Nat.zero_le _, rfl, q1.out, q2.out, q3.out, kk.out⟩
  case round =>
    obtain ⟨k, hk, rfl, h1, h2, h3, hK⟩ := hrel
    clear q1 q2 q3 kk
    have H1 := hid h1
    have H2 := hid h2
    have H3 := hid h3
    have HK := hid hK
    clear h1 h2 hK
    by_cases hlt : k < 25
    · have ix := run_index_L s hs k hlt
      have c3 := h3.cell (k % 5) (by rw [thC_len]; omega)
      have f3 := h3.fro (k % 5)
      have TS := hid (thC_succ s k)
      have X := hid (xor_val (gl (thC s k) (k % 5)) (gl s k))
      clear h3
      go_wp2
      go_roundw
      case rel => exact ⟨k + 1, by omega, by go_num, H1.out.other _ _ (by dsimp only; omega), H2.out.other _ _ (by dsimp only; omega), by rw [TS.out, X.out]; exact H3.out.set _ _, HK.out.setCell (.inr (by dsimp only; omega)) _⟩
      case measure => simp [intOf]; omega
    · have hk25 : k = 25 := by omega
      obtain ⟨c, hc⟩ : ∃ c, thC s k = c := ⟨_, rfl⟩
      have hcl : c.length = 5 := by rw [← hc, thC_len]
      rw [hc] at H3
      have CC : IsC s c := ⟨by rw [← hc, hk25]⟩
      clear h3 hc hk25
      go_wp2
      clear hk hlt
      go_loopw [21] (fun i wr => ∃ k : Nat, k ≤ 25 ∧ i = .int .i64 k ∧ RowL wr w.heap.size 28 (thS c s k) ∧ RowL wr (w.heap.size + 1) 28 z25 ∧ RowL wr (w.heap.size + 1 + 1) 78 c ∧ Keep (fun _ => False) w wr) (fun i _ => 25 - (intOf i).toNat)
      case atStart => exact ⟨0, Nat.zero_le _, rfl, H1.out, H2.out, H3.out, HK.out⟩
      case round =>
        obtain ⟨k, hk, rfl, h1, h2, h3, hK⟩ := hrel
        clear H1 H2 H3 HK
        have H1 := hid h1
        have H2 := hid h2
        have H3 := hid h3
        have HK := hid hK
        by_cases hlt : k < 25
        · have c1 := h1.cell k (by rw [thS_len]; omega)
          have f1 := h1.fro k
          have c2 := h3.cell ((k % 5 + 4) % 5) (by omega)
          have c3 := h3.cell ((k % 5 + 1) % 5) (by omega)
          have TS := thS_succ c s k
          clear h1 h2 h3 hK
          obtain ⟨x, hx⟩ : ∃ x, k % 5 = x := ⟨_, rfl⟩
          have hx5 : x < 5 := by omega
          have hki : (k : Int) % 5 = (x : Int) := by omega
          rw [hx] at c2 c3
          have HX := hid hx
          have e1 : IntKind.i64.wrap ((x : Int) + 5) = (x : Int) + 5 := wrap64_in _ (by omega) (by omega)
          have e2 : IntKind.i64.wrap ((x : Int) + 5 - 1) = (x : Int) + 5 - 1 := wrap64_in _ (by omega) (by omega)
          have e3 : IntKind.i64.wrap ((x : Int) + 1) = (x : Int) + 1 := wrap64_in _ (by omega) (by omega)
          obtain ⟨p, hp⟩ : ∃ p, (x + 4) % 5 = p := ⟨_, rfl⟩
          obtain ⟨q, hq⟩ : ∃ q, (x + 1) % 5 = q := ⟨_, rfl⟩
          have e4 : ((x : Int) + 5 - 1).tmod 5 = (p : Int) := by rw [Int.tmod_eq_emod_of_nonneg (by omega)]; omega
          have e5 : ((x : Int) + 1).tmod 5 = (q : Int) := by rw [Int.tmod_eq_emod_of_nonneg (by omega)]; omega
          have p5 : (p : Int) < 5 := by omega
          have q5 : (q : Int) < 5 := by omega
          have p0 : (0 : Int) ≤ p := by omega
          have q0 : (0 : Int) ≤ q := by omega
          have k25 : (k : Int) < 25 := by omega
          have k0 : (0 : Int) ≤ k := by omega
          rw [hx, hp, hq] at TS
          rw [hp] at c2
          rw [hq] at c3
          have X1 := hid (xor_val (gl c p) (rot (gl c q) 1))
          have X2 := hid (xor_val (gl (thS c s k) k) (gl c p ^^^ rot (gl c q) 1))
          have TS := hid TS
          clear hx hx5 hp hq HX
          go_wp2_with fail
          rw [hki]
          refine wp_region_text [0,0,0,0,0,0,0,0,0,0,0,0,0,0,2,0,0,0,3] (fun W => W.cell? ⟨w.heap.size, k, none⟩ = some (.int .u64 ((gl (thS c s k) k).toNat : Int)) ∧ W.cell? ⟨w.heap.size + 1 + 1, p, none⟩ = some (.int .u64 ((gl c p).toNat : Int)) ∧ W.cell? ⟨w.heap.size + 1 + 1, q, none⟩ = some (.int .u64 ((gl c q).toNat : Int))) (by kernel_rfl) (by kernel_rfl) ⟨c1, c2, c3⟩ ?_
          repeat (first
            | (refine' wpT_calm (v := _) (by rfl) (fun W hW => ?_) ?_; rotate_left
               · ((try dsimp only at hW); go_simp; first | done | rfl)
               simp only [Act.put, List.setIfInBounds_toArray, List.set_cons_zero, List.set_cons_succ])
            | (refine' wpT_reads (v := _) (by rfl) ?_ ?_; rotate_left
               · (go_simp; first | done | rfl)
               simp only [Act.put, List.setIfInBounds_toArray, List.set_cons_zero, List.set_cons_succ])
            | (refine wpT_skip (by rfl) rfl ?_; simp only [Act.put, List.setIfInBounds_toArray, List.set_cons_zero, List.set_cons_succ])
            | (refine wpT_does (by rfl) (fun K hK => ?_); go_simp; refine hK _ _ ?_ ?_
               · (trivial)
               clear hK K; try simp only [Act.put, List.setIfInBounds_toArray, List.set_cons_zero, List.set_cons_succ])
            | (refine wpT_last (by rfl) (fun K hK => ?_); go_simp; refine hK _ _ ?_; clear hK K)
            | (refine wpT_nil ?_))
          refine wpT_does (by rfl) (fun K hK => ?_)
          go_simp
          refine (rot_any _ 1 (by decide) _).mono ?_
          rintro _ _ ⟨rfl, rfl⟩
          refine hK _ _ ⟨c1, c2, c3⟩ ?_
          clear hK K
          try simp only [Act.put, List.setIfInBounds_toArray, List.set_cons_zero, List.set_cons_succ]
          repeat (first
            | (refine' wpT_calm (v := _) (by rfl) (fun W hW => ?_) ?_; rotate_left
               · ((try dsimp only at hW); go_simp; first | done | rfl)
               simp only [Act.put, List.setIfInBounds_toArray, List.set_cons_zero, List.set_cons_succ])
            | (refine' wpT_reads (v := _) (by rfl) ?_ ?_; rotate_left
               · (go_simp; first | done | rfl)
               simp only [Act.put, List.setIfInBounds_toArray, List.set_cons_zero, List.set_cons_succ])
            | (refine wpT_skip (by rfl) rfl ?_; simp only [Act.put, List.setIfInBounds_toArray, List.set_cons_zero, List.set_cons_succ])
            | (refine wpT_does (by rfl) (fun K hK => ?_); go_simp; refine hK _ _ ?_ ?_
               · (trivial)
               clear hK K; try simp only [Act.put, List.setIfInBounds_toArray, List.set_cons_zero, List.set_cons_succ])
            | (refine wpT_last (by rfl) (fun K hK => ?_); go_simp; refine hK _ _ ?_; clear hK K)
            | (refine wpT_nil ?_))
          go_wp2
          go_roundw
          case rel => exact ⟨k + 1, by omega, by go_num, by rw [TS.out, X1.out, X2.out]; exact RowL.set (w := wr.drew) H1.out _ _, RowL.other (w := wr.drew) H2.out _ _ (by dsimp only; omega), RowL.other (w := wr.drew) H3.out _ _ (by dsimp only; omega), HK.out.drew.setCell (.inr (by dsimp only; omega)) _⟩
          case measure => simp [intOf]; omega
        · obtain rfl : k = 25 := by omega
          clear h1 h2 h3 hK hk hlt
          have hl : (thS c s 25).length = 25 := by rw [thS_len, hs]
          have HE : Is (theta s) (thS c s 25) := ⟨by unfold theta; rw [CC.eq]⟩
          obtain ⟨u, hu⟩ : ∃ u, thS c s 25 = u := ⟨_, rfl⟩
          rw [hu] at H1 hl HE
          clear hu CC
          go_wp2_with (first | (with_reducible refine wpList_ld (.tmp 1) rfl rfl _ rfl u hl H1.out ?_) | (with_reducible refine wpList_st (.tmp 2) (.tmp 45) rfl rfl _ rfl u hl rfl z25 rfl H2.out ?_))
          refine bodyPost_ret (res_cell (p := 2) (g := w.heap.size + 1) (s := u) rfl _ _ hl rfl H2.out.row) rfl ⟨?_, HK.out.setRow (by omega) _⟩
          rw [HE.eq]
end Go.Proofs.Ytpijnpapmdnceaa

namespace Go.Proofs.Ytpijnpapmdnceaa
open Go Go.RowKit

theorem at_eq {x y r : Int} (hx : 0 ≤ x) (hx1 : x ≤ 100) (hy : 0 ≤ y) (hy1 : y ≤ 100) (hr : x % 5 + 5 * (y % 5) = r) (w : World) :
    Calls Try.prog 55 #[.int .i64 x, .int .i64 y] w fun e w' => e = .returned (.int .i64 r) ∧ w = w' := by
  have h := at_any x.toNat y.toNat w (by omega) (by omega)
  rw [Int.toNat_of_nonneg hx, Int.toNat_of_nonneg hy] at h
  refine h.mono ?_
  rintro e w' ⟨rfl, rfl⟩
  exact ⟨by congr 2; omega, rfl⟩

theorem rot_eq {m : Int} (a : L64) (n : Nat) (hm : m = (n : Int)) (hn : n < 64) (w : World) :
    Calls Try.prog 56 #[.int .u64 (a.toNat : Int), .int .i64 m] w fun e w' => e = .returned (.int .u64 ((rot a n).toNat : Int)) ∧ w = w' := by
  subst hm; exact rot_any a n hn w

theorem chS_succ (s : List L64) (k : Nat) : chS s (k + 1) = (chS s k).set k (gl (chS s k) k ^^^ (gl s ((k % 5 + 2) % 5 + 5 * (k / 5)) &&& ~~~ (gl s ((k % 5 + 1) % 5 + 5 * (k / 5))))) := by
  unfold chS; rw [List.range_succ, List.foldl_append, List.foldl_cons, List.foldl_nil]; rfl

set_option maxRecDepth 10000 in
set_option maxHeartbeats 2000000 in
theorem chi_any (s : List L64) (hs : s.length = 25) (w : World) :
    Calls Try.prog 47 #[.agg (stv s).toArray] w fun e w' => e = .returned (.agg (stv (chi s)).toArray) ∧ Keep (fun _ => False) w w' := by
  have r1 : RowL (w.alloc (.cells (stv s).toArray 28)) w.heap.size 28 s := heap_alloc_new w _
  obtain ⟨q1, q2, q3, kk⟩ := boxes3 w s z25 z25 28 28 28
  have Q1 := hid (RowL.row (s' := s) q3)
  have Q2 := hid (q2.otherRow (w.heap.size + 1 + 1) (stv s).toArray (by omega))
  have Q3 := hid (q1.otherRow (w.heap.size + 1 + 1) (stv s).toArray (by omega))
  have kk := hid (kk.setRow (g := w.heap.size + 1 + 1) (by omega) (stv s).toArray)
  have q3 := hid q3
  clear q1 q2
  go_enter Try.func47, Try.ntmps47
  go_wp2_with (first | (with_reducible refine wpList_ld (.tmp 1) rfl rfl _ rfl s hs (RowL.keep r1 ((Keep.refl (fun _ => False) _).alloc _) (fun h => h)) ?_) | ((with_reducible refine wpList_st (.tmp 3) (.tmp 7) rfl rfl _ rfl s hs rfl z25 rfl ?_ ?_); exact q3.out))
  clear r1 q3
  go_loopw [8] (fun i wr => ∃ k : Nat, k ≤ 25 ∧ i = .int .i64 k ∧ RowL wr w.heap.size 28 s ∧ RowL wr (w.heap.size + 1) 28 z25 ∧ RowL wr (w.heap.size + 1 + 1) 28 (chS s k) ∧ Keep (fun _ => False) w wr) (fun i _ => 25 - (intOf i).toNat)
  case atStart => exact ⟨0, Nat.zero_le _, rfl, Q3.out, Q2.out, Q1.out, kk.out⟩
  case round =>
    obtain ⟨k, hk, rfl, h1, h2, h3, hK⟩ := hrel
    clear Q1 Q2 Q3 kk
    have H1 := hid h1
    have H2 := hid h2
    have H3 := hid h3
    have HK := hid hK
    by_cases hlt : k < 25
    · obtain ⟨x, hx⟩ : ∃ x, k % 5 = x := ⟨_, rfl⟩
      obtain ⟨y, hy⟩ : ∃ y, k / 5 = y := ⟨_, rfl⟩
      have hx5 : x < 5 := by omega
      have hy5 : y < 5 := by omega
      have hki : (k : Int) % 5 = (x : Int) := by omega
      have hkd : (k : Int) / 5 = (y : Int) := by omega
      obtain ⟨p, hp⟩ : ∃ p, (x + 2) % 5 + 5 * y = p := ⟨_, rfl⟩
      obtain ⟨q, hq⟩ : ∃ q, (x + 1) % 5 + 5 * y = q := ⟨_, rfl⟩
      have p5 : (p : Int) < 25 := by omega
      have q5 : (q : Int) < 25 := by omega
      have p0 : (0 : Int) ≤ p := by omega
      have q0 : (0 : Int) ≤ q := by omega
      have k25 : (k : Int) < 25 := by omega
      have k0 : (0 : Int) ≤ k := by omega
      have x0 : (0 : Int) ≤ x := by omega
      have x5 : (x : Int) < 5 := by omega
      have y0 : (0 : Int) ≤ y := by omega
      have y5 : (y : Int) < 5 := by omega
      have e1 : IntKind.i64.wrap ((x : Int) + 2) = (x : Int) + 2 := wrap64_in _ (by omega) (by omega)
      have e2 : IntKind.i64.wrap ((x : Int) + 1) = (x : Int) + 1 := wrap64_in _ (by omega) (by omega)
      have TS := chS_succ s k
      rw [hx, hy, hp, hq] at TS
      have c1 := h3.cell k (by rw [chS_len]; omega)
      have f1 := h3.fro k
      have c2 := h1.cell p (by omega)
      have c3 := h1.cell q (by omega)
      have X1 := hid (andNot_val (gl s p) (gl s q))
      have X2 := hid (xor_val (gl (chS s k) k) (gl s p &&& ~~~ (gl s q)))
      have A1 := hid (by omega : ((x : Int) + 2) % 5 + 5 * ((y : Int) % 5) = (p : Int))
      have A2 := hid (by omega : ((x : Int) + 1) % 5 + 5 * ((y : Int) % 5) = (q : Int))
      have TS := hid TS
      clear h1 h2 h3 hK hx hy hx5 hy5 hp hq
      go_wp2_with fail
      try rw [hki]
      try rw [hkd]
      refine wp_region_text [0,0,0,0,0,0,2,0,0,0,0,0,2,0,0,0,0,0,3] (fun W => W.cell? ⟨w.heap.size + 1 + 1, k, none⟩ = some (.int .u64 ((gl (chS s k) k).toNat : Int)) ∧ W.cell? ⟨w.heap.size, p, none⟩ = some (.int .u64 ((gl s p).toNat : Int)) ∧ W.cell? ⟨w.heap.size, q, none⟩ = some (.int .u64 ((gl s q).toNat : Int))) (by kernel_rfl) (by kernel_rfl) ⟨c1, c2, c3⟩ ?_
      repeat (first
        | (refine' wpT_calm (v := _) (by rfl) (fun W hW => ?_) ?_; rotate_left
           · ((try dsimp only at hW); go_simp; first | done | rfl)
           simp only [Act.put, List.setIfInBounds_toArray, List.set_cons_zero, List.set_cons_succ])
        | (refine' wpT_reads (v := _) (by rfl) ?_ ?_; rotate_left
           · (go_simp; first | done | rfl)
           simp only [Act.put, List.setIfInBounds_toArray, List.set_cons_zero, List.set_cons_succ])
        | (refine wpT_skip (by rfl) rfl ?_; simp only [Act.put, List.setIfInBounds_toArray, List.set_cons_zero, List.set_cons_succ])
        | (refine wpT_does (by rfl) (fun K hK => ?_); go_simp; refine hK _ _ ?_ ?_
           · (trivial)
           clear hK K; try simp only [Act.put, List.setIfInBounds_toArray, List.set_cons_zero, List.set_cons_succ])
        | (refine wpT_last (by rfl) (fun K hK => ?_); go_simp; refine hK _ _ ?_; clear hK K)
        | (refine wpT_nil ?_))
      refine wpT_does (by rfl) (fun K hK => ?_)
      go_simp
      refine (at_eq (by omega) (by omega) (by omega) (by omega) A1.out _).mono ?_
      rintro _ _ ⟨rfl, rfl⟩
      refine hK _ _ ⟨c1, c2, c3⟩ ?_
      clear hK K
      try simp only [Act.put, List.setIfInBounds_toArray, List.set_cons_zero, List.set_cons_succ]
      repeat (first
        | (refine' wpT_calm (v := _) (by rfl) (fun W hW => ?_) ?_; rotate_left
           · ((try dsimp only at hW); go_simp; first | done | rfl)
           simp only [Act.put, List.setIfInBounds_toArray, List.set_cons_zero, List.set_cons_succ])
        | (refine' wpT_reads (v := _) (by rfl) ?_ ?_; rotate_left
           · (go_simp; first | done | rfl)
           simp only [Act.put, List.setIfInBounds_toArray, List.set_cons_zero, List.set_cons_succ])
        | (refine wpT_skip (by rfl) rfl ?_; simp only [Act.put, List.setIfInBounds_toArray, List.set_cons_zero, List.set_cons_succ])
        | (refine wpT_does (by rfl) (fun K hK => ?_); go_simp; refine hK _ _ ?_ ?_
           · (trivial)
           clear hK K; try simp only [Act.put, List.setIfInBounds_toArray, List.set_cons_zero, List.set_cons_succ])
        | (refine wpT_last (by rfl) (fun K hK => ?_); go_simp; refine hK _ _ ?_; clear hK K)
        | (refine wpT_nil ?_))
      refine wpT_does (by rfl) (fun K hK => ?_)
      go_simp
      refine (at_eq (by omega) (by omega) (by omega) (by omega) A2.out _).mono ?_
      rintro _ _ ⟨rfl, rfl⟩
      refine hK _ _ ⟨c1, c2, c3⟩ ?_
      clear hK K
      try simp only [Act.put, List.setIfInBounds_toArray, List.set_cons_zero, List.set_cons_succ]
      repeat (first
        | (refine' wpT_calm (v := _) (by rfl) (fun W hW => ?_) ?_; rotate_left
           · ((try dsimp only at hW); go_simp; first | done | rfl)
           simp only [Act.put, List.setIfInBounds_toArray, List.set_cons_zero, List.set_cons_succ])
        | (refine' wpT_reads (v := _) (by rfl) ?_ ?_; rotate_left
           · (go_simp; first | done | rfl)
           simp only [Act.put, List.setIfInBounds_toArray, List.set_cons_zero, List.set_cons_succ])
        | (refine wpT_skip (by rfl) rfl ?_; simp only [Act.put, List.setIfInBounds_toArray, List.set_cons_zero, List.set_cons_succ])
        | (refine wpT_does (by rfl) (fun K hK => ?_); go_simp; refine hK _ _ ?_ ?_
           · (trivial)
           clear hK K; try simp only [Act.put, List.setIfInBounds_toArray, List.set_cons_zero, List.set_cons_succ])
        | (refine wpT_last (by rfl) (fun K hK => ?_); go_simp; refine hK _ _ ?_; clear hK K)
        | (refine wpT_nil ?_))
      go_wp2
      go_roundw
      case rel => exact ⟨k + 1, by omega, by go_num, RowL.other (w := wr.drew) H1.out _ _ (by dsimp only; omega), RowL.other (w := wr.drew) H2.out _ _ (by dsimp only; omega), by rw [TS.out, X1.out, X2.out]; exact RowL.set (w := wr.drew) H3.out _ _, HK.out.drew.setCell (.inr (by dsimp only; omega)) _⟩
      case measure => simp [intOf]; omega
    · obtain rfl : k = 25 := by omega
      clear h1 h2 h3 hK hk hlt
      have hl : (chS s 25).length = 25 := by rw [chS_len, hs]
      have HE : Is (chi s) (chS s 25) := ⟨rfl⟩
      obtain ⟨u, hu⟩ : ∃ u, chS s 25 = u := ⟨_, rfl⟩
      rw [hu] at H3 hl HE
      clear hu
      go_wp2_with (first | (with_reducible refine wpList_ld (.tmp 3) rfl rfl _ rfl u hl H3.out ?_) | (with_reducible refine wpList_st (.tmp 2) (.tmp 34) rfl rfl _ rfl u hl rfl z25 rfl H2.out ?_))
      refine bodyPost_ret (res_cell (p := 2) (g := w.heap.size + 1) (s := u) rfl _ _ hl rfl H2.out.row) rfl ⟨?_, HK.out.setRow (by omega) _⟩
      rw [HE.eq]

theorem mvS_succ (s : List L64) (k : Nat) : mvS s (k + 1) = mv1 s (mvS s k) k := by
  unfold mvS; rw [List.range_succ, List.foldl_append, List.foldl_cons, List.foldl_nil]
theorem mvS_pos (s : List L64) : ∀ k, (mvS s k).x < 5 ∧ (mvS s k).y < 5
  | 0 => ⟨by show 1 < 5; decide, by show 0 < 5; decide⟩
  | k + 1 => by
    have := mvS_pos s k
    rw [mvS_succ]
    exact ⟨this.2, Nat.mod_lt _ (by decide)⟩

end Go.Proofs.Ytpijnpapmdnceaa

namespace Go.Proofs.Ytpijnpapmdnceaa
open Go Go.RowKit

theorem mvS_len' (s : List L64) (k : Nat) : (mvS s k).o.length = 25 := mvS_len s k

set_option maxRecDepth 10000 in
set_option maxHeartbeats 2000000 in
theorem move_any (s : List L64) (hs : s.length = 25) (w : World) :
    Calls Try.prog 48 #[.agg (stv s).toArray] w fun e w' => e = .returned (.agg (stv (move s)).toArray) ∧ Keep (fun _ => False) w w' := by
  have r1 : RowL (w.alloc (.cells (stv s).toArray 28)) w.heap.size 28 s := heap_alloc_new w _
  have cc := stv_get s 0 (by omega)
  have cc2 : (stv s).toArray[0]? = some (.int .u64 ((gl s 0).toNat : Int)) := by rw [List.getElem?_toArray]; exact cc
  obtain ⟨q1, q2, q3, kk⟩ := boxes3 w s z25 z25 28 28 28
  obtain ⟨u, hu⟩ : ∃ u, z25.set 0 (gl s 0) = u := ⟨_, rfl⟩
  have hul : u.length = 25 := by rw [← hu]; simp [z25]
  have Q1 := hid (RowL.row (s' := u) q3)
  have Q2 := hid (q2.otherRow (w.heap.size + 1 + 1) (stv u).toArray (by omega))
  have Q3 := hid (q1.otherRow (w.heap.size + 1 + 1) (stv u).toArray (by omega))
  have kk := hid (kk.setRow (g := w.heap.size + 1 + 1) (by omega) (stv u).toArray)
  have q3 := hid q3
  have HU : Is (mvS s 0).o u := ⟨hu⟩
  clear q1 q2 r1 hu
  go_enter Try.func48, Try.ntmps48
  go_wp2_with ((with_reducible refine wpList_st (.tmp 3) (.tmp 11) rfl rfl _ rfl u hul ?_ z25 rfl ?_ ?_); (case refine_1 => rw [← HU.eq]; rfl); exact q3.out)
  have HU2 : Is z25 z25 := ⟨rfl⟩
  clear q3 cc cc2
  go_loopw [4, 5, 12] (fun x y i wr => ∃ k : Nat, k ≤ 24 ∧ i = .int .i64 k ∧ x = .int .i64 (mvS s k).x ∧ y = .int .i64 (mvS s k).y ∧ RowL wr w.heap.size 28 s ∧ RowL wr (w.heap.size + 1) 28 z25 ∧ RowL wr (w.heap.size + 1 + 1) 28 (mvS s k).o ∧ Keep (fun _ => False) w wr) (fun _ _ i _ => 24 - (intOf i).toNat)
  case atStart => exact ⟨0, Nat.zero_le _, rfl, rfl, rfl, Q3.out, Q2.out, by rw [HU.eq]; exact Q1.out, kk.out⟩
  case round =>
    obtain ⟨k, hk, rfl, rfl, rfl, h1, h2, h3, hK⟩ := hrel
    clear Q1 Q2 Q3 kk HU HU2
    have H1 := hid h1
    have H2 := hid h2
    have H3 := hid h3
    have HK := hid hK
    obtain ⟨hx5, hy5⟩ := mvS_pos s k
    have hol := mvS_len' s k
    have TS := mvS_succ s k
    unfold mv1 at TS
    by_cases hlt : k < 24
    · obtain ⟨x, hx⟩ : ∃ x, (mvS s k).x = x := ⟨_, rfl⟩
      obtain ⟨y, hy⟩ : ∃ y, (mvS s k).y = y := ⟨_, rfl⟩
      obtain ⟨z, hz⟩ : ∃ z, (2 * x + 3 * y) % 5 = z := ⟨_, rfl⟩
      obtain ⟨p, hp⟩ : ∃ p, y + 5 * z = p := ⟨_, rfl⟩
      obtain ⟨q, hq⟩ : ∃ q, x + 5 * y = q := ⟨_, rfl⟩
      obtain ⟨n, hn⟩ : ∃ n, (k + 1) * (k + 2) / 2 % 64 = n := ⟨_, rfl⟩
      rw [hx, hy] at TS ⊢
      rw [hx] at hx5
      rw [hy] at hy5
      rw [hz, hp, hq, hn] at TS
      have z5 : z < 5 := by omega
      have n64 : n < 64 := by omega
      have hnn : ((k : Int) + 1) * ((k : Int) + 2) / 2 % 64 = (n : Int) := by rw [← hn]; norm_cast
      have m1 : (k + 1) * (k + 2) ≤ 25 * 26 := Nat.mul_le_mul (by omega) (by omega)
      have m2 : ((k : Int) + 1) * ((k : Int) + 2) ≤ 650 := by exact_mod_cast m1
      have m3 : 0 ≤ ((k : Int) + 1) * ((k : Int) + 2) := by exact_mod_cast Nat.zero_le ((k + 1) * (k + 2))
      have hzz : (2 * (x : Int) + 3 * (y : Int)) % 5 = (z : Int) := by omega
      have p5 : (p : Int) < 25 := by omega
      have q5 : (q : Int) < 25 := by omega
      have p0 : (0 : Int) ≤ p := by omega
      have q0 : (0 : Int) ≤ q := by omega
      have k25 : (k : Int) < 24 := by omega
      have k0 : (0 : Int) ≤ k := by omega
      have x0 : (0 : Int) ≤ x := by omega
      have x5 : (x : Int) < 5 := by omega
      have y0 : (0 : Int) ≤ y := by omega
      have y5 : (y : Int) < 5 := by omega
      have z0 : (0 : Int) ≤ z := by omega
      have z5' : (z : Int) < 5 := by omega
      have c2 := h1.cell q (by omega)
      have c3 := h3.cell p (by omega)
      have f3 := h3.fro p
      have A1 := hid (by rw [Int.emod_eq_of_lt y0 y5, Int.emod_eq_of_lt z0 z5', ← hp]; simp : (y : Int) % 5 + 5 * ((z : Int) % 5) = (p : Int))
      have A2 := hid (by rw [Int.emod_eq_of_lt x0 x5, Int.emod_eq_of_lt y0 y5, ← hq]; simp : (x : Int) % 5 + 5 * ((y : Int) % 5) = (q : Int))
      have TS := hid TS
      have N := hid hnn
      clear h1 h2 h3 hK hx hy hx5 hy5 hp hq hz hol hn m1
      go_wp2_with fail
      refine (at_eq (by omega) (by omega) (by omega) (by omega) A1.out _).mono ?_
      rintro _ _ ⟨rfl, rfl⟩
      go_wp2_with fail
      refine (at_eq (by omega) (by omega) (by omega) (by omega) A2.out _).mono ?_
      rintro _ _ ⟨rfl, rfl⟩
      go_wp2_with fail
      refine (rot_any _ n n64 _).mono ?_
      rintro _ _ ⟨rfl, rfl⟩
      go_wp2
      go_roundw
      case rel => exact ⟨k + 1, by omega, by go_num, by rw [TS.out], by rw [TS.out], H1.out.other _ _ (by dsimp only; omega), H2.out.other _ _ (by dsimp only; omega), by rw [TS.out]; exact H3.out.set _ _, HK.out.setCell (.inr (by dsimp only; omega)) _⟩
      case measure => simp [intOf]; omega
    · have hk24 : k = 24 := by omega
      have HE : Is (move s) (mvS s k).o := ⟨by rw [hk24]; rfl⟩
      obtain ⟨x, hx⟩ : ∃ x, (mvS s k).x = x := ⟨_, rfl⟩
      obtain ⟨y, hy⟩ : ∃ y, (mvS s k).y = y := ⟨_, rfl⟩
      obtain ⟨u, hu⟩ : ∃ u, (mvS s k).o = u := ⟨_, rfl⟩
      rw [hx, hy]
      rw [hu] at H3 hol HE
      clear h1 h2 h3 hK hk hu TS hx5 hy5 hx hy hk24
      go_wp2_with (first | (with_reducible refine wpList_ld (.tmp 3) rfl rfl _ rfl u hol H3.out ?_) | (with_reducible refine wpList_st (.tmp 2) (.tmp 42) rfl rfl _ rfl u hol rfl z25 rfl H2.out ?_))
      refine bodyPost_ret (res_cell (p := 2) (g := w.heap.size + 1) (s := u) rfl _ _ hol rfl H2.out.row) rfl ⟨?_, HK.out.setRow (by omega) _⟩
      rw [HE.eq]
end Go.Proofs.Ytpijnpapmdnceaa

namespace Go.Proofs.Ytpijnpapmdnceaa
open Go Go.RowKit

theorem lf1_lt : ∀ r : Fin 256, lf1 r.1 < 256 := by decide +kernel
theorem lf_lt : ∀ k, lf k < 256
  | 0 => by decide
  | k + 1 => lf1_lt ⟨lf k, lf_lt k⟩
theorem bit_one : ∀ r : Fin 256, bits .and .i64 ((r.1 : Nat) : Int) 1 = ((r.1 % 2 : Nat) : Int) := by decide +kernel
theorem lf_xor : ∀ r : Fin 256, 256 ≤ 2 * r.1 → bits .xor .i64 (((r.1 : Nat) : Int) * 2) 369 = ((lf1 r.1 : Nat) : Int) := by decide +kernel
theorem lf1_small {r : Nat} (h : ¬ 256 ≤ 2 * r) : lf1 r = 2 * r := by unfold lf1; rw [if_neg h]
theorem mkS_succ (n k : Nat) : mkS n (k + 1) = mk1 n (mkS n k) k := by unfold mkS; rw [List.range_succ, List.foldl_append, List.foldl_cons, List.foldl_nil]

theorem one_shl (b m : Nat) (hb : b ≤ 1) (hm : m ≤ 63) : (BitVec.ofNat 64 b <<< m).toNat = b * 2 ^ m := by
  have h2 : 2 ^ m ≤ 2 ^ 63 := Nat.pow_le_pow_right (by decide) hm
  rw [BitVec.toNat_shiftLeft, BitVec.toNat_ofNat, Nat.shiftLeft_eq, Nat.mod_eq_of_lt (by omega : b < 2 ^ 64)]
  rcases (by omega : b = 0 ∨ b = 1) with rfl | rfl
  · simp
  · rw [Nat.one_mul, Nat.mod_eq_of_lt (by omega)]

theorem or_bit (o : L64) (b m : Nat) (hb : b ≤ 1) (hm : m ≤ 63) {e : Int} (he : e = ((b * 2 ^ m : Nat) : Int)) : bits .or .u64 (o.toNat : Int) e = ((o ||| (BitVec.ofNat 64 b <<< m)).toNat : Int) := by
  rw [he, ← one_shl b m hb hm, or_val]

set_option maxRecDepth 10000 in
set_option maxHeartbeats 4000000 in
theorem mark_any (n : Nat) (hn : n < 24) (w : World) :
    Calls Try.prog 50 #[.int .i64 (n : Int)] w fun e w' => e = .returned (.int .u64 ((mark n).toNat : Int)) ∧ w = w' := by
  go_enter Try.func50, Try.ntmps50
  go_wp2
  go_loop [3, 4, 10] (fun r o i => ∃ k : Nat, k ≤ 7 * (n + 1) ∧ i = .int .i64 k ∧ r = .int .i64 (lf k) ∧ o = .int .u64 ((mkS n k).toNat : Int)) (fun _ _ i => 7 * (n + 1) - (intOf i).toNat)
  case atStart => exact ⟨0, Nat.zero_le _, rfl, rfl, rfl⟩
  case round =>
    obtain ⟨k, hk, rfl, rfl, rfl⟩ := hrel
    have hr := lf_lt k
    by_cases hlt : k < 7 * (n + 1)
    · have M := mkS_succ n k
      have L : lf (k + 1) = lf1 (lf k) := rfl
      have x1 := bit_one ⟨lf k, hr⟩
      have x2 := lf_xor ⟨lf k, hr⟩
      have x3 := @lf1_small (lf k)
      dsimp only at x1 x2
      unfold mk1 at M
      obtain ⟨r, hrr⟩ : ∃ r, lf k = r := ⟨_, rfl⟩
      obtain ⟨o, ho⟩ : ∃ o, mkS n k = o := ⟨_, rfl⟩
      rw [hrr] at hr M L x1 x2 x3 ⊢
      rw [ho] at M ⊢
      obtain ⟨b, hb⟩ : ∃ b, r % 2 = b := ⟨_, rfl⟩
      have hb1 : b ≤ 1 := by omega
      have hbi : (b : Int) ≤ 1 := by omega
      have hb0 : (0 : Int) ≤ (b : Int) := by omega
      rw [hb] at x1 M
      have r0 : (0 : Int) ≤ (r : Int) := by omega
      have r1 : (r : Int) ≤ 255 := by omega
      have hkl : (k : Int) < 7 * ((n : Int) + 1) := by omega
      have nn : (n : Int) ≤ 23 := by omega
      have kk : (k : Int) ≤ 200 := by omega
      clear hrr ho hb hr
      by_cases hbig : 256 ≤ 2 * r
      · have x2 := x2 hbig
        obtain ⟨r', hr'⟩ : ∃ r', lf1 r = r' := ⟨_, rfl⟩
        rw [hr'] at x2 L
        have LL := hid L
        have t1 : decide (256 ≤ (r : Int) * 2) = true := decide_eq_true (by omega)
        clear x3 hr' L
        by_cases h7 : 7 * n ≤ k
        · rw [if_pos h7] at M
          obtain ⟨j, hj⟩ : ∃ j, k - 7 * n = j := ⟨_, rfl⟩
          rw [hj] at M
          rcases (by omega : j = 0 ∨ j = 1 ∨ j = 2 ∨ j = 3 ∨ j = 4 ∨ j = 5 ∨ j = 6) with rfl | rfl | rfl | rfl | rfl | rfl | rfl
          · have hji : (k : Int) - 7 * (n : Int) = 0 := by omega
            have M := hid M
            have HH := hid hbig
            have X := hid (fun e he => or_bit o b 0 hb1 (by decide) (e := e) he)
            clear hj h7 hbig
            go_wp2
            go_round
            case rel => exact ⟨k + 1, by omega, by go_num, by rw [LL.out], by rw [M.out]; congr 1; exact X.out _ (by simp)⟩
            case measure => simp [intOf]; omega
          · have hji : (k : Int) - 7 * (n : Int) = 1 := by omega
            have M := hid M
            have HH := hid hbig
            have X := hid (fun e he => or_bit o b 1 hb1 (by decide) (e := e) he)
            clear hj h7 hbig
            go_wp2
            go_round
            case rel => exact ⟨k + 1, by omega, by go_num, by rw [LL.out], by rw [M.out]; congr 1; exact X.out _ (by simp)⟩
            case measure => simp [intOf]; omega
          · have hji : (k : Int) - 7 * (n : Int) = 2 := by omega
            have M := hid M
            have HH := hid hbig
            have X := hid (fun e he => or_bit o b 3 hb1 (by decide) (e := e) he)
            clear hj h7 hbig
            go_wp2
            go_round
            case rel => exact ⟨k + 1, by omega, by go_num, by rw [LL.out], by rw [M.out]; congr 1; exact X.out _ (by simp)⟩
            case measure => simp [intOf]; omega
          · have hji : (k : Int) - 7 * (n : Int) = 3 := by omega
            have M := hid M
            have HH := hid hbig
            have X := hid (fun e he => or_bit o b 7 hb1 (by decide) (e := e) he)
            clear hj h7 hbig
            go_wp2
            go_round
            case rel => exact ⟨k + 1, by omega, by go_num, by rw [LL.out], by rw [M.out]; congr 1; exact X.out _ (by simp)⟩
            case measure => simp [intOf]; omega
          · have hji : (k : Int) - 7 * (n : Int) = 4 := by omega
            have M := hid M
            have HH := hid hbig
            have X := hid (fun e he => or_bit o b 15 hb1 (by decide) (e := e) he)
            clear hj h7 hbig
            go_wp2
            go_round
            case rel => exact ⟨k + 1, by omega, by go_num, by rw [LL.out], by rw [M.out]; congr 1; exact X.out _ (by simp)⟩
            case measure => simp [intOf]; omega
          · have hji : (k : Int) - 7 * (n : Int) = 5 := by omega
            have M := hid M
            have HH := hid hbig
            have X := hid (fun e he => or_bit o b 31 hb1 (by decide) (e := e) he)
            clear hj h7 hbig
            go_wp2
            go_round
            case rel => exact ⟨k + 1, by omega, by go_num, by rw [LL.out], by rw [M.out]; congr 1; exact X.out _ (by simp)⟩
            case measure => simp [intOf]; omega
          · have hji : (k : Int) - 7 * (n : Int) = 6 := by omega
            have M := hid M
            have HH := hid hbig
            have X := hid (fun e he => or_bit o b 63 hb1 (by decide) (e := e) he)
            clear hj h7 hbig
            go_wp2
            go_round
            case rel => exact ⟨k + 1, by omega, by go_num, by rw [LL.out], by rw [M.out]; congr 1; exact X.out _ (by simp)⟩
            case measure => simp [intOf]; omega
        · rw [if_neg h7] at M
          have hji : (k : Int) - 7 * (n : Int) < 0 := by omega
          have M := hid M
          have HH := hid hbig
          clear h7 hbig
          go_wp2
          go_round
          case rel => exact ⟨k + 1, by omega, by go_num, by rw [LL.out], by rw [M.out]⟩
          case measure => simp [intOf]; omega
      · have x3 := x3 hbig
        rw [x3] at L
        have LL := hid L
        have t1 : decide (256 ≤ (r : Int) * 2) = false := decide_eq_false (by omega)
        clear x3 x2 L
        by_cases h7 : 7 * n ≤ k
        · rw [if_pos h7] at M
          obtain ⟨j, hj⟩ : ∃ j, k - 7 * n = j := ⟨_, rfl⟩
          rw [hj] at M
          rcases (by omega : j = 0 ∨ j = 1 ∨ j = 2 ∨ j = 3 ∨ j = 4 ∨ j = 5 ∨ j = 6) with rfl | rfl | rfl | rfl | rfl | rfl | rfl
          · have hji : (k : Int) - 7 * (n : Int) = 0 := by omega
            have M := hid M
            have HH := hid hbig
            have X := hid (fun e he => or_bit o b 0 hb1 (by decide) (e := e) he)
            clear hj h7 hbig
            go_wp2
            go_round
            case rel => exact ⟨k + 1, by omega, by go_num, by rw [LL.out]; (first | rfl | (congr 1; omega)), by rw [M.out]; congr 1; exact X.out _ (by simp)⟩
            case measure => simp [intOf]; omega
          · have hji : (k : Int) - 7 * (n : Int) = 1 := by omega
            have M := hid M
            have HH := hid hbig
            have X := hid (fun e he => or_bit o b 1 hb1 (by decide) (e := e) he)
            clear hj h7 hbig
            go_wp2
            go_round
            case rel => exact ⟨k + 1, by omega, by go_num, by rw [LL.out]; (first | rfl | (congr 1; omega)), by rw [M.out]; congr 1; exact X.out _ (by simp)⟩
            case measure => simp [intOf]; omega
          · have hji : (k : Int) - 7 * (n : Int) = 2 := by omega
            have M := hid M
            have HH := hid hbig
            have X := hid (fun e he => or_bit o b 3 hb1 (by decide) (e := e) he)
            clear hj h7 hbig
            go_wp2
            go_round
            case rel => exact ⟨k + 1, by omega, by go_num, by rw [LL.out]; (first | rfl | (congr 1; omega)), by rw [M.out]; congr 1; exact X.out _ (by simp)⟩
            case measure => simp [intOf]; omega
          · have hji : (k : Int) - 7 * (n : Int) = 3 := by omega
            have M := hid M
            have HH := hid hbig
            have X := hid (fun e he => or_bit o b 7 hb1 (by decide) (e := e) he)
            clear hj h7 hbig
            go_wp2
            go_round
            case rel => exact ⟨k + 1, by omega, by go_num, by rw [LL.out]; (first | rfl | (congr 1; omega)), by rw [M.out]; congr 1; exact X.out _ (by simp)⟩
            case measure => simp [intOf]; omega
          · have hji : (k : Int) - 7 * (n : Int) = 4 := by omega
            have M := hid M
            have HH := hid hbig
            have X := hid (fun e he => or_bit o b 15 hb1 (by decide) (e := e) he)
            clear hj h7 hbig
            go_wp2
            go_round
            case rel => exact ⟨k + 1, by omega, by go_num, by rw [LL.out]; (first | rfl | (congr 1; omega)), by rw [M.out]; congr 1; exact X.out _ (by simp)⟩
            case measure => simp [intOf]; omega
          · have hji : (k : Int) - 7 * (n : Int) = 5 := by omega
            have M := hid M
            have HH := hid hbig
            have X := hid (fun e he => or_bit o b 31 hb1 (by decide) (e := e) he)
            clear hj h7 hbig
            go_wp2
            go_round
            case rel => exact ⟨k + 1, by omega, by go_num, by rw [LL.out]; (first | rfl | (congr 1; omega)), by rw [M.out]; congr 1; exact X.out _ (by simp)⟩
            case measure => simp [intOf]; omega
          · have hji : (k : Int) - 7 * (n : Int) = 6 := by omega
            have M := hid M
            have HH := hid hbig
            have X := hid (fun e he => or_bit o b 63 hb1 (by decide) (e := e) he)
            clear hj h7 hbig
            go_wp2
            go_round
            case rel => exact ⟨k + 1, by omega, by go_num, by rw [LL.out]; (first | rfl | (congr 1; omega)), by rw [M.out]; congr 1; exact X.out _ (by simp)⟩
            case measure => simp [intOf]; omega
        · rw [if_neg h7] at M
          have hji : (k : Int) - 7 * (n : Int) < 0 := by omega
          have M := hid M
          have HH := hid hbig
          clear h7 hbig
          go_wp2
          go_round
          case rel => exact ⟨k + 1, by omega, by go_num, by rw [LL.out]; (first | rfl | (congr 1; omega)), by rw [M.out]⟩
          case measure => simp [intOf]; omega
    · have hk2 : k = 7 * (n + 1) := by omega
      have HE : mark n = mkS n k := by rw [hk2]; rfl
      have HE := hid HE
      have hkl : ¬ (k : Int) < 7 * ((n : Int) + 1) := by omega
      clear hk2
      go_wp2
      go_ret
      first | exact ⟨rfl, rfl⟩ | exact ⟨by rw [HE.out]; rfl, rfl⟩

theorem boxes2 (w : World) (A B : List L64) (a b : Nat) :
    RowL ((w.alloc (.cells (stv A).toArray a)).alloc (.cells (stv B).toArray b)) w.heap.size a A ∧
    RowL ((w.alloc (.cells (stv A).toArray a)).alloc (.cells (stv B).toArray b)) (w.heap.size + 1) b B ∧
    Keep (fun _ => False) w ((w.alloc (.cells (stv A).toArray a)).alloc (.cells (stv B).toArray b)) := by
  have e1 : RowL (w.alloc (.cells (stv A).toArray a)) w.heap.size a A := heap_alloc_new w _
  have e2 : RowL ((w.alloc (.cells (stv A).toArray a)).alloc (.cells (stv B).toArray b)) (w.heap.size + 1) b B := by
    have := heap_alloc_new (w.alloc (.cells (stv A).toArray a)) (.cells (stv B).toArray b)
    rw [World.size_alloc] at this; exact this
  exact ⟨e1.keep ((Keep.refl (fun _ => False) _).alloc _) (fun h => h), e2, ((Keep.refl _ _).alloc _).alloc _⟩

set_option maxRecDepth 10000 in
set_option maxHeartbeats 2000000 in
theorem round_out (s : List L64) (hs : s.length = 25) (n : Int) (hn : n < 0 ∨ 24 ≤ n) (w : World) :
    Calls Try.prog 36 #[.agg (stv s).toArray, .int .i64 n] w fun e w' => e = .returned (.agg (stv s).toArray) ∧ Keep (fun _ => False) w w' := by
  obtain ⟨q1, q2, kk⟩ := boxes2 w s z25 28 28
  have q1 := hid q1
  have q2 := hid q2
  have kk := hid kk
  rcases (by omega : n < 0 ∨ (¬ n < 0 ∧ 24 ≤ n)) with h | ⟨h, h'⟩
  all_goals
    go_enter Try.func36, Try.ntmps36
    go_wp2_with (first | ((with_reducible refine wpList_ld (.tmp 2) rfl rfl _ rfl s hs ?_ ?_); exact q1.out) | ((with_reducible refine wpList_st (.tmp 4) (.tmp 11) rfl rfl _ rfl s hs rfl z25 rfl ?_ ?_); exact q2.out))
    exact bodyPost_ret (res_cell (p := 4) (g := w.heap.size + 1) (s := s) rfl _ _ hs rfl q2.out.row) rfl ⟨rfl, kk.out.setRow (by omega) _⟩

set_option maxRecDepth 10000 in
set_option maxHeartbeats 2000000 in
theorem round_in (s : List L64) (hs : s.length = 25) (n : Nat) (hn : n < 24) (w : World) :
    Calls Try.prog 36 #[.agg (stv s).toArray, .int .i64 (n : Int)] w fun e w' => e = .returned (.agg (stv (rnd s n)).toArray) ∧ Keep (fun _ => False) w w' := by
  obtain ⟨q1, q2, kk⟩ := boxes2 w s z25 28 28
  have q1 := hid q1
  have q2 := hid q2
  have kk := hid kk
  have h0 : (0 : Int) ≤ n := by omega
  have h1 : (n : Int) < 24 := by omega
  go_enter Try.func36, Try.ntmps36
  go_wp2_with ((with_reducible refine wpList_ld (.tmp 2) rfl rfl _ rfl s hs ?_ ?_); exact q1.out)
  refine (theta_any s hs _).mono ?_
  rintro _ W1 ⟨rfl, K1⟩
  have q1' := hid (q1.out.keep K1 (fun h => h))
  have q2' := hid (q2.out.keep K1 (fun h => h))
  have kk' := hid (kk.out.trans K1)
  clear K1 q1 q2 kk
  go_wp2_with fail
  refine (move_any (theta s) (by rw [theta_len, hs]) W1).mono ?_
  rintro _ W2 ⟨rfl, K2⟩
  have q1 := hid (q1'.out.keep K2 (fun h => h))
  have q2 := hid (q2'.out.keep K2 (fun h => h))
  have kk := hid (kk'.out.trans K2)
  clear K2 q1' q2' kk'
  go_wp2_with fail
  refine (chi_any (move (theta s)) (move_len _) W2).mono ?_
  rintro _ W3 ⟨rfl, K3⟩
  have q1' := hid (q1.out.keep K3 (fun h => h))
  have q2' := hid (q2.out.keep K3 (fun h => h))
  have kk' := hid (kk.out.trans K3)
  clear K3 q1 q2 kk
  have hul : (chi (move (theta s))).length = 25 := core_len s
  have HC : Is (core s) (chi (move (theta s))) := ⟨rfl⟩
  obtain ⟨u, hu⟩ : ∃ u, chi (move (theta s)) = u := ⟨_, rfl⟩
  rw [hu] at hul HC ⊢
  clear hu
  have q1 := hid (q1'.out.row (s' := u))
  have q2 := hid (q2'.out.otherRow w.heap.size (stv u).toArray (by omega))
  have kk := hid (kk'.out.setRow (g := w.heap.size) (by omega) (stv u).toArray)
  go_wp2_with ((with_reducible refine wpList_st (.tmp 2) (.tmp 15) rfl rfl _ rfl u hul rfl s hs ?_ ?_); exact q1'.out)
  obtain ⟨W4, hW⟩ : ∃ W4, W3.setRow w.heap.size (stv u).toArray = W4 := ⟨_, rfl⟩
  rw [hW] at q1 q2 kk ⊢
  clear hW q1' q2' kk'
  have c1 := q1.out.cell 0 (by omega)
  have f1 := q1.out.fro 0
  have X1 := hid (xor_val (gl u 0) (mark n))
  refine wp_region_text [0,0,0,2,0,0,3] (fun W => W.cell? ⟨w.heap.size, 0, none⟩ = some (.int .u64 ((gl u 0).toNat : Int))) (by kernel_rfl) (by kernel_rfl) c1 ?_
  repeat (first
    | (refine' wpT_calm (v := _) (by rfl) (fun W hW => ?_) ?_; rotate_left
       · ((try dsimp only at hW); go_simp; first | done | rfl)
       simp only [Act.put, List.setIfInBounds_toArray, List.set_cons_zero, List.set_cons_succ])
    | (refine' wpT_reads (v := _) (by rfl) ?_ ?_; rotate_left
       · (go_simp; first | done | rfl)
       simp only [Act.put, List.setIfInBounds_toArray, List.set_cons_zero, List.set_cons_succ])
    | (refine wpT_skip (by rfl) rfl ?_; simp only [Act.put, List.setIfInBounds_toArray, List.set_cons_zero, List.set_cons_succ])
    | (refine wpT_does (by rfl) (fun K hK => ?_); go_simp; refine hK _ _ ?_ ?_
       · (trivial)
       clear hK K; try simp only [Act.put, List.setIfInBounds_toArray, List.set_cons_zero, List.set_cons_succ])
    | (refine wpT_last (by rfl) (fun K hK => ?_); go_simp; refine hK _ _ ?_; clear hK K)
    | (refine wpT_nil ?_))
  refine wpT_does (by rfl) (fun K hK => ?_)
  go_simp
  refine (mark_any n hn _).mono ?_
  rintro _ _ ⟨rfl, rfl⟩
  refine hK _ _ c1 ?_
  clear hK K
  try simp only [Act.put, List.setIfInBounds_toArray, List.set_cons_zero, List.set_cons_succ]
  repeat (first
    | (refine' wpT_calm (v := _) (by rfl) (fun W hW => ?_) ?_; rotate_left
       · ((try dsimp only at hW); go_simp; first | done | rfl)
       simp only [Act.put, List.setIfInBounds_toArray, List.set_cons_zero, List.set_cons_succ])
    | (refine' wpT_reads (v := _) (by rfl) ?_ ?_; rotate_left
       · (go_simp; first | done | rfl)
       simp only [Act.put, List.setIfInBounds_toArray, List.set_cons_zero, List.set_cons_succ])
    | (refine wpT_skip (by rfl) rfl ?_; simp only [Act.put, List.setIfInBounds_toArray, List.set_cons_zero, List.set_cons_succ])
    | (refine wpT_does (by rfl) (fun K hK => ?_); go_simp; refine hK _ _ ?_ ?_
       · (trivial)
       clear hK K; try simp only [Act.put, List.setIfInBounds_toArray, List.set_cons_zero, List.set_cons_succ])
    | (refine wpT_last (by rfl) (fun K hK => ?_); go_simp; refine hK _ _ ?_; clear hK K)
    | (refine wpT_nil ?_))
  have q5 := RowL.set (w := W4.drew) q1.out 0 (gl u 0 ^^^ mark n)
  have q6 := RowL.other (w := W4.drew) q2.out ⟨w.heap.size, 0, none⟩ (.int .u64 ((gl u 0 ^^^ mark n).toNat : Int)) (by dsimp only; omega)
  have k7 := kk.out.drew.setCell (p := ⟨w.heap.size, 0, none⟩) (.inr (by dsimp only; omega)) (.int .u64 ((gl u 0 ^^^ mark n).toNat : Int))
  rw [← X1.out] at q5 q6 k7
  have hvl : (u.set 0 (gl u 0 ^^^ mark n)).length = 25 := by rw [List.length_set, hul]
  have HR : Is (rnd s n) (u.set 0 (gl u 0 ^^^ mark n)) := ⟨by unfold rnd; rw [HC.eq]⟩
  have q5 := hid q5
  have q6 := hid q6
  have k7 := hid k7
  obtain ⟨v, hv⟩ : ∃ v, u.set 0 (gl u 0 ^^^ mark n) = v := ⟨_, rfl⟩
  rw [hv] at q5 hvl HR
  clear hv X1 c1 f1 q1 q2 kk HC
  go_wp2_with (first | ((with_reducible refine wpList_ld (.tmp 2) rfl rfl _ rfl v hvl ?_ ?_); exact q5.out) | ((with_reducible refine wpList_st (.tmp 4) (.tmp 22) rfl rfl _ rfl v hvl rfl z25 rfl ?_ ?_); exact q6.out))
  refine bodyPost_ret (res_cell (p := 4) (g := w.heap.size + 1) (s := v) rfl _ _ hvl rfl q6.out.row) rfl ⟨?_, k7.out.setRow (by omega) _⟩
  rw [HR.eq]

end Go.Proofs.Ytpijnpapmdnceaa

namespace Go.Proofs.Ytpijnpapmdnceaa
open Go Go.RowKit

set_option maxRecDepth 10000 in
set_option maxHeartbeats 2000000 in
theorem perm_any (s : List L64) (hs : s.length = 25) (w : World) :
    Calls Try.prog 16 #[.agg (stv s).toArray] w fun e w' => e = .returned (.agg (stv (perm s)).toArray) ∧ Keep (fun _ => False) w w' := by
  obtain ⟨q1, q2, kk⟩ := boxes2 w s z25 28 28
  have q1 := hid q1
  have q2 := hid q2
  have kk := hid kk
  go_enter Try.func16, Try.ntmps16
  go_wp2_with fail
  go_loopw [4] (fun i wr => ∃ k : Nat, k ≤ 24 ∧ i = .int .i64 k ∧ RowL wr w.heap.size 28 (rnds s k) ∧ RowL wr (w.heap.size + 1) 28 z25 ∧ Keep (fun _ => False) w wr) (fun i _ => 24 - (intOf i).toNat)
  case atStart => exact ⟨0, Nat.zero_le _, rfl, q1.out, q2.out, kk.out⟩
  case round =>
    obtain ⟨k, hk, rfl, h1, h2, hK⟩ := hrel
    have H1 := hid h1
    have H2 := hid h2
    have HK := hid hK
    have hl := rnds_len hs k
    clear q1 q2 kk h1 h2 hK
    by_cases hlt : k < 24
    · have TS := rnds_succ s k
      obtain ⟨u, hu⟩ : ∃ u, rnds s k = u := ⟨_, rfl⟩
      rw [hu] at H1 hl TS
      have HR : Is (rnds s (k + 1)) (rnd u k) := ⟨TS⟩
      clear hu TS
      go_wp2_with ((with_reducible refine wpList_ld (.tmp 1) rfl rfl _ rfl u hl H1.out ?_))
      refine (round_in u hl k hlt _).mono ?_
      rintro _ W1 ⟨rfl, K1⟩
      have q1 := hid (H1.out.keep K1 (fun h => h))
      have q2 := hid (H2.out.keep K1 (fun h => h))
      have kk := hid (HK.out.trans K1)
      have hrl := rnd_len u k
      obtain ⟨v, hv⟩ : ∃ v, rnd u k = v := ⟨_, rfl⟩
      rw [hv] at hrl HR ⊢
      clear K1 H1 H2 HK hv
      go_wp2_with (with_reducible refine wpList_st (.tmp 1) (.tmp 9) rfl rfl _ rfl v hrl rfl u hl q1.out ?_)
      go_roundw
      case rel => exact ⟨k + 1, by omega, by go_num, by rw [HR.eq]; exact q1.out.row, q2.out.otherRow _ _ (by omega), kk.out.setRow (by omega) _⟩
      case measure => simp [intOf]; omega
    · have hk24 : k = 24 := by omega
      have HE : Is (perm s) (rnds s k) := ⟨by rw [hk24]; rfl⟩
      obtain ⟨u, hu⟩ : ∃ u, rnds s k = u := ⟨_, rfl⟩
      rw [hu] at H1 hl HE
      clear hu hk24
      go_wp2_with (first | (with_reducible refine wpList_ld (.tmp 1) rfl rfl _ rfl u hl H1.out ?_) | (with_reducible refine wpList_st (.tmp 2) (.tmp 11) rfl rfl _ rfl u hl rfl z25 rfl H2.out ?_))
      refine bodyPost_ret (res_cell (p := 2) (g := w.heap.size + 1) (s := u) rfl _ _ hl rfl H2.out.row) rfl ⟨?_, HK.out.setRow (by omega) _⟩
      rw [HE.eq]
end Go.Proofs.Ytpijnpapmdnceaa
