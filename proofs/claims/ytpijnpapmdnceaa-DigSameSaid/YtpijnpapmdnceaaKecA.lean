/- Keccak in plain words: lanes of 64 bits, states as lists of 25. -/
import Derived.WalkKit
namespace Go.Proofs.Ytpijnpapmdnceaa
open Go

abbrev L64 := BitVec 64

/-- A lane whose bits are moved up. -/
def rot (a : L64) (n : Nat) : L64 := (a <<< n) ||| (a >>> (64 - n))

theorem rot_bit (a : L64) (n i : Nat) (hn : n ≤ 64) (hi : i < 64) : (rot a n).getLsbD i = if i < n then a.getLsbD (64 - n + i) else a.getLsbD (i - n) := by
  unfold rot
  rw [BitVec.getLsbD_or, BitVec.getLsbD_shiftLeft, BitVec.getLsbD_ushiftRight]
  by_cases h : i < n
  · simp [h, hi]
  · have : a.getLsbD (64 - n + i) = false := BitVec.getLsbD_of_ge _ _ (by omega)
    simp [h, hi, this]

theorem rot_xor (a b : L64) (n : Nat) (hn : n ≤ 64) : rot (a ^^^ b) n = rot a n ^^^ rot b n := by
  refine BitVec.eq_of_getLsbD_eq fun i hi => ?_
  rw [BitVec.getLsbD_xor, rot_bit _ _ _ hn hi, rot_bit _ _ _ hn hi, rot_bit _ _ _ hn hi]
  split <;> rw [BitVec.getLsbD_xor]

theorem rot_rot (a : L64) (n : Nat) (hn : n ≤ 32) : rot (rot a n) n = rot a (2 * n) := by
  refine BitVec.eq_of_getLsbD_eq fun i hi => ?_
  rw [rot_bit _ _ _ (by omega) hi, rot_bit _ _ _ (by omega) hi]
  by_cases h : i < n
  · rw [if_pos h, if_pos (by omega), rot_bit _ _ _ (by omega) (by omega)]
    split
    · congr 1; omega
    · congr 1; omega
  · rw [if_neg h, rot_bit _ _ _ (by omega) (by omega)]
    by_cases h2 : i - n < n
    · rw [if_pos h2, if_pos (by omega)]; congr 1; omega
    · rw [if_neg h2, if_neg (by omega)]; congr 1; omega

theorem rot_64 (a : L64) : rot a 64 = a := by
  refine BitVec.eq_of_getLsbD_eq fun i hi => ?_
  rw [rot_bit _ _ _ (by omega) hi, if_pos hi]
  congr 1; omega

theorem rot_0 (a : L64) : rot a 0 = a := by
  refine BitVec.eq_of_getLsbD_eq fun i hi => ?_
  rw [rot_bit _ _ _ (by omega) hi, if_neg (by omega)]
  congr 1

theorem rot_inj (a b : L64) (n : Nat) (hn : n ≤ 64) (h : rot a n = rot b n) : a = b := by
  refine BitVec.eq_of_getLsbD_eq fun i hi => ?_
  by_cases h2 : i + n < 64
  · have := congrArg (fun x => x.getLsbD (i + n)) h
    try dsimp only at this
    rw [rot_bit _ _ _ hn h2, rot_bit _ _ _ hn h2, if_neg (by omega), if_neg (by omega)] at this
    rw [show i + n - n = i by omega] at this
    exact this
  · have h3 : i + n - 64 < 64 := by omega
    have := congrArg (fun x => x.getLsbD (i + n - 64)) h
    try dsimp only at this
    rw [rot_bit _ _ _ hn h3, rot_bit _ _ _ hn h3, if_pos (by omega), if_pos (by omega)] at this
    rw [show 64 - n + (i + n - 64) = i by omega] at this
    exact this

/-- A lane of a list. -/
def gl (s : List L64) (i : Nat) : L64 := s.getD i 0#64
def z5 : List L64 := [0#64, 0#64, 0#64, 0#64, 0#64]
def z25 : List L64 := List.replicate 25 0#64

/-! The program's steps, loop by loop. -/
def thC1 (s : List L64) (c : List L64) (i : Nat) : List L64 := c.set (i % 5) (gl c (i % 5) ^^^ gl s i)
def thC (s : List L64) (k : Nat) : List L64 := (List.range k).foldl (thC1 s) z5
def thS1 (c : List L64) (s : List L64) (i : Nat) : List L64 := s.set i (gl s i ^^^ (gl c ((i % 5 + 4) % 5) ^^^ rot (gl c ((i % 5 + 1) % 5)) 1))
def thS (c s : List L64) (k : Nat) : List L64 := (List.range k).foldl (thS1 c) s
def theta (s : List L64) : List L64 := thS (thC s 25) s 25

/-- Where a move is, and what it has laid. -/
structure Mv where
  x : Nat
  y : Nat
  o : List L64
def mv1 (s : List L64) (m : Mv) (t : Nat) : Mv := ⟨m.y, (2 * m.x + 3 * m.y) % 5, m.o.set (m.y + 5 * ((2 * m.x + 3 * m.y) % 5)) (rot (gl s (m.x + 5 * m.y)) ((t + 1) * (t + 2) / 2 % 64))⟩
def mvS (s : List L64) (k : Nat) : Mv := (List.range k).foldl (mv1 s) ⟨1, 0, z25.set 0 (gl s 0)⟩
def move (s : List L64) : List L64 := (mvS s 24).o

def ch1 (s o : List L64) (i : Nat) : List L64 := o.set i (gl o i ^^^ (gl s ((i % 5 + 2) % 5 + 5 * (i / 5)) &&& ~~~ (gl s ((i % 5 + 1) % 5 + 5 * (i / 5)))))
def chS (s : List L64) (k : Nat) : List L64 := (List.range k).foldl (ch1 s) s
def chi (s : List L64) : List L64 := chS s 25

/-- The register, and what is marked so far. -/
def lf1 (r : Nat) : Nat := if 256 ≤ 2 * r then (2 * r) ^^^ 0x171 else 2 * r
def lf : Nat → Nat
  | 0 => 1
  | t + 1 => lf1 (lf t)
def mk1 (n : Nat) (o : L64) (t : Nat) : L64 := if 7 * n ≤ t then o ||| (BitVec.ofNat 64 (lf t % 2) <<< (2 ^ (t - 7 * n) - 1)) else o
def mkS (n k : Nat) : L64 := (List.range k).foldl (mk1 n) 0#64
def mark (n : Nat) : L64 := mkS n (7 * (n + 1))

def core (s : List L64) : List L64 := chi (move (theta s))
def rnd (s : List L64) (n : Nat) : List L64 := (core s).set 0 (gl (core s) 0 ^^^ mark n)
def rnds (s : List L64) (k : Nat) : List L64 := (List.range k).foldl rnd s
def perm (s : List L64) : List L64 := rnds s 24

/-! The reference's steps. -/
def ra3 (s : List L64) (x y : Nat) (a : List L64) (k : Nat) : List L64 := a.set (x * 5 + y) (gl a (x * 5 + y) ^^^ gl s ((x + 4) % 5 + 5 * k) ^^^ rot (gl s ((x + 1) % 5 + 5 * k)) 1)
def ra2 (s : List L64) (x : Nat) (a : List L64) (y : Nat) : List L64 := (List.range 5).foldl (ra3 s x y) (a.set (x * 5 + y) (gl s (x + 5 * y)))
def ra1 (s : List L64) (a : List L64) (x : Nat) : List L64 := (List.range 5).foldl (ra2 s x) a
def rA (s : List L64) : List L64 := (List.range 5).foldl (ra1 s) z25

/-- The turns: x, y, and the table. -/
structure Tn where
  x : Nat
  y : Nat
  o : List Nat
def zn : List Nat := [0, 0, 0, 0, 0, 0, 0, 0, 0, 0, 0, 0, 0, 0, 0, 0, 0, 0, 0, 0, 0, 0, 0, 0, 0]
def tn1 (m : Tn) (t : Nat) : Tn := ⟨m.y, (2 * m.x + 3 * m.y) % 5, m.o.set (m.x * 5 + m.y) ((t + 1) * (t + 2) / 2 % 64)⟩
def tnS (k : Nat) : Tn := (List.range k).foldl tn1 ⟨1, 0, zn⟩
def turns : List Nat := (tnS 24).o

def rb2 (a : List L64) (x : Nat) (b : List L64) (y : Nat) : List L64 := b.set (y * 5 + (2 * x + 3 * y) % 5) (rot (gl a (x * 5 + y)) (turns.getD (x * 5 + y) 0))
def rb1 (a b : List L64) (x : Nat) : List L64 := (List.range 5).foldl (rb2 a x) b
def rB (a : List L64) : List L64 := (List.range 5).foldl (rb1 a) z25

def ro2 (b : List L64) (x : Nat) (o : List L64) (y : Nat) : List L64 := o.set (x + 5 * y) (gl b (x * 5 + y) ^^^ (gl b ((x + 2) % 5 * 5 + y) &&& ~~~ (gl b ((x + 1) % 5 * 5 + y))))
def ro1 (b o : List L64) (x : Nat) : List L64 := (List.range 5).foldl (ro2 b x) o
def rO (b : List L64) : List L64 := (List.range 5).foldl (ro1 b) z25

def rm1 (n : Nat) (o : L64) (j : Nat) : L64 := o ^^^ (BitVec.ofNat 64 (lf (j + 7 * n) % 2) <<< (2 ^ j - 1))
def rM (n : Nat) (o : L64) (k : Nat) : L64 := (List.range k).foldl (rm1 n) o
def rrnd (s : List L64) (n : Nat) : List L64 := (rO (rB (rA s))).set 0 (rM n (gl (rO (rB (rA s))) 0) 7)

/-! Both are one. -/
theorem list25 (s : List L64) (h : s.length = 25) : ∃ a0 a1 a2 a3 a4 a5 a6 a7 a8 a9 a10 a11 a12 a13 a14 a15 a16 a17 a18 a19 a20 a21 a22 a23 a24 : L64,
    s = [a0, a1, a2, a3, a4, a5, a6, a7, a8, a9, a10, a11, a12, a13, a14, a15, a16, a17, a18, a19, a20, a21, a22, a23, a24] := by
  match s, h with
  | [a0, a1, a2, a3, a4, a5, a6, a7, a8, a9, a10, a11, a12, a13, a14, a15, a16, a17, a18, a19, a20, a21, a22, a23, a24], _ => exact ⟨_, _, _, _, _, _, _, _, _, _, _, _, _, _, _, _, _, _, _, _, _, _, _, _, _, rfl⟩

end Go.Proofs.Ytpijnpapmdnceaa
