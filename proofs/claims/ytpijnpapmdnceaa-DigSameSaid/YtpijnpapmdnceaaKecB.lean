/- Keccak: both rounds are one. -/
import Derived.Test.YtpijnpapmdnceaaKecA
namespace Go.Proofs.Ytpijnpapmdnceaa
open Go

/-- Rows for columns. -/
def tr (t : List L64) : List L64 := (List.range 25).map fun n => gl t (n / 5 + 5 * (n % 5))

theorem lane_eq (a p0 p1 p2 p3 p4 n0 n1 n2 n3 n4 : L64) :
    a ^^^ p0 ^^^ rot n0 1 ^^^ p1 ^^^ rot n1 1 ^^^ p2 ^^^ rot n2 1 ^^^ p3 ^^^ rot n3 1 ^^^ p4 ^^^ rot n4 1 = a ^^^ ((0#64 ^^^ p0 ^^^ p1 ^^^ p2 ^^^ p3 ^^^ p4) ^^^ rot (0#64 ^^^ n0 ^^^ n1 ^^^ n2 ^^^ n3 ^^^ n4) 1) := by
  rw [BitVec.zero_xor, BitVec.zero_xor, rot_xor _ _ _ (by decide), rot_xor _ _ _ (by decide), rot_xor _ _ _ (by decide), rot_xor _ _ _ (by decide)]
  ac_rfl

theorem rA_list (a0 a1 a2 a3 a4 a5 a6 a7 a8 a9 a10 a11 a12 a13 a14 a15 a16 a17 a18 a19 a20 a21 a22 a23 a24 : L64) : rA [a0, a1, a2, a3, a4, a5, a6, a7, a8, a9, a10, a11, a12, a13, a14, a15, a16, a17, a18, a19, a20, a21, a22, a23, a24] = tr (theta [a0, a1, a2, a3, a4, a5, a6, a7, a8, a9, a10, a11, a12, a13, a14, a15, a16, a17, a18, a19, a20, a21, a22, a23, a24]) := by
  have e1 : rA [a0, a1, a2, a3, a4, a5, a6, a7, a8, a9, a10, a11, a12, a13, a14, a15, a16, a17, a18, a19, a20, a21, a22, a23, a24] = [a0 ^^^ a4 ^^^ rot a1 1 ^^^ a9 ^^^ rot a6 1 ^^^ a14 ^^^ rot a11 1 ^^^ a19 ^^^ rot a16 1 ^^^ a24 ^^^ rot a21 1, a5 ^^^ a4 ^^^ rot a1 1 ^^^ a9 ^^^ rot a6 1 ^^^ a14 ^^^ rot a11 1 ^^^ a19 ^^^ rot a16 1 ^^^ a24 ^^^ rot a21 1, a10 ^^^ a4 ^^^ rot a1 1 ^^^ a9 ^^^ rot a6 1 ^^^ a14 ^^^ rot a11 1 ^^^ a19 ^^^ rot a16 1 ^^^ a24 ^^^ rot a21 1, a15 ^^^ a4 ^^^ rot a1 1 ^^^ a9 ^^^ rot a6 1 ^^^ a14 ^^^ rot a11 1 ^^^ a19 ^^^ rot a16 1 ^^^ a24 ^^^ rot a21 1, a20 ^^^ a4 ^^^ rot a1 1 ^^^ a9 ^^^ rot a6 1 ^^^ a14 ^^^ rot a11 1 ^^^ a19 ^^^ rot a16 1 ^^^ a24 ^^^ rot a21 1, a1 ^^^ a0 ^^^ rot a2 1 ^^^ a5 ^^^ rot a7 1 ^^^ a10 ^^^ rot a12 1 ^^^ a15 ^^^ rot a17 1 ^^^ a20 ^^^ rot a22 1, a6 ^^^ a0 ^^^ rot a2 1 ^^^ a5 ^^^ rot a7 1 ^^^ a10 ^^^ rot a12 1 ^^^ a15 ^^^ rot a17 1 ^^^ a20 ^^^ rot a22 1, a11 ^^^ a0 ^^^ rot a2 1 ^^^ a5 ^^^ rot a7 1 ^^^ a10 ^^^ rot a12 1 ^^^ a15 ^^^ rot a17 1 ^^^ a20 ^^^ rot a22 1, a16 ^^^ a0 ^^^ rot a2 1 ^^^ a5 ^^^ rot a7 1 ^^^ a10 ^^^ rot a12 1 ^^^ a15 ^^^ rot a17 1 ^^^ a20 ^^^ rot a22 1, a21 ^^^ a0 ^^^ rot a2 1 ^^^ a5 ^^^ rot a7 1 ^^^ a10 ^^^ rot a12 1 ^^^ a15 ^^^ rot a17 1 ^^^ a20 ^^^ rot a22 1, a2 ^^^ a1 ^^^ rot a3 1 ^^^ a6 ^^^ rot a8 1 ^^^ a11 ^^^ rot a13 1 ^^^ a16 ^^^ rot a18 1 ^^^ a21 ^^^ rot a23 1, a7 ^^^ a1 ^^^ rot a3 1 ^^^ a6 ^^^ rot a8 1 ^^^ a11 ^^^ rot a13 1 ^^^ a16 ^^^ rot a18 1 ^^^ a21 ^^^ rot a23 1, a12 ^^^ a1 ^^^ rot a3 1 ^^^ a6 ^^^ rot a8 1 ^^^ a11 ^^^ rot a13 1 ^^^ a16 ^^^ rot a18 1 ^^^ a21 ^^^ rot a23 1, a17 ^^^ a1 ^^^ rot a3 1 ^^^ a6 ^^^ rot a8 1 ^^^ a11 ^^^ rot a13 1 ^^^ a16 ^^^ rot a18 1 ^^^ a21 ^^^ rot a23 1, a22 ^^^ a1 ^^^ rot a3 1 ^^^ a6 ^^^ rot a8 1 ^^^ a11 ^^^ rot a13 1 ^^^ a16 ^^^ rot a18 1 ^^^ a21 ^^^ rot a23 1, a3 ^^^ a2 ^^^ rot a4 1 ^^^ a7 ^^^ rot a9 1 ^^^ a12 ^^^ rot a14 1 ^^^ a17 ^^^ rot a19 1 ^^^ a22 ^^^ rot a24 1, a8 ^^^ a2 ^^^ rot a4 1 ^^^ a7 ^^^ rot a9 1 ^^^ a12 ^^^ rot a14 1 ^^^ a17 ^^^ rot a19 1 ^^^ a22 ^^^ rot a24 1, a13 ^^^ a2 ^^^ rot a4 1 ^^^ a7 ^^^ rot a9 1 ^^^ a12 ^^^ rot a14 1 ^^^ a17 ^^^ rot a19 1 ^^^ a22 ^^^ rot a24 1, a18 ^^^ a2 ^^^ rot a4 1 ^^^ a7 ^^^ rot a9 1 ^^^ a12 ^^^ rot a14 1 ^^^ a17 ^^^ rot a19 1 ^^^ a22 ^^^ rot a24 1, a23 ^^^ a2 ^^^ rot a4 1 ^^^ a7 ^^^ rot a9 1 ^^^ a12 ^^^ rot a14 1 ^^^ a17 ^^^ rot a19 1 ^^^ a22 ^^^ rot a24 1, a4 ^^^ a3 ^^^ rot a0 1 ^^^ a8 ^^^ rot a5 1 ^^^ a13 ^^^ rot a10 1 ^^^ a18 ^^^ rot a15 1 ^^^ a23 ^^^ rot a20 1, a9 ^^^ a3 ^^^ rot a0 1 ^^^ a8 ^^^ rot a5 1 ^^^ a13 ^^^ rot a10 1 ^^^ a18 ^^^ rot a15 1 ^^^ a23 ^^^ rot a20 1, a14 ^^^ a3 ^^^ rot a0 1 ^^^ a8 ^^^ rot a5 1 ^^^ a13 ^^^ rot a10 1 ^^^ a18 ^^^ rot a15 1 ^^^ a23 ^^^ rot a20 1, a19 ^^^ a3 ^^^ rot a0 1 ^^^ a8 ^^^ rot a5 1 ^^^ a13 ^^^ rot a10 1 ^^^ a18 ^^^ rot a15 1 ^^^ a23 ^^^ rot a20 1, a24 ^^^ a3 ^^^ rot a0 1 ^^^ a8 ^^^ rot a5 1 ^^^ a13 ^^^ rot a10 1 ^^^ a18 ^^^ rot a15 1 ^^^ a23 ^^^ rot a20 1] := by kernel_rfl
  have e2 : tr (theta [a0, a1, a2, a3, a4, a5, a6, a7, a8, a9, a10, a11, a12, a13, a14, a15, a16, a17, a18, a19, a20, a21, a22, a23, a24]) = [a0 ^^^ ((0#64 ^^^ a4 ^^^ a9 ^^^ a14 ^^^ a19 ^^^ a24) ^^^ rot (0#64 ^^^ a1 ^^^ a6 ^^^ a11 ^^^ a16 ^^^ a21) 1), a5 ^^^ ((0#64 ^^^ a4 ^^^ a9 ^^^ a14 ^^^ a19 ^^^ a24) ^^^ rot (0#64 ^^^ a1 ^^^ a6 ^^^ a11 ^^^ a16 ^^^ a21) 1), a10 ^^^ ((0#64 ^^^ a4 ^^^ a9 ^^^ a14 ^^^ a19 ^^^ a24) ^^^ rot (0#64 ^^^ a1 ^^^ a6 ^^^ a11 ^^^ a16 ^^^ a21) 1), a15 ^^^ ((0#64 ^^^ a4 ^^^ a9 ^^^ a14 ^^^ a19 ^^^ a24) ^^^ rot (0#64 ^^^ a1 ^^^ a6 ^^^ a11 ^^^ a16 ^^^ a21) 1), a20 ^^^ ((0#64 ^^^ a4 ^^^ a9 ^^^ a14 ^^^ a19 ^^^ a24) ^^^ rot (0#64 ^^^ a1 ^^^ a6 ^^^ a11 ^^^ a16 ^^^ a21) 1), a1 ^^^ ((0#64 ^^^ a0 ^^^ a5 ^^^ a10 ^^^ a15 ^^^ a20) ^^^ rot (0#64 ^^^ a2 ^^^ a7 ^^^ a12 ^^^ a17 ^^^ a22) 1), a6 ^^^ ((0#64 ^^^ a0 ^^^ a5 ^^^ a10 ^^^ a15 ^^^ a20) ^^^ rot (0#64 ^^^ a2 ^^^ a7 ^^^ a12 ^^^ a17 ^^^ a22) 1), a11 ^^^ ((0#64 ^^^ a0 ^^^ a5 ^^^ a10 ^^^ a15 ^^^ a20) ^^^ rot (0#64 ^^^ a2 ^^^ a7 ^^^ a12 ^^^ a17 ^^^ a22) 1), a16 ^^^ ((0#64 ^^^ a0 ^^^ a5 ^^^ a10 ^^^ a15 ^^^ a20) ^^^ rot (0#64 ^^^ a2 ^^^ a7 ^^^ a12 ^^^ a17 ^^^ a22) 1), a21 ^^^ ((0#64 ^^^ a0 ^^^ a5 ^^^ a10 ^^^ a15 ^^^ a20) ^^^ rot (0#64 ^^^ a2 ^^^ a7 ^^^ a12 ^^^ a17 ^^^ a22) 1), a2 ^^^ ((0#64 ^^^ a1 ^^^ a6 ^^^ a11 ^^^ a16 ^^^ a21) ^^^ rot (0#64 ^^^ a3 ^^^ a8 ^^^ a13 ^^^ a18 ^^^ a23) 1), a7 ^^^ ((0#64 ^^^ a1 ^^^ a6 ^^^ a11 ^^^ a16 ^^^ a21) ^^^ rot (0#64 ^^^ a3 ^^^ a8 ^^^ a13 ^^^ a18 ^^^ a23) 1), a12 ^^^ ((0#64 ^^^ a1 ^^^ a6 ^^^ a11 ^^^ a16 ^^^ a21) ^^^ rot (0#64 ^^^ a3 ^^^ a8 ^^^ a13 ^^^ a18 ^^^ a23) 1), a17 ^^^ ((0#64 ^^^ a1 ^^^ a6 ^^^ a11 ^^^ a16 ^^^ a21) ^^^ rot (0#64 ^^^ a3 ^^^ a8 ^^^ a13 ^^^ a18 ^^^ a23) 1), a22 ^^^ ((0#64 ^^^ a1 ^^^ a6 ^^^ a11 ^^^ a16 ^^^ a21) ^^^ rot (0#64 ^^^ a3 ^^^ a8 ^^^ a13 ^^^ a18 ^^^ a23) 1), a3 ^^^ ((0#64 ^^^ a2 ^^^ a7 ^^^ a12 ^^^ a17 ^^^ a22) ^^^ rot (0#64 ^^^ a4 ^^^ a9 ^^^ a14 ^^^ a19 ^^^ a24) 1), a8 ^^^ ((0#64 ^^^ a2 ^^^ a7 ^^^ a12 ^^^ a17 ^^^ a22) ^^^ rot (0#64 ^^^ a4 ^^^ a9 ^^^ a14 ^^^ a19 ^^^ a24) 1), a13 ^^^ ((0#64 ^^^ a2 ^^^ a7 ^^^ a12 ^^^ a17 ^^^ a22) ^^^ rot (0#64 ^^^ a4 ^^^ a9 ^^^ a14 ^^^ a19 ^^^ a24) 1), a18 ^^^ ((0#64 ^^^ a2 ^^^ a7 ^^^ a12 ^^^ a17 ^^^ a22) ^^^ rot (0#64 ^^^ a4 ^^^ a9 ^^^ a14 ^^^ a19 ^^^ a24) 1), a23 ^^^ ((0#64 ^^^ a2 ^^^ a7 ^^^ a12 ^^^ a17 ^^^ a22) ^^^ rot (0#64 ^^^ a4 ^^^ a9 ^^^ a14 ^^^ a19 ^^^ a24) 1), a4 ^^^ ((0#64 ^^^ a3 ^^^ a8 ^^^ a13 ^^^ a18 ^^^ a23) ^^^ rot (0#64 ^^^ a0 ^^^ a5 ^^^ a10 ^^^ a15 ^^^ a20) 1), a9 ^^^ ((0#64 ^^^ a3 ^^^ a8 ^^^ a13 ^^^ a18 ^^^ a23) ^^^ rot (0#64 ^^^ a0 ^^^ a5 ^^^ a10 ^^^ a15 ^^^ a20) 1), a14 ^^^ ((0#64 ^^^ a3 ^^^ a8 ^^^ a13 ^^^ a18 ^^^ a23) ^^^ rot (0#64 ^^^ a0 ^^^ a5 ^^^ a10 ^^^ a15 ^^^ a20) 1), a19 ^^^ ((0#64 ^^^ a3 ^^^ a8 ^^^ a13 ^^^ a18 ^^^ a23) ^^^ rot (0#64 ^^^ a0 ^^^ a5 ^^^ a10 ^^^ a15 ^^^ a20) 1), a24 ^^^ ((0#64 ^^^ a3 ^^^ a8 ^^^ a13 ^^^ a18 ^^^ a23) ^^^ rot (0#64 ^^^ a0 ^^^ a5 ^^^ a10 ^^^ a15 ^^^ a20) 1)] := by kernel_rfl
  rw [e1, e2]
  simp only [lane_eq]

theorem rB_list (a0 a1 a2 a3 a4 a5 a6 a7 a8 a9 a10 a11 a12 a13 a14 a15 a16 a17 a18 a19 a20 a21 a22 a23 a24 : L64) : rB (tr [a0, a1, a2, a3, a4, a5, a6, a7, a8, a9, a10, a11, a12, a13, a14, a15, a16, a17, a18, a19, a20, a21, a22, a23, a24]) = tr (move [a0, a1, a2, a3, a4, a5, a6, a7, a8, a9, a10, a11, a12, a13, a14, a15, a16, a17, a18, a19, a20, a21, a22, a23, a24]) := by
  have e1 : tr (move [a0, a1, a2, a3, a4, a5, a6, a7, a8, a9, a10, a11, a12, a13, a14, a15, a16, a17, a18, a19, a20, a21, a22, a23, a24]) = [a0, rot a3 28, rot a1 1, rot a4 27, rot a2 62, rot a6 44, rot a9 20, rot a7 6, rot a5 36, rot a8 55, rot a12 43, rot a10 3, rot a13 25, rot a11 10, rot a14 39, rot a18 21, rot a16 45, rot a19 8, rot a17 15, rot a15 41, rot a24 14, rot a22 61, rot a20 18, rot a23 56, rot a21 2] := by kernel_rfl
  have e2 : rB (tr [a0, a1, a2, a3, a4, a5, a6, a7, a8, a9, a10, a11, a12, a13, a14, a15, a16, a17, a18, a19, a20, a21, a22, a23, a24]) = [rot a0 0, rot a3 28, rot a1 1, rot a4 27, rot a2 62, rot a6 44, rot a9 20, rot a7 6, rot a5 36, rot a8 55, rot a12 43, rot a10 3, rot a13 25, rot a11 10, rot a14 39, rot a18 21, rot a16 45, rot a19 8, rot a17 15, rot a15 41, rot a24 14, rot a22 61, rot a20 18, rot a23 56, rot a21 2] := by kernel_rfl
  rw [e1, e2, rot_0]

theorem rO_list (a0 a1 a2 a3 a4 a5 a6 a7 a8 a9 a10 a11 a12 a13 a14 a15 a16 a17 a18 a19 a20 a21 a22 a23 a24 : L64) : rO (tr [a0, a1, a2, a3, a4, a5, a6, a7, a8, a9, a10, a11, a12, a13, a14, a15, a16, a17, a18, a19, a20, a21, a22, a23, a24]) = chi [a0, a1, a2, a3, a4, a5, a6, a7, a8, a9, a10, a11, a12, a13, a14, a15, a16, a17, a18, a19, a20, a21, a22, a23, a24] := by kernel_rfl

theorem rA_eq {s : List L64} (h : s.length = 25) : rA s = tr (theta s) := by
  obtain ⟨a0, a1, a2, a3, a4, a5, a6, a7, a8, a9, a10, a11, a12, a13, a14, a15, a16, a17, a18, a19, a20, a21, a22, a23, a24, rfl⟩ := list25 s h
  exact rA_list _ _ _ _ _ _ _ _ _ _ _ _ _ _ _ _ _ _ _ _ _ _ _ _ _
theorem rB_eq {s : List L64} (h : s.length = 25) : rB (tr s) = tr (move s) := by
  obtain ⟨a0, a1, a2, a3, a4, a5, a6, a7, a8, a9, a10, a11, a12, a13, a14, a15, a16, a17, a18, a19, a20, a21, a22, a23, a24, rfl⟩ := list25 s h
  exact rB_list _ _ _ _ _ _ _ _ _ _ _ _ _ _ _ _ _ _ _ _ _ _ _ _ _
theorem rO_eq {s : List L64} (h : s.length = 25) : rO (tr s) = chi s := by
  obtain ⟨a0, a1, a2, a3, a4, a5, a6, a7, a8, a9, a10, a11, a12, a13, a14, a15, a16, a17, a18, a19, a20, a21, a22, a23, a24, rfl⟩ := list25 s h
  exact rO_list _ _ _ _ _ _ _ _ _ _ _ _ _ _ _ _ _ _ _ _ _ _ _ _ _

theorem fold_len {A : Type} (f : List L64 → A → List L64) (hf : ∀ s a, (f s a).length = s.length) (l : List A) (s : List L64) : (l.foldl f s).length = s.length := by
  induction l generalizing s with
  | nil => rfl
  | cons a l ih => rw [List.foldl_cons, ih, hf]
theorem thC_len (s : List L64) (k : Nat) : (thC s k).length = 5 := fold_len _ (fun c i => by simp [thC1]) _ _
theorem thS_len (c s : List L64) (k : Nat) : (thS c s k).length = s.length := fold_len _ (fun c i => by simp [thS1]) _ _
theorem theta_len (s : List L64) : (theta s).length = s.length := thS_len _ _ _
theorem mvS_len (s : List L64) (k : Nat) : (mvS s k).o.length = 25 := by
  unfold mvS
  have : ∀ (l : List Nat) (m : Mv), (l.foldl (mv1 s) m).o.length = m.o.length := by
    intro l
    induction l with
    | nil => intro m; rfl
    | cons a l ih => intro m; rw [List.foldl_cons, ih]; simp [mv1]
  rw [this]; simp [z25]
theorem move_len (s : List L64) : (move s).length = 25 := mvS_len _ _
theorem chS_len (s : List L64) (k : Nat) : (chS s k).length = s.length := fold_len _ (fun c i => by simp [ch1]) _ _
theorem chi_len (s : List L64) : (chi s).length = s.length := chS_len _ _
theorem core_len (s : List L64) : (core s).length = 25 := by unfold core; rw [chi_len, move_len]
theorem rnd_len (s : List L64) (n : Nat) : (rnd s n).length = 25 := by unfold rnd; rw [List.length_set, core_len]
theorem rnds_len {s : List L64} (h : s.length = 25) (k : Nat) : (rnds s k).length = 25 := by
  cases k with
  | zero => exact h
  | succ k => unfold rnds; rw [List.range_succ, List.foldl_append, List.foldl_cons, List.foldl_nil]; exact rnd_len _ _
theorem rnds_succ (s : List L64) (k : Nat) : rnds s (k + 1) = rnd (rnds s k) k := by unfold rnds; rw [List.range_succ, List.foldl_append, List.foldl_cons, List.foldl_nil]

theorem rM_zero : ∀ n : Fin 24, rM n.1 0#64 7 = mark n.1 := by decide +kernel
theorem rM_out (n : Nat) (o : L64) : ∀ k, rM n o k = o ^^^ rM n 0#64 k
  | 0 => by simp [rM]
  | k + 1 => by
    have e : ∀ o, rM n o (k + 1) = rm1 n (rM n o k) k := fun o => by unfold rM; rw [List.range_succ, List.foldl_append, List.foldl_cons, List.foldl_nil]
    rw [e, e, rM_out n o k]
    unfold rm1
    rw [BitVec.xor_assoc]

/-- Both rounds are one. -/
theorem rrnd_eq {s : List L64} (h : s.length = 25) (n : Nat) (hn : n < 24) : rrnd s n = rnd s n := by
  unfold rrnd rnd core
  rw [rA_eq h, rB_eq (by rw [theta_len, h]), rO_eq (move_len _), rM_out, rM_zero ⟨n, hn⟩]

/-- What the whole comes to out of nothing. -/
theorem perm_zero : perm z25 ≠ z25 ∧ rnd z25 0 = z25.set 0 1#64 := by
  constructor
  · decide +kernel
  · decide +kernel
end Go.Proofs.Ytpijnpapmdnceaa
