/- Keccak: a round loses nothing. -/
import Derived.Test.YtpijnpapmdnceaaKecB
namespace Go.Proofs.Ytpijnpapmdnceaa
open Go

/-- A column's sum. -/
def col (s : List L64) (x : Fin 5) : L64 := gl s x.1 ^^^ gl s (x.1 + 5) ^^^ gl s (x.1 + 10) ^^^ gl s (x.1 + 15) ^^^ gl s (x.1 + 20)
/-- What a column and its neighbours come to. -/
def qq (d : Fin 5) (r : Nat) (c : Fin 5 → L64) : Fin 5 → L64 := fun x => c x ^^^ c (x - d) ^^^ rot (c (x + d)) r

theorem bits_eq {a b : L64} (h : ∀ i, i < 64 → a.getLsbD i = b.getLsbD i) : a = b := BitVec.eq_of_getLsbD_eq h

theorem x6 (a b r b2 ra r2 : L64) : (a ^^^ b ^^^ r) ^^^ (b ^^^ b2 ^^^ ra) ^^^ (r ^^^ ra ^^^ r2) = a ^^^ b2 ^^^ r2 := by
  refine bits_eq fun i _ => ?_
  simp only [BitVec.getLsbD_xor]
  generalize a.getLsbD i = a
  generalize b.getLsbD i = b
  generalize r.getLsbD i = r
  generalize b2.getLsbD i = b2
  generalize ra.getLsbD i = ra
  generalize r2.getLsbD i = r2
  revert a b r b2 ra r2
  decide

theorem qq_qq (d : Fin 5) (r : Nat) (hr : r ≤ 32) (c : Fin 5 → L64) : qq d r (qq d r c) = qq (d + d) (2 * r) c := by
  funext x
  have h1 : x - d + d = x := by revert x d; decide
  have h2 : x + d - d = x := by revert x d; decide
  have h3 : x - d - d = x - (d + d) := by revert x d; decide
  have h4 : x + d + d = x + (d + d) := by revert x d; decide
  simp only [qq]
  rw [rot_xor _ _ _ (by omega), rot_xor _ _ _ (by omega), rot_rot _ _ hr, h1, h2, h3, h4]
  exact x6 _ _ _ _ _ _

theorem t3 (c : Fin 5 → L64) : qq 4 64 (qq 4 64 (qq 4 64 c)) = c := by
  funext x
  have h : ∀ (c : Fin 5 → L64) x, qq 4 64 c x = c x ^^^ c (x + 1) ^^^ c (x + 4) := fun c x => by
    have : x - 4 = x + 1 := by revert x; decide
    unfold qq
    rw [rot_64, this]
  simp only [h]
  have h1 : x + 1 + 1 = x + 2 := by revert x; decide
  have h2 : x + 1 + 4 = x := by revert x; decide
  have h3 : x + 4 + 1 = x := by revert x; decide
  have h4 : x + 4 + 4 = x + 3 := by revert x; decide
  have h5 : x + 2 + 1 = x + 3 := by revert x; decide
  have h6 : x + 2 + 4 = x + 1 := by revert x; decide
  have h7 : x + 3 + 1 = x + 4 := by revert x; decide
  have h8 : x + 3 + 4 = x + 2 := by revert x; decide
  simp only [h1, h2, h3, h4, h5, h6, h7, h8]
  generalize c x = a
  generalize c (x + 1) = b
  generalize c (x + 2) = d
  generalize c (x + 3) = e
  generalize c (x + 4) = f
  refine bits_eq fun i _ => ?_
  simp only [BitVec.getLsbD_xor]
  generalize a.getLsbD i = a
  generalize b.getLsbD i = b
  generalize d.getLsbD i = d
  generalize e.getLsbD i = e
  generalize f.getLsbD i = f
  revert a b d e f
  decide

theorem qq_inj {c c' : Fin 5 → L64} (h : qq 1 1 c = qq 1 1 c') : c = c' := by
  have up : ∀ (d : Fin 5) (r : Nat), r ≤ 32 → qq d r c = qq d r c' → qq (d + d) (2 * r) c = qq (d + d) (2 * r) c' := fun d r hr h => by
    rw [← qq_qq d r hr, ← qq_qq d r hr, h]
  have h1 := up 1 1 (by decide) h
  have h2 := up _ _ (by decide) h1
  have h3 := up _ _ (by decide) h2
  have h4 := up _ _ (by decide) h3
  have h5 := up _ _ (by decide) h4
  have h6 := up _ _ (by decide) h5
  have h7 : qq 4 64 c = qq 4 64 c' := h6
  rw [← t3 c, ← t3 c', h7]

theorem gl_set (s : List L64) (n i : Nat) (v : L64) (hn : n < s.length) : gl (s.set n v) i = if n = i then v else gl s i := by
  unfold gl
  rw [List.getD_eq_getElem?_getD, List.getD_eq_getElem?_getD]
  by_cases e : n = i
  · subst e; rw [if_pos rfl, List.getElem?_set_self hn]; rfl
  · rw [if_neg e, List.getElem?_set_ne e]

theorem fold_set (f : Nat → L64 → L64) (s : List L64) (i : Nat) : ∀ n, n ≤ s.length → gl ((List.range n).foldl (fun s i => s.set i (f i (gl s i))) s) i = if i < n then f i (gl s i) else gl s i
  | 0, _ => by simp
  | n + 1, h => by
    have hl : ((List.range n).foldl (fun s i => s.set i (f i (gl s i))) s).length = s.length := fold_len _ (fun s a => by simp) _ _
    rw [List.range_succ, List.foldl_append, List.foldl_cons, List.foldl_nil, gl_set _ _ _ _ (by rw [hl]; omega), fold_set f s i n (by omega)]
    by_cases e : n = i
    · subst e; rw [if_pos rfl, if_pos (by omega), fold_set f s n n (by omega), if_neg (by omega)]
    · rw [if_neg e]
      by_cases h2 : i < n
      · rw [if_pos h2, if_pos (by omega)]
      · rw [if_neg h2, if_neg (by omega)]

theorem thC_list (a0 a1 a2 a3 a4 a5 a6 a7 a8 a9 a10 a11 a12 a13 a14 a15 a16 a17 a18 a19 a20 a21 a22 a23 a24 : L64) : thC [a0, a1, a2, a3, a4, a5, a6, a7, a8, a9, a10, a11, a12, a13, a14, a15, a16, a17, a18, a19, a20, a21, a22, a23, a24] 25 = [0#64 ^^^ a0 ^^^ a5 ^^^ a10 ^^^ a15 ^^^ a20, 0#64 ^^^ a1 ^^^ a6 ^^^ a11 ^^^ a16 ^^^ a21, 0#64 ^^^ a2 ^^^ a7 ^^^ a12 ^^^ a17 ^^^ a22, 0#64 ^^^ a3 ^^^ a8 ^^^ a13 ^^^ a18 ^^^ a23, 0#64 ^^^ a4 ^^^ a9 ^^^ a14 ^^^ a19 ^^^ a24] := by kernel_rfl

theorem thC_at {s : List L64} (h : s.length = 25) (x : Nat) (hx : x < 5) : gl (thC s 25) x = col s ⟨x, hx⟩ := by
  obtain ⟨a0, a1, a2, a3, a4, a5, a6, a7, a8, a9, a10, a11, a12, a13, a14, a15, a16, a17, a18, a19, a20, a21, a22, a23, a24, rfl⟩ := list25 s h
  rw [thC_list]
  simp only [BitVec.zero_xor]
  match x, hx with
  | 0, _ => rfl
  | 1, _ => rfl
  | 2, _ => rfl
  | 3, _ => rfl
  | 4, _ => rfl

theorem theta_at {s : List L64} (h : s.length = 25) (i : Nat) (hi : i < 25) : gl (theta s) i = gl s i ^^^ (col s ⟨(i % 5 + 4) % 5, Nat.mod_lt _ (by decide)⟩ ^^^ rot (col s ⟨(i % 5 + 1) % 5, Nat.mod_lt _ (by decide)⟩) 1) := by
  have := fold_set (fun i v => v ^^^ (gl (thC s 25) ((i % 5 + 4) % 5) ^^^ rot (gl (thC s 25) ((i % 5 + 1) % 5)) 1)) s i 25 (by omega)
  rw [if_pos hi, thC_at h _ (Nat.mod_lt _ (by decide)), thC_at h _ (Nat.mod_lt _ (by decide))] at this
  exact this

theorem x10 (s0 s1 s2 s3 s4 p q : L64) : (s0 ^^^ (p ^^^ q)) ^^^ (s1 ^^^ (p ^^^ q)) ^^^ (s2 ^^^ (p ^^^ q)) ^^^ (s3 ^^^ (p ^^^ q)) ^^^ (s4 ^^^ (p ^^^ q)) = (s0 ^^^ s1 ^^^ s2 ^^^ s3 ^^^ s4) ^^^ p ^^^ q := by
  refine bits_eq fun i _ => ?_
  simp only [BitVec.getLsbD_xor]
  generalize s0.getLsbD i = s0
  generalize s1.getLsbD i = s1
  generalize s2.getLsbD i = s2
  generalize s3.getLsbD i = s3
  generalize s4.getLsbD i = s4
  generalize p.getLsbD i = p
  generalize q.getLsbD i = q
  revert s0 s1 s2 s3 s4 p q
  decide

theorem col_theta {s : List L64} (h : s.length = 25) : col (theta s) = qq 1 1 (col s) := by
  funext x
  have one : ∀ k, k < 5 → gl (theta s) (x.1 + 5 * k) = gl s (x.1 + 5 * k) ^^^ (col s (x - 1) ^^^ rot (col s (x + 1)) 1) := fun k hk => by
    rw [theta_at h _ (by omega)]
    have e1 : (⟨((x.1 + 5 * k) % 5 + 4) % 5, Nat.mod_lt _ (by decide)⟩ : Fin 5) = x - 1 := by
      rw [Nat.add_mul_mod_self_left]; revert x; decide
    have e2 : (⟨((x.1 + 5 * k) % 5 + 1) % 5, Nat.mod_lt _ (by decide)⟩ : Fin 5) = x + 1 := by
      clear e1
      rw [Nat.add_mul_mod_self_left]; revert x; decide
    rw [e1, e2]
  have g0 := one 0 (by decide)
  have g1 := one 1 (by decide)
  have g2 := one 2 (by decide)
  have g3 := one 3 (by decide)
  have g4 := one 4 (by decide)
  simp only [Nat.mul_zero, Nat.add_zero, Nat.mul_one, Nat.reduceMul] at g0 g1 g2 g3 g4
  show gl (theta s) x.1 ^^^ gl (theta s) (x.1 + 5) ^^^ gl (theta s) (x.1 + 10) ^^^ gl (theta s) (x.1 + 15) ^^^ gl (theta s) (x.1 + 20) = _
  rw [g0, g1, g2, g3, g4]
  exact x10 _ _ _ _ _ _ _

theorem gl_ext {s t : List L64} (h : s.length = 25) (h' : t.length = 25) (hh : ∀ i, i < 25 → gl s i = gl t i) : s = t := by
  refine List.ext_getElem (by rw [h, h']) fun i h1 h2 => ?_
  have := hh i (by omega)
  unfold gl at this
  rw [List.getD_eq_getElem?_getD, List.getD_eq_getElem?_getD, List.getElem?_eq_getElem h1, List.getElem?_eq_getElem h2] at this
  exact this

theorem theta_inj {s t : List L64} (h : s.length = 25) (h' : t.length = 25) (hh : theta s = theta t) : s = t := by
  have hc : col s = col t := qq_inj (by rw [← col_theta h, ← col_theta h', hh])
  refine gl_ext h h' fun i hi => ?_
  have e := congrArg (fun u => gl u i) hh
  try dsimp only at e
  rw [theta_at h i hi, theta_at h' i hi, hc] at e
  exact (BitVec.xor_left_inj _).1 e

theorem move_list (a0 a1 a2 a3 a4 a5 a6 a7 a8 a9 a10 a11 a12 a13 a14 a15 a16 a17 a18 a19 a20 a21 a22 a23 a24 : L64) : move [a0, a1, a2, a3, a4, a5, a6, a7, a8, a9, a10, a11, a12, a13, a14, a15, a16, a17, a18, a19, a20, a21, a22, a23, a24] = [a0, rot a6 44, rot a12 43, rot a18 21, rot a24 14, rot a3 28, rot a9 20, rot a10 3, rot a16 45, rot a22 61, rot a1 1, rot a7 6, rot a13 25, rot a19 8, rot a20 18, rot a4 27, rot a5 36, rot a11 10, rot a17 15, rot a23 56, rot a2 62, rot a8 55, rot a14 39, rot a15 41, rot a21 2] := by kernel_rfl

theorem move_inj {s t : List L64} (h : s.length = 25) (h' : t.length = 25) (hh : move s = move t) : s = t := by
  obtain ⟨a0, a1, a2, a3, a4, a5, a6, a7, a8, a9, a10, a11, a12, a13, a14, a15, a16, a17, a18, a19, a20, a21, a22, a23, a24, rfl⟩ := list25 s h
  obtain ⟨b0, b1, b2, b3, b4, b5, b6, b7, b8, b9, b10, b11, b12, b13, b14, b15, b16, b17, b18, b19, b20, b21, b22, b23, b24, rfl⟩ := list25 t h'
  rw [move_list, move_list] at hh
  simp only [List.cons.injEq, and_true] at hh
  obtain ⟨h0, h1, h2, h3, h4, h5, h6, h7, h8, h9, h10, h11, h12, h13, h14, h15, h16, h17, h18, h19, h20, h21, h22, h23, h24⟩ := hh
  rw [h0, rot_inj _ _ _ (by decide) h10, rot_inj _ _ _ (by decide) h20, rot_inj _ _ _ (by decide) h5, rot_inj _ _ _ (by decide) h15, rot_inj _ _ _ (by decide) h16, rot_inj _ _ _ (by decide) h1, rot_inj _ _ _ (by decide) h11, rot_inj _ _ _ (by decide) h21, rot_inj _ _ _ (by decide) h6, rot_inj _ _ _ (by decide) h7, rot_inj _ _ _ (by decide) h17, rot_inj _ _ _ (by decide) h2, rot_inj _ _ _ (by decide) h12, rot_inj _ _ _ (by decide) h22, rot_inj _ _ _ (by decide) h23, rot_inj _ _ _ (by decide) h8, rot_inj _ _ _ (by decide) h18, rot_inj _ _ _ (by decide) h3, rot_inj _ _ _ (by decide) h13, rot_inj _ _ _ (by decide) h14, rot_inj _ _ _ (by decide) h24, rot_inj _ _ _ (by decide) h9, rot_inj _ _ _ (by decide) h19, rot_inj _ _ _ (by decide) h4]

theorem chi_list (a0 a1 a2 a3 a4 a5 a6 a7 a8 a9 a10 a11 a12 a13 a14 a15 a16 a17 a18 a19 a20 a21 a22 a23 a24 : L64) : chi [a0, a1, a2, a3, a4, a5, a6, a7, a8, a9, a10, a11, a12, a13, a14, a15, a16, a17, a18, a19, a20, a21, a22, a23, a24] = [a0 ^^^ (a2 &&& ~~~ a1), a1 ^^^ (a3 &&& ~~~ a2), a2 ^^^ (a4 &&& ~~~ a3), a3 ^^^ (a0 &&& ~~~ a4), a4 ^^^ (a1 &&& ~~~ a0), a5 ^^^ (a7 &&& ~~~ a6), a6 ^^^ (a8 &&& ~~~ a7), a7 ^^^ (a9 &&& ~~~ a8), a8 ^^^ (a5 &&& ~~~ a9), a9 ^^^ (a6 &&& ~~~ a5), a10 ^^^ (a12 &&& ~~~ a11), a11 ^^^ (a13 &&& ~~~ a12), a12 ^^^ (a14 &&& ~~~ a13), a13 ^^^ (a10 &&& ~~~ a14), a14 ^^^ (a11 &&& ~~~ a10), a15 ^^^ (a17 &&& ~~~ a16), a16 ^^^ (a18 &&& ~~~ a17), a17 ^^^ (a19 &&& ~~~ a18), a18 ^^^ (a15 &&& ~~~ a19), a19 ^^^ (a16 &&& ~~~ a15), a20 ^^^ (a22 &&& ~~~ a21), a21 ^^^ (a23 &&& ~~~ a22), a22 ^^^ (a24 &&& ~~~ a23), a23 ^^^ (a20 &&& ~~~ a24), a24 ^^^ (a21 &&& ~~~ a20)] := by kernel_rfl

theorem row_bits : ∀ a b c d e : Bool, ∀ a' b' c' d' e' : Bool, (a ^^ (c && !b)) = (a' ^^ (c' && !b')) → (b ^^ (d && !c)) = (b' ^^ (d' && !c')) → (c ^^ (e && !d)) = (c' ^^ (e' && !d')) → (d ^^ (a && !e)) = (d' ^^ (a' && !e')) → (e ^^ (b && !a)) = (e' ^^ (b' && !a')) → a = a' ∧ b = b' ∧ c = c' ∧ d = d' ∧ e = e' := by decide +kernel

theorem row_inj {a b c d e a' b' c' d' e' : L64} (h0 : a ^^^ (c &&& ~~~ b) = a' ^^^ (c' &&& ~~~ b')) (h1 : b ^^^ (d &&& ~~~ c) = b' ^^^ (d' &&& ~~~ c')) (h2 : c ^^^ (e &&& ~~~ d) = c' ^^^ (e' &&& ~~~ d')) (h3 : d ^^^ (a &&& ~~~ e) = d' ^^^ (a' &&& ~~~ e')) (h4 : e ^^^ (b &&& ~~~ a) = e' ^^^ (b' &&& ~~~ a')) :
    a = a' ∧ b = b' ∧ c = c' ∧ d = d' ∧ e = e' := by
  have key : ∀ i, i < 64 → a.getLsbD i = a'.getLsbD i ∧ b.getLsbD i = b'.getLsbD i ∧ c.getLsbD i = c'.getLsbD i ∧ d.getLsbD i = d'.getLsbD i ∧ e.getLsbD i = e'.getLsbD i := fun i hi => by
    have g0 := congrArg (fun u => BitVec.getLsbD u i) h0
    have g1 := congrArg (fun u => BitVec.getLsbD u i) h1
    have g2 := congrArg (fun u => BitVec.getLsbD u i) h2
    have g3 := congrArg (fun u => BitVec.getLsbD u i) h3
    have g4 := congrArg (fun u => BitVec.getLsbD u i) h4
    simp only [BitVec.getLsbD_xor, BitVec.getLsbD_and, BitVec.getLsbD_not, hi, decide_true, Bool.true_and] at g0 g1 g2 g3 g4
    exact row_bits _ _ _ _ _ _ _ _ _ _ g0 g1 g2 g3 g4
  exact ⟨bits_eq fun i hi => (key i hi).1, bits_eq fun i hi => (key i hi).2.1, bits_eq fun i hi => (key i hi).2.2.1, bits_eq fun i hi => (key i hi).2.2.2.1, bits_eq fun i hi => (key i hi).2.2.2.2⟩

theorem chi_inj {s t : List L64} (h : s.length = 25) (h' : t.length = 25) (hh : chi s = chi t) : s = t := by
  obtain ⟨a0, a1, a2, a3, a4, a5, a6, a7, a8, a9, a10, a11, a12, a13, a14, a15, a16, a17, a18, a19, a20, a21, a22, a23, a24, rfl⟩ := list25 s h
  obtain ⟨b0, b1, b2, b3, b4, b5, b6, b7, b8, b9, b10, b11, b12, b13, b14, b15, b16, b17, b18, b19, b20, b21, b22, b23, b24, rfl⟩ := list25 t h'
  rw [chi_list, chi_list] at hh
  simp only [List.cons.injEq, and_true] at hh
  obtain ⟨h0, h1, h2, h3, h4, h5, h6, h7, h8, h9, h10, h11, h12, h13, h14, h15, h16, h17, h18, h19, h20, h21, h22, h23, h24⟩ := hh
  obtain ⟨rfl, rfl, rfl, rfl, rfl⟩ := row_inj h0 h1 h2 h3 h4
  obtain ⟨rfl, rfl, rfl, rfl, rfl⟩ := row_inj h5 h6 h7 h8 h9
  obtain ⟨rfl, rfl, rfl, rfl, rfl⟩ := row_inj h10 h11 h12 h13 h14
  obtain ⟨rfl, rfl, rfl, rfl, rfl⟩ := row_inj h15 h16 h17 h18 h19
  obtain ⟨rfl, rfl, rfl, rfl, rfl⟩ := row_inj h20 h21 h22 h23 h24
  rfl

theorem core_inj {s t : List L64} (h : s.length = 25) (h' : t.length = 25) (hh : core s = core t) : s = t :=
  theta_inj h h' (move_inj (by rw [theta_len, h]) (by rw [theta_len, h']) (chi_inj (move_len _) (move_len _) hh))

theorem rnd_inj {s t : List L64} (h : s.length = 25) (h' : t.length = 25) (n : Nat) (hh : rnd s n = rnd t n) : s = t := by
  refine core_inj h h' (gl_ext (core_len _) (core_len _) fun i hi => ?_)
  have e := congrArg (fun u => gl u i) hh
  simp only [rnd] at e
  rw [gl_set _ _ _ _ (by rw [core_len]; decide), gl_set _ _ _ _ (by rw [core_len]; decide)] at e
  by_cases h0 : 0 = i
  · subst h0
    rw [if_pos rfl, if_pos rfl] at e
    exact (BitVec.xor_left_inj _).1 e
  · rw [if_neg h0, if_neg h0] at e
    exact e

theorem rnds_inj {s t : List L64} (h : s.length = 25) (h' : t.length = 25) : ∀ k, rnds s k = rnds t k → s = t
  | 0, hh => hh
  | k + 1, hh => rnds_inj h h' k (by
    rw [rnds_succ, rnds_succ] at hh
    exact rnd_inj (rnds_len h k) (rnds_len h' k) k hh)
theorem perm_inj {s t : List L64} (h : s.length = 25) (h' : t.length = 25) (hh : perm s = perm t) : s = t := rnds_inj h h' 24 hh
end Go.Proofs.Ytpijnpapmdnceaa
