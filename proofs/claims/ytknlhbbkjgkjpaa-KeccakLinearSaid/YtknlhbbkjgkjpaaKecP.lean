/- The walk of KeccakLinear. -/
import Derived.Test.YtknlhbbkjgkjpaaKecN
import Derived.Test.YtknlhbbkjgkjpaaSts
namespace Go.Proofs.Ytknlhbbkjgkjpaa
open Go Go.RowKit

theorem rnd_other (s : List L64) (n m i : Nat) (hi : 0 < i) : gl (rnd s n) i = gl (rnd s m) i := by
  unfold rnd
  rw [gl_set _ _ _ _ (by rw [core_len]; decide), gl_set _ _ _ _ (by rw [core_len]; decide), if_neg (by omega), if_neg (by omega)]
theorem rnd_first (s : List L64) (n : Nat) : gl (rnd s n) 0 = gl (core s) 0 ^^^ mark n := by
  unfold rnd
  rw [gl_set _ _ _ _ (by rw [core_len]; decide), if_pos rfl]
theorem rnd_marks (s t : List L64) (n m : Nat) : gl (rnd s n) 0 ^^^ gl (rnd s m) 0 = gl (rnd t n) 0 ^^^ gl (rnd t m) 0 := by
  simp only [rnd_first]
  have : ∀ a x y : L64, a ^^^ x ^^^ (a ^^^ y) = x ^^^ y := fun a x y => by
    refine bits_eq fun i _ => ?_
    simp only [BitVec.getLsbD_xor]
    generalize a.getLsbD i = a
    generalize x.getLsbD i = x
    generalize y.getLsbD i = y
    revert a x y
    decide
  rw [this, this]

/-- What is known in the midst of the two calls and the two new variables. -/
def LinI (w0 : World) (b : Nat) (s u v : List L64) (x y : Int) (k0 k1 k2 k3 k4 k5 k6 k7 : Nat) (A0 : Act) (l : Array Bool) (a : Act) (W : World) : Prop :=
  ∃ (p0 p1 p2 p3 p4 p5 p6 p7 : Bool) (v0 v1 v2 v3 v4 v5 v6 v7 : Value) (g6 g7 : Nat), l = #[p0, p1, p2, p3, p4, p5, p6, p7, false, false] ∧
    a = ((((((((A0.put (some k0) v0).put (some k1) v1).put (some k2) v2).put (some k3) v3).put (some k4) v4).put (some k5) v5).put (some k6) v6).put (some k7) v7) ∧
    Keep (fun _ => False) w0 W ∧ RowL W b 37 s ∧ (p0 = true → v0 = .agg (stv s).toArray) ∧ (p1 = true → v1 = .int .i64 x) ∧ (p2 = true → v2 = .agg (stv u).toArray) ∧ (p3 = true → v3 = .agg (stv s).toArray) ∧ (p4 = true → v4 = .int .i64 y) ∧ (p5 = true → v5 = .agg (stv v).toArray) ∧
    (p6 = true → v6 = .pointer (some ⟨g6, 0, none⟩) ∧ w0.heap.size ≤ g6 ∧ RowL W g6 37 z25) ∧ (p7 = true → v7 = .pointer (some ⟨g7, 0, none⟩) ∧ w0.heap.size ≤ g7 ∧ RowL W g7 37 z25) ∧ (p6 = true → p7 = true → g6 ≠ g7) ∧ (p5 = true → p3 = true ∧ p4 = true)

theorem two_blocks {w0 W : World} {g h : Nat} {s t : List L64} (hs : s.length = 25) (ht : t.length = 25) (K : Keep (fun _ => False) w0 W) (lg : w0.heap.size ≤ g) (lh : w0.heap.size ≤ h) (n : g ≠ h) (rg : RowL W g 37 z25) (rh : RowL W h 37 z25) :
    Keep (fun _ => False) w0 ((W.setRow g (stv s).toArray).setRow h (stv t).toArray) ∧ RowL ((W.setRow g (stv s).toArray).setRow h (stv t).toArray) g 37 s ∧ RowL ((W.setRow g (stv s).toArray).setRow h (stv t).toArray) h 37 t :=
  ⟨(K.setRow lg _).setRow lh _, (rg.row (s' := s)).otherRow _ _ n, (rh.otherRow _ _ (Ne.symm n)).row⟩


theorem u8_mod24 (n : Int) (hn : (Lit.int .u8 n).wf = true) : ∃ a : Nat, n.tmod 24 = (a : Int) ∧ a < 24 := by
  have hb : 0 ≤ n ∧ n ≤ 255 := by
    simp only [Lit.wf, Bool.and_eq_true, decide_eq_true_eq] at hn
    exact ⟨Int.le_trans (by decide) hn.1, Int.le_trans hn.2 (by decide)⟩
  rw [Int.tmod_eq_emod_of_nonneg hb.1]
  exact ⟨(n % 24).toNat, by omega, by omega⟩

set_option maxRecDepth 100000 in
set_option maxHeartbeats 4000000 in
theorem walk_KeccakLinear (w : World) (s : List L64) (hs : s.length = 25) (t : List L64) (ht : t.length = 25) (n : Int) (hn : (Lit.int .u8 n).wf = true) (m : Int) (hm : (Lit.int .u8 m).wf = true) : Calls Try.prog 11 #[.agg (stv s).toArray, .agg (stv t).toArray, .int .u8 n, .int .u8 m] w fun en w' => en = .returned (.bool true) ∧ Below w.heap.size w w' := by
  obtain ⟨q0, q1, KK0⟩ := boxes2 w s t 37 37
  have S0 := hid (q0.keep ((Keep.refl (fun _ => False) _).drew) (fun h => h))
  have T0 := hid (q1.keep ((Keep.refl (fun _ => False) _).drew) (fun h => h))
  have KK0 := hid KK0.drew
  obtain ⟨a, ha, ha24⟩ : ∃ a : Nat, n.tmod 24 = (a : Int) ∧ a < 24 := u8_mod24 n hn
  obtain ⟨b, hb, hb24⟩ : ∃ b : Nat, m.tmod 24 = (b : Int) ∧ b < 24 := u8_mod24 m hm
  have a0 : (0 : Int) ≤ (a : Int) := by omega
  have a1 : (a : Int) < 24 := by omega
  have b0 : (0 : Int) ≤ (b : Int) := by omega
  have b1 : (b : Int) < 24 := by omega
  clear q0 q1
  go_enter Try.func11, Try.ntmps11
  go_wp2_with fail
  refine wp_region_pure (by kernel_rfl) ?_
  refine anyY_states (LinI (World.drew ((w.alloc (.cells (stv s).toArray 37)).alloc (.cells (stv t).toArray 37))) w.heap.size s (rnd s a) (rnd s b) a b 22 23 24 25 26 27 11 12) ⟨false, false, false, false, false, false, false, false, undef, undef, undef, undef, undef, undef, undef, undef, 0, 0, rfl, by simp only [List.getElem_toArray, List.getElem_cons_zero, List.getElem_cons_succ, Act.put, List.setIfInBounds_toArray, List.set_cons_zero, List.set_cons_succ], Keep.refl _ _, S0.out, (fun h => by cases h), (fun h => by cases h), (fun h => by cases h), (fun h => by cases h), (fun h => by cases h), (fun h => by cases h), (fun h => by cases h), (fun h => by cases h), (fun h => by cases h), fun h => by cases h⟩ (by rfl) ?_
  rintro l act V ⟨p0, p1, p2, p3, p4, p5, p6, p7, v0, v1, v2, v3, v4, v5, v6, v7, g6, g7, rfl, rfl, KV, RV, f0, f1, f2, f3, f4, f5, f6, f7, f67, fd⟩
  simp only [Act.put, List.setIfInBounds_toArray, List.set_cons_zero, List.set_cons_succ]
  by_cases hall : (p0 && p1 && p2 && p3 && p4 && p5 && p6 && p7) = true
  · refine .inl ?_
    simp only [Bool.and_eq_true] at hall
    obtain ⟨⟨⟨⟨⟨⟨⟨rfl, rfl⟩, rfl⟩, rfl⟩, rfl⟩, rfl⟩, rfl⟩, rfl⟩ := hall
    obtain rfl := f0 rfl
    obtain rfl := f1 rfl
    obtain rfl := f2 rfl
    obtain rfl := f3 rfl
    obtain rfl := f4 rfl
    obtain rfl := f5 rfl
    obtain ⟨rfl, l6, r6⟩ := f6 rfl
    obtain ⟨rfl, l7, r7⟩ := f7 rfl
    have n67 := f67 rfl rfl
    clear f0 f1 f2 f3 f4 f5 f6 f7 f67 fd
    refine any_exit (n := 2) (by kernel_rfl) (by rfl) ?_
    have la := rnd_len s a
    have lb := rnd_len s b
    obtain ⟨u1, hu1⟩ : ∃ u, rnd s a = u := ⟨_, rfl⟩
    obtain ⟨u2, hu2⟩ : ∃ u, rnd s b = u := ⟨_, rfl⟩
    have Hu1 : Is (rnd s a) u1 := ⟨hu1⟩
    have Hu2 : Is (rnd s b) u2 := ⟨hu2⟩
    rw [hu1] at la
    rw [hu2] at lb
    rw [hu1, hu2]
    clear hu1 hu2
    obtain ⟨KB, RA, RB⟩ := two_blocks la lb KV l6 l7 n67 r6 r7
    refine anyY_go [2,2,2,2,2,2,2,2,2,3] (fun _ => True) trivial ?_
    refine anyX_does 8 rfl (by kernel_rfl) (by rfl) (fun K hK => ?_)
    refine wp_st (.tmp 11) (.tmp 24) rfl g6 rfl u1 la rfl z25 rfl r6 ?_
    refine hK _ _ trivial ?_
    clear hK K
    simp only [List.getElem_toArray, List.getElem_cons_zero, List.getElem_cons_succ, Act.put, List.setIfInBounds_toArray, List.set_cons_zero, List.set_cons_succ]
    refine anyX_last 9 rfl (by kernel_rfl) (by rfl) (fun K hK => ?_)
    refine wp_st (.tmp 12) (.tmp 27) rfl g7 rfl u2 lb rfl z25 rfl (r7.otherRow _ _ (Ne.symm n67)) ?_
    refine hK _ _ ?_
    clear hK K
    have T1 := (T0.out.keep KV (fun h => h)).otherRow g6 (stv u1).toArray (by have := T0.out.lt; omega)
    have T1 := T1.otherRow g7 (stv u2).toArray (by have := T0.out.lt; omega)
    have KK1 := KK0.out.trans KB
    have e6 : w.heap.size + 1 + 1 ≤ g6 := by have := T0.out.lt; omega
    have e7 : w.heap.size + 1 + 1 ≤ g7 := by have := T0.out.lt; omega
    obtain ⟨V1, hV1⟩ : ∃ V1, (V.setRow g6 (stv u1).toArray).setRow g7 (stv u2).toArray = V1 := ⟨_, rfl⟩
    rw [hV1] at RA RB T1 KK1 ⊢
    have T1 := hid (T1.keep ((Keep.refl (fun _ => False) _).drew) (fun h => h))
    have RA := hid (RA.keep ((Keep.refl (fun _ => False) _).drew) (fun h => h))
    have RB := hid (RB.keep ((Keep.refl (fun _ => False) _).drew) (fun h => h))
    have KK1 := hid KK1.drew
    simp only [List.getElem_toArray, List.getElem_cons_zero, List.getElem_cons_succ, Act.put, List.setIfInBounds_toArray, List.set_cons_zero, List.set_cons_succ]
    clear hV1 KB KV RV r6 r7 l6 l7 T0 KK0 S0
    go_wp2_with fail
    refine wp_region_pure (by kernel_rfl) ?_
    refine anyY_states (LinI V1.drew (w.heap.size + 1) t (rnd t a) (rnd t b) a b 28 29 30 31 32 33 13 14) ⟨false, false, false, false, false, false, false, false, undef, undef, undef, undef, undef, undef, undef, undef, 0, 0, rfl, by simp only [List.getElem_toArray, List.getElem_cons_zero, List.getElem_cons_succ, Act.put, List.setIfInBounds_toArray, List.set_cons_zero, List.set_cons_succ], Keep.refl _ _, T1.out, (fun h => by cases h), (fun h => by cases h), (fun h => by cases h), (fun h => by cases h), (fun h => by cases h), (fun h => by cases h), (fun h => by cases h), (fun h => by cases h), (fun h => by cases h), fun h => by cases h⟩ (by rfl) ?_
    rintro l act V2 ⟨p0, p1, p2, p3, p4, p5, p6, p7, v0, v1, v2, v3, v4, v5, v6, v7, h6, h7, rfl, rfl, KV, RV, f0, f1, f2, f3, f4, f5, f6, f7, f67, fd⟩
    simp only [Act.put, List.setIfInBounds_toArray, List.set_cons_zero, List.set_cons_succ]
    by_cases hall : (p0 && p1 && p2 && p3 && p4 && p5 && p6 && p7) = true
    · refine .inl ?_
      simp only [Bool.and_eq_true] at hall
      obtain ⟨⟨⟨⟨⟨⟨⟨rfl, rfl⟩, rfl⟩, rfl⟩, rfl⟩, rfl⟩, rfl⟩, rfl⟩ := hall
      obtain rfl := f0 rfl
      obtain rfl := f1 rfl
      obtain rfl := f2 rfl
      obtain rfl := f3 rfl
      obtain rfl := f4 rfl
      obtain rfl := f5 rfl
      obtain ⟨rfl, l6, r6⟩ := f6 rfl
      obtain ⟨rfl, l7, r7⟩ := f7 rfl
      have n67 := f67 rfl rfl
      clear f0 f1 f2 f3 f4 f5 f6 f7 f67 fd
      refine any_exit (n := 2) (by kernel_rfl) (by rfl) ?_
      have lc := rnd_len t a
      have ld := rnd_len t b
      obtain ⟨x1, hx1⟩ : ∃ u, rnd t a = u := ⟨_, rfl⟩
      obtain ⟨x2, hx2⟩ : ∃ u, rnd t b = u := ⟨_, rfl⟩
      have Hx1 : Is (rnd t a) x1 := ⟨hx1⟩
      have Hx2 : Is (rnd t b) x2 := ⟨hx2⟩
      rw [hx1] at lc
      rw [hx2] at ld
      rw [hx1, hx2]
      clear hx1 hx2
      obtain ⟨KB, RA2, RB2⟩ := two_blocks lc ld KV l6 l7 n67 r6 r7
      refine anyY_go [2,2,2,2,2,2,2,2,2,3] (fun _ => True) trivial ?_
      refine anyX_does 8 rfl (by kernel_rfl) (by rfl) (fun K hK => ?_)
      refine wp_st (.tmp 13) (.tmp 30) rfl h6 rfl x1 lc rfl z25 rfl r6 ?_
      refine hK _ _ trivial ?_
      clear hK K
      simp only [List.getElem_toArray, List.getElem_cons_zero, List.getElem_cons_succ, Act.put, List.setIfInBounds_toArray, List.set_cons_zero, List.set_cons_succ]
      refine anyX_last 9 rfl (by kernel_rfl) (by rfl) (fun K hK => ?_)
      refine wp_st (.tmp 14) (.tmp 33) rfl h7 rfl x2 ld rfl z25 rfl (r7.otherRow _ _ (Ne.symm n67)) ?_
      refine hK _ _ ?_
      clear hK K
      have hA := (RA.out.keep KV (fun h => h)).otherRow h6 (stv x1).toArray (by have := RA.out.lt; omega)
      have hA := hA.otherRow h7 (stv x2).toArray (by have := RA.out.lt; omega)
      have hB := (RB.out.keep KV (fun h => h)).otherRow h6 (stv x1).toArray (by have := RB.out.lt; omega)
      have hB := hB.otherRow h7 (stv x2).toArray (by have := RB.out.lt; omega)
      have KK2 := KK1.out.trans KB
      obtain ⟨V3, hV3⟩ : ∃ V3, (V2.setRow h6 (stv x1).toArray).setRow h7 (stv x2).toArray = V3 := ⟨_, rfl⟩
      rw [hV3] at RA2 RB2 hA hB KK2 ⊢
      have A := hid hA
      have B := hid hB
      have C := hid RA2
      have D := hid RB2
      have KK2 := hid KK2
      simp only [List.getElem_toArray, List.getElem_cons_zero, List.getElem_cons_succ, Act.put, List.setIfInBounds_toArray, List.set_cons_zero, List.set_cons_succ]
      clear hV3 KB KV RV r6 r7 l6 l7 T1 KK1 hA hB RA2 RB2 RA RB
      have HO : Hid (∀ i, 0 < i → gl u2 i = gl u1 i ∧ gl x2 i = gl x1 i) := hid fun i hi => by
        rw [← Hu1.eq, ← Hu2.eq, ← Hx1.eq, ← Hx2.eq]
        exact ⟨rnd_other s b a i hi, rnd_other t b a i hi⟩
      have HM : Hid (gl u1 0 ^^^ gl u2 0 = gl x1 0 ^^^ gl x2 0) := hid (by rw [← Hu1.eq, ← Hu2.eq, ← Hx1.eq, ← Hx2.eq]; exact rnd_marks s t a b)
      have HAB : Hid (a = b → gl u1 0 = gl u2 0) := hid (fun e => by rw [← Hu1.eq, ← Hu2.eq, e])
      clear Hu1 Hu2 Hx1 Hx2
      go_wp2_with fail
      go_loopw [15] (fun i wr => ∃ k : Nat, 1 ≤ k ∧ k ≤ 25 ∧ i = .int .i64 k ∧ RowL wr g6 37 u1 ∧ RowL wr g7 37 u2 ∧ RowL wr h6 37 x1 ∧ RowL wr h7 37 x2 ∧ Keep (fun _ => False) w wr) (fun i _ => 25 - (intOf i).toNat)
      case atStart => exact ⟨1, by omega, by omega, rfl, A.out, B.out, C.out, D.out, KK2.out⟩
      case round =>
        obtain ⟨k, hk1, hk, rfl, hA, hB, hC, hD, hK⟩ := hrel
        clear A B C D KK2
        have A := hid hA
        have B := hid hB
        have C := hid hC
        have D := hid hD
        have KK2 := hid hK
        by_cases hlt : k < 25
        · have c1 := hA.cell k (by omega)
          have c2 := hB.cell k (by omega)
          have c3 := hC.cell k (by omega)
          have c4 := hD.cell k (by omega)
          rw [(HO.out k (by omega)).1] at c2
          rw [(HO.out k (by omega)).2] at c4
          have k0 : (0 : Int) ≤ (k : Int) := by omega
          have k25 : (k : Int) < 25 := by omega
          obtain ⟨X, hX⟩ : ∃ X, gl u1 k = X := ⟨_, rfl⟩
          obtain ⟨Y, hY⟩ : ∃ Y, gl x1 k = Y := ⟨_, rfl⟩
          rw [hX] at c1 c2
          rw [hY] at c3 c4
          clear hA hB hC hD hK hX hY
          go_wp2_with fail
          refine wp_region_text [0,0,0,0,0,0,0,0,0,0,0,0,0,0,0,0] (fun W => W.cell? ⟨g6, k, none⟩ = some (.int .u64 (X.toNat : Int)) ∧ W.cell? ⟨g7, k, none⟩ = some (.int .u64 (X.toNat : Int)) ∧ W.cell? ⟨h6, k, none⟩ = some (.int .u64 (Y.toNat : Int)) ∧ W.cell? ⟨h7, k, none⟩ = some (.int .u64 (Y.toNat : Int))) (by kernel_rfl) (by kernel_rfl) ⟨c1, c2, c3, c4⟩ ?_
          repeat (first
            | (refine' wpT_calm (v := _) (by rfl) (fun W hW => ?_) ?_; rotate_left
               · ((try dsimp only at hW); go_simp; first | done | rfl)
               simp only [Act.put, List.setIfInBounds_toArray, List.set_cons_zero, List.set_cons_succ])
            | (refine' wpT_reads (v := _) (by rfl) ?_ ?_; rotate_left
               · (go_simp; first | done | rfl)
               simp only [Act.put, List.setIfInBounds_toArray, List.set_cons_zero, List.set_cons_succ])
            | (refine wpT_skip (by rfl) rfl ?_; simp only [Act.put, List.setIfInBounds_toArray, List.set_cons_zero, List.set_cons_succ])
            | (refine wpT_does (by rfl) (fun K hK => ?_); go_simp; refine hK _ _ ?_ ?_
               · (trivial)
               clear hK K; try simp only [Act.put, List.setIfInBounds_toArray, List.set_cons_zero, List.set_cons_succ])
            | (refine wpT_last (by rfl) (fun K hK => ?_); go_simp; refine hK _ _ ?_; clear hK K)
            | (refine wpT_nil ?_))
          go_wp2
          go_roundw
          case rel => exact ⟨k + 1, by omega, by omega, by go_num, A.out, B.out, C.out, D.out, KK2.out.drew⟩
          case measure => simp [intOf]; omega
        · clear hA hB hC hD hK
          by_cases hab : a = b
          · have e1 : ((a : Int) != (b : Int)) = false := by simp [hab]
            have e2 := HAB.out hab
            have HB' := hid hab
            clear hab
            go_wp2_with fail
            refine (kawake_any _).mono ?_
            rintro _ W9 ⟨rfl, K9⟩
            have c1 := (A.out.keep K9 (fun h => h)).cell 0 (by omega)
            have c2 := (B.out.keep K9 (fun h => h)).cell 0 (by omega)
            have c3 := (C.out.keep K9 (fun h => h)).cell 0 (by omega)
            have c4 := (D.out.keep K9 (fun h => h)).cell 0 (by omega)
            have hm := HM.out
            rw [← e2] at c2 hm
            obtain ⟨X, hX⟩ : ∃ X, gl u1 0 = X := ⟨_, rfl⟩
            obtain ⟨Y, hY⟩ : ∃ Y, gl x1 0 = Y := ⟨_, rfl⟩
            obtain ⟨Z, hZ⟩ : ∃ Z, gl x2 0 = Z := ⟨_, rfl⟩
            rw [hX] at c1 c2 hm
            rw [hY] at c3 hm
            rw [hZ] at c4 hm
            have x1' := xor_val X X
            have x2' := xor_val Y Z
            rw [hm] at x1'
            have KK9 := hid (KK2.out.trans K9)
            clear K9 e2 hX hY hZ hm
            go_wp2
            go_ret
            exact ⟨rfl, KK9.out.bel⟩
          · have e1 : ((a : Int) != (b : Int)) = true := by simp; omega
            have HB' := hid hab
            clear hab
            go_wp2_with fail
            refine (kawake_any _).mono ?_
            rintro _ W9 ⟨rfl, K9⟩
            have c1 := (A.out.keep K9 (fun h => h)).cell 0 (by omega)
            have c2 := (B.out.keep K9 (fun h => h)).cell 0 (by omega)
            have c3 := (C.out.keep K9 (fun h => h)).cell 0 (by omega)
            have c4 := (D.out.keep K9 (fun h => h)).cell 0 (by omega)
            have hm := HM.out
            obtain ⟨X, hX⟩ : ∃ X, gl u1 0 = X := ⟨_, rfl⟩
            obtain ⟨X', hX'⟩ : ∃ X, gl u2 0 = X := ⟨_, rfl⟩
            obtain ⟨Y, hY⟩ : ∃ Y, gl x1 0 = Y := ⟨_, rfl⟩
            obtain ⟨Z, hZ⟩ : ∃ Z, gl x2 0 = Z := ⟨_, rfl⟩
            rw [hX] at c1 hm
            rw [hX'] at c2 hm
            rw [hY] at c3 hm
            rw [hZ] at c4 hm
            have x1' := xor_val X X'
            have x2' := xor_val Y Z
            rw [hm] at x1'
            have KK9 := hid (KK2.out.trans K9)
            clear K9 hX hX' hY hZ hm
            go_wp2
            go_ret
            exact ⟨rfl, KK9.out.bel⟩
    · refine .inr ⟨?_, fun i hi => ?_⟩
      · cases p0 <;> cases p1 <;> cases p2 <;> cases p3 <;> cases p4 <;> cases p5 <;> cases p6 <;> cases p7 <;> first | exact ne_nil_of (by kernel_rfl) | exact absurd rfl hall
      · obtain ⟨hi1, hi2, hi3⟩ := ready_depsB hi
        clear hi
        rcases (by have : i < 10 := hi1; omega : i = 0 ∨ i = 1 ∨ i = 2 ∨ i = 3 ∨ i = 4 ∨ i = 5 ∨ i = 6 ∨ i = 7 ∨ i = 8 ∨ i = 9) with rfl | rfl | rfl | rfl | rfl | rfl | rfl | rfl | rfl | rfl
        · clear hi1 hi2 hi3 hall
          refine wpOp_go rfl (by rfl) (fun K hK => ?_)
          refine wp_ld _ rfl _ rfl t ht RV ?_
          exact hK _ _ ⟨true, p1, p2, p3, p4, p5, p6, p7, _, v1, v2, v3, v4, v5, v6, v7, h6, h7, rfl, by simp only [List.getElem_toArray, List.getElem_cons_zero, List.getElem_cons_succ, Act.put, List.setIfInBounds_toArray, List.set_cons_zero, List.set_cons_succ], KV, RV, (fun _ => rfl), f1, f2, f3, f4, f5, f6, f7, f67, fd⟩
        · clear hi1 hi2 hi3 hall
          refine wpOp_go rfl (by rfl) (fun K hK => ?_)
          go_simp
          exact hK _ _ ⟨p0, true, p2, p3, p4, p5, p6, p7, v0, _, v2, v3, v4, v5, v6, v7, h6, h7, rfl, by simp only [List.getElem_toArray, List.getElem_cons_zero, List.getElem_cons_succ, Act.put, List.setIfInBounds_toArray, List.set_cons_zero, List.set_cons_succ], KV, RV, f0, (fun _ => rfl), f2, f3, f4, f5, f6, f7, f67, fd⟩
        · have q0 : p0 = true := by cases p0; exact absurd hi3 (not_true_of (by kernel_rfl)); rfl
          subst q0
          have q1 : p1 = true := by cases p1; exact absurd hi3 (not_true_of (by kernel_rfl)); rfl
          obtain rfl := f0 rfl
          obtain rfl := f1 q1
          clear hi1 hi2 hi3 hall
          refine wpOp_go rfl (by rfl) (fun K hK => ?_)
          go_simp
          refine (round_in t ht a ha24 _).mono ?_
          rintro _ V2b ⟨rfl, K2⟩
          exact hK _ _ ⟨true, p1, true, p3, p4, p5, p6, p7, _, _, _, v3, v4, v5, v6, v7, h6, h7, rfl, by simp only [List.getElem_toArray, List.getElem_cons_zero, List.getElem_cons_succ, Act.put, List.setIfInBounds_toArray, List.set_cons_zero, List.set_cons_succ], KV.trans K2, RV.keep K2 (fun h => h), f0, f1, (fun _ => rfl), f3, f4, f5, (fun h => ⟨(f6 h).1, (f6 h).2.1, (f6 h).2.2.keep K2 (fun h => h)⟩), (fun h => ⟨(f7 h).1, (f7 h).2.1, (f7 h).2.2.keep K2 (fun h => h)⟩), f67, fd⟩
        · clear hi1 hi2 hi3 hall
          refine wpOp_go rfl (by rfl) (fun K hK => ?_)
          refine wp_ld _ rfl _ rfl t ht RV ?_
          exact hK _ _ ⟨p0, p1, p2, true, p4, p5, p6, p7, v0, v1, v2, _, v4, v5, v6, v7, h6, h7, rfl, by simp only [List.getElem_toArray, List.getElem_cons_zero, List.getElem_cons_succ, Act.put, List.setIfInBounds_toArray, List.set_cons_zero, List.set_cons_succ], KV, RV, f0, f1, f2, (fun _ => rfl), f4, f5, f6, f7, f67, (fun h => ⟨rfl, (fd h).2⟩)⟩
        · clear hi1 hi2 hi3 hall
          refine wpOp_go rfl (by rfl) (fun K hK => ?_)
          go_simp
          exact hK _ _ ⟨p0, p1, p2, p3, true, p5, p6, p7, v0, v1, v2, v3, _, v5, v6, v7, h6, h7, rfl, by simp only [List.getElem_toArray, List.getElem_cons_zero, List.getElem_cons_succ, Act.put, List.setIfInBounds_toArray, List.set_cons_zero, List.set_cons_succ], KV, RV, f0, f1, f2, f3, (fun _ => rfl), f5, f6, f7, f67, (fun h => ⟨(fd h).1, rfl⟩)⟩
        · have q2 : p2 = true := by cases p2; (cases p3 <;> cases p4 <;> exact absurd hi3 (not_true_of (by kernel_rfl))); rfl
          have q3 : p3 = true := by cases p3; exact absurd hi3 (not_true_of (by kernel_rfl)); rfl
          subst q3
          have q4 : p4 = true := by cases p4; exact absurd hi3 (not_true_of (by kernel_rfl)); rfl
          obtain rfl := f2 q2
          obtain rfl := f3 rfl
          obtain rfl := f4 q4
          clear hi1 hi2 hi3 hall
          refine wpOp_go rfl (by rfl) (fun K hK => ?_)
          go_simp
          refine (round_in t ht b hb24 _).mono ?_
          rintro _ V2b ⟨rfl, K2⟩
          exact hK _ _ ⟨p0, p1, p2, true, p4, true, p6, p7, v0, v1, _, _, _, _, v6, v7, h6, h7, rfl, by simp only [List.getElem_toArray, List.getElem_cons_zero, List.getElem_cons_succ, Act.put, List.setIfInBounds_toArray, List.set_cons_zero, List.set_cons_succ], KV.trans K2, RV.keep K2 (fun h => h), f0, f1, f2, f3, f4, (fun _ => rfl), (fun h => ⟨(f6 h).1, (f6 h).2.1, (f6 h).2.2.keep K2 (fun h => h)⟩), (fun h => ⟨(f7 h).1, (f7 h).2.1, (f7 h).2.2.keep K2 (fun h => h)⟩), f67, (fun _ => ⟨rfl, q4⟩)⟩
        · clear hi1 hi2 hi3 hall
          have k2 : Keep (fun _ => False) V2 (V2.alloc (.cells (stv z25).toArray 37)) := (Keep.refl _ _).alloc _
          have r2 : RowL (V2.alloc (.cells (stv z25).toArray 37)) V2.heap.size 37 z25 := heap_alloc_new V2 _
          refine wpOp_go rfl (by rfl) (fun K hK => ?_)
          go_simp
          exact hK _ _ ⟨p0, p1, p2, p3, p4, p5, true, p7, v0, v1, v2, v3, v4, v5, _, v7, V2.heap.size, h7, rfl, by simp only [List.getElem_toArray, List.getElem_cons_zero, List.getElem_cons_succ, Act.put, List.setIfInBounds_toArray, List.set_cons_zero, List.set_cons_succ], KV.trans k2, RV.keep k2 (fun h => h), f0, f1, f2, f3, f4, f5, (fun _ => ⟨rfl, KV.size, r2⟩), (fun h => ⟨(f7 h).1, (f7 h).2.1, (f7 h).2.2.keep k2 (fun h => h)⟩), (fun _ h e => by have := (f7 h).2.2.lt; omega), fd⟩
        · clear hi1 hi2 hi3 hall
          have k2 : Keep (fun _ => False) V2 (V2.alloc (.cells (stv z25).toArray 37)) := (Keep.refl _ _).alloc _
          have r2 : RowL (V2.alloc (.cells (stv z25).toArray 37)) V2.heap.size 37 z25 := heap_alloc_new V2 _
          refine wpOp_go rfl (by rfl) (fun K hK => ?_)
          go_simp
          exact hK _ _ ⟨p0, p1, p2, p3, p4, p5, p6, true, v0, v1, v2, v3, v4, v5, v6, _, h6, V2.heap.size, rfl, by simp only [List.getElem_toArray, List.getElem_cons_zero, List.getElem_cons_succ, Act.put, List.setIfInBounds_toArray, List.set_cons_zero, List.set_cons_succ], KV.trans k2, RV.keep k2 (fun h => h), f0, f1, f2, f3, f4, f5, (fun h => ⟨(f6 h).1, (f6 h).2.1, (f6 h).2.2.keep k2 (fun h => h)⟩), (fun _ => ⟨rfl, KV.size, r2⟩), (fun h _ e => by have := (f6 h).2.2.lt; omega), fd⟩
        · exfalso
          clear hi1 hi2 f0 f1 f2 f3 f4 f5 f6 f7 f67
          cases p0 <;> cases p1 <;> cases p2 <;> cases p3 <;> cases p4 <;> cases p5 <;> cases p6 <;> cases p7 <;> first | exact absurd rfl hall | exact Bool.noConfusion (fd rfl).1 | exact Bool.noConfusion (fd rfl).2 | exact absurd hi3 (not_true_of (by kernel_rfl))
        · exfalso
          clear hall
          cases p7 <;> cases p5 <;> exact absurd hi3 (not_true_of (by kernel_rfl))
  · refine .inr ⟨?_, fun i hi => ?_⟩
    · cases p0 <;> cases p1 <;> cases p2 <;> cases p3 <;> cases p4 <;> cases p5 <;> cases p6 <;> cases p7 <;> first | exact ne_nil_of (by kernel_rfl) | exact absurd rfl hall
    · obtain ⟨hi1, hi2, hi3⟩ := ready_depsB hi
      clear hi
      rcases (by have : i < 10 := hi1; omega : i = 0 ∨ i = 1 ∨ i = 2 ∨ i = 3 ∨ i = 4 ∨ i = 5 ∨ i = 6 ∨ i = 7 ∨ i = 8 ∨ i = 9) with rfl | rfl | rfl | rfl | rfl | rfl | rfl | rfl | rfl | rfl
      · clear hi1 hi2 hi3 hall
        refine wpOp_go rfl (by rfl) (fun K hK => ?_)
        refine wp_ld _ rfl _ rfl s hs RV ?_
        exact hK _ _ ⟨true, p1, p2, p3, p4, p5, p6, p7, _, v1, v2, v3, v4, v5, v6, v7, g6, g7, rfl, by simp only [List.getElem_toArray, List.getElem_cons_zero, List.getElem_cons_succ, Act.put, List.setIfInBounds_toArray, List.set_cons_zero, List.set_cons_succ], KV, RV, (fun _ => rfl), f1, f2, f3, f4, f5, f6, f7, f67, fd⟩
      · clear hi1 hi2 hi3 hall
        refine wpOp_go rfl (by rfl) (fun K hK => ?_)
        go_simp
        exact hK _ _ ⟨p0, true, p2, p3, p4, p5, p6, p7, v0, _, v2, v3, v4, v5, v6, v7, g6, g7, rfl, by simp only [List.getElem_toArray, List.getElem_cons_zero, List.getElem_cons_succ, Act.put, List.setIfInBounds_toArray, List.set_cons_zero, List.set_cons_succ], KV, RV, f0, (fun _ => rfl), f2, f3, f4, f5, f6, f7, f67, fd⟩
      · have q0 : p0 = true := by cases p0; exact absurd hi3 (not_true_of (by kernel_rfl)); rfl
        subst q0
        have q1 : p1 = true := by cases p1; exact absurd hi3 (not_true_of (by kernel_rfl)); rfl
        obtain rfl := f0 rfl
        obtain rfl := f1 q1
        clear hi1 hi2 hi3 hall
        refine wpOp_go rfl (by rfl) (fun K hK => ?_)
        go_simp
        refine (round_in s hs a ha24 _).mono ?_
        rintro _ V2 ⟨rfl, K2⟩
        exact hK _ _ ⟨true, p1, true, p3, p4, p5, p6, p7, _, _, _, v3, v4, v5, v6, v7, g6, g7, rfl, by simp only [List.getElem_toArray, List.getElem_cons_zero, List.getElem_cons_succ, Act.put, List.setIfInBounds_toArray, List.set_cons_zero, List.set_cons_succ], KV.trans K2, RV.keep K2 (fun h => h), f0, f1, (fun _ => rfl), f3, f4, f5, (fun h => ⟨(f6 h).1, (f6 h).2.1, (f6 h).2.2.keep K2 (fun h => h)⟩), (fun h => ⟨(f7 h).1, (f7 h).2.1, (f7 h).2.2.keep K2 (fun h => h)⟩), f67, fd⟩
      · clear hi1 hi2 hi3 hall
        refine wpOp_go rfl (by rfl) (fun K hK => ?_)
        refine wp_ld _ rfl _ rfl s hs RV ?_
        exact hK _ _ ⟨p0, p1, p2, true, p4, p5, p6, p7, v0, v1, v2, _, v4, v5, v6, v7, g6, g7, rfl, by simp only [List.getElem_toArray, List.getElem_cons_zero, List.getElem_cons_succ, Act.put, List.setIfInBounds_toArray, List.set_cons_zero, List.set_cons_succ], KV, RV, f0, f1, f2, (fun _ => rfl), f4, f5, f6, f7, f67, (fun h => ⟨rfl, (fd h).2⟩)⟩
      · clear hi1 hi2 hi3 hall
        refine wpOp_go rfl (by rfl) (fun K hK => ?_)
        go_simp
        exact hK _ _ ⟨p0, p1, p2, p3, true, p5, p6, p7, v0, v1, v2, v3, _, v5, v6, v7, g6, g7, rfl, by simp only [List.getElem_toArray, List.getElem_cons_zero, List.getElem_cons_succ, Act.put, List.setIfInBounds_toArray, List.set_cons_zero, List.set_cons_succ], KV, RV, f0, f1, f2, f3, (fun _ => rfl), f5, f6, f7, f67, (fun h => ⟨(fd h).1, rfl⟩)⟩
      · have q2 : p2 = true := by cases p2; (cases p3 <;> cases p4 <;> exact absurd hi3 (not_true_of (by kernel_rfl))); rfl
        have q3 : p3 = true := by cases p3; exact absurd hi3 (not_true_of (by kernel_rfl)); rfl
        subst q3
        have q4 : p4 = true := by cases p4; exact absurd hi3 (not_true_of (by kernel_rfl)); rfl
        obtain rfl := f2 q2
        obtain rfl := f3 rfl
        obtain rfl := f4 q4
        clear hi1 hi2 hi3 hall
        refine wpOp_go rfl (by rfl) (fun K hK => ?_)
        go_simp
        refine (round_in s hs b hb24 _).mono ?_
        rintro _ V2 ⟨rfl, K2⟩
        exact hK _ _ ⟨p0, p1, p2, true, p4, true, p6, p7, v0, v1, _, _, _, _, v6, v7, g6, g7, rfl, by simp only [List.getElem_toArray, List.getElem_cons_zero, List.getElem_cons_succ, Act.put, List.setIfInBounds_toArray, List.set_cons_zero, List.set_cons_succ], KV.trans K2, RV.keep K2 (fun h => h), f0, f1, f2, f3, f4, (fun _ => rfl), (fun h => ⟨(f6 h).1, (f6 h).2.1, (f6 h).2.2.keep K2 (fun h => h)⟩), (fun h => ⟨(f7 h).1, (f7 h).2.1, (f7 h).2.2.keep K2 (fun h => h)⟩), f67, (fun _ => ⟨rfl, q4⟩)⟩
      · clear hi1 hi2 hi3 hall
        have k2 : Keep (fun _ => False) V (V.alloc (.cells (stv z25).toArray 37)) := (Keep.refl _ _).alloc _
        have r2 : RowL (V.alloc (.cells (stv z25).toArray 37)) V.heap.size 37 z25 := heap_alloc_new V _
        refine wpOp_go rfl (by rfl) (fun K hK => ?_)
        go_simp
        exact hK _ _ ⟨p0, p1, p2, p3, p4, p5, true, p7, v0, v1, v2, v3, v4, v5, _, v7, V.heap.size, g7, rfl, by simp only [List.getElem_toArray, List.getElem_cons_zero, List.getElem_cons_succ, Act.put, List.setIfInBounds_toArray, List.set_cons_zero, List.set_cons_succ], KV.trans k2, RV.keep k2 (fun h => h), f0, f1, f2, f3, f4, f5, (fun _ => ⟨rfl, KV.size, r2⟩), (fun h => ⟨(f7 h).1, (f7 h).2.1, (f7 h).2.2.keep k2 (fun h => h)⟩), (fun _ h e => by have := (f7 h).2.2.lt; omega), fd⟩
      · clear hi1 hi2 hi3 hall
        have k2 : Keep (fun _ => False) V (V.alloc (.cells (stv z25).toArray 37)) := (Keep.refl _ _).alloc _
        have r2 : RowL (V.alloc (.cells (stv z25).toArray 37)) V.heap.size 37 z25 := heap_alloc_new V _
        refine wpOp_go rfl (by rfl) (fun K hK => ?_)
        go_simp
        exact hK _ _ ⟨p0, p1, p2, p3, p4, p5, p6, true, v0, v1, v2, v3, v4, v5, v6, _, g6, V.heap.size, rfl, by simp only [List.getElem_toArray, List.getElem_cons_zero, List.getElem_cons_succ, Act.put, List.setIfInBounds_toArray, List.set_cons_zero, List.set_cons_succ], KV.trans k2, RV.keep k2 (fun h => h), f0, f1, f2, f3, f4, f5, (fun h => ⟨(f6 h).1, (f6 h).2.1, (f6 h).2.2.keep k2 (fun h => h)⟩), (fun _ => ⟨rfl, KV.size, r2⟩), (fun h _ e => by have := (f6 h).2.2.lt; omega), fd⟩
      · exfalso
        clear hi1 hi2 f0 f1 f2 f3 f4 f5 f6 f7 f67
        cases p0 <;> cases p1 <;> cases p2 <;> cases p3 <;> cases p4 <;> cases p5 <;> cases p6 <;> cases p7 <;> first | exact absurd rfl hall | exact Bool.noConfusion (fd rfl).1 | exact Bool.noConfusion (fd rfl).2 | exact absurd hi3 (not_true_of (by kernel_rfl))
      · exfalso
        clear hall
        cases p7 <;> cases p5 <;> exact absurd hi3 (not_true_of (by kernel_rfl))
end Go.Proofs.Ytknlhbbkjgkjpaa
