/- The walk of SemaPlays. -/
import Derived.Test.YtegpoocmhamlpaaSmN
namespace Go.Proofs.Ytegpoocmhamlpaa
open Go Go.RowKit

/-- As anyX_bar; what holds behind it is named when it is known. -/
theorem anyX_bar2 {P : Program} {ops : Array Oper} {S : World → Prop} {N : Act → World → Prop} {cs : List Nat} {fuel : Nat} {listed : Array Bool} {o : Oper} {a : Act} {w : World}
    (k : Nat) (hk : ops[k]? = some o) (hp : (cs.getD k 2 == 3 && Region.ready .any ops listed == [k]) = true) (hw : Region.wanted o (yielded ops a.tmps) = true)
    (hQ : ∀ K : Act → World → Prop, (∀ (S' : World → Prop) (cs' : List Nat) a' w', S' w' → wpAnyX P ops S' N cs' fuel (listed.setIfInBounds k true) a' w' → K a' w') → o.wp P a w K (OnlyN N)) : wpAnyX P ops S N cs (fuel + 1) listed a w := by
  intro hS hC
  simp only [Bool.and_eq_true, beq_iff_eq] at hp
  obtain ⟨hc, hr⟩ := hp
  refine ⟨fun h => (by rw [h] at hr; cases hr), fun n hn => ?_⟩
  have hn' := hn
  rw [hr] at hn
  have : n = k := by simpa using hn
  subst this
  unfold stepAt lastC
  simp only [hk, hc, if_true]
  rw [if_pos hw]
  exact hQ _ (fun S' cs' a' w' hS' h' => wpAny_of_T fuel _ _ _ hS' (h' hS' (hC.set hn')))

set_option maxRecDepth 10000 in
set_option maxHeartbeats 4000000 in
theorem walk_SemaPlays (w : World) (s : Int) (_ : (Lit.int .i64 s).wf = true) (v1 : Value) (n1 : Nat) (f1 : Nat → Nat → Int) (w1 : ArgRows w v1 [.u8, .i64, .i64] n1 f1) :
    Calls Try.prog 6 #[.int .i64 s, v1] w fun en w' => en = .returned (.bool true) ∧ Below w.heap.size w w' := by
  obtain ⟨a1, c1, hv1⟩ := w1.form
  have A1 := hid w1
  have V1 := hid hv1
  rw [hv1]
  clear w1 hv1
  go_enter Try.func6, Try.ntmps6
  go_wp2_with fail
  refine (mnew_any s w).mono ?_
  rintro e W1 ⟨rfl, G1, N1⟩
  go_wp2_with fail
  refine (snew_any s W1).mono ?_
  rintro e W2 ⟨rfl, R2, K2⟩
  have z1 := szOf_in s
  obtain ⟨Z, hN⟩ : ∃ Z : Int, szOf s = Z := ⟨_, rfl⟩
  rw [hN] at N1 R2 z1
  have hd2 : ∀ k, G1 k → ¬ k = W1.heap.size := fun k hk e => by have := N1.1.2.1 k hk; omega
  have hsz : w.heap.size < W1.heap.size := N1.1.2.1 _ N1.1.1
  have R2' : MNew 46 w W2 (fun k => k = W1.heap.size) W1.heap.size (rscs ⟨Z, Z, []⟩) := ⟨R2.1, fun k hk => by have := R2.2.1 k hk; omega, N1.2.2.trans R2.2.2⟩
  have N2 := hid (N1.quiet K2)
  have R2 := hid R2'
  have D2 := hid hd2
  have Z1 := hid z1
  clear hd2 N1 K2 R2' hN z1
  obtain ⟨r, hr⟩ : ∃ x, W1.heap.size = x := ⟨_, rfl⟩
  rw [hr] at R2 D2 ⊢
  obtain ⟨b, hb⟩ : ∃ x, w.heap.size = x := ⟨_, rfl⟩
  rw [hb] at N2 ⊢
  clear hsz
  go_wp2_with fail
  go_loopw [7] (fun i wr => ∃ (k : Nat) (S : SS) (G1 G2 : Nat → Prop), k ≤ n1 ∧ k ≤ 60 ∧ i = .int .i64 k ∧ S.l.length ≤ k ∧ S.size = Z ∧ SGood S ∧ MNew 69 w wr G1 b (scs S) ∧ MNew 46 w wr G2 r (rscs S) ∧ ∀ k, G1 k → ¬ G2 k) (fun i _ => 60 - (intOf i).toNat)
  case atStart => exact ⟨0, ⟨Z, Z, []⟩, G1, _, Nat.zero_le _, by omega, rfl, Nat.le_refl _, rfl, good_0 Z Z1.out.1 Z1.out.2, N2.out, R2.out, D2.out⟩
  case round =>
    obtain ⟨k, S, G1, G2, hk, hk60, rfl, hl, hSz, hG, hN, hR, hD⟩ := hrel
    have GD := hid hG
    have SZ := hid hSz
    have N := hid hN
    have R := hid hR
    have D := hid hD
    clear N2 R2 D2 hN hR hD hG hSz
    by_cases hlt : k < n1 ∧ k < 60
    · obtain ⟨g, off, cc, hv, hg, hmx, hc⟩ := arg_act4 A1.out (by omega)
      have hav : a1 = some ⟨g, off, none⟩ ∧ c1 = cc := by rw [V1.out] at hv; cases hv; exact ⟨rfl, rfl⟩
      obtain ⟨rfl, rfl⟩ := hav
      obtain ⟨⟨k1, k2, k3⟩, u1⟩ := hc k hlt.1
      have k1 := (N.out.2.2.cell (p := ⟨g, off + k * 3, none⟩) hg (fun h => h)).trans k1
      have k2 := (N.out.2.2.cell (p := ⟨g, off + k * 3 + 1, none⟩) hg (fun h => h)).trans k2
      have k3 := (N.out.2.2.cell (p := ⟨g, off + k * 3 + 2, none⟩) hg (fun h => h)).trans k3
      have hlt1 : (k : Int) < (n1 : Int) := by omega
      have hlt2 : (k : Int) < 60 := by omega
      have hA : S.l.length ≤ 100 := by omega
      unfold maxLen at hmx
      clear hc hv
      generalize f1 k 0 = c at k1 u1
      generalize f1 k 1 = t at k2
      generalize f1 k 2 = n at k3
      have U1 := hid u1
      clear u1
      have CE := hid (And.intro k1 (And.intro k2 k3))
      go_wp2_with fail
      refine wp_region_steps [0,0,0,0,0,0,3,0,0,0,2,0,0,0,0,0,0,0,0,0,0,0,0,0,2,0,0,0,0,0,0,0,0,2,0,0,0,0,2,0,0] (fun W => W.cell? ⟨g, off + k * 3, none⟩ = some (.int .u8 c) ∧ W.cell? ⟨g, off + k * 3 + 1, none⟩ = some (.int .i64 t) ∧ W.cell? ⟨g, off + k * 3 + 2, none⟩ = some (.int .i64 n)) (by kernel_rfl) ⟨k1, k2, k3⟩ ?_
      refine' anyX_calm (v := _) 0 rfl (by kernel_rfl) (by rfl) (fun W hW => ?_) ?_; rotate_left
      · ((try dsimp only at hW); go_simp; first | done | rfl)
      try simp only [List.getElem_toArray, List.getElem_cons_zero, List.getElem_cons_succ, Act.put, List.setIfInBounds_toArray, List.set_cons_zero, List.set_cons_succ]
      refine' anyX_calm (v := _) 1 rfl (by kernel_rfl) (by rfl) (fun W hW => ?_) ?_; rotate_left
      · ((try dsimp only at hW); go_simp; first | done | rfl)
      try simp only [List.getElem_toArray, List.getElem_cons_zero, List.getElem_cons_succ, Act.put, List.setIfInBounds_toArray, List.set_cons_zero, List.set_cons_succ]
      refine' anyX_calm (v := _) 2 rfl (by kernel_rfl) (by rfl) (fun W hW => ?_) ?_; rotate_left
      · ((try dsimp only at hW); go_simp; first | done | rfl)
      try simp only [List.getElem_toArray, List.getElem_cons_zero, List.getElem_cons_succ, Act.put, List.setIfInBounds_toArray, List.set_cons_zero, List.set_cons_succ]
      refine' anyX_calm (v := _) 3 rfl (by kernel_rfl) (by rfl) (fun W hW => ?_) ?_; rotate_left
      · ((try dsimp only at hW); go_simp; first | done | rfl)
      try simp only [List.getElem_toArray, List.getElem_cons_zero, List.getElem_cons_succ, Act.put, List.setIfInBounds_toArray, List.set_cons_zero, List.set_cons_succ]
      refine' anyX_calm (v := _) 4 rfl (by kernel_rfl) (by rfl) (fun W hW => ?_) ?_; rotate_left
      · ((try dsimp only at hW); go_simp; first | done | rfl)
      try simp only [List.getElem_toArray, List.getElem_cons_zero, List.getElem_cons_succ, Act.put, List.setIfInBounds_toArray, List.set_cons_zero, List.set_cons_succ]
      refine' anyX_calm (v := _) 5 rfl (by kernel_rfl) (by rfl) (fun W hW => ?_) ?_; rotate_left
      · ((try dsimp only at hW); go_simp; first | done | rfl)
      try simp only [List.getElem_toArray, List.getElem_cons_zero, List.getElem_cons_succ, Act.put, List.setIfInBounds_toArray, List.set_cons_zero, List.set_cons_succ]
      refine anyX_bar2 6 rfl (by kernel_rfl) (by rfl) (fun K hK => ?_)
      go_simp
      have N0 := N.out.quiet ((Keep.refl _ _).drew)
      have R0 := R.out.quiet ((Keep.refl _ _).drew)
      refine (sdoes_any c t n U1.out N0 R0 D.out GD.out hA).mono ?_
      rintro _ W3 ⟨rfl, S', G1', G2', hG', hSz', hl', N', R', D'⟩
      have N1 := hid N'
      have R1 := hid R'
      have D1 := hid D'
      have GD' := hid hG'
      have SZ' := hid (hSz'.trans SZ.out)
      clear hSz'
      obtain ⟨hrG, vs, vW, vM, hM, hvs, v2, v3, oW, oM, c0, c1, c2, c3⟩ := R'.rs
      have gd1 := hG'.s16
      have gd2 := hG'.f0
      have gd3 := hG'.f1
      obtain ⟨aW, cW, hv⟩ := oW.form
      rw [hv, S'.who_len] at c2
      rw [hv, S'.who_len] at oW
      obtain ⟨T, hT⟩ : ∃ T, S'.size - S'.free = T := ⟨_, rfl⟩
      rw [hT] at c1
      have hsum : IntKind.i64.wrap (S'.size - T) = S'.free := by rw [IntWalk.i64_in _ ⟨by omega, by omega⟩]; omega
      have b1 : (S'.free != S'.free) = false := by simp
      have b2 : (S'.size != S'.size) = false := by simp
      have OW := hid oW.reads
      have lA : S'.l.length ≤ 1000 := by omega
      have HT := hid hT
      refine hK (fun W => W.cell? ⟨r, 0, none⟩ = some (.int .i64 S'.size) ∧ W.cell? ⟨r, 1, none⟩ = some (.int .i64 T) ∧ W.cell? ⟨r, 2, none⟩ = some (.slice aW S'.l.length cW)) [0,0,0,0,0,0,3,0,0,0,2,0,0,0,0,0,0,0,0,0,0,0,0,0,2,0,0,0,0,0,0,0,0,2,0,0,0,0,2,0,0] _ _ ⟨c0, c1, c2⟩ ?_
      clear hK K N0 R0 N' R' D' hM hvs v2 v3 oW oM c3 hv hT k1 k2 k3
      try simp only [List.getElem_toArray, List.getElem_cons_zero, List.getElem_cons_succ, Act.put, List.setIfInBounds_toArray, List.set_cons_zero, List.set_cons_succ]
      have rl := R1.out.1.2.1 r R1.out.1.1
      refine' anyX_calm (v := _) 7 rfl (by kernel_rfl) (by rfl) (fun W hW => ?_) ?_; rotate_left
      · ((try dsimp only at hW); go_simp; first | done | rfl)
      try simp only [List.getElem_toArray, List.getElem_cons_zero, List.getElem_cons_succ, Act.put, List.setIfInBounds_toArray, List.set_cons_zero, List.set_cons_succ]
      refine' anyX_calm (v := _) 8 rfl (by kernel_rfl) (by rfl) (fun W hW => ?_) ?_; rotate_left
      · ((try dsimp only at hW); go_simp; first | done | rfl)
      try simp only [List.getElem_toArray, List.getElem_cons_zero, List.getElem_cons_succ, Act.put, List.setIfInBounds_toArray, List.set_cons_zero, List.set_cons_succ]
      refine' anyX_calm (v := _) 9 rfl (by kernel_rfl) (by rfl) (fun W hW => ?_) ?_; rotate_left
      · ((try dsimp only at hW); go_simp; first | done | rfl)
      try simp only [List.getElem_toArray, List.getElem_cons_zero, List.getElem_cons_succ, Act.put, List.setIfInBounds_toArray, List.set_cons_zero, List.set_cons_succ]
      refine' anyX_calm (v := _) 11 rfl (by kernel_rfl) (by rfl) (fun W hW => ?_) ?_; rotate_left
      · ((try dsimp only at hW); go_simp; first | done | rfl)
      try simp only [List.getElem_toArray, List.getElem_cons_zero, List.getElem_cons_succ, Act.put, List.setIfInBounds_toArray, List.set_cons_zero, List.set_cons_succ]
      refine' anyX_calm (v := _) 12 rfl (by kernel_rfl) (by rfl) (fun W hW => ?_) ?_; rotate_left
      · ((try dsimp only at hW); go_simp; first | done | rfl)
      try simp only [List.getElem_toArray, List.getElem_cons_zero, List.getElem_cons_succ, Act.put, List.setIfInBounds_toArray, List.set_cons_zero, List.set_cons_succ]
      refine' anyX_calm (v := _) 13 rfl (by kernel_rfl) (by rfl) (fun W hW => ?_) ?_; rotate_left
      · ((try dsimp only at hW); go_simp; first | done | rfl)
      try simp only [List.getElem_toArray, List.getElem_cons_zero, List.getElem_cons_succ, Act.put, List.setIfInBounds_toArray, List.set_cons_zero, List.set_cons_succ]
      refine' anyX_calm (v := _) 14 rfl (by kernel_rfl) (by rfl) (fun W hW => ?_) ?_; rotate_left
      · ((try dsimp only at hW); go_simp; first | done | rfl)
      try simp only [List.getElem_toArray, List.getElem_cons_zero, List.getElem_cons_succ, Act.put, List.setIfInBounds_toArray, List.set_cons_zero, List.set_cons_succ]
      refine' anyX_calm (v := _) 15 rfl (by kernel_rfl) (by rfl) (fun W hW => ?_) ?_; rotate_left
      · ((try dsimp only at hW); go_simp; first | done | rfl)
      try simp only [List.getElem_toArray, List.getElem_cons_zero, List.getElem_cons_succ, Act.put, List.setIfInBounds_toArray, List.set_cons_zero, List.set_cons_succ]
      refine' anyX_calm (v := _) 16 rfl (by kernel_rfl) (by rfl) (fun W hW => ?_) ?_; rotate_left
      · ((try dsimp only at hW); go_simp; first | done | rfl)
      try simp only [List.getElem_toArray, List.getElem_cons_zero, List.getElem_cons_succ, Act.put, List.setIfInBounds_toArray, List.set_cons_zero, List.set_cons_succ]
      refine' anyX_calm (v := _) 17 rfl (by kernel_rfl) (by rfl) (fun W hW => ?_) ?_; rotate_left
      · ((try dsimp only at hW); go_simp; first | done | rfl)
      try simp only [List.getElem_toArray, List.getElem_cons_zero, List.getElem_cons_succ, Act.put, List.setIfInBounds_toArray, List.set_cons_zero, List.set_cons_succ]
      refine' anyX_calm (v := _) 18 rfl (by kernel_rfl) (by rfl) (fun W hW => ?_) ?_; rotate_left
      · ((try dsimp only at hW); go_simp; first | done | rfl)
      try simp only [List.getElem_toArray, List.getElem_cons_zero, List.getElem_cons_succ, Act.put, List.setIfInBounds_toArray, List.set_cons_zero, List.set_cons_succ]
      refine' anyX_calm (v := _) 19 rfl (by kernel_rfl) (by rfl) (fun W hW => ?_) ?_; rotate_left
      · ((try dsimp only at hW); go_simp; first | done | rfl)
      try simp only [List.getElem_toArray, List.getElem_cons_zero, List.getElem_cons_succ, Act.put, List.setIfInBounds_toArray, List.set_cons_zero, List.set_cons_succ]
      refine anyX_does 10 rfl (by kernel_rfl) (by rfl) (fun K hK => ?_)
      go_simp
      refine (mfree_any N1.out).mono ?_
      rintro _ _ ⟨rfl, rfl⟩
      refine hK _ _ ⟨c0, c1, c2⟩ ?_
      clear hK K
      try simp only [List.getElem_toArray, List.getElem_cons_zero, List.getElem_cons_succ, Act.put, List.setIfInBounds_toArray, List.set_cons_zero, List.set_cons_succ]
      refine' anyX_calm (v := _) 20 rfl (by kernel_rfl) (by rfl) (fun W hW => ?_) ?_; rotate_left
      · ((try dsimp only at hW); go_simp; first | done | rfl)
      try simp only [List.getElem_toArray, List.getElem_cons_zero, List.getElem_cons_succ, Act.put, List.setIfInBounds_toArray, List.set_cons_zero, List.set_cons_succ]
      refine' anyX_calm (v := _) 21 rfl (by kernel_rfl) (by rfl) (fun W hW => ?_) ?_; rotate_left
      · ((try dsimp only at hW); go_simp; first | done | rfl)
      try simp only [List.getElem_toArray, List.getElem_cons_zero, List.getElem_cons_succ, Act.put, List.setIfInBounds_toArray, List.set_cons_zero, List.set_cons_succ]
      refine' anyX_calm (v := _) 22 rfl (by kernel_rfl) (by rfl) (fun W hW => ?_) ?_; rotate_left
      · ((try dsimp only at hW); go_simp; first | done | rfl)
      try simp only [List.getElem_toArray, List.getElem_cons_zero, List.getElem_cons_succ, Act.put, List.setIfInBounds_toArray, List.set_cons_zero, List.set_cons_succ]
      refine' anyX_calm (v := _) 23 rfl (by kernel_rfl) (by rfl) (fun W hW => ?_) ?_; rotate_left
      · ((try dsimp only at hW); go_simp; first | done | rfl)
      try simp only [List.getElem_toArray, List.getElem_cons_zero, List.getElem_cons_succ, Act.put, List.setIfInBounds_toArray, List.set_cons_zero, List.set_cons_succ]
      refine' anyX_calm (v := _) 25 rfl (by kernel_rfl) (by rfl) (fun W hW => ?_) ?_; rotate_left
      · ((try dsimp only at hW); go_simp; first | done | rfl)
      try simp only [List.getElem_toArray, List.getElem_cons_zero, List.getElem_cons_succ, Act.put, List.setIfInBounds_toArray, List.set_cons_zero, List.set_cons_succ]
      refine' anyX_calm (v := _) 26 rfl (by kernel_rfl) (by rfl) (fun W hW => ?_) ?_; rotate_left
      · ((try dsimp only at hW); go_simp; first | done | rfl)
      try simp only [List.getElem_toArray, List.getElem_cons_zero, List.getElem_cons_succ, Act.put, List.setIfInBounds_toArray, List.set_cons_zero, List.set_cons_succ]
      refine' anyX_calm (v := _) 27 rfl (by kernel_rfl) (by rfl) (fun W hW => ?_) ?_; rotate_left
      · ((try dsimp only at hW); go_simp; first | done | rfl)
      try simp only [List.getElem_toArray, List.getElem_cons_zero, List.getElem_cons_succ, Act.put, List.setIfInBounds_toArray, List.set_cons_zero, List.set_cons_succ]
      refine' anyX_calm (v := _) 28 rfl (by kernel_rfl) (by rfl) (fun W hW => ?_) ?_; rotate_left
      · ((try dsimp only at hW); go_simp; first | done | rfl)
      try simp only [List.getElem_toArray, List.getElem_cons_zero, List.getElem_cons_succ, Act.put, List.setIfInBounds_toArray, List.set_cons_zero, List.set_cons_succ]
      refine anyX_does 24 rfl (by kernel_rfl) (by rfl) (fun K hK => ?_)
      go_simp
      refine (msize_any N1.out).mono ?_
      rintro _ _ ⟨rfl, rfl⟩
      refine hK _ _ ⟨c0, c1, c2⟩ ?_
      clear hK K
      try simp only [List.getElem_toArray, List.getElem_cons_zero, List.getElem_cons_succ, Act.put, List.setIfInBounds_toArray, List.set_cons_zero, List.set_cons_succ]
      refine' anyX_calm (v := _) 29 rfl (by kernel_rfl) (by rfl) (fun W hW => ?_) ?_; rotate_left
      · ((try dsimp only at hW); go_simp; first | done | rfl)
      try simp only [List.getElem_toArray, List.getElem_cons_zero, List.getElem_cons_succ, Act.put, List.setIfInBounds_toArray, List.set_cons_zero, List.set_cons_succ]
      refine' anyX_calm (v := _) 30 rfl (by kernel_rfl) (by rfl) (fun W hW => ?_) ?_; rotate_left
      · ((try dsimp only at hW); go_simp; first | done | rfl)
      try simp only [List.getElem_toArray, List.getElem_cons_zero, List.getElem_cons_succ, Act.put, List.setIfInBounds_toArray, List.set_cons_zero, List.set_cons_succ]
      refine' anyX_calm (v := _) 31 rfl (by kernel_rfl) (by rfl) (fun W hW => ?_) ?_; rotate_left
      · ((try dsimp only at hW); go_simp; first | done | rfl)
      try simp only [List.getElem_toArray, List.getElem_cons_zero, List.getElem_cons_succ, Act.put, List.setIfInBounds_toArray, List.set_cons_zero, List.set_cons_succ]
      refine' anyX_calm (v := _) 32 rfl (by kernel_rfl) (by rfl) (fun W hW => ?_) ?_; rotate_left
      · ((try dsimp only at hW); go_simp; first | done | rfl)
      try simp only [List.getElem_toArray, List.getElem_cons_zero, List.getElem_cons_succ, Act.put, List.setIfInBounds_toArray, List.set_cons_zero, List.set_cons_succ]
      refine' anyX_calm (v := _) 34 rfl (by kernel_rfl) (by rfl) (fun W hW => ?_) ?_; rotate_left
      · ((try dsimp only at hW); go_simp; first | done | rfl)
      try simp only [List.getElem_toArray, List.getElem_cons_zero, List.getElem_cons_succ, Act.put, List.setIfInBounds_toArray, List.set_cons_zero, List.set_cons_succ]
      refine' anyX_calm (v := _) 35 rfl (by kernel_rfl) (by rfl) (fun W hW => ?_) ?_; rotate_left
      · ((try dsimp only at hW); go_simp; first | done | rfl)
      try simp only [List.getElem_toArray, List.getElem_cons_zero, List.getElem_cons_succ, Act.put, List.setIfInBounds_toArray, List.set_cons_zero, List.set_cons_succ]
      refine' anyX_calm (v := _) 36 rfl (by kernel_rfl) (by rfl) (fun W hW => ?_) ?_; rotate_left
      · ((try dsimp only at hW); go_simp; first | done | rfl)
      try simp only [List.getElem_toArray, List.getElem_cons_zero, List.getElem_cons_succ, Act.put, List.setIfInBounds_toArray, List.set_cons_zero, List.set_cons_succ]
      refine' anyX_calm (v := _) 37 rfl (by kernel_rfl) (by rfl) (fun W hW => ?_) ?_; rotate_left
      · ((try dsimp only at hW); go_simp; first | done | rfl)
      try simp only [List.getElem_toArray, List.getElem_cons_zero, List.getElem_cons_succ, Act.put, List.setIfInBounds_toArray, List.set_cons_zero, List.set_cons_succ]
      refine anyX_does 33 rfl (by kernel_rfl) (by rfl) (fun K hK => ?_)
      go_simp
      refine (mwaits_any N1.out lA).mono ?_
      rintro _ W4 ⟨a4, m4, rfl, R4, N4, K4, -⟩
      have R5 := hid (R1.out.quiet K4)
      have OW5 := hid (OW.out.keep K4 fun _ _ h => h)
      have R4 := hid R4
      have N5 := hid N4
      have e0 := (K4.cell (p := ⟨r, 0, none⟩) rl (fun h => h)).trans c0
      have e1 := (K4.cell (p := ⟨r, 1, none⟩) rl (fun h => h)).trans c1
      have e2 := (K4.cell (p := ⟨r, 2, none⟩) rl (fun h => h)).trans c2
      refine hK _ _ ⟨e0, e1, e2⟩ ?_
      have rl4 := Nat.lt_of_lt_of_le rl K4.size
      clear hK K N4 K4 c0 c1 c2
      try simp only [List.getElem_toArray, List.getElem_cons_zero, List.getElem_cons_succ, Act.put, List.setIfInBounds_toArray, List.set_cons_zero, List.set_cons_succ]
      refine anyX_does 38 rfl (by kernel_rfl) (by rfl) (fun K hK => ?_)
      go_simp
      refine (ints_any R4.out OW5.out).mono ?_
      rintro _ W5 ⟨rfl, K5⟩
      rw [show decide (S'.who = S'.who) = true from decide_eq_true rfl]
      have N6 := hid (N5.out.quiet K5)
      have R6 := hid (R5.out.quiet K5)
      refine hK _ _ ⟨(K5.cell (p := ⟨r, 0, none⟩) rl4 (fun h => h)).trans e0, (K5.cell (p := ⟨r, 1, none⟩) rl4 (fun h => h)).trans e1, (K5.cell (p := ⟨r, 2, none⟩) rl4 (fun h => h)).trans e2⟩ ?_
      clear hK K K5 e0 e1 e2
      try simp only [List.getElem_toArray, List.getElem_cons_zero, List.getElem_cons_succ, Act.put, List.setIfInBounds_toArray, List.set_cons_zero, List.set_cons_succ]
      refine' anyX_calm (v := _) 39 rfl (by kernel_rfl) (by rfl) (fun W hW => ?_) ?_; rotate_left
      · ((try dsimp only at hW); go_simp; first | done | rfl)
      try simp only [List.getElem_toArray, List.getElem_cons_zero, List.getElem_cons_succ, Act.put, List.setIfInBounds_toArray, List.set_cons_zero, List.set_cons_succ]
      refine' anyX_calm (v := _) 40 rfl (by kernel_rfl) (by rfl) (fun W hW => ?_) ?_; rotate_left
      · ((try dsimp only at hW); go_simp; first | done | rfl)
      try simp only [List.getElem_toArray, List.getElem_cons_zero, List.getElem_cons_succ, Act.put, List.setIfInBounds_toArray, List.set_cons_zero, List.set_cons_succ]
      refine anyX_done (by kernel_rfl) ?_
      go_wp2_with fail
      go_roundw
      case rel => exact ⟨k + 1, S', _, _, by omega, by omega, by go_num, by omega, SZ'.out, GD'.out, N6.out, R6.out, D1.out⟩
      case measure => simp [intOf]; omega
    · have hge : ¬ ((k : Int) < (n1 : Int)) ∨ (k : Int) < (n1 : Int) ∧ ¬ ((k : Int) < 60) := by omega
      clear hlt
      rcases hge with hge1 | ⟨hge1, hge2⟩
      all_goals
        go_wp2_with fail
        refine (mawake_any _).mono ?_
        rintro _ W4 ⟨rfl, K4⟩
        have N4 := hid (N.out.quiet K4)
        clear K4
        go_wp2
        go_ret
        exact ⟨rfl, N4.out.2.2.below (fun _ h => h.elim) (Nat.le_refl _)⟩
end Go.Proofs.Ytegpoocmhamlpaa
