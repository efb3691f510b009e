/- The walks of the reference's RW: out. -/
import Derived.Test.YtegpoocmhamlpaaRwE
namespace Go.Proofs.Ytegpoocmhamlpaa
open Go Go.RowKit

section
variable {w0 w w' : World} {G : Nat → Prop} {b : Nat} {E : List On}

def agg3 (p : On) : Value := .agg #[.int .i64 p.1, .bool p.2.1, .bool p.2.2]

set_option maxRecDepth 10000 in
set_option maxHeartbeats 1000000 in
theorem tout_any (i : Nat) (hi : i < E.length) (h : MNew 58 w0 w G b (tcs E)) (hn : E.length ≤ 1000) :
    Calls Try.prog 64 #[.pointer (some ⟨b, 0, none⟩), .int .i64 i] w fun en w' => en = .returned (agg3 (at3 E i)) ∧ StepM 58 w0 G w w' b (tcs (E.eraseIdx i)) := by
  have HH := hid h
  obtain ⟨hGb, vs, v, hM, hvs, v0, o0, c0⟩ := h.tk
  have hb := hM.lt
  have O := hid o0
  obtain ⟨g, cap, hv, hg, hlc, hcm, hrow⟩ := o0.row (by omega)
  have hcell := hrow
  obtain ⟨n, hln⟩ : ∃ n, E.length = n + 1 := ⟨E.length - 1, by omega⟩
  have k1 := hrow _ _ (flat3_get E i hi).1
  have k2 := hrow _ _ (flat3_get E i hi).2.1
  have k3 := hrow _ _ (flat3_get E i hi).2.2
  obtain ⟨p, hp⟩ : ∃ p, at3 E i = p := ⟨_, rfl⟩
  rw [hp] at k1 k2 k3 ⊢
  have HV := hid hv
  have LN := hid hln
  rw [hln] at hv hi hlc hn
  rw [hv] at c0
  have M := hid hM
  have GV := hid hvs
  have V0 := hid v0
  have hcm' : cap ≤ 9223372036854775807 := by unfold maxLen at hcm; omega
  have hgb : g ≠ b := fun e => by
    obtain ⟨c, _, hf⟩ := hM.mob.at v0
    exact hf.ne (by rw [hv, e]; rfl)
  have n1 := Nat.ne_of_lt hb
  have n2 := Nat.ne_of_lt hg
  have n3 : b ≠ w.heap.size + 1 := by omega
  have n4 : g ≠ w.heap.size + 1 := by omega
  have b1 : (i : Int) + 1 ≤ (n : Int) + 1 := by omega
  have b1' : (i : Int) < (n : Int) + 1 := by omega
  have b2 : i + 1 ≤ n + 1 := by omega
  have b3 : (n : Int) + 1 ≤ (cap : Int) := by omega
  have b4 : (i : Int) ≤ (cap : Int) := by omega
  have b5 : (0 : Int) ≤ (i : Int) := by omega
  have b6 : i ≤ cap := by omega
  have b7 : (i : Int) + 1 ≤ 1000 := by omega
  have hw : IntKind.i64.wrap ((i : Int) + 1) = (i : Int) + 1 := IntWalk.i64_in _ ⟨by omega, by omega⟩
  have hw1 : ((i : Int) + 1).toNat = i + 1 := by omega
  have b8 : (0 : Int) ≤ (i : Int) + 1 := by omega
  clear h hM hvs v0 o0 hv hrow hcell hcm hln hp
  go_enter Try.func64, Try.ntmps64
  go_wp2_with fail
  have K0 : Keep (fun _ => False) w ((w.alloc (.cells #[.int .i64 0, .bool false, .bool false] 92)).alloc (.cells #[.int .i64 p.1, .bool p.2.1, .bool p.2.2] 92)) := ((Keep.refl _ _).alloc _).alloc _
  have hsz : ((w.alloc (.cells #[.int .i64 0, .bool false, .bool false] 92)).alloc (.cells #[.int .i64 p.1, .bool p.2.1, .bool p.2.2] 92)).heap.size = w.heap.size + 1 + 1 := by rw [World.size_alloc, World.size_alloc]
  have hr1 : ((w.alloc (.cells #[.int .i64 0, .bool false, .bool false] 92)).alloc (.cells #[.int .i64 p.1, .bool p.2.1, .bool p.2.2] 92)).heap[w.heap.size + 1]? = some (.cells #[.int .i64 p.1, .bool p.2.1, .bool p.2.2] 92 (0, 0)) := by
    have := heap_alloc_new (w.alloc (.cells #[.int .i64 0, .bool false, .bool false] 92)) (.cells #[.int .i64 p.1, .bool p.2.1, .bool p.2.2] 92)
    rw [World.size_alloc] at this
    exact this
  have hr0 : ((w.alloc (.cells #[.int .i64 0, .bool false, .bool false] 92)).alloc (.cells #[.int .i64 p.1, .bool p.2.1, .bool p.2.2] 92)).heap[w.heap.size]? = some (.cells #[.int .i64 0, .bool false, .bool false] 92 (0, 0)) :=
    (((Keep.refl (fun _ => False) _).alloc (.cells #[.int .i64 p.1, .bool p.2.1, .bool p.2.2] 92)).block w.heap.size (by rw [World.size_alloc]; exact Nat.lt_succ_self _) (fun h => h)).trans (heap_alloc_new w _)
  obtain ⟨Wa, hWa⟩ : ∃ x, ((w.alloc (.cells #[.int .i64 0, .bool false, .bool false] 92)).alloc (.cells #[.int .i64 p.1, .bool p.2.1, .bool p.2.2] 92)) = x := ⟨_, rfl⟩
  rw [hWa] at K0 hsz hr1 hr0 ⊢
  clear hWa
  have Na := HH.out.quiet K0
  obtain ⟨_, vsa, va, hMa, hvsa, va0, oa, ca⟩ := Na.tk
  have hca := (K0.cell (p := ⟨b, 0, none⟩) hb (fun h => h)).trans c0
  have eva : va = .slice (some ⟨g, 0, none⟩) (n + 1) cap := by rw [hca] at ca; exact (Option.some.inj ca).symm
  have OA := hid oa
  rw [eva] at oa
  have hb1 : b < Wa.heap.size := by omega
  have NA := hid Na
  have MA := hid hMa
  have GA := hid hvsa
  have VA := hid va0
  have EVA := hid eva
  have R0 := hid hr0
  have R1 := hid hr1
  have SZ := hid hsz
  have KW := hid K0
  clear hMa hvsa va0 eva ca hr0 hr1 hsz K0 Na c0 k1 k2 k3
  have lE : 0 < E.length := by have := LN.out; omega
  go_wp2
  refine wp_region_steps [0,2,0,0,0,0,0,0,2,0,0,0,0,0,0,0,2,0,0,3] (fun W : World => W.cell? ⟨b, 0, none⟩ = some (.slice (some ⟨g, 0, none⟩) (n + 1) cap)) (by kernel_rfl) hca ?_
  refine' anyX_calm (v := _) 0 rfl (by kernel_rfl) (by rfl) (fun W hW => ?_) ?_; rotate_left
  · ((try dsimp only at hW); go_simp; first | done | rfl)
  try simp only [Act.put, List.setIfInBounds_toArray, List.set_cons_zero, List.set_cons_succ]
  refine' anyX_calm (v := _) 2 rfl (by kernel_rfl) (by rfl) (fun W hW => ?_) ?_; rotate_left
  · ((try dsimp only at hW); go_simp; first | done | rfl)
  try simp only [Act.put, List.setIfInBounds_toArray, List.set_cons_zero, List.set_cons_succ]
  refine' anyX_calm (v := _) 3 rfl (by kernel_rfl) (by rfl) (fun W hW => ?_) ?_; rotate_left
  · ((try dsimp only at hW); go_simp; first | done | rfl)
  try simp only [Act.put, List.setIfInBounds_toArray, List.set_cons_zero, List.set_cons_succ]
  refine' anyX_calm (v := _) 4 rfl (by kernel_rfl) (by rfl) (fun W hW => ?_) ?_; rotate_left
  · ((try dsimp only at hW); go_simp; first | done | rfl)
  try simp only [Act.put, List.setIfInBounds_toArray, List.set_cons_zero, List.set_cons_succ]
  refine' anyX_calm (v := _) 5 rfl (by kernel_rfl) (by rfl) (fun W hW => ?_) ?_; rotate_left
  · ((try dsimp only at hW); go_simp; first | done | rfl)
  try simp only [Act.put, List.setIfInBounds_toArray, List.set_cons_zero, List.set_cons_succ]
  refine' anyX_calm (v := _) 6 rfl (by kernel_rfl) (by rfl) (fun W hW => ?_) ?_; rotate_left
  · ((try dsimp only at hW); go_simp; first | done | rfl)
  try simp only [Act.put, List.setIfInBounds_toArray, List.set_cons_zero, List.set_cons_succ]
  refine' anyX_calm (v := _) 7 rfl (by kernel_rfl) (by rfl) (fun W hW => ?_) ?_; rotate_left
  · ((try dsimp only at hW); go_simp; first | done | rfl)
  try simp only [Act.put, List.setIfInBounds_toArray, List.set_cons_zero, List.set_cons_succ]
  refine' anyX_calm (v := _) 9 rfl (by kernel_rfl) (by rfl) (fun W hW => ?_) ?_; rotate_left
  · ((try dsimp only at hW); go_simp; first | done | rfl)
  try simp only [Act.put, List.setIfInBounds_toArray, List.set_cons_zero, List.set_cons_succ]
  refine' anyX_calm (v := _) 10 rfl (by kernel_rfl) (by rfl) (fun W hW => ?_) ?_; rotate_left
  · ((try dsimp only at hW); go_simp; first | done | rfl)
  try simp only [Act.put, List.setIfInBounds_toArray, List.set_cons_zero, List.set_cons_succ]
  refine' anyX_calm (v := _) 11 rfl (by kernel_rfl) (by rfl) (fun W hW => ?_) ?_; rotate_left
  · ((try dsimp only at hW); go_simp; first | done | rfl)
  try simp only [Act.put, List.setIfInBounds_toArray, List.set_cons_zero, List.set_cons_succ]
  refine' anyX_calm (v := _) 12 rfl (by kernel_rfl) (by rfl) (fun W hW => ?_) ?_; rotate_left
  · ((try dsimp only at hW); go_simp; first | done | rfl)
  try simp only [Act.put, List.setIfInBounds_toArray, List.set_cons_zero, List.set_cons_succ]
  refine' anyX_calm (v := _) 13 rfl (by kernel_rfl) (by rfl) (fun W hW => ?_) ?_; rotate_left
  · ((try dsimp only at hW); go_simp; first | done | rfl)
  try simp only [Act.put, List.setIfInBounds_toArray, List.set_cons_zero, List.set_cons_succ]
  refine' anyX_calm (v := _) 14 rfl (by kernel_rfl) (by rfl) (fun W hW => ?_) ?_; rotate_left
  · ((try dsimp only at hW); go_simp; first | done | rfl)
  try simp only [Act.put, List.setIfInBounds_toArray, List.set_cons_zero, List.set_cons_succ]
  refine' anyX_calm (v := _) 15 rfl (by kernel_rfl) (by rfl) (fun W hW => ?_) ?_; rotate_left
  · ((try dsimp only at hW); go_simp; first | done | rfl)
  try simp only [Act.put, List.setIfInBounds_toArray, List.set_cons_zero, List.set_cons_succ]
  refine anyX_does 1 rfl (by kernel_rfl) (by rfl) (fun K hK => ?_)
  go_simp
  have K0 : Keep (fun _ => False) Wa (Wa.alloc (.cells #[] 92)).drew := ((Keep.refl _ _).alloc _).drew
  have hrow : OwnT (Wa.alloc (.cells #[] 92)).drew (.slice (some ⟨Wa.heap.size, 0, none⟩) 0 0) [] := OwnT.keep (made_rowT Wa) ((Keep.refl (fun _ => False) _).drew) (fun _ _ h => h)
  refine hK _ _ ((K0.cell (p := ⟨b, 0, none⟩) hb1 (fun h => h)).trans hca) ?_
  clear hK K
  try simp only [Act.put, List.setIfInBounds_toArray, List.set_cons_zero, List.set_cons_succ]
  refine anyX_does 8 rfl (by kernel_rfl) (by rfl) (fun K hK => ?_)
  have hs1 : Src (Wa.alloc (.cells #[] 92)).drew (.slice (some ⟨g, 0 * 3, none⟩) i cap) i 3 (flat3 (E.take i)) :=
    (own_part3 oa lE 0 i cap (E.take i) (by simp) (by rw [List.length_take, LN.out]; omega)).keep K0 (fun _ _ h => h)
  refine wp_append_ones _ (.tmp 14) (.tmp 20) rfl _ [] rfl hrow _ i (E.take i) rfl hs1 (by simp; omega) ?_
  intro v1 W1 o1 f1 k1
  try rw [List.nil_append] at o1
  have K1 : Keep (fun _ => False) Wa W1 := K0.then k1 (fun k hk => .inr (by have := Option.some.inj hk; dsimp only at this; omega))
  have F1 : ∀ k, v1.ownBlock = some k → Wa.heap.size ≤ k := fun k hk => (f1 k hk).elim (fun h => by have := Option.some.inj h; dsimp only at this; omega) (fun h => by have := K0.size; omega)
  have hs2 : Src W1 (.slice (some (if cap = i + 1 then ⟨g, 0, none⟩ else ⟨g, (i + 1) * 3, none⟩)) (n - i) (cap - (i + 1))) (n - i) 3 (flat3 (E.drop (i + 1))) := by
    refine Src.keep ?_ K1 (fun _ _ h => h)
    split
    · have e0 : n - i = 0 := by omega
      rw [e0]
      exact own_part3 oa lE 0 0 _ _ (by rw [List.take_zero]; exact List.drop_eq_nil_of_le (by have := LN.out; omega)) (by rw [List.length_drop, LN.out]; omega)
    · exact own_part3 oa lE (i + 1) (n - i) _ _ (by rw [List.take_of_length_le]; rw [List.length_drop, LN.out]; omega) (by rw [List.length_drop, LN.out]; omega)
  obtain ⟨a1, n1', hv1⟩ := o1.form
  have hl1 : (E.take i).length = i := by rw [List.length_take, LN.out]; omega
  rw [hl1] at hv1
  subst hv1
  refine hK _ _ ((K1.cell (p := ⟨b, 0, none⟩) hb1 (fun h => h)).trans hca) ?_
  clear hK K f1 k1 hs1 hrow K0
  try simp only [Act.put, List.setIfInBounds_toArray, List.set_cons_zero, List.set_cons_succ]
  refine anyX_does 16 rfl (by kernel_rfl) (by rfl) (fun K hK => ?_)
  refine wp_append_ones _ (.tmp 21) (.tmp 28) rfl _ (E.take i) rfl o1 _ (n - i) (E.drop (i + 1)) ?_ hs2 (by rw [hl1]; omega) ?_
  · show Value.slice (if cap = i + 1 then some { block := g, off := 0 } else some { block := g, off := (i + 1) * 3 }) (n - i) (cap - (i + 1)) = _
    split <;> rfl
  intro v2 W2 o2 f2 k2
  rw [← List.eraseIdx_eq_take_drop_succ] at o2
  have K3 : Keep (fun _ => False) Wa W2 := K1.then k2 (fun k hk => .inr (F1 k hk))
  have F2 : ∀ k, v2.ownBlock = some k → Wa.heap.size ≤ k := fun k hk => (f2 k hk).elim (fun h => F1 k h) (fun h => by have := K1.size; omega)
  obtain ⟨h2, hf⟩ := MA.out.sp VA.out (K3.mono fun _ _ h => h.elim)
  rw [EVA.out] at h2
  have st := NA.out.storedT MA.out hGb GA.out VA.out (K3.mono fun _ _ h => h.elim) o2 (fun k hk => .inr (F2 k hk))
  obtain ⟨a2, n2', hv2⟩ := o2.form
  generalize (E.eraseIdx i).length = m2 at hv2
  subst hv2
  obtain ⟨G3, N3, J3, K4⟩ := st
  have N3' : MNew 58 w0 (W2.setCell ⟨b, 0, none⟩ (.slice a2 m2 n2')) G3 b (tcs (E.eraseIdx i)) := N3
  have N3' := hid N3'
  have hg3 : ¬ G3 w.heap.size := fun h => (J3 _ h).elim (fun h => by have := HH.out.1.2.1 _ h; omega) (fun h => by have := SZ.out; omega)
  have HG3 := hid hg3
  have KG : Hid (Keep G w (W2.setCell ⟨b, 0, none⟩ (.slice a2 m2 n2'))) := hid ((KW.out.mono fun _ _ h => h.elim).trans K4)
  have J3' := hid (fun k (hk : G3 k) => (J3 k hk).elim .inl (fun h => .inr (by have := SZ.out; omega)) : ∀ k, G3 k → G k ∨ w.heap.size ≤ k)
  -- what lies in the two cells of a One
  have e0 : (W2.setCell ⟨b, 0, none⟩ (.slice a2 m2 n2')).heap[w.heap.size]? = some (.cells #[.int .i64 0, .bool false, .bool false] 92 (0, 0)) := by
    rw [Below.heap_setCell _ _ _ _ (by exact Ne.symm n1)]
    exact (K3.block w.heap.size (by have := SZ.out; omega) (fun h => h)).trans R0.out
  have e1 : (W2.setCell ⟨b, 0, none⟩ (.slice a2 m2 n2')).heap[w.heap.size + 1]? = some (.cells #[.int .i64 p.1, .bool p.2.1, .bool p.2.2] 92 (0, 0)) := by
    rw [Below.heap_setCell _ _ _ _ (by exact Ne.symm n3)]
    exact (K3.block (w.heap.size + 1) (by have := SZ.out; omega) (fun h => h)).trans R1.out
  obtain ⟨W3, hW3⟩ : ∃ x, W2.setCell ⟨b, 0, none⟩ (.slice a2 m2 n2') = x := ⟨_, rfl⟩
  refine hK _ _ h2 ?_
  clear hK K K3 o2 K1 F1 o1 F2 f2 k2 hs2 J3 K4 N3 hg3
  try simp only [Act.put, List.setIfInBounds_toArray, List.set_cons_zero, List.set_cons_succ]
  refine' anyX_calm (v := _) 17 rfl (by kernel_rfl) (by rfl) (fun W hW => ?_) ?_; rotate_left
  · ((try dsimp only at hW); go_simp; first | done | rfl)
  try simp only [Act.put, List.setIfInBounds_toArray, List.set_cons_zero, List.set_cons_succ]
  refine' anyX_calm (v := _) 18 rfl (by kernel_rfl) (by rfl) (fun W hW => ?_) ?_; rotate_left
  · ((try dsimp only at hW); go_simp; first | done | rfl)
  try simp only [Act.put, List.setIfInBounds_toArray, List.set_cons_zero, List.set_cons_succ]
  refine anyX_last 19 rfl (by kernel_rfl) (by rfl) (fun K hK => ?_)
  go_simp
  all_goals
    rw [hW3] at e0 e1 N3' KG
    have q0 : W3.cell? ⟨w.heap.size + 1, 0, none⟩ = some (.int .i64 p.1) := by rw [cell_of_row _ _ 0 _ _ _ e1]; rfl
    have q1 : W3.cell? ⟨w.heap.size + 1, 1, none⟩ = some (.bool p.2.1) := by rw [cell_of_row _ _ 1 _ _ _ e1]; rfl
    have q2 : W3.cell? ⟨w.heap.size + 1, 2, none⟩ = some (.bool p.2.2) := by rw [cell_of_row _ _ 2 _ _ _ e1]; rfl
    have r0 : W3.cell? ⟨w.heap.size, 0, none⟩ = some (.int .i64 0) := by rw [cell_of_row _ _ 0 _ _ _ e0]; rfl
    have r1 : W3.cell? ⟨w.heap.size, 1, none⟩ = some (.bool false) := by rw [cell_of_row _ _ 1 _ _ _ e0]; rfl
    have r2 : W3.cell? ⟨w.heap.size, 2, none⟩ = some (.bool false) := by rw [cell_of_row _ _ 2 _ _ _ e0]; rfl
    have z0 : W3.frozen? ⟨w.heap.size, 0, none⟩ = false := by simp [World.frozen?, e0]
    have z1 : W3.frozen? ⟨w.heap.size, 1, none⟩ = false := by simp [World.frozen?, e0]
    have z2 : W3.frozen? ⟨w.heap.size, 2, none⟩ = false := by simp [World.frozen?, e0]
    have kk : Keep (fun k => k = w.heap.size) W3 (((W3.setCell ⟨w.heap.size, 0, none⟩ (.int .i64 p.1)).setCell ⟨w.heap.size, 1, none⟩ (.bool p.2.1)).setCell ⟨w.heap.size, 2, none⟩ (.bool p.2.2)) := (((Keep.refl _ _).setOwn _).setOwn _).setOwn _
    have FIN : StepM 58 w0 G w (((W3.setCell ⟨w.heap.size, 0, none⟩ (.int .i64 p.1)).setCell ⟨w.heap.size, 1, none⟩ (.bool p.2.1)).setCell ⟨w.heap.size, 2, none⟩ (.bool p.2.2)) b (tcs (E.eraseIdx i)) :=
      ⟨G3, N3'.out.keep kk (fun k e => by rw [e]; exact ⟨HH.out.2.2.size, HG3.out⟩), J3'.out, KG.out.then kk (fun k e => .inr (Nat.le_of_eq e.symm))⟩
    have FIN := hid FIN
    try rw [hW3]
    have e4 : (((W3.setCell ⟨w.heap.size, 0, none⟩ (.int .i64 p.1)).setCell ⟨w.heap.size, 1, none⟩ (.bool p.2.1)).setCell ⟨w.heap.size, 2, none⟩ (.bool p.2.2)).heap[w.heap.size]? = some (.cells #[.int .i64 p.1, .bool p.2.1, .bool p.2.2] 92 (0, 0)) := by
      have s1 := heap_setCell_row (o := 0) e0 (.int .i64 p.1)
      have s2 := heap_setCell_row (o := 1) s1 (.bool p.2.1)
      have s3 := heap_setCell_row (o := 2) s2 (.bool p.2.2)
      exact s3
    have E4 := hid e4
    refine hK _ _ ?_
    clear hK K kk hW3 e0 e1 e4
    go_wp2
    all_goals
      try simp only [Exit.inBlock, Exit.then]
      refine bodyPost_ret (results_cell_row (P := Try.prog) (fn := Try.f64) rfl _ _ w.heap.size _ _ _ _ rfl E4.out Try.underlying92 rfl (by kernel_rfl)) rfl ?_
      exact ⟨rfl, FIN.out⟩
end
end Go.Proofs.Ytegpoocmhamlpaa
