/- Law 19: awake, and the walks. -/
import Derived.Test.YtknlhbbkjgkjpaaKecL
namespace Go.Proofs.Ytknlhbbkjgkjpaa
open Go Go.RowKit

theorem built37_1 : Try.prog.built 37 [(0, .int .u64 1)] = some (stv (z25.set 0 1#64)).toArray := by kernel_rfl

section
variable {o : Oper} {a : Act} {W : World}
theorem bd_run0 (ho : o.op = .build 37 #[]) : (execOp a.eval o).run Try.prog W = .ok (.value (.agg (stv z25).toArray)) W := by
  have h := run_build (P := Try.prog) W 37 #[] _ built37
  unfold execOp
  simp only [ho, Array.map_empty, Sem.run_bind, h, Result.andThen_ok, Sem.run_pure]
theorem bd_run1 (ho : o.op = .build 37 #[(0, .const (.int .u64 1))]) : (execOp a.eval o).run Try.prog W = .ok (.value (.agg (stv (z25.set 0 1#64)).toArray)) W := by
  have h := run_build (P := Try.prog) W 37 #[(0, .int .u64 1)] _ built37_1
  unfold execOp
  simp only [ho, List.map_toArray, List.map_cons, List.map_nil, Act.eval, Sem.run_bind, h, Result.andThen_ok, Sem.run_pure]
end

/-- Two states are not one. -/
structure Isnt (s t : List L64) : Prop where
  ne : s ≠ t
theorem z25_len : z25.length = 25 := rfl
theorem perm_len {s : List L64} (h : s.length = 25) : (perm s).length = 25 := rnds_len h 24

set_option maxRecDepth 10000 in
set_option maxHeartbeats 2000000 in
theorem kawake_any (w : World) :
    Calls Try.prog 17 #[] w fun e w' => e = .returned (.bool true) ∧ Keep (fun _ => False) w w' := by
  go_enter Try.func17, Try.ntmps17
  go_wp2_with (with_reducible refine wpList_bd built37 rfl rfl ?_)
  refine (round_in z25 z25_len 0 (by decide) _).mono ?_
  rintro _ W1 ⟨rfl, K1⟩
  have hul := rnd_len z25 0
  have HU : Is (rnd z25 0) (z25.set 0 1#64) := ⟨perm_zero.2⟩
  obtain ⟨u, hu⟩ : ∃ u, rnd z25 0 = u := ⟨_, rfl⟩
  rw [hu] at hul HU ⊢
  obtain ⟨b1, hb1⟩ : ∃ b, W1.heap.size = b := ⟨_, rfl⟩
  have r1 : RowL (W1.alloc (.cells (stv z25).toArray 37)) W1.heap.size 37 z25 := heap_alloc_new W1 _
  rw [hb1] at r1
  have KK := hid ((K1.alloc (.cells (stv z25).toArray 37)).setRow (g := b1) (by rw [← hb1]; exact K1.size) (stv u).toArray)
  have R1 := hid (r1.row (s' := u))
  have r1 := hid r1
  clear hu K1
  go_wp2_with (first | (with_reducible refine wpList_bd built37 rfl rfl ?_) | ((with_reducible refine wpList_st (.tmp 1) (.tmp 4) rfl rfl _ rfl u hul rfl z25 z25_len ?_ ?_); exact r1.out))
  clear r1 hb1
  refine (perm_any z25 z25_len _).mono ?_
  rintro _ W2 ⟨rfl, K2⟩
  have hvl := perm_len z25_len
  have HV : Isnt (perm z25) z25 := ⟨perm_zero.1⟩
  have HP : Is (perm z25) (perm z25) := ⟨rfl⟩
  obtain ⟨v, hv⟩ : ∃ v, perm z25 = v := ⟨_, rfl⟩
  have HP : Is (perm z25) v := ⟨hv⟩
  rw [hv] at hvl HV ⊢
  have R1' := R1.out.keep K2 (fun h => h)
  have KK' := KK.out.trans K2
  obtain ⟨b2, hb2⟩ : ∃ b, W2.heap.size = b := ⟨_, rfl⟩
  have r2 : RowL (W2.alloc (.cells (stv z25).toArray 37)) W2.heap.size 37 z25 := heap_alloc_new W2 _
  rw [hb2] at r2
  have b12 : b1 ≠ b2 := by have := R1'.lt; omega
  have q2 := hid ((R1'.keep ((Keep.refl (fun _ => False) W2).alloc (.cells (stv z25).toArray 37)) (fun h => h)).otherRow b2 (stv v).toArray b12)
  have KK0 := hid ((KK'.alloc (.cells (stv z25).toArray 37)).setRow (g := b2) (by rw [← hb2]; exact KK'.size) (stv v).toArray)
  have q3 := hid (r2.row (s' := v))
  have r2 := hid r2
  clear hv K2 R1 R1' KK KK'
  go_wp2_with ((with_reducible refine wpList_st (.tmp 2) (.tmp 6) rfl rfl _ rfl v hvl rfl z25 z25_len ?_ ?_); exact r2.out)
  clear r2 hb2
  have E1 := hid (run_eq_yes hul (by simp [z25]) HU.eq)
  have E2 := hid (run_eq_no hvl z25_len HV.ne)
  have E3 := hid (run_eq_yes hvl hvl rfl)
  refine wp_region_text [0,0,0,0,0,0,0,0,0,0,0,2,0,0,0] (fun W => RowL W b1 37 u ∧ RowL W b2 37 v) (by kernel_rfl) (by kernel_rfl) ⟨q2.out, q3.out⟩ ?_
  refine' wpT_calm (v := .agg (stv u).toArray) (by rfl) (fun W hW => ld_run _ rfl _ rfl u hul hW.1) ?_
  try simp only [Act.put, List.setIfInBounds_toArray, List.set_cons_zero, List.set_cons_succ]
  refine' wpT_calm (v := .agg (stv (z25.set 0 1#64)).toArray) (by rfl) (fun W hW => bd_run1 rfl) ?_
  try simp only [Act.put, List.setIfInBounds_toArray, List.set_cons_zero, List.set_cons_succ]
  refine' wpT_calm (v := .bool true) (by rfl) (fun W hW => eq_run _ _ _ rfl u _ rfl rfl true E1.out) ?_
  try simp only [Act.put, List.setIfInBounds_toArray, List.set_cons_zero, List.set_cons_succ]
  refine' wpT_calm (v := _) (by rfl) (fun W hW => ?_) ?_; rotate_left
  · ((try dsimp only at hW); go_simp; first | done | rfl)
  try simp only [Act.put, List.setIfInBounds_toArray, List.set_cons_zero, List.set_cons_succ]
  refine' wpT_calm (v := .agg (stv v).toArray) (by rfl) (fun W hW => ld_run _ rfl _ rfl v hvl hW.2) ?_
  try simp only [Act.put, List.setIfInBounds_toArray, List.set_cons_zero, List.set_cons_succ]
  refine' wpT_calm (v := .agg (stv z25).toArray) (by rfl) (fun W hW => bd_run0 rfl) ?_
  try simp only [Act.put, List.setIfInBounds_toArray, List.set_cons_zero, List.set_cons_succ]
  refine' wpT_calm (v := .bool true) (by rfl) (fun W hW => ne_run _ _ _ rfl v z25 rfl rfl false E2.out) ?_
  try simp only [Act.put, List.setIfInBounds_toArray, List.set_cons_zero, List.set_cons_succ]
  refine' wpT_calm (v := _) (by rfl) (fun W hW => ?_) ?_; rotate_left
  · ((try dsimp only at hW); go_simp; first | done | rfl)
  try simp only [Act.put, List.setIfInBounds_toArray, List.set_cons_zero, List.set_cons_succ]
  refine' wpT_calm (v := _) (by rfl) (fun W hW => ?_) ?_; rotate_left
  · ((try dsimp only at hW); go_simp; first | done | rfl)
  try simp only [Act.put, List.setIfInBounds_toArray, List.set_cons_zero, List.set_cons_succ]
  refine' wpT_calm (v := .agg (stv v).toArray) (by rfl) (fun W hW => ld_run _ rfl _ rfl v hvl hW.2) ?_
  try simp only [Act.put, List.setIfInBounds_toArray, List.set_cons_zero, List.set_cons_succ]
  refine' wpT_calm (v := .agg (stv z25).toArray) (by rfl) (fun W hW => bd_run0 rfl) ?_
  try simp only [Act.put, List.setIfInBounds_toArray, List.set_cons_zero, List.set_cons_succ]
  have q2 := hid (RowL.keep q2.out ((Keep.refl (fun _ => False) _).drew) (fun h => h))
  have q3 := hid (RowL.keep q3.out ((Keep.refl (fun _ => False) _).drew) (fun h => h))
  have KK0 := hid (KK0.out.drew)
  refine wpT_does (by rfl) (fun K hK => ?_)
  go_simp
  refine (rperm_any z25 z25_len _).mono ?_
  rintro _ V1 ⟨rfl, K1⟩
  have q2_1 := hid (q2.out.keep K1 (fun h => h))
  have q3_1 := hid (q3.out.keep K1 (fun h => h))
  have KK1 := hid (KK0.out.trans K1)
  rw [HP.eq]
  refine hK _ _ ⟨q2_1.out, q3_1.out⟩ ?_
  clear hK K K1 q2 q3 KK0
  try simp only [Act.put, List.setIfInBounds_toArray, List.set_cons_zero, List.set_cons_succ]
  refine' wpT_calm (v := .bool true) (by rfl) (fun W hW => eq_run _ _ _ rfl v v rfl rfl true E3.out) ?_
  try simp only [Act.put, List.setIfInBounds_toArray, List.set_cons_zero, List.set_cons_succ]
  refine' wpT_calm (v := _) (by rfl) (fun W hW => ?_) ?_; rotate_left
  · ((try dsimp only at hW); go_simp; first | done | rfl)
  try simp only [Act.put, List.setIfInBounds_toArray, List.set_cons_zero, List.set_cons_succ]
  refine' wpT_calm (v := _) (by rfl) (fun W hW => ?_) ?_; rotate_left
  · ((try dsimp only at hW); go_simp; first | done | rfl)
  try simp only [Act.put, List.setIfInBounds_toArray, List.set_cons_zero, List.set_cons_succ]
  refine wpT_nil ?_
  go_wp2
  go_ret
  exact ⟨rfl, KK1.out⟩

/-- What a Round of whatever number comes to. -/
def rr (s : List L64) (n : Int) : List L64 := if 0 ≤ n ∧ n < 24 then rnd s n.toNat else s
theorem rr_len {s : List L64} (h : s.length = 25) (n : Int) : (rr s n).length = 25 := by unfold rr; split; exact rnd_len _ _; exact h
theorem rr_inj {s t : List L64} (h : s.length = 25) (h' : t.length = 25) (n : Int) (e : rr s n = rr t n) : s = t := by
  unfold rr at e
  split at e
  · exact rnd_inj h h' _ e
  · exact e
theorem rr_any (s : List L64) (hs : s.length = 25) (n : Int) (w : World) :
    Calls Try.prog 18 #[.agg (stv s).toArray, .int .i64 n] w fun e w' => e = .returned (.agg (stv (rr s n)).toArray) ∧ Keep (fun _ => False) w w' := by
  unfold rr
  by_cases h : 0 ≤ n ∧ n < 24
  · rw [if_pos h]
    have := round_in s hs n.toNat (by omega) w
    rwa [Int.toNat_of_nonneg h.1] at this
  · rw [if_neg h]
    exact round_out s hs n (by omega) w
theorem rrr_any (s : List L64) (hs : s.length = 25) (n : Int) (w : World) :
    Calls Try.prog 19 #[.agg (stv s).toArray, .int .i64 n] w fun e w' => e = .returned (.agg (stv (rr s n)).toArray) ∧ Keep (fun _ => False) w w' := by
  unfold rr
  by_cases h : 0 ≤ n ∧ n < 24
  · rw [if_pos h]
    have := rrounds_any s hs n.toNat (by omega) w
    rwa [Int.toNat_of_nonneg h.1] at this
  · rw [if_neg h]
    exact rround_out s hs n (by omega) w
theorem box1 (w : World) (s : List L64) : RowL (w.alloc (.cells (stv s).toArray 37)).drew w.heap.size 37 s ∧ Keep (fun _ => False) w (w.alloc (.cells (stv s).toArray 37)).drew :=
  ⟨heap_alloc_new w _, ((Keep.refl _ _).alloc _).drew⟩
theorem Keep.bel {w w' : World} (h : Keep (fun _ => False) w w') : Below w.heap.size w w' := h.below (fun _ h => h.elim) (Nat.le_refl _)

set_option maxRecDepth 10000 in
set_option maxHeartbeats 2000000 in
theorem walk_KeccakRounds (w : World) (s : List L64) (hs : s.length = 25) (n : Int) (_ : (Lit.int .i64 n).wf = true) : Calls Try.prog 7 #[.agg (stv s).toArray, .int .i64 n] w fun en w' => en = .returned (.bool true) ∧ Below w.heap.size w w' := by
  obtain ⟨q0, KK0⟩ := box1 w s
  have q0 := hid q0
  have KK0 := hid KK0
  go_enter Try.func7, Try.ntmps7
  go_wp2_with fail
  refine wp_region_text [2,0,0,0,2,0,0,2,0,0,0] (fun W => RowL W w.heap.size 37 s) (by kernel_rfl) (by kernel_rfl) q0.out ?_
  refine wpT_does (by rfl) (fun K hK => ?_)
  go_simp
  refine (kawake_any _).mono ?_
  rintro _ V1 ⟨rfl, K1⟩
  have q0_1 := hid (q0.out.keep K1 (fun h => h))
  have KK1 := hid (KK0.out.trans K1)
  refine hK _ _ q0_1.out ?_
  clear hK K K1 q0 KK0
  try simp only [Act.put, List.setIfInBounds_toArray, List.set_cons_zero, List.set_cons_succ]
  refine' wpT_calm (v := _) (by rfl) (fun W hW => ?_) ?_; rotate_left
  · ((try dsimp only at hW); go_simp; first | done | rfl)
  try simp only [Act.put, List.setIfInBounds_toArray, List.set_cons_zero, List.set_cons_succ]
  refine' wpT_calm (v := .agg (stv s).toArray) (by rfl) (fun W hW => ld_run _ rfl _ rfl s hs hW) ?_
  try simp only [Act.put, List.setIfInBounds_toArray, List.set_cons_zero, List.set_cons_succ]
  refine' wpT_calm (v := _) (by rfl) (fun W hW => ?_) ?_; rotate_left
  · ((try dsimp only at hW); go_simp; first | done | rfl)
  try simp only [Act.put, List.setIfInBounds_toArray, List.set_cons_zero, List.set_cons_succ]
  refine wpT_does (by rfl) (fun K hK => ?_)
  go_simp
  refine (rr_any s hs n _).mono ?_
  rintro _ V2 ⟨rfl, K2⟩
  have q0_2 := hid (q0_1.out.keep K2 (fun h => h))
  have KK2 := hid (KK1.out.trans K2)
  have hul := rr_len hs n
  obtain ⟨u, hu⟩ : ∃ u, rr s n = u := ⟨_, rfl⟩
  have HU : Is (rr s n) u := ⟨hu⟩
  rw [hu] at hul ⊢
  clear hu
  refine hK _ _ q0_2.out ?_
  clear hK K K2 q0_1 KK1
  try simp only [Act.put, List.setIfInBounds_toArray, List.set_cons_zero, List.set_cons_succ]
  refine' wpT_calm (v := .agg (stv s).toArray) (by rfl) (fun W hW => ld_run _ rfl _ rfl s hs hW) ?_
  try simp only [Act.put, List.setIfInBounds_toArray, List.set_cons_zero, List.set_cons_succ]
  refine' wpT_calm (v := _) (by rfl) (fun W hW => ?_) ?_; rotate_left
  · ((try dsimp only at hW); go_simp; first | done | rfl)
  try simp only [Act.put, List.setIfInBounds_toArray, List.set_cons_zero, List.set_cons_succ]
  refine wpT_does (by rfl) (fun K hK => ?_)
  go_simp
  refine (rrr_any s hs n _).mono ?_
  rintro _ V3 ⟨rfl, K3⟩
  have q0_3 := hid (q0_2.out.keep K3 (fun h => h))
  have KK3 := hid (KK2.out.trans K3)
  rw [HU.eq]
  refine hK _ _ q0_3.out ?_
  clear hK K K3 q0_2 KK2
  try simp only [Act.put, List.setIfInBounds_toArray, List.set_cons_zero, List.set_cons_succ]
  have E1 := hid (run_eq_yes hul hul rfl)
  refine' wpT_calm (v := .bool true) (by rfl) (fun W hW => eq_run _ _ _ rfl u u rfl rfl true E1.out) ?_
  try simp only [Act.put, List.setIfInBounds_toArray, List.set_cons_zero, List.set_cons_succ]
  refine' wpT_calm (v := _) (by rfl) (fun W hW => ?_) ?_; rotate_left
  · ((try dsimp only at hW); go_simp; first | done | rfl)
  try simp only [Act.put, List.setIfInBounds_toArray, List.set_cons_zero, List.set_cons_succ]
  refine' wpT_calm (v := _) (by rfl) (fun W hW => ?_) ?_; rotate_left
  · ((try dsimp only at hW); go_simp; first | done | rfl)
  try simp only [Act.put, List.setIfInBounds_toArray, List.set_cons_zero, List.set_cons_succ]
  refine wpT_nil ?_
  go_wp2
  go_ret
  exact ⟨rfl, KK3.out.bel⟩

set_option maxRecDepth 10000 in
set_option maxHeartbeats 2000000 in
theorem walk_KeccakMixes (w : World) (s : List L64) (hs : s.length = 25) : Calls Try.prog 8 #[.agg (stv s).toArray] w fun en w' => en = .returned (.bool true) ∧ Below w.heap.size w w' := by
  obtain ⟨q0, KK0⟩ := box1 w s
  have q0 := hid q0
  have KK0 := hid KK0
  go_enter Try.func8, Try.ntmps8
  go_wp2_with fail
  refine wp_region_text [2,0,0,2,0,2,0,0,0] (fun W => RowL W w.heap.size 37 s) (by kernel_rfl) (by kernel_rfl) q0.out ?_
  refine wpT_does (by rfl) (fun K hK => ?_)
  go_simp
  refine (kawake_any _).mono ?_
  rintro _ V1 ⟨rfl, K1⟩
  have q0_1 := hid (q0.out.keep K1 (fun h => h))
  have KK1 := hid (KK0.out.trans K1)
  refine hK _ _ q0_1.out ?_
  clear hK K K1 q0 KK0
  try simp only [Act.put, List.setIfInBounds_toArray, List.set_cons_zero, List.set_cons_succ]
  refine' wpT_calm (v := _) (by rfl) (fun W hW => ?_) ?_; rotate_left
  · ((try dsimp only at hW); go_simp; first | done | rfl)
  try simp only [Act.put, List.setIfInBounds_toArray, List.set_cons_zero, List.set_cons_succ]
  refine' wpT_calm (v := .agg (stv s).toArray) (by rfl) (fun W hW => ld_run _ rfl _ rfl s hs hW) ?_
  try simp only [Act.put, List.setIfInBounds_toArray, List.set_cons_zero, List.set_cons_succ]
  refine wpT_does (by rfl) (fun K hK => ?_)
  go_simp
  refine (perm_any s hs _).mono ?_
  rintro _ V2 ⟨rfl, K2⟩
  have q0_2 := hid (q0_1.out.keep K2 (fun h => h))
  have KK2 := hid (KK1.out.trans K2)
  have hul := perm_len hs
  obtain ⟨u, hu⟩ : ∃ u, perm s = u := ⟨_, rfl⟩
  have HU : Is (perm s) u := ⟨hu⟩
  rw [hu] at hul ⊢
  clear hu
  refine hK _ _ q0_2.out ?_
  clear hK K K2 q0_1 KK1
  try simp only [Act.put, List.setIfInBounds_toArray, List.set_cons_zero, List.set_cons_succ]
  refine' wpT_calm (v := .agg (stv s).toArray) (by rfl) (fun W hW => ld_run _ rfl _ rfl s hs hW) ?_
  try simp only [Act.put, List.setIfInBounds_toArray, List.set_cons_zero, List.set_cons_succ]
  refine wpT_does (by rfl) (fun K hK => ?_)
  go_simp
  refine (rperm_any s hs _).mono ?_
  rintro _ V3 ⟨rfl, K3⟩
  have q0_3 := hid (q0_2.out.keep K3 (fun h => h))
  have KK3 := hid (KK2.out.trans K3)
  rw [HU.eq]
  refine hK _ _ q0_3.out ?_
  clear hK K K3 q0_2 KK2
  try simp only [Act.put, List.setIfInBounds_toArray, List.set_cons_zero, List.set_cons_succ]
  have E1 := hid (run_eq_yes hul hul rfl)
  refine' wpT_calm (v := .bool true) (by rfl) (fun W hW => eq_run _ _ _ rfl u u rfl rfl true E1.out) ?_
  try simp only [Act.put, List.setIfInBounds_toArray, List.set_cons_zero, List.set_cons_succ]
  refine' wpT_calm (v := _) (by rfl) (fun W hW => ?_) ?_; rotate_left
  · ((try dsimp only at hW); go_simp; first | done | rfl)
  try simp only [Act.put, List.setIfInBounds_toArray, List.set_cons_zero, List.set_cons_succ]
  refine' wpT_calm (v := _) (by rfl) (fun W hW => ?_) ?_; rotate_left
  · ((try dsimp only at hW); go_simp; first | done | rfl)
  try simp only [Act.put, List.setIfInBounds_toArray, List.set_cons_zero, List.set_cons_succ]
  refine wpT_nil ?_
  go_wp2
  go_ret
  exact ⟨rfl, KK3.out.bel⟩

end Go.Proofs.Ytknlhbbkjgkjpaa
