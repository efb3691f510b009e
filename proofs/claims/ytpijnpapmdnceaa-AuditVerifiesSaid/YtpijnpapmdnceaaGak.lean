/- Law 21: AuditNone and AuditVerifies. -/
import Derived.Test.YtpijnpapmdnceaaGaj

namespace Go.Proofs.Ytpijnpapmdnceaa
open Go Go.RowKit

set_option maxRecDepth 10000 in
set_option maxHeartbeats 1000000 in
theorem walk_AuditNone (w : World) (v : Value) (hv : ∃ t c o e n m : Int, v = .agg #[.int .i64 t, .int .i64 c, .int .i64 o, .int .i64 e, .int .i64 n, .int .i64 m]) (x : Int) (_h : (Lit.int .i64 x).wf = true) :
    Calls Try.prog 11 #[v, .int .i64 x] w fun e w' => e = .returned (.bool true) ∧ Below w.heap.size w w' := by
  obtain ⟨t, c, o, e, n, m, rfl⟩ := hv
  have B0 : ByteArray.toList ⟨#[]⟩ = ByteArray.toList ⟨#[]⟩ := rfl
  go_enter Try.func11, Try.ntmps11
  go_wp2_with fail
  refine (aadd_none _ _ x x x ⟨t, c, o, e, n, m, rfl⟩).mono ?_
  rintro _ w1 ⟨rfl, k1⟩
  have K1 : Hid (Keep (fun _ => False) w w1) := hid (Keep.trans ((Keep.refl _ _).alloc _) k1)
  clear k1
  go_wp2_with fail
  refine (aawake_any _).mono ?_
  rintro _ w2 ⟨rfl, k2⟩
  have K2 := hid (K1.out.trans k2)
  clear k2 K1
  go_wp2_with fail
  refine (aview_none _).mono ?_
  rintro _ w3 ⟨rfl, k3⟩
  have K3 := hid (K2.out.trans k3)
  clear k3 K2
  unfold viewV
  go_wp2_with fail
  refine (rsame_any (w := w3) (v1 := .slice none 0 0) (v2 := .slice none 0 0) (l1 := []) (l2 := []) (.inl ⟨_, _, rfl, rfl⟩) (.inl ⟨_, _, rfl, rfl⟩) 0 0 [] [] [] []).mono ?_
  rintro _ w4 ⟨rfl, k4⟩
  have K4 := hid (K3.out.trans k4)
  clear k4 K3
  rw [decide_eq_true (⟨rfl, rfl, rfl, rfl⟩ : (0 : Int) = 0 ∧ ([] : List B8) = [] ∧ ([] : List B8) = [] ∧ ([] : List Rc) = [])]
  go_wp2_with fail
  refine (verify_any (w := w4) (v := .slice none 0 0) (l := []) (.inl ⟨_, _, rfl, rfl⟩) 0 [] []).mono ?_
  rintro _ w5 ⟨rfl, k5⟩
  have K5 := hid (K4.out.trans k5)
  clear k5 K4
  have e1 : ver 0 [] [] [] = 1 := by decide
  rw [e1]
  go_wp2_with fail
  go_ret
  exact ⟨rfl, K5.out.below (fun _ h => h.elim) (Nat.le_refl _)⟩

set_option maxRecDepth 10000 in
set_option maxHeartbeats 1000000 in
theorem walk_AuditVerifies (w : World) (d : Int) (b e : List B8) (u : Value) (l : List Rc) (h : ReadR w u l) :
    Calls Try.prog 7 #[viewV d b u e] w fun e' w' => e' = .returned (.bool true) ∧ Below w.heap.size w w' := by
  obtain ⟨a0, c0, hv⟩ := h.form
  subst hv
  obtain ⟨n, hn⟩ : ∃ n, l.length = n := ⟨_, rfl⟩
  rw [hn] at h ⊢
  have H := hid h
  have HN := hid hn
  obtain ⟨B, hB⟩ : ∃ B, bya b = B := ⟨_, rfl⟩
  obtain ⟨E, hE⟩ : ∃ B, bya e = B := ⟨_, rfl⟩
  have HB := hid hB
  have HE := hid hE
  have V1 : Hid (∀ W, ReadR W (.slice a0 n c0) l → Calls Try.prog 25 #[.agg #[.int .i64 d, .string B, .slice a0 n c0, .string E]] W fun x w' => x = .returned (.int .i64 (ver d b l e)) ∧ Keep (fun _ => False) W w') := hid (fun W hr => by
    have := verify_any hr d b e
    unfold viewV at this
    rw [hB, hE] at this
    exact this)
  have V2 : Hid (∀ W, ReadR W (.slice a0 n c0) l → Calls Try.prog 26 #[.agg #[.int .i64 d, .string B, .slice a0 n c0, .string E]] W fun x w' => x = .returned (.int .i64 (ver d b l e)) ∧ Keep (fun _ => False) W w') := hid (fun W hr => by
    have := rverify_any hr d b e
    unfold viewV at this
    rw [hB, hE] at this
    exact this)
  obtain ⟨z, hz⟩ : ∃ z, ver d b l e = z := ⟨_, rfl⟩
  rw [hz] at V1 V2
  unfold viewV
  rw [hB, hE]
  clear h hn hB hE hz
  obtain ⟨W0, hW0⟩ : ∃ W0, w.alloc (.cells #[.int .i64 d, .string B, .slice a0 n c0, .string E] 45) = W0 := ⟨_, rfl⟩
  have K0 : Keep (fun _ => False) w W0 := by rw [← hW0]; exact (Keep.refl _ _).alloc _
  have S0 : w.heap.size < W0.heap.size := by rw [← hW0, World.size_alloc]; exact Nat.lt_succ_self _
  have row0 : W0.heap[w.heap.size]? = some (.cells #[.int .i64 d, .string B, .slice a0 n c0, .string E] 45 (0, 0)) := by rw [← hW0]; exact heap_alloc_new w _
  have HW0 := hid hW0
  have HK0 := hid K0.drew
  have HS0 := hid S0
  have q0 : W0.drew.cell? ⟨w.heap.size, 0, none⟩ = some (.int .i64 d) := by rw [World.cell?_drew, cell_of_row _ _ 0 _ _ _ row0]; rfl
  have q1 : W0.drew.cell? ⟨w.heap.size, 1, none⟩ = some (.string B) := by rw [World.cell?_drew, cell_of_row _ _ 1 _ _ _ row0]; rfl
  have q2 : W0.drew.cell? ⟨w.heap.size, 2, none⟩ = some (.slice a0 n c0) := by rw [World.cell?_drew, cell_of_row _ _ 2 _ _ _ row0]; rfl
  have q3 : W0.drew.cell? ⟨w.heap.size, 3, none⟩ = some (.string E) := by rw [World.cell?_drew, cell_of_row _ _ 3 _ _ _ row0]; rfl
  clear hW0 K0 S0 row0
  go_enter Try.func7, Try.ntmps7
  go_wp2_with fail
  rw [HW0.out]
  refine wp_region_text [2,0,0,2,0,2,0,0,0] (fun W => W.cell? ⟨w.heap.size, 0, none⟩ = some (.int .i64 d) ∧ W.cell? ⟨w.heap.size, 1, none⟩ = some (.string B) ∧ W.cell? ⟨w.heap.size, 2, none⟩ = some (.slice a0 n c0) ∧ W.cell? ⟨w.heap.size, 3, none⟩ = some (.string E)) (by kernel_rfl) (by kernel_rfl) ⟨q0, q1, q2, q3⟩ ?_
  have BD : w.heap.size < W0.drew.heap.size := HS0.out
  obtain ⟨D, hD⟩ : ∃ D, W0.drew = D := ⟨_, rfl⟩
  rw [hD] at q0 q1 q2 q3 BD HK0 ⊢
  clear hD
  refine wpT_does (by rfl) (fun K hK => ?_)
  go_simp
  refine (aawake_any _).mono ?_
  rintro _ w1 ⟨rfl, k1⟩
  have r0 := (k1.cell (p := ⟨w.heap.size, 0, none⟩) BD (fun h => h)).trans q0
  have r1 := (k1.cell (p := ⟨w.heap.size, 1, none⟩) BD (fun h => h)).trans q1
  have r2 := (k1.cell (p := ⟨w.heap.size, 2, none⟩) BD (fun h => h)).trans q2
  have r3 := (k1.cell (p := ⟨w.heap.size, 3, none⟩) BD (fun h => h)).trans q3
  have K1 := hid (HK0.out.trans k1)
  have B1 : w.heap.size < w1.heap.size := Nat.lt_of_lt_of_le BD k1.size
  refine hK _ _ ⟨r0, r1, r2, r3⟩ ?_
  clear hK K q0 q1 q2 q3 k1
  try simp only [Act.put, List.setIfInBounds_toArray, List.set_cons_zero, List.set_cons_succ]
  repeat (first
    | (refine' wpT_calm (v := _) (by rfl) (fun W hW => ?_) ?_; rotate_left
       · ((try dsimp only at hW); go_simp; first | done | rfl)
       simp only [Act.put, List.setIfInBounds_toArray, List.set_cons_zero, List.set_cons_succ])
    | (refine' wpT_reads (v := _) (by rfl) ?_ ?_; rotate_left
       · (go_simp; first | done | rfl)
       simp only [Act.put, List.setIfInBounds_toArray, List.set_cons_zero, List.set_cons_succ])
    | (refine wpT_skip (by rfl) rfl ?_; simp only [Act.put, List.setIfInBounds_toArray, List.set_cons_zero, List.set_cons_succ])
    | (refine wpT_does (by rfl) (fun K hK => ?_); go_simp; refine hK _ _ ?_ ?_
       · (trivial)
       clear hK K; try simp only [Act.put, List.setIfInBounds_toArray, List.set_cons_zero, List.set_cons_succ])
    | (refine wpT_last (by rfl) (fun K hK => ?_); go_simp; refine hK _ _ ?_; clear hK K)
    | (refine wpT_nil ?_))
  refine wpT_does (by rfl) (fun K hK => ?_)
  go_simp
  refine (V1.out _ (H.out.keep K1.out (fun _ _ h => h))).mono ?_
  rintro _ w2 ⟨rfl, k2⟩
  have s0 := (k2.cell (p := ⟨w.heap.size, 0, none⟩) B1 (fun h => h)).trans r0
  have s1 := (k2.cell (p := ⟨w.heap.size, 1, none⟩) B1 (fun h => h)).trans r1
  have s2 := (k2.cell (p := ⟨w.heap.size, 2, none⟩) B1 (fun h => h)).trans r2
  have s3 := (k2.cell (p := ⟨w.heap.size, 3, none⟩) B1 (fun h => h)).trans r3
  have K2 := hid (K1.out.trans k2)
  have B2 : w.heap.size < w2.heap.size := Nat.lt_of_lt_of_le B1 k2.size
  refine hK _ _ ⟨s0, s1, s2, s3⟩ ?_
  clear hK K r0 r1 r2 r3 k2
  try simp only [Act.put, List.setIfInBounds_toArray, List.set_cons_zero, List.set_cons_succ]
  repeat (first
    | (refine' wpT_calm (v := _) (by rfl) (fun W hW => ?_) ?_; rotate_left
       · ((try dsimp only at hW); go_simp; first | done | rfl)
       simp only [Act.put, List.setIfInBounds_toArray, List.set_cons_zero, List.set_cons_succ])
    | (refine' wpT_reads (v := _) (by rfl) ?_ ?_; rotate_left
       · (go_simp; first | done | rfl)
       simp only [Act.put, List.setIfInBounds_toArray, List.set_cons_zero, List.set_cons_succ])
    | (refine wpT_skip (by rfl) rfl ?_; simp only [Act.put, List.setIfInBounds_toArray, List.set_cons_zero, List.set_cons_succ])
    | (refine wpT_does (by rfl) (fun K hK => ?_); go_simp; refine hK _ _ ?_ ?_
       · (trivial)
       clear hK K; try simp only [Act.put, List.setIfInBounds_toArray, List.set_cons_zero, List.set_cons_succ])
    | (refine wpT_last (by rfl) (fun K hK => ?_); go_simp; refine hK _ _ ?_; clear hK K)
    | (refine wpT_nil ?_))
  refine wpT_does (by rfl) (fun K hK => ?_)
  go_simp
  refine (V2.out _ (H.out.keep K2.out (fun _ _ h => h))).mono ?_
  rintro _ w3 ⟨rfl, k3⟩
  have t0 := (k3.cell (p := ⟨w.heap.size, 0, none⟩) B2 (fun h => h)).trans s0
  have t1 := (k3.cell (p := ⟨w.heap.size, 1, none⟩) B2 (fun h => h)).trans s1
  have t2 := (k3.cell (p := ⟨w.heap.size, 2, none⟩) B2 (fun h => h)).trans s2
  have t3 := (k3.cell (p := ⟨w.heap.size, 3, none⟩) B2 (fun h => h)).trans s3
  have K3 := hid (K2.out.trans k3)
  refine hK _ _ ⟨t0, t1, t2, t3⟩ ?_
  clear hK K s0 s1 s2 s3 k3
  try simp only [Act.put, List.setIfInBounds_toArray, List.set_cons_zero, List.set_cons_succ]
  repeat (first
    | (refine' wpT_calm (v := _) (by rfl) (fun W hW => ?_) ?_; rotate_left
       · ((try dsimp only at hW); go_simp; first | done | rfl)
       simp only [Act.put, List.setIfInBounds_toArray, List.set_cons_zero, List.set_cons_succ])
    | (refine' wpT_reads (v := _) (by rfl) ?_ ?_; rotate_left
       · (go_simp; first | done | rfl)
       simp only [Act.put, List.setIfInBounds_toArray, List.set_cons_zero, List.set_cons_succ])
    | (refine wpT_skip (by rfl) rfl ?_; simp only [Act.put, List.setIfInBounds_toArray, List.set_cons_zero, List.set_cons_succ])
    | (refine wpT_does (by rfl) (fun K hK => ?_); go_simp; refine hK _ _ ?_ ?_
       · (trivial)
       clear hK K; try simp only [Act.put, List.setIfInBounds_toArray, List.set_cons_zero, List.set_cons_succ])
    | (refine wpT_last (by rfl) (fun K hK => ?_); go_simp; refine hK _ _ ?_; clear hK K)
    | (refine wpT_nil ?_))
  go_wp2_with fail
  go_ret
  exact ⟨rfl, K3.out.below (fun _ h => h.elim) (Nat.le_refl _)⟩
end Go.Proofs.Ytpijnpapmdnceaa
