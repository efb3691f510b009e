/- The walks of KeccakOnto, KeccakSteps. -/
import Derived.Test.YtknlhbbkjgkjpaaKecN
namespace Go.Proofs.Ytknlhbbkjgkjpaa
open Go Go.RowKit

set_option maxRecDepth 10000 in
set_option maxHeartbeats 2000000 in
theorem walk_KeccakOnto (w : World) (s : List L64) (hs : s.length = 25) (t : List L64) (ht : t.length = 25) (n : Int) (_ : (Lit.int .i64 n).wf = true) : Calls Try.prog 9 #[.agg (stv s).toArray, .agg (stv t).toArray, .int .i64 n] w fun en w' => en = .returned (.bool true) ∧ Below w.heap.size w w' := by
  obtain ⟨q0, q1, KK0⟩ := boxes2 w s t 37 37
  have q0 := hid (q0.keep ((Keep.refl (fun _ => False) _).drew) (fun h => h))
  have q1 := hid (q1.keep ((Keep.refl (fun _ => False) _).drew) (fun h => h))
  have KK0 := hid KK0.drew
  by_cases hst : s = t
  · have H := hid hst
    have E0 := hid (run_eq_yes hs ht hst)
    clear hst
    go_enter Try.func9, Try.ntmps9
    go_wp2_with fail
    refine wp_region_text [2,0,0,0,2,0,0,2,0,0,0,0,0,0,0,0,2,0,2,0,0,0,0,0,0,0] (fun W => RowL W w.heap.size 37 s ∧ RowL W (w.heap.size + 1) 37 t) (by kernel_rfl) (by kernel_rfl) ⟨q0.out, q1.out⟩ ?_
    refine wpT_does (by rfl) (fun K hK => ?_)
    go_simp
    refine (kawake_any _).mono ?_
    rintro _ V1 ⟨rfl, K1⟩
    have q0_1 := hid (q0.out.keep K1 (fun h => h))
    have q1_1 := hid (q1.out.keep K1 (fun h => h))
    have KK1 := hid (KK0.out.trans K1)
    refine hK _ _ ⟨q0_1.out, q1_1.out⟩ ?_
    clear hK K K1 q0 q1 KK0
    try simp only [Act.put, List.setIfInBounds_toArray, List.set_cons_zero, List.set_cons_succ]
    refine' wpT_calm (v := _) (by rfl) (fun W hW => ?_) ?_; rotate_left
    · ((try dsimp only at hW); go_simp; first | done | rfl)
    try simp only [Act.put, List.setIfInBounds_toArray, List.set_cons_zero, List.set_cons_succ]
    refine' wpT_calm (v := .agg (stv s).toArray) (by rfl) (fun W hW => ld_run _ rfl _ rfl s hs hW.1) ?_
    try simp only [Act.put, List.setIfInBounds_toArray, List.set_cons_zero, List.set_cons_succ]
    refine' wpT_calm (v := _) (by rfl) (fun W hW => ?_) ?_; rotate_left
    · ((try dsimp only at hW); go_simp; first | done | rfl)
    try simp only [Act.put, List.setIfInBounds_toArray, List.set_cons_zero, List.set_cons_succ]
    refine wpT_does (by rfl) (fun K hK => ?_)
    go_simp
    refine (rr_any s hs n _).mono ?_
    rintro _ V2 ⟨rfl, K2⟩
    have q0_2 := hid (q0_1.out.keep K2 (fun h => h))
    have q1_2 := hid (q1_1.out.keep K2 (fun h => h))
    have KK2 := hid (KK1.out.trans K2)
    have hu := rr_len hs n
    obtain ⟨u, hu'⟩ : ∃ u, rr s n = u := ⟨_, rfl⟩
    have Hu : Is (rr s n) u := ⟨hu'⟩
    rw [hu'] at hu ⊢
    clear hu'
    refine hK _ _ ⟨q0_2.out, q1_2.out⟩ ?_
    clear hK K K2 q0_1 q1_1 KK1
    try simp only [Act.put, List.setIfInBounds_toArray, List.set_cons_zero, List.set_cons_succ]
    refine' wpT_calm (v := .agg (stv t).toArray) (by rfl) (fun W hW => ld_run _ rfl _ rfl t ht hW.2) ?_
    try simp only [Act.put, List.setIfInBounds_toArray, List.set_cons_zero, List.set_cons_succ]
    refine' wpT_calm (v := _) (by rfl) (fun W hW => ?_) ?_; rotate_left
    · ((try dsimp only at hW); go_simp; first | done | rfl)
    try simp only [Act.put, List.setIfInBounds_toArray, List.set_cons_zero, List.set_cons_succ]
    refine wpT_does (by rfl) (fun K hK => ?_)
    go_simp
    refine (rr_any t ht n _).mono ?_
    rintro _ V3 ⟨rfl, K3⟩
    have q0_3 := hid (q0_2.out.keep K3 (fun h => h))
    have q1_3 := hid (q1_2.out.keep K3 (fun h => h))
    have KK3 := hid (KK2.out.trans K3)
    have hv := rr_len ht n
    obtain ⟨v, hv'⟩ : ∃ u, rr t n = u := ⟨_, rfl⟩
    have Hv : Is (rr t n) v := ⟨hv'⟩
    rw [hv'] at hv ⊢
    clear hv'
    refine hK _ _ ⟨q0_3.out, q1_3.out⟩ ?_
    clear hK K K3 q0_2 q1_2 KK2
    try simp only [Act.put, List.setIfInBounds_toArray, List.set_cons_zero, List.set_cons_succ]
    have E1 := hid (run_eq_yes hu hv (by rw [← Hu.eq, ← Hv.eq, H.out]))
    refine' wpT_calm (v := .bool true) (by rfl) (fun W hW => eq_run _ _ _ rfl u v rfl rfl true E1.out) ?_
    try simp only [Act.put, List.setIfInBounds_toArray, List.set_cons_zero, List.set_cons_succ]
    refine' wpT_calm (v := .agg (stv s).toArray) (by rfl) (fun W hW => ld_run _ rfl _ rfl s hs hW.1) ?_
    try simp only [Act.put, List.setIfInBounds_toArray, List.set_cons_zero, List.set_cons_succ]
    refine' wpT_calm (v := .agg (stv t).toArray) (by rfl) (fun W hW => ld_run _ rfl _ rfl t ht hW.2) ?_
    try simp only [Act.put, List.setIfInBounds_toArray, List.set_cons_zero, List.set_cons_succ]
    refine' wpT_calm (v := .bool true) (by rfl) (fun W hW => eq_run _ _ _ rfl s t rfl rfl true E0.out) ?_
    try simp only [Act.put, List.setIfInBounds_toArray, List.set_cons_zero, List.set_cons_succ]
    refine' wpT_calm (v := _) (by rfl) (fun W hW => ?_) ?_; rotate_left
    · ((try dsimp only at hW); go_simp; first | done | rfl)
    try simp only [Act.put, List.setIfInBounds_toArray, List.set_cons_zero, List.set_cons_succ]
    refine' wpT_calm (v := _) (by rfl) (fun W hW => ?_) ?_; rotate_left
    · ((try dsimp only at hW); go_simp; first | done | rfl)
    try simp only [Act.put, List.setIfInBounds_toArray, List.set_cons_zero, List.set_cons_succ]
    refine' wpT_calm (v := _) (by rfl) (fun W hW => ?_) ?_; rotate_left
    · ((try dsimp only at hW); go_simp; first | done | rfl)
    try simp only [Act.put, List.setIfInBounds_toArray, List.set_cons_zero, List.set_cons_succ]
    refine' wpT_calm (v := .agg (stv s).toArray) (by rfl) (fun W hW => ld_run _ rfl _ rfl s hs hW.1) ?_
    try simp only [Act.put, List.setIfInBounds_toArray, List.set_cons_zero, List.set_cons_succ]
    refine wpT_does (by rfl) (fun K hK => ?_)
    go_simp
    refine (perm_any s hs _).mono ?_
    rintro _ V4 ⟨rfl, K4⟩
    have q0_4 := hid (q0_3.out.keep K4 (fun h => h))
    have q1_4 := hid (q1_3.out.keep K4 (fun h => h))
    have KK4 := hid (KK3.out.trans K4)
    have hp := perm_len hs
    obtain ⟨p, hp'⟩ : ∃ u, perm s = u := ⟨_, rfl⟩
    have Hp : Is (perm s) p := ⟨hp'⟩
    rw [hp'] at hp ⊢
    clear hp'
    refine hK _ _ ⟨q0_4.out, q1_4.out⟩ ?_
    clear hK K K4 q0_3 q1_3 KK3
    try simp only [Act.put, List.setIfInBounds_toArray, List.set_cons_zero, List.set_cons_succ]
    refine' wpT_calm (v := .agg (stv t).toArray) (by rfl) (fun W hW => ld_run _ rfl _ rfl t ht hW.2) ?_
    try simp only [Act.put, List.setIfInBounds_toArray, List.set_cons_zero, List.set_cons_succ]
    refine wpT_does (by rfl) (fun K hK => ?_)
    go_simp
    refine (perm_any t ht _).mono ?_
    rintro _ V5 ⟨rfl, K5⟩
    have q0_5 := hid (q0_4.out.keep K5 (fun h => h))
    have q1_5 := hid (q1_4.out.keep K5 (fun h => h))
    have KK5 := hid (KK4.out.trans K5)
    have hq := perm_len ht
    obtain ⟨q, hq'⟩ : ∃ u, perm t = u := ⟨_, rfl⟩
    have Hq : Is (perm t) q := ⟨hq'⟩
    rw [hq'] at hq ⊢
    clear hq'
    refine hK _ _ ⟨q0_5.out, q1_5.out⟩ ?_
    clear hK K K5 q0_4 q1_4 KK4
    try simp only [Act.put, List.setIfInBounds_toArray, List.set_cons_zero, List.set_cons_succ]
    have E2 := hid (run_eq_yes hp hq (by rw [← Hp.eq, ← Hq.eq, H.out]))
    refine' wpT_calm (v := .bool true) (by rfl) (fun W hW => eq_run _ _ _ rfl p q rfl rfl true E2.out) ?_
    try simp only [Act.put, List.setIfInBounds_toArray, List.set_cons_zero, List.set_cons_succ]
    refine' wpT_calm (v := .agg (stv s).toArray) (by rfl) (fun W hW => ld_run _ rfl _ rfl s hs hW.1) ?_
    try simp only [Act.put, List.setIfInBounds_toArray, List.set_cons_zero, List.set_cons_succ]
    refine' wpT_calm (v := .agg (stv t).toArray) (by rfl) (fun W hW => ld_run _ rfl _ rfl t ht hW.2) ?_
    try simp only [Act.put, List.setIfInBounds_toArray, List.set_cons_zero, List.set_cons_succ]
    refine' wpT_calm (v := .bool true) (by rfl) (fun W hW => eq_run _ _ _ rfl s t rfl rfl true E0.out) ?_
    try simp only [Act.put, List.setIfInBounds_toArray, List.set_cons_zero, List.set_cons_succ]
    refine' wpT_calm (v := _) (by rfl) (fun W hW => ?_) ?_; rotate_left
    · ((try dsimp only at hW); go_simp; first | done | rfl)
    try simp only [Act.put, List.setIfInBounds_toArray, List.set_cons_zero, List.set_cons_succ]
    refine' wpT_calm (v := _) (by rfl) (fun W hW => ?_) ?_; rotate_left
    · ((try dsimp only at hW); go_simp; first | done | rfl)
    try simp only [Act.put, List.setIfInBounds_toArray, List.set_cons_zero, List.set_cons_succ]
    refine' wpT_calm (v := _) (by rfl) (fun W hW => ?_) ?_; rotate_left
    · ((try dsimp only at hW); go_simp; first | done | rfl)
    try simp only [Act.put, List.setIfInBounds_toArray, List.set_cons_zero, List.set_cons_succ]
    refine wpT_nil ?_
    go_wp2
    go_ret
    exact ⟨rfl, KK5.out.bel⟩
  · have H := hid hst
    have E0 := hid (run_eq_no hs ht hst)
    clear hst
    go_enter Try.func9, Try.ntmps9
    go_wp2_with fail
    refine wp_region_text [2,0,0,0,2,0,0,2,0,0,0,0,0,0,0,0,2,0,2,0,0,0,0,0,0,0] (fun W => RowL W w.heap.size 37 s ∧ RowL W (w.heap.size + 1) 37 t) (by kernel_rfl) (by kernel_rfl) ⟨q0.out, q1.out⟩ ?_
    refine wpT_does (by rfl) (fun K hK => ?_)
    go_simp
    refine (kawake_any _).mono ?_
    rintro _ V1 ⟨rfl, K1⟩
    have q0_1 := hid (q0.out.keep K1 (fun h => h))
    have q1_1 := hid (q1.out.keep K1 (fun h => h))
    have KK1 := hid (KK0.out.trans K1)
    refine hK _ _ ⟨q0_1.out, q1_1.out⟩ ?_
    clear hK K K1 q0 q1 KK0
    try simp only [Act.put, List.setIfInBounds_toArray, List.set_cons_zero, List.set_cons_succ]
    refine' wpT_calm (v := _) (by rfl) (fun W hW => ?_) ?_; rotate_left
    · ((try dsimp only at hW); go_simp; first | done | rfl)
    try simp only [Act.put, List.setIfInBounds_toArray, List.set_cons_zero, List.set_cons_succ]
    refine' wpT_calm (v := .agg (stv s).toArray) (by rfl) (fun W hW => ld_run _ rfl _ rfl s hs hW.1) ?_
    try simp only [Act.put, List.setIfInBounds_toArray, List.set_cons_zero, List.set_cons_succ]
    refine' wpT_calm (v := _) (by rfl) (fun W hW => ?_) ?_; rotate_left
    · ((try dsimp only at hW); go_simp; first | done | rfl)
    try simp only [Act.put, List.setIfInBounds_toArray, List.set_cons_zero, List.set_cons_succ]
    refine wpT_does (by rfl) (fun K hK => ?_)
    go_simp
    refine (rr_any s hs n _).mono ?_
    rintro _ V2 ⟨rfl, K2⟩
    have q0_2 := hid (q0_1.out.keep K2 (fun h => h))
    have q1_2 := hid (q1_1.out.keep K2 (fun h => h))
    have KK2 := hid (KK1.out.trans K2)
    have hu := rr_len hs n
    obtain ⟨u, hu'⟩ : ∃ u, rr s n = u := ⟨_, rfl⟩
    have Hu : Is (rr s n) u := ⟨hu'⟩
    rw [hu'] at hu ⊢
    clear hu'
    refine hK _ _ ⟨q0_2.out, q1_2.out⟩ ?_
    clear hK K K2 q0_1 q1_1 KK1
    try simp only [Act.put, List.setIfInBounds_toArray, List.set_cons_zero, List.set_cons_succ]
    refine' wpT_calm (v := .agg (stv t).toArray) (by rfl) (fun W hW => ld_run _ rfl _ rfl t ht hW.2) ?_
    try simp only [Act.put, List.setIfInBounds_toArray, List.set_cons_zero, List.set_cons_succ]
    refine' wpT_calm (v := _) (by rfl) (fun W hW => ?_) ?_; rotate_left
    · ((try dsimp only at hW); go_simp; first | done | rfl)
    try simp only [Act.put, List.setIfInBounds_toArray, List.set_cons_zero, List.set_cons_succ]
    refine wpT_does (by rfl) (fun K hK => ?_)
    go_simp
    refine (rr_any t ht n _).mono ?_
    rintro _ V3 ⟨rfl, K3⟩
    have q0_3 := hid (q0_2.out.keep K3 (fun h => h))
    have q1_3 := hid (q1_2.out.keep K3 (fun h => h))
    have KK3 := hid (KK2.out.trans K3)
    have hv := rr_len ht n
    obtain ⟨v, hv'⟩ : ∃ u, rr t n = u := ⟨_, rfl⟩
    have Hv : Is (rr t n) v := ⟨hv'⟩
    rw [hv'] at hv ⊢
    clear hv'
    refine hK _ _ ⟨q0_3.out, q1_3.out⟩ ?_
    clear hK K K3 q0_2 q1_2 KK2
    try simp only [Act.put, List.setIfInBounds_toArray, List.set_cons_zero, List.set_cons_succ]
    have E1 := hid (run_eq_no hu hv (fun e => H.out (rr_inj hs ht n (by rw [Hu.eq, Hv.eq, e]))))
    refine' wpT_calm (v := .bool false) (by rfl) (fun W hW => eq_run _ _ _ rfl u v rfl rfl false E1.out) ?_
    try simp only [Act.put, List.setIfInBounds_toArray, List.set_cons_zero, List.set_cons_succ]
    refine' wpT_calm (v := .agg (stv s).toArray) (by rfl) (fun W hW => ld_run _ rfl _ rfl s hs hW.1) ?_
    try simp only [Act.put, List.setIfInBounds_toArray, List.set_cons_zero, List.set_cons_succ]
    refine' wpT_calm (v := .agg (stv t).toArray) (by rfl) (fun W hW => ld_run _ rfl _ rfl t ht hW.2) ?_
    try simp only [Act.put, List.setIfInBounds_toArray, List.set_cons_zero, List.set_cons_succ]
    refine' wpT_calm (v := .bool false) (by rfl) (fun W hW => eq_run _ _ _ rfl s t rfl rfl false E0.out) ?_
    try simp only [Act.put, List.setIfInBounds_toArray, List.set_cons_zero, List.set_cons_succ]
    refine' wpT_calm (v := _) (by rfl) (fun W hW => ?_) ?_; rotate_left
    · ((try dsimp only at hW); go_simp; first | done | rfl)
    try simp only [Act.put, List.setIfInBounds_toArray, List.set_cons_zero, List.set_cons_succ]
    refine' wpT_calm (v := _) (by rfl) (fun W hW => ?_) ?_; rotate_left
    · ((try dsimp only at hW); go_simp; first | done | rfl)
    try simp only [Act.put, List.setIfInBounds_toArray, List.set_cons_zero, List.set_cons_succ]
    refine' wpT_calm (v := _) (by rfl) (fun W hW => ?_) ?_; rotate_left
    · ((try dsimp only at hW); go_simp; first | done | rfl)
    try simp only [Act.put, List.setIfInBounds_toArray, List.set_cons_zero, List.set_cons_succ]
    refine' wpT_calm (v := .agg (stv s).toArray) (by rfl) (fun W hW => ld_run _ rfl _ rfl s hs hW.1) ?_
    try simp only [Act.put, List.setIfInBounds_toArray, List.set_cons_zero, List.set_cons_succ]
    refine wpT_does (by rfl) (fun K hK => ?_)
    go_simp
    refine (perm_any s hs _).mono ?_
    rintro _ V4 ⟨rfl, K4⟩
    have q0_4 := hid (q0_3.out.keep K4 (fun h => h))
    have q1_4 := hid (q1_3.out.keep K4 (fun h => h))
    have KK4 := hid (KK3.out.trans K4)
    have hp := perm_len hs
    obtain ⟨p, hp'⟩ : ∃ u, perm s = u := ⟨_, rfl⟩
    have Hp : Is (perm s) p := ⟨hp'⟩
    rw [hp'] at hp ⊢
    clear hp'
    refine hK _ _ ⟨q0_4.out, q1_4.out⟩ ?_
    clear hK K K4 q0_3 q1_3 KK3
    try simp only [Act.put, List.setIfInBounds_toArray, List.set_cons_zero, List.set_cons_succ]
    refine' wpT_calm (v := .agg (stv t).toArray) (by rfl) (fun W hW => ld_run _ rfl _ rfl t ht hW.2) ?_
    try simp only [Act.put, List.setIfInBounds_toArray, List.set_cons_zero, List.set_cons_succ]
    refine wpT_does (by rfl) (fun K hK => ?_)
    go_simp
    refine (perm_any t ht _).mono ?_
    rintro _ V5 ⟨rfl, K5⟩
    have q0_5 := hid (q0_4.out.keep K5 (fun h => h))
    have q1_5 := hid (q1_4.out.keep K5 (fun h => h))
    have KK5 := hid (KK4.out.trans K5)
    have hq := perm_len ht
    obtain ⟨q, hq'⟩ : ∃ u, perm t = u := ⟨_, rfl⟩
    have Hq : Is (perm t) q := ⟨hq'⟩
    rw [hq'] at hq ⊢
    clear hq'
    refine hK _ _ ⟨q0_5.out, q1_5.out⟩ ?_
    clear hK K K5 q0_4 q1_4 KK4
    try simp only [Act.put, List.setIfInBounds_toArray, List.set_cons_zero, List.set_cons_succ]
    have E2 := hid (run_eq_no hp hq (fun e => H.out (perm_inj hs ht (by rw [Hp.eq, Hq.eq, e]))))
    refine' wpT_calm (v := .bool false) (by rfl) (fun W hW => eq_run _ _ _ rfl p q rfl rfl false E2.out) ?_
    try simp only [Act.put, List.setIfInBounds_toArray, List.set_cons_zero, List.set_cons_succ]
    refine' wpT_calm (v := .agg (stv s).toArray) (by rfl) (fun W hW => ld_run _ rfl _ rfl s hs hW.1) ?_
    try simp only [Act.put, List.setIfInBounds_toArray, List.set_cons_zero, List.set_cons_succ]
    refine' wpT_calm (v := .agg (stv t).toArray) (by rfl) (fun W hW => ld_run _ rfl _ rfl t ht hW.2) ?_
    try simp only [Act.put, List.setIfInBounds_toArray, List.set_cons_zero, List.set_cons_succ]
    refine' wpT_calm (v := .bool false) (by rfl) (fun W hW => eq_run _ _ _ rfl s t rfl rfl false E0.out) ?_
    try simp only [Act.put, List.setIfInBounds_toArray, List.set_cons_zero, List.set_cons_succ]
    refine' wpT_calm (v := _) (by rfl) (fun W hW => ?_) ?_; rotate_left
    · ((try dsimp only at hW); go_simp; first | done | rfl)
    try simp only [Act.put, List.setIfInBounds_toArray, List.set_cons_zero, List.set_cons_succ]
    refine' wpT_calm (v := _) (by rfl) (fun W hW => ?_) ?_; rotate_left
    · ((try dsimp only at hW); go_simp; first | done | rfl)
    try simp only [Act.put, List.setIfInBounds_toArray, List.set_cons_zero, List.set_cons_succ]
    refine' wpT_calm (v := _) (by rfl) (fun W hW => ?_) ?_; rotate_left
    · ((try dsimp only at hW); go_simp; first | done | rfl)
    try simp only [Act.put, List.setIfInBounds_toArray, List.set_cons_zero, List.set_cons_succ]
    refine wpT_nil ?_
    go_wp2
    go_ret
    exact ⟨rfl, KK5.out.bel⟩

set_option maxRecDepth 10000 in
set_option maxHeartbeats 2000000 in
theorem walk_KeccakSteps (w : World) (s : List L64) (hs : s.length = 25) : Calls Try.prog 10 #[.agg (stv s).toArray] w fun en w' => en = .returned (.bool true) ∧ Below w.heap.size w w' := by
  have r1 : RowL (w.alloc (.cells (stv s).toArray 37)) w.heap.size 37 s := heap_alloc_new w _
  obtain ⟨q1, q2, kk⟩ := boxes2 w s z25 37 37
  have Q1 := hid (q1.otherRow (w.heap.size + 1) (stv s).toArray (by omega))
  have Q2 := hid (q2.row (s' := s))
  have KK := hid (kk.setRow (g := w.heap.size + 1) (by omega) (stv s).toArray)
  have q2 := hid q2
  clear q1 kk
  go_enter Try.func10, Try.ntmps10
  go_wp2_with (first | (with_reducible refine wpList_ld (.tmp 1) rfl rfl _ rfl s hs r1 ?_) | ((with_reducible refine wpList_st (.tmp 3) (.tmp 5) rfl rfl _ rfl s hs rfl z25 z25_len ?_ ?_); exact q2.out))
  clear r1 q2
  go_loopw [4] (fun i wr => ∃ k : Nat, k ≤ 24 ∧ i = .int .i64 k ∧ RowL wr w.heap.size 37 s ∧ RowL wr (w.heap.size + 1) 37 (rnds s k) ∧ Keep (fun _ => False) w wr) (fun i _ => 24 - (intOf i).toNat)
  case atStart => exact ⟨0, Nat.zero_le _, rfl, Q1.out, Q2.out, KK.out⟩
  case round =>
    obtain ⟨k, hk, rfl, h1, h2, hK⟩ := hrel
    have H1 := hid h1
    have H2 := hid h2
    have HK := hid hK
    have hl := rnds_len hs k
    clear Q1 Q2 KK h1 h2 hK
    by_cases hlt : k < 24
    · have TS := rnds_succ s k
      obtain ⟨u, hu⟩ : ∃ u, rnds s k = u := ⟨_, rfl⟩
      rw [hu] at H2 hl TS
      have HR : Is (rnds s (k + 1)) (rnd u k) := ⟨TS⟩
      clear hu TS
      go_wp2_with ((with_reducible refine wpList_ld (.tmp 3) rfl rfl _ rfl u hl H2.out ?_))
      refine (round_in u hl k hlt _).mono ?_
      rintro _ W1 ⟨rfl, K1⟩
      have q1 := hid (H1.out.keep K1 (fun h => h))
      have q2 := hid (H2.out.keep K1 (fun h => h))
      have kk := hid (HK.out.trans K1)
      have hrl := rnd_len u k
      obtain ⟨v, hv⟩ : ∃ v, rnd u k = v := ⟨_, rfl⟩
      rw [hv] at hrl HR ⊢
      clear K1 H1 H2 HK hv
      go_wp2_with (with_reducible refine wpList_st (.tmp 3) (.tmp 12) rfl rfl _ rfl v hrl rfl u hl q2.out ?_)
      go_roundw
      case rel => exact ⟨k + 1, by omega, by go_num, q1.out.otherRow _ _ (by omega), by rw [HR.eq]; exact q2.out.row, kk.out.setRow (by omega) _⟩
      case measure => simp [intOf]; omega
    · have hk24 : k = 24 := by omega
      have HP : Is (perm s) (rnds s k) := ⟨by rw [hk24]; rfl⟩
      obtain ⟨u, hu⟩ : ∃ u, rnds s k = u := ⟨_, rfl⟩
      rw [hu] at H2 hl HP
      have hul := hl
      have E0 := hid (run_eq_yes hs hs rfl)
      have E1 := hid (run_eq_yes hul hul rfl)
      clear hu hk24 hl
      go_wp2_with fail
      have q0 := hid (H1.out.keep ((Keep.refl (fun _ => False) _).drew) (fun h => h))
      have q1 := hid (H2.out.keep ((Keep.refl (fun _ => False) _).drew) (fun h => h))
      have KK0 := hid HK.out.drew
      refine wp_region_text [2,0,0,2,0,0,0,0,0,2,0,0,0,0,0,2,0,0,0,0] (fun W => RowL W w.heap.size 37 s ∧ RowL W (w.heap.size + 1) 37 u) (by kernel_rfl) (by kernel_rfl) ⟨q0.out, q1.out⟩ ?_
      clear H1 H2 HK
      refine wpT_does (by rfl) (fun K hK => ?_)
      go_simp
      refine (kawake_any _).mono ?_
      rintro _ V1 ⟨rfl, K1⟩
      have q0_1 := hid (q0.out.keep K1 (fun h => h))
      have q1_1 := hid (q1.out.keep K1 (fun h => h))
      have KK1 := hid (KK0.out.trans K1)
      refine hK _ _ ⟨q0_1.out, q1_1.out⟩ ?_
      clear hK K K1 q0 q1 KK0
      try simp only [Act.put, List.setIfInBounds_toArray, List.set_cons_zero, List.set_cons_succ]
      refine' wpT_calm (v := _) (by rfl) (fun W hW => ?_) ?_; rotate_left
      · ((try dsimp only at hW); go_simp; first | done | rfl)
      try simp only [Act.put, List.setIfInBounds_toArray, List.set_cons_zero, List.set_cons_succ]
      refine' wpT_calm (v := .agg (stv s).toArray) (by rfl) (fun W hW => ld_run _ rfl _ rfl s hs hW.1) ?_
      try simp only [Act.put, List.setIfInBounds_toArray, List.set_cons_zero, List.set_cons_succ]
      refine wpT_does (by rfl) (fun K hK => ?_)
      go_simp
      refine (perm_any s hs _).mono ?_
      rintro _ V2 ⟨rfl, K2⟩
      have q0_2 := hid (q0_1.out.keep K2 (fun h => h))
      have q1_2 := hid (q1_1.out.keep K2 (fun h => h))
      have KK2 := hid (KK1.out.trans K2)
      rw [HP.eq]
      refine hK _ _ ⟨q0_2.out, q1_2.out⟩ ?_
      clear hK K K2 q0_1 q1_1 KK1
      try simp only [Act.put, List.setIfInBounds_toArray, List.set_cons_zero, List.set_cons_succ]
      refine' wpT_calm (v := .agg (stv u).toArray) (by rfl) (fun W hW => ld_run _ rfl _ rfl u hul hW.2) ?_
      try simp only [Act.put, List.setIfInBounds_toArray, List.set_cons_zero, List.set_cons_succ]
      refine' wpT_calm (v := .bool true) (by rfl) (fun W hW => eq_run _ _ _ rfl u u rfl rfl true E1.out) ?_
      try simp only [Act.put, List.setIfInBounds_toArray, List.set_cons_zero, List.set_cons_succ]
      refine' wpT_calm (v := _) (by rfl) (fun W hW => ?_) ?_; rotate_left
      · ((try dsimp only at hW); go_simp; first | done | rfl)
      try simp only [Act.put, List.setIfInBounds_toArray, List.set_cons_zero, List.set_cons_succ]
      refine' wpT_calm (v := _) (by rfl) (fun W hW => ?_) ?_; rotate_left
      · ((try dsimp only at hW); go_simp; first | done | rfl)
      try simp only [Act.put, List.setIfInBounds_toArray, List.set_cons_zero, List.set_cons_succ]
      refine' wpT_calm (v := .agg (stv s).toArray) (by rfl) (fun W hW => ld_run _ rfl _ rfl s hs hW.1) ?_
      try simp only [Act.put, List.setIfInBounds_toArray, List.set_cons_zero, List.set_cons_succ]
      refine wpT_does (by rfl) (fun K hK => ?_)
      go_simp
      refine (round_out s hs 24 (.inr (by decide)) _).mono ?_
      rintro _ V3 ⟨rfl, K3⟩
      have q0_3 := hid (q0_2.out.keep K3 (fun h => h))
      have q1_3 := hid (q1_2.out.keep K3 (fun h => h))
      have KK3 := hid (KK2.out.trans K3)
      refine hK _ _ ⟨q0_3.out, q1_3.out⟩ ?_
      clear hK K K3 q0_2 q1_2 KK2
      try simp only [Act.put, List.setIfInBounds_toArray, List.set_cons_zero, List.set_cons_succ]
      refine' wpT_calm (v := .agg (stv s).toArray) (by rfl) (fun W hW => ld_run _ rfl _ rfl s hs hW.1) ?_
      try simp only [Act.put, List.setIfInBounds_toArray, List.set_cons_zero, List.set_cons_succ]
      refine' wpT_calm (v := .bool true) (by rfl) (fun W hW => eq_run _ _ _ rfl s s rfl rfl true E0.out) ?_
      try simp only [Act.put, List.setIfInBounds_toArray, List.set_cons_zero, List.set_cons_succ]
      refine' wpT_calm (v := _) (by rfl) (fun W hW => ?_) ?_; rotate_left
      · ((try dsimp only at hW); go_simp; first | done | rfl)
      try simp only [Act.put, List.setIfInBounds_toArray, List.set_cons_zero, List.set_cons_succ]
      refine' wpT_calm (v := _) (by rfl) (fun W hW => ?_) ?_; rotate_left
      · ((try dsimp only at hW); go_simp; first | done | rfl)
      try simp only [Act.put, List.setIfInBounds_toArray, List.set_cons_zero, List.set_cons_succ]
      refine' wpT_calm (v := .agg (stv s).toArray) (by rfl) (fun W hW => ld_run _ rfl _ rfl s hs hW.1) ?_
      try simp only [Act.put, List.setIfInBounds_toArray, List.set_cons_zero, List.set_cons_succ]
      refine wpT_does (by rfl) (fun K hK => ?_)
      go_simp
      refine (round_out s hs (-1) (.inl (by decide)) _).mono ?_
      rintro _ V4 ⟨rfl, K4⟩
      have q0_4 := hid (q0_3.out.keep K4 (fun h => h))
      have q1_4 := hid (q1_3.out.keep K4 (fun h => h))
      have KK4 := hid (KK3.out.trans K4)
      refine hK _ _ ⟨q0_4.out, q1_4.out⟩ ?_
      clear hK K K4 q0_3 q1_3 KK3
      try simp only [Act.put, List.setIfInBounds_toArray, List.set_cons_zero, List.set_cons_succ]
      refine' wpT_calm (v := .agg (stv s).toArray) (by rfl) (fun W hW => ld_run _ rfl _ rfl s hs hW.1) ?_
      try simp only [Act.put, List.setIfInBounds_toArray, List.set_cons_zero, List.set_cons_succ]
      refine' wpT_calm (v := .bool true) (by rfl) (fun W hW => eq_run _ _ _ rfl s s rfl rfl true E0.out) ?_
      try simp only [Act.put, List.setIfInBounds_toArray, List.set_cons_zero, List.set_cons_succ]
      refine' wpT_calm (v := _) (by rfl) (fun W hW => ?_) ?_; rotate_left
      · ((try dsimp only at hW); go_simp; first | done | rfl)
      try simp only [Act.put, List.setIfInBounds_toArray, List.set_cons_zero, List.set_cons_succ]
      refine' wpT_calm (v := _) (by rfl) (fun W hW => ?_) ?_; rotate_left
      · ((try dsimp only at hW); go_simp; first | done | rfl)
      try simp only [Act.put, List.setIfInBounds_toArray, List.set_cons_zero, List.set_cons_succ]
      refine wpT_nil ?_
      go_wp2
      go_ret
      exact ⟨rfl, KK4.out.bel⟩
end Go.Proofs.Ytknlhbbkjgkjpaa
