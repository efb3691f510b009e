/- The walk of BufferPlays. -/
import Derived.Test.YteobmdkghdjapaaBufJ
namespace Go.Proofs.Yteobmdkghdjapaa
open Go.RowKit

set_option maxHeartbeats 1000000 in
theorem walk_BufferPlays (w : World) (most : Int) (_w0 : (Lit.int .i64 most).wf = true) (v1 : Value) (n1 : Nat) (f1 : Nat → Nat → Int) (w1 : ArgRows w v1 [.i64, .i64] n1 f1) (v2 : Value) (n2 : Nat) (f2 : Nat → Nat → Int) (w2 : ArgRows w v2 [.u8] n2 f2) :
    Calls Try.prog 3 #[.int .i64 most, v1, v2] w fun en w' => en = .returned (.bool true) ∧ Below w.heap.size w w' := by
  obtain ⟨a1, c1, hv1⟩ := w1.form
  obtain ⟨a2, c2, hv2⟩ := w2.form
  have A1 := hid w1
  have A2 := hid w2
  have V1 := hid hv1
  have V2 := hid hv2
  rw [hv1, hv2]
  clear w1 w2 hv1 hv2
  go_enter Try.func3, Try.ntmps3
  go_wp2_with fail
  refine (new_any most _).mono ?_
  rintro _ W1 ⟨rfl, I1, K1⟩
  have hs1 : w.heap.size < W1.heap.size := I1.lt
  have K1 := hid K1
  have I1 := hid I1
  go_wp2_with fail
  refine (rnew_any most _).mono ?_
  rintro _ W2 ⟨rfl, J2, K2⟩
  have hB : Both w W2 w.heap.size W1.heap.size [] (mostOf most) :=
    ⟨Nat.ne_of_lt hs1, Nat.le_refl _, Nat.le_of_lt hs1, I1.out.keep K2 (fun h => h), ⟨_, J2, fun k hk => by simp [Value.ownBlock] at hk⟩, (K1.out.trans K2).below (fun _ h => h.elim) (Nat.le_refl _)⟩
  obtain ⟨r, hr⟩ : ∃ x, W1.heap.size = x := ⟨_, rfl⟩
  rw [hr] at hB ⊢
  obtain ⟨b, hb⟩ : ∃ x, w.heap.size = x := ⟨_, rfl⟩
  rw [hb] at hB ⊢
  have HB := hid hB
  clear I1 J2 K1 K2 hr hb hs1 hB
  go_wp2_with fail
  go_loopw [9] (fun i wr => ∃ (k : Nat) (l : List (Int × Int)), k ≤ n1 ∧ k ≤ 60 ∧ i = .int .i64 k ∧ Both w wr b r l (mostOf most)) (fun i _ => 60 - (intOf i).toNat)
  case atStart => exact ⟨0, [], Nat.zero_le _, by omega, rfl, HB.out⟩
  case round =>
    obtain ⟨k, l, hk, hk60, rfl, hB⟩ := hrel
    clear HB
    by_cases hlt : k < n1 ∧ k < 60
    · obtain ⟨g, off, c, hv, hg, hc⟩ := arg_wakes A1.out (by omega)
      have hav : a1 = some ⟨g, off, none⟩ ∧ c1 = c := by rw [V1.out] at hv; cases hv; exact ⟨rfl, rfl⟩
      obtain ⟨rfl, rfl⟩ := hav
      have k1 := (hB.low.cell (p := ⟨g, off + k * 2, none⟩) hg).trans (hc k hlt.1).1
      have k2 := (hB.low.cell (p := ⟨g, off + k * 2 + 1, none⟩) hg).trans (hc k hlt.1).2
      have hlt1 : (k : Int) < (n1 : Int) := by omega
      have hlt2 : (k : Int) < 60 := by omega
      have hgb : g ≠ b := by have := hB.lo; omega
      have hgr : g ≠ r := by have := hB.hi; omega
      have hgs : g < wr.heap.size := Nat.lt_of_lt_of_le hg hB.low.size
      have B := hid hB
      clear hc hv hB
      go_wp2_with fail
      refine wp_region_steps [0,0,0,0,0,2,0,0,0,0,0,2,0,0,0,2,0,0,0,2,0,0,0] (fun W : World => W.cell? ⟨g, off + k * 2, none⟩ = some (.int .i64 (f1 k 0)) ∧ W.cell? ⟨g, off + k * 2 + 1, none⟩ = some (.int .i64 (f1 k 1))) (by kernel_rfl) ⟨k1, k2⟩ ?_
      refine' anyX_calm (v := _) 0 rfl (by kernel_rfl) (by rfl) (fun W hW => ?_) ?_; rotate_left
      · ((try dsimp only at hW); go_simp; first | done | rfl)
      try simp only [Act.put, List.setIfInBounds_toArray, List.set_cons_zero, List.set_cons_succ]
      refine' anyX_calm (v := _) 1 rfl (by kernel_rfl) (by rfl) (fun W hW => ?_) ?_; rotate_left
      · ((try dsimp only at hW); go_simp; first | done | rfl)
      try simp only [Act.put, List.setIfInBounds_toArray, List.set_cons_zero, List.set_cons_succ]
      refine' anyX_calm (v := _) 2 rfl (by kernel_rfl) (by rfl) (fun W hW => ?_) ?_; rotate_left
      · ((try dsimp only at hW); go_simp; first | done | rfl)
      try simp only [Act.put, List.setIfInBounds_toArray, List.set_cons_zero, List.set_cons_succ]
      refine' anyX_calm (v := _) 3 rfl (by kernel_rfl) (by rfl) (fun W hW => ?_) ?_; rotate_left
      · ((try dsimp only at hW); go_simp; first | done | rfl)
      try simp only [Act.put, List.setIfInBounds_toArray, List.set_cons_zero, List.set_cons_succ]
      refine' anyX_calm (v := _) 4 rfl (by kernel_rfl) (by rfl) (fun W hW => ?_) ?_; rotate_left
      · ((try dsimp only at hW); go_simp; first | done | rfl)
      try simp only [Act.put, List.setIfInBounds_toArray, List.set_cons_zero, List.set_cons_succ]
      refine' anyX_calm (v := _) 6 rfl (by kernel_rfl) (by rfl) (fun W hW => ?_) ?_; rotate_left
      · ((try dsimp only at hW); go_simp; first | done | rfl)
      try simp only [Act.put, List.setIfInBounds_toArray, List.set_cons_zero, List.set_cons_succ]
      refine' anyX_calm (v := _) 7 rfl (by kernel_rfl) (by rfl) (fun W hW => ?_) ?_; rotate_left
      · ((try dsimp only at hW); go_simp; first | done | rfl)
      try simp only [Act.put, List.setIfInBounds_toArray, List.set_cons_zero, List.set_cons_succ]
      refine' anyX_calm (v := _) 8 rfl (by kernel_rfl) (by rfl) (fun W hW => ?_) ?_; rotate_left
      · ((try dsimp only at hW); go_simp; first | done | rfl)
      try simp only [Act.put, List.setIfInBounds_toArray, List.set_cons_zero, List.set_cons_succ]
      refine' anyX_calm (v := _) 9 rfl (by kernel_rfl) (by rfl) (fun W hW => ?_) ?_; rotate_left
      · ((try dsimp only at hW); go_simp; first | done | rfl)
      try simp only [Act.put, List.setIfInBounds_toArray, List.set_cons_zero, List.set_cons_succ]
      refine' anyX_calm (v := _) 10 rfl (by kernel_rfl) (by rfl) (fun W hW => ?_) ?_; rotate_left
      · ((try dsimp only at hW); go_simp; first | done | rfl)
      try simp only [Act.put, List.setIfInBounds_toArray, List.set_cons_zero, List.set_cons_succ]
      refine anyX_does 5 rfl (by kernel_rfl) (by rfl) (fun K hK => ?_)
      go_simp
      refine (B.out.keep ((Keep.refl _ _).drew)).put (f1 k 0) (f1 k 1) |>.mono ?_
      rintro _ W3 ⟨x, rfl, K3, H⟩
      refine hK _ _ ⟨(K3.cell (p := ⟨g, off + k * 2, none⟩) hgs hgb).trans k1, (K3.cell (p := ⟨g, off + k * 2 + 1, none⟩) hgs hgb).trans k2⟩ ?_
      have hgs3 := Nat.lt_of_lt_of_le hgs K3.size
      have k13 := (K3.cell (p := ⟨g, off + k * 2, none⟩) hgs hgb).trans k1
      have k23 := (K3.cell (p := ⟨g, off + k * 2 + 1, none⟩) hgs hgb).trans k2
      clear hK K k1 k2 K3 B
      try simp only [Act.put, List.setIfInBounds_toArray, List.set_cons_zero, List.set_cons_succ]
      refine anyX_does 11 rfl (by kernel_rfl) (by rfl) (fun K hK => ?_)
      go_simp
      refine H.out.mono ?_
      rintro _ W4 ⟨rfl, K4, l', hB4⟩
      refine hK _ _ ⟨(K4.cell (p := ⟨g, off + k * 2, none⟩) hgs3 hgr).trans k13, (K4.cell (p := ⟨g, off + k * 2 + 1, none⟩) hgs3 hgr).trans k23⟩ ?_
      have k14 := (K4.cell (p := ⟨g, off + k * 2, none⟩) hgs3 hgr).trans k13
      have k24 := (K4.cell (p := ⟨g, off + k * 2 + 1, none⟩) hgs3 hgr).trans k23
      clear hK K k13 k23 K4 H
      try simp only [Act.put, List.setIfInBounds_toArray, List.set_cons_zero, List.set_cons_succ]
      obtain ⟨v', hv', hf'⟩ := hB4.ref
      obtain ⟨a4, c4, rfl⟩ := owns_form hv'.own
      have q1 := hv'.list
      have q2 := hB4.buf.size
      have HB4 := hid hB4
      clear hv' hf' hB4
      refine' anyX_calm (v := _) 12 rfl (by kernel_rfl) (by rfl) (fun W hW => ?_) ?_; rotate_left
      · ((try dsimp only at hW); go_simp; first | done | rfl)
      try simp only [Act.put, List.setIfInBounds_toArray, List.set_cons_zero, List.set_cons_succ]
      refine' anyX_calm (v := _) 13 rfl (by kernel_rfl) (by rfl) (fun W hW => ?_) ?_; rotate_left
      · ((try dsimp only at hW); go_simp; first | done | rfl)
      try simp only [Act.put, List.setIfInBounds_toArray, List.set_cons_zero, List.set_cons_succ]
      refine' anyX_calm (v := _) 14 rfl (by kernel_rfl) (by rfl) (fun W hW => ?_) ?_; rotate_left
      · ((try dsimp only at hW); go_simp; first | done | rfl)
      try simp only [Act.put, List.setIfInBounds_toArray, List.set_cons_zero, List.set_cons_succ]
      refine' anyX_calm (v := _) 16 rfl (by kernel_rfl) (by rfl) (fun W hW => ?_) ?_; rotate_left
      · ((try dsimp only at hW); go_simp; first | done | rfl)
      try simp only [Act.put, List.setIfInBounds_toArray, List.set_cons_zero, List.set_cons_succ]
      refine' anyX_calm (v := _) 17 rfl (by kernel_rfl) (by rfl) (fun W hW => ?_) ?_; rotate_left
      · ((try dsimp only at hW); go_simp; first | done | rfl)
      try simp only [Act.put, List.setIfInBounds_toArray, List.set_cons_zero, List.set_cons_succ]
      refine' anyX_calm (v := _) 18 rfl (by kernel_rfl) (by rfl) (fun W hW => ?_) ?_; rotate_left
      · ((try dsimp only at hW); go_simp; first | done | rfl)
      try simp only [Act.put, List.setIfInBounds_toArray, List.set_cons_zero, List.set_cons_succ]
      refine anyX_two 15 19 rfl rfl (by kernel_rfl) rfl rfl (by rfl) (by rfl) (fun K hK => ?_) (fun K hK => ?_)
      all_goals go_simp
      · refine (len_any HB4.out.buf).mono ?_
        rintro _ W5 ⟨rfl, rfl⟩
        refine hK _ _ ⟨k14, k24⟩ ?_
        clear hK K
        try simp only [Act.put, List.setIfInBounds_toArray, List.set_cons_zero, List.set_cons_succ]
        refine anyX_does 19 rfl (by kernel_rfl) (by rfl) (fun K hK => ?_)
        go_simp
        refine hK _ _ ⟨k14, k24⟩ ?_
        clear hK K
        refine' anyX_calm (v := _) 20 rfl (by kernel_rfl) (by rfl) (fun W hW => ?_) ?_; rotate_left
        · ((try dsimp only at hW); go_simp; first | done | rfl)
        try simp only [Act.put, List.setIfInBounds_toArray, List.set_cons_zero, List.set_cons_succ]
        refine' anyX_calm (v := _) 21 rfl (by kernel_rfl) (by rfl) (fun W hW => ?_) ?_; rotate_left
        · ((try dsimp only at hW); go_simp; first | done | rfl)
        try simp only [Act.put, List.setIfInBounds_toArray, List.set_cons_zero, List.set_cons_succ]
        refine' anyX_calm (v := _) 22 rfl (by kernel_rfl) (by rfl) (fun W hW => ?_) ?_; rotate_left
        · ((try dsimp only at hW); go_simp; first | done | rfl)
        try simp only [Act.put, List.setIfInBounds_toArray, List.set_cons_zero, List.set_cons_succ]
        refine anyX_done (by kernel_rfl) ?_
        clear q1 q2 k14 k24
        by_cases hk2 : k < n2
        · obtain ⟨g2, off2, hv, hg2, q3⟩ : ∃ g2 off2, a2 = some ⟨g2, off2, none⟩ ∧ g2 < w.heap.size ∧ w.cell? ⟨g2, off2 + k, none⟩ = some (.int .u8 (f2 k 0)) := by
            obtain ⟨_, ⟨h0, _⟩ | ⟨g2, off2, c, hv, hg2, hc⟩⟩ := A2.out
            · omega
            · rw [V2.out] at hv
              cases hv
              exact ⟨g2, off2, rfl, hg2, by simpa using (hc k hk2 0 .u8 rfl).1⟩
          subst hv
          have q4 := (HB4.out.low.cell (p := ⟨g2, off2 + k, none⟩) hg2).trans q3
          have hk2' : (k : Int) < (n2 : Int) := by omega
          clear q3
          go_wp2_with fail
          · refine (Both.deliver HB4.out).mono ?_
            rintro _ W6 ⟨u6, rfl, H6⟩
            clear q4
            go_wp2_with fail
            refine H6.out.mono ?_
            rintro _ W7 ⟨u7, rfl, H7⟩
            go_wp2_with fail
            refine H7.out.mono ?_
            rintro _ W8 ⟨rfl, hB8⟩
            have HB8 := hid hB8
            clear hB8 H6 H7
            go_wp2_with fail
            go_roundw
            case rel => exact ⟨k + 1, [], by omega, by omega, by go_num, HB8.out⟩
            case measure => simp [intOf]; omega
          · go_roundw
            case rel => exact ⟨k + 1, l', by omega, by omega, by go_num, HB4.out⟩
            case measure => simp [intOf]; omega
        · have hk2' : ¬ ((k : Int) < (n2 : Int)) := by omega
          go_wp2_with fail
          go_roundw
          case rel => exact ⟨k + 1, l', by omega, by omega, by go_num, HB4.out⟩
          case measure => simp [intOf]; omega
      · refine hK _ _ ⟨k14, k24⟩ ?_
        clear hK K
        try simp only [Act.put, List.setIfInBounds_toArray, List.set_cons_zero, List.set_cons_succ]
        refine anyX_does 15 rfl (by kernel_rfl) (by rfl) (fun K hK => ?_)
        go_simp
        refine (len_any HB4.out.buf).mono ?_
        rintro _ W5 ⟨rfl, rfl⟩
        refine hK _ _ ⟨k14, k24⟩ ?_
        clear hK K
        try simp only [Act.put, List.setIfInBounds_toArray, List.set_cons_zero, List.set_cons_succ]
        refine' anyX_calm (v := _) 20 rfl (by kernel_rfl) (by rfl) (fun W hW => ?_) ?_; rotate_left
        · ((try dsimp only at hW); go_simp; first | done | rfl)
        try simp only [Act.put, List.setIfInBounds_toArray, List.set_cons_zero, List.set_cons_succ]
        refine' anyX_calm (v := _) 21 rfl (by kernel_rfl) (by rfl) (fun W hW => ?_) ?_; rotate_left
        · ((try dsimp only at hW); go_simp; first | done | rfl)
        try simp only [Act.put, List.setIfInBounds_toArray, List.set_cons_zero, List.set_cons_succ]
        refine' anyX_calm (v := _) 22 rfl (by kernel_rfl) (by rfl) (fun W hW => ?_) ?_; rotate_left
        · ((try dsimp only at hW); go_simp; first | done | rfl)
        try simp only [Act.put, List.setIfInBounds_toArray, List.set_cons_zero, List.set_cons_succ]
        refine anyX_done (by kernel_rfl) ?_
        clear q1 q2 k14 k24
        by_cases hk2 : k < n2
        · obtain ⟨g2, off2, hv, hg2, q3⟩ : ∃ g2 off2, a2 = some ⟨g2, off2, none⟩ ∧ g2 < w.heap.size ∧ w.cell? ⟨g2, off2 + k, none⟩ = some (.int .u8 (f2 k 0)) := by
            obtain ⟨_, ⟨h0, _⟩ | ⟨g2, off2, c, hv, hg2, hc⟩⟩ := A2.out
            · omega
            · rw [V2.out] at hv
              cases hv
              exact ⟨g2, off2, rfl, hg2, by simpa using (hc k hk2 0 .u8 rfl).1⟩
          subst hv
          have q4 := (HB4.out.low.cell (p := ⟨g2, off2 + k, none⟩) hg2).trans q3
          have hk2' : (k : Int) < (n2 : Int) := by omega
          clear q3
          go_wp2_with fail
          · refine (Both.deliver HB4.out).mono ?_
            rintro _ W6 ⟨u6, rfl, H6⟩
            clear q4
            go_wp2_with fail
            refine H6.out.mono ?_
            rintro _ W7 ⟨u7, rfl, H7⟩
            go_wp2_with fail
            refine H7.out.mono ?_
            rintro _ W8 ⟨rfl, hB8⟩
            have HB8 := hid hB8
            clear hB8 H6 H7
            go_wp2_with fail
            go_roundw
            case rel => exact ⟨k + 1, [], by omega, by omega, by go_num, HB8.out⟩
            case measure => simp [intOf]; omega
          · go_roundw
            case rel => exact ⟨k + 1, l', by omega, by omega, by go_num, HB4.out⟩
            case measure => simp [intOf]; omega
        · have hk2' : ¬ ((k : Int) < (n2 : Int)) := by omega
          go_wp2_with fail
          go_roundw
          case rel => exact ⟨k + 1, l', by omega, by omega, by go_num, HB4.out⟩
          case measure => simp [intOf]; omega
    · have B := hid hB
      have hge : ¬ ((k : Int) < (n1 : Int)) ∨ (k : Int) < (n1 : Int) ∧ ¬ ((k : Int) < 60) := by omega
      clear hB
      rcases hge with hge1 | ⟨hge1, hge2⟩
      all_goals
        go_wp2_with fail
        refine (awake_any _).mono ?_
        rintro _ W4 ⟨rfl, K4⟩
        have B4 := hid (B.out.keep K4)
        clear B K4
        go_wp2_with fail
        refine (Both.deliver B4.out).mono ?_
        rintro _ W6 ⟨u6, rfl, H6⟩
        go_wp2_with fail
        refine H6.out.mono ?_
        rintro _ W7 ⟨u7, rfl, H7⟩
        go_wp2_with fail
        refine H7.out.mono ?_
        rintro _ W8 ⟨rfl, hB8⟩
        have HB8 := hid hB8
        clear hB8 H6 H7 B4
        go_wp2_with fail
        refine (len_any HB8.out.buf).mono ?_
        rintro _ W9 ⟨rfl, rfl⟩
        go_wp2
        go_ret
        exact ⟨rfl, HB8.out.low⟩
end Go.Proofs.Yteobmdkghdjapaa
