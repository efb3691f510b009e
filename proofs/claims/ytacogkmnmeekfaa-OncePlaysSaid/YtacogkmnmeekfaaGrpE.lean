/- The walk of GroupSums. -/
import Derived.Test.YtacogkmnmeekfaaGrpD
import Derived.Test.YtacogkmnmeekfaaArg
namespace Go.Proofs.Ytacogkmnmeekfaa
open Go Go.RowKit

theorem wait_cases (c : Int) (l : List Int) (t : Int) : ((waitE c l t = 1 ∨ waitE c l t = 11) ∧ waitL c l t = l) ∨ (waitE c l t = 0 ∧ waitL c l t = l ∧ c = 0) ∨ (waitE c l t = 14 ∧ waitL c l t = l ++ [t] ∧ c ≠ 0) := by
  by_cases h1 : t < 1
  · exact .inl ⟨.inl (waitE_lo h1), waitL_lo h1⟩
  by_cases h2 : t ∈ l
  · exact .inl ⟨.inr (waitE_in (by omega) h2), waitL_in h2⟩
  by_cases h3 : c = 0
  · exact .inr (.inl ⟨waitE_no (by omega) h2 h3, waitL_no h3, h3⟩)
  · exact .inr (.inr ⟨waitE_on (by omega) h2 h3, waitL_on (by omega) h2 h3, h3⟩)

theorem gwaits_n {w0 w : World} {G : Nat → Prop} {b : Nat} {c : Int} {l : List Int} (h : GNew w0 w G b c l) (hn : l.length ≤ 1000) :
    Calls Try.prog 24 #[.pointer (some ⟨b, 0, none⟩)] w fun e w' => ∃ a n, e = .returned (.slice a l.length n) ∧ GNew w0 w' G b c l ∧ ReadI w' (.slice a l.length n) l ∧ Keep (fun _ => False) w w' := by
  refine (gwaits_any h.1 (by omega)).mono ?_
  rintro _ w' ⟨v', rfl, r, _, k⟩
  obtain ⟨a, n, rfl⟩ := r.form
  exact ⟨a, n, rfl, h.keep k (fun _ h => h.elim), r, k⟩

/-- The cells of an element that came in. -/
theorem arg_act {w : World} {v : Value} {n : Nat} {f : Nat → Nat → Int} (h : ArgRows w v [.u8, .i64, .i64] n f) (hn : 0 < n) : ∃ g off c, v = .slice (some ⟨g, off, none⟩) n c ∧ g < w.heap.size ∧ n ≤ maxLen ∧
    ∀ k, k < n → (w.cell? ⟨g, off + k * 3, none⟩ = some (.int .u8 (f k 0)) ∧ w.cell? ⟨g, off + k * 3 + 1, none⟩ = some (.int .i64 (f k 1)) ∧ w.cell? ⟨g, off + k * 3 + 2, none⟩ = some (.int .i64 (f k 2))) ∧ ((Lit.int .u8 (f k 0)).wf = true ∧ (Lit.int .i64 (f k 1)).wf = true ∧ (Lit.int .i64 (f k 2)).wf = true) := by
  obtain ⟨hm, ⟨h0, _⟩ | ⟨g, off, c, hv, hg, hc⟩⟩ := h
  · omega
  · refine ⟨g, off, c, hv, hg, hm, fun k hk => ⟨⟨?_, ?_, ?_⟩, ?_, ?_, ?_⟩⟩
    · simpa using (hc k hk 0 .u8 rfl).1
    · simpa [Nat.add_assoc] using (hc k hk 1 .i64 rfl).1
    · simpa [Nat.add_assoc] using (hc k hk 2 .i64 rfl).1
    · exact (hc k hk 0 .u8 rfl).2
    · exact (hc k hk 1 .i64 rfl).2
    · exact (hc k hk 2 .i64 rfl).2

set_option maxRecDepth 10000 in
set_option maxRecDepth 10000 in
set_option maxHeartbeats 2000000 in
theorem walk_GroupSums (w : World) (v1 : Value) (n1 : Nat) (f1 : Nat → Nat → Int) (w1 : ArgRows w v1 [.u8, .i64, .i64] n1 f1) :
    Calls Try.prog 6 #[v1] w fun en w' => en = .returned (.bool true) ∧ Below w.heap.size w w' := by
  obtain ⟨a1, c1, hv1⟩ := w1.form
  have A1 := hid w1
  have V1 := hid hv1
  rw [hv1]
  clear w1 hv1
  go_enter Try.func6, Try.ntmps6
  go_wp2_with fail
  refine (gnew_n w).mono ?_
  rintro e W1 ⟨rfl, G1, N1⟩
  have N1 := hid N1
  obtain ⟨b, hb⟩ : ∃ x, w.heap.size = x := ⟨_, rfl⟩
  rw [hb] at N1 ⊢
  go_wp2_with fail
  go_loopw [4, 5] (fun s i wr => ∃ (k : Nat) (c : Int) (l : List Int) (G : Nat → Prop), k ≤ n1 ∧ k ≤ 60 ∧ i = .int .i64 k ∧ s = .int .i64 c ∧ 0 ≤ c ∧ c ≤ 1048576 ∧ l.length ≤ k ∧ (c = 0 → l = []) ∧ GNew w wr G b c l) (fun _ i _ => 60 - (intOf i).toNat)
  case atStart => exact ⟨0, 0, [], G1, Nat.zero_le _, by omega, rfl, rfl, by decide, by decide, Nat.le_refl _, fun _ => rfl, N1.out⟩
  case round =>
    obtain ⟨k, c, l, G, hk, hk60, rfl, rfl, hc0, hc1, hl, hcl, hN⟩ := hrel
    have CL := hid hcl
    have N := hid hN
    clear N1 hcl hN
    by_cases hlt : k < n1 ∧ k < 60
    · obtain ⟨g, off, cc, hv, hg, hmx, hc⟩ := arg_act A1.out (by omega)
      have hav : a1 = some ⟨g, off, none⟩ ∧ c1 = cc := by rw [V1.out] at hv; cases hv; exact ⟨rfl, rfl⟩
      obtain ⟨rfl, rfl⟩ := hav
      obtain ⟨⟨k1, k2, k3⟩, u1, u2, u3⟩ := hc k hlt.1
      have k1 := (N.out.2.2.cell (p := ⟨g, off + k * 3, none⟩) hg (fun h => h)).trans k1
      have k2 := (N.out.2.2.cell (p := ⟨g, off + k * 3 + 1, none⟩) hg (fun h => h)).trans k2
      have k3 := (N.out.2.2.cell (p := ⟨g, off + k * 3 + 2, none⟩) hg (fun h => h)).trans k3
      have hlt1 : (k : Int) < (n1 : Int) := by omega
      have hlt2 : (k : Int) < 60 := by omega
      clear hc hv
      generalize f1 k 0 = d at k1 u1
      generalize f1 k 1 = t at k2 u2
      generalize f1 k 2 = n at k3 u3
      go_wp2_with fail
      · -- a task waits
        have hN2 := N.out.keep ((Keep.refl (fun _ => False) wr).alloc (.cells #[.int .u8 d, .int .i64 t, .int .i64 n] 44)) (fun _ h => h.elim)
        rcases wait_cases c l t with ⟨he | he, hl'⟩ | ⟨he, hl', h0⟩ | ⟨he, hl', h0⟩
        · refine (gwait_n t hN2 (by omega) he hl').mono ?_
          rintro e W4 ⟨rfl, G4, N4, -, -⟩
          clear hN2 k1 k2 k3 he hl'
          have H4 := hid N4
          clear N4
          by_cases hz : c = 0
          · subst hz
            have hl4 : l = [] := CL.out rfl
            subst hl4
            go_wp2_with fail
            refine (gcount_n H4.out).mono ?_
            rintro e _ ⟨rfl, rfl⟩
            go_wp2_with fail
            refine (gwaits_n H4.out (by decide)).mono ?_
            rintro e W5 ⟨a5, n5, rfl, N5, -, -⟩
            have H5 := hid N5
            clear N5
            go_wp2_with fail
            go_roundw
            case rel => exact ⟨k + 1, 0, [], G4, by omega, by omega, by go_num, rfl, by decide, by decide, Nat.zero_le _, fun _ => rfl, H5.out⟩
            case measure => simp [intOf]; omega
          · have hz1 : (c == 0) = false := by simp [hz]
            go_wp2_with fail
            refine (gcount_n H4.out).mono ?_
            rintro e _ ⟨rfl, rfl⟩
            clear hz
            go_wp2_with fail
            go_roundw
            case rel => exact ⟨k + 1, c, l, G4, by omega, by omega, by go_num, rfl, hc0, hc1, (by omega), CL.out, H4.out⟩
            case measure => simp [intOf]; omega
        · refine (gwait_n t hN2 (by omega) he hl').mono ?_
          rintro e W4 ⟨rfl, G4, N4, -, -⟩
          clear hN2 k1 k2 k3 he hl'
          have H4 := hid N4
          clear N4
          by_cases hz : c = 0
          · subst hz
            have hl4 : l = [] := CL.out rfl
            subst hl4
            go_wp2_with fail
            refine (gcount_n H4.out).mono ?_
            rintro e _ ⟨rfl, rfl⟩
            go_wp2_with fail
            refine (gwaits_n H4.out (by decide)).mono ?_
            rintro e W5 ⟨a5, n5, rfl, N5, -, -⟩
            have H5 := hid N5
            clear N5
            go_wp2_with fail
            go_roundw
            case rel => exact ⟨k + 1, 0, [], G4, by omega, by omega, by go_num, rfl, by decide, by decide, Nat.zero_le _, fun _ => rfl, H5.out⟩
            case measure => simp [intOf]; omega
          · have hz1 : (c == 0) = false := by simp [hz]
            go_wp2_with fail
            refine (gcount_n H4.out).mono ?_
            rintro e _ ⟨rfl, rfl⟩
            clear hz
            go_wp2_with fail
            go_roundw
            case rel => exact ⟨k + 1, c, l, G4, by omega, by omega, by go_num, rfl, hc0, hc1, (by omega), CL.out, H4.out⟩
            case measure => simp [intOf]; omega
        · refine (gwait_n t hN2 (by omega) he hl').mono ?_
          rintro e W4 ⟨rfl, G4, N4, -, -⟩
          clear hN2 k1 k2 k3 he hl'
          have H4 := hid N4
          clear N4
          by_cases hz : c = 0
          · subst hz
            have hl4 : l = [] := CL.out rfl
            subst hl4
            go_wp2_with fail
            refine (gcount_n H4.out).mono ?_
            rintro e _ ⟨rfl, rfl⟩
            go_wp2_with fail
            refine (gwaits_n H4.out (by decide)).mono ?_
            rintro e W5 ⟨a5, n5, rfl, N5, -, -⟩
            have H5 := hid N5
            clear N5
            go_wp2_with fail
            go_roundw
            case rel => exact ⟨k + 1, 0, [], G4, by omega, by omega, by go_num, rfl, by decide, by decide, Nat.zero_le _, fun _ => rfl, H5.out⟩
            case measure => simp [intOf]; omega
          · exact absurd h0 hz
        · refine (gwait_n t hN2 (by omega) he hl').mono ?_
          rintro e W4 ⟨rfl, G4, N4, -, -⟩
          clear hN2 k1 k2 k3 he hl'
          have hll : (l ++ [t]).length ≤ k + 1 := by simp; omega
          have hlz : Hid (c = 0 → l ++ [t] = []) := fun h => absurd h h0
          generalize l ++ [t] = l4 at *
          have H4 := hid N4
          clear N4
          have hz := h0
          have hz1 : (c == 0) = false := by simp [hz]
          go_wp2_with fail
          refine (gcount_n H4.out).mono ?_
          rintro e _ ⟨rfl, rfl⟩
          clear hz
          go_wp2_with fail
          go_roundw
          case rel => exact ⟨k + 1, c, l4, G4, by omega, by omega, by go_num, rfl, hc0, hc1, hll, hlz.out, H4.out⟩
          case measure => simp [intOf]; omega
      · -- so many more
        have hN2 := N.out.keep ((Keep.refl (fun _ => False) wr).alloc (.cells #[.int .u8 d, .int .i64 t, .int .i64 n] 44)) (fun _ h => h.elim)
        have x2 : (wr.alloc (.cells #[.int .u8 d, .int .i64 t, .int .i64 n] 44)).cell? ⟨wr.heap.size, 2, none⟩ = some (.int .i64 n) := by rw [World.cell?_alloc_new]; rfl
        have xb : G wr.heap.size → False := fun h => by have := N.out.1.2.1 _ h; omega
        rcases add_cases c n hc0 hc1 l with ⟨h1, he, hcc, ho, hl'⟩ | ⟨h1, he, hcc, ho, hl'⟩ | ⟨h1, h2, he, hcc, -, -⟩
        · refine (gadd_n n hN2 he hcc ho hl').mono ?_
          rintro e W4 ⟨a4, m4, rfl, -, -, G4, N4, -, -⟩
          clear hN2 k1 k2 k3 x2 xb he hcc ho hl' h1
          have H4 := hid N4
          clear N4
          by_cases hz : c = 0
          · subst hz
            have hl4 : l = [] := CL.out rfl
            subst hl4
            go_wp2_with fail
            refine (gcount_n H4.out).mono ?_
            rintro e _ ⟨rfl, rfl⟩
            go_wp2_with fail
            refine (gwaits_n H4.out (by decide)).mono ?_
            rintro e W5 ⟨a5, n5, rfl, N5, -, -⟩
            have H5 := hid N5
            clear N5
            go_wp2_with fail
            go_roundw
            case rel => exact ⟨k + 1, 0, [], G4, by omega, by omega, by go_num, rfl, by decide, by decide, Nat.zero_le _, fun _ => rfl, H5.out⟩
            case measure => simp [intOf]; omega
          · have hz1 : (c == 0) = false := by simp [hz]
            go_wp2_with fail
            refine (gcount_n H4.out).mono ?_
            rintro e _ ⟨rfl, rfl⟩
            clear hz
            go_wp2_with fail
            go_roundw
            case rel => exact ⟨k + 1, c, l, G4, by omega, by omega, by go_num, rfl, hc0, hc1, (by omega), CL.out, H4.out⟩
            case measure => simp [intOf]; omega
        · refine (gadd_n n hN2 he hcc ho hl').mono ?_
          rintro e W4 ⟨a4, m4, rfl, -, -, G4, N4, -, -⟩
          clear hN2 k1 k2 k3 x2 xb he hcc ho hl' h1
          have H4 := hid N4
          clear N4
          by_cases hz : c = 0
          · subst hz
            have hl4 : l = [] := CL.out rfl
            subst hl4
            go_wp2_with fail
            refine (gcount_n H4.out).mono ?_
            rintro e _ ⟨rfl, rfl⟩
            go_wp2_with fail
            refine (gwaits_n H4.out (by decide)).mono ?_
            rintro e W5 ⟨a5, n5, rfl, N5, -, -⟩
            have H5 := hid N5
            clear N5
            go_wp2_with fail
            go_roundw
            case rel => exact ⟨k + 1, 0, [], G4, by omega, by omega, by go_num, rfl, by decide, by decide, Nat.zero_le _, fun _ => rfl, H5.out⟩
            case measure => simp [intOf]; omega
          · have hz1 : (c == 0) = false := by simp [hz]
            go_wp2_with fail
            refine (gcount_n H4.out).mono ?_
            rintro e _ ⟨rfl, rfl⟩
            clear hz
            go_wp2_with fail
            go_roundw
            case rel => exact ⟨k + 1, c, l, G4, by omega, by omega, by go_num, rfl, hc0, hc1, (by omega), CL.out, H4.out⟩
            case measure => simp [intOf]; omega
        · refine (gadd_n n hN2 he hcc rfl rfl).mono ?_
          rintro e W4 ⟨a4, m4, rfl, -, K4, G4, N4, -, -⟩
          have x4 := (K4.cell (p := ⟨wr.heap.size, 2, none⟩) (by simp) (fun h => xb h)).trans x2
          generalize hol : (addO c l n).length = ol
          clear hN2 k1 k2 k3 x2 xb K4
          have hca : c + n ≤ 1048576 := by omega
          have hcb : 0 ≤ c + n := by omega
          have hll : (addL c l n).length ≤ k + 1 := by
            unfold addL
            split
            · exact Nat.zero_le _
            · omega
          have hlz : Hid (c + n = 0 → addL c l n = []) := fun h => by unfold addL; rw [if_pos (by omega)]
          clear he hcc hol
          generalize addL c l n = l4 at *
          have H4 := hid N4
          clear N4
          by_cases hz : (c + n) = 0
          · have hl4 : l4 = [] := hlz.out hz
            subst hl4
            rw [hz] at H4
            go_wp2_with fail
            refine (gcount_n H4.out).mono ?_
            rintro e _ ⟨rfl, rfl⟩
            go_wp2_with fail
            refine (gwaits_n H4.out (by decide)).mono ?_
            rintro e W5 ⟨a5, n5, rfl, N5, -, -⟩
            have H5 := hid N5
            clear N5
            go_wp2_with fail
            go_roundw
            case rel => exact ⟨k + 1, 0, [], G4, by omega, by omega, by go_num, rfl, by decide, by decide, Nat.zero_le _, fun _ => rfl, H5.out⟩
            case measure => simp [intOf]; omega
          · have hz1 : ((c + n) == 0) = false := by simp [hz]
            go_wp2_with fail
            refine (gcount_n H4.out).mono ?_
            rintro e _ ⟨rfl, rfl⟩
            clear hz
            go_wp2_with fail
            go_roundw
            case rel => exact ⟨k + 1, (c + n), l4, G4, by omega, by omega, by go_num, rfl, hcb, hca, hll, hlz.out, H4.out⟩
            case measure => simp [intOf]; omega
    · have hge : ¬ ((k : Int) < (n1 : Int)) ∨ (k : Int) < (n1 : Int) ∧ ¬ ((k : Int) < 60) := by omega
      rcases hge with hge1 | ⟨hge1, hge2⟩
      all_goals
        go_wp2_with fail
        refine (gawake_any _).mono ?_
        rintro _ W4 ⟨rfl, K4⟩
        have N4 := hid (N.out.keep K4 (fun _ h => h.elim))
        clear K4
        go_wp2
        go_ret
        exact ⟨rfl, N4.out.2.2.below (fun _ h => h.elim) (Nat.le_refl _)⟩

end Go.Proofs.Ytacogkmnmeekfaa
