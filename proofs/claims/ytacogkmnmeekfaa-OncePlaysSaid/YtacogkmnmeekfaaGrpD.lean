/- The walks of GroupNone and GroupEnds. -/
import Derived.Test.YtacogkmnmeekfaaGrpC
namespace Go.Proofs.Ytacogkmnmeekfaa
open Go Go.RowKit

theorem walk_GroupNone (w : World) (t : Int) (_ : (Lit.int .i64 t).wf = true) (n : Int) (_ : (Lit.int .i64 n).wf = true) : Calls Try.prog 11 #[.int .i64 t, .int .i64 n] w fun en w' => en = .returned (.bool true) ∧ Below w.heap.size w w' := gnone_any t n w

theorem add_cases (c n : Int) (hc : 0 ≤ c) (hc' : c ≤ 1048576) (l : List Int) : (n < -c ∧ addE c n = 11 ∧ addC c n = c ∧ addO c l n = [] ∧ addL c l n = l) ∨ (n > 1048576 - c ∧ addE c n = 13 ∧ addC c n = c ∧ addO c l n = [] ∧ addL c l n = l) ∨ (-c ≤ n ∧ n ≤ 1048576 - c ∧ addE c n = 0 ∧ addC c n = c + n ∧ addO c [] n = [] ∧ addL c [] n = []) := by
  unfold addE addC addO addL
  by_cases h1 : n < -c
  · exact .inl ⟨h1, by rw [if_pos h1], by rw [if_pos h1], by rw [if_neg (by omega)], by rw [if_neg (by omega)]⟩
  · by_cases h2 : n > 1048576 - c
    · exact .inr (.inl ⟨h2, by rw [if_neg h1, if_pos h2], by rw [if_neg h1, if_pos h2], by rw [if_neg (by omega)], by rw [if_neg (by omega)]⟩)
    · exact .inr (.inr ⟨by omega, by omega, by rw [if_neg h1, if_neg h2], by rw [if_neg h1, if_neg h2], by split <;> rfl, by split <;> rfl⟩)

set_option maxHeartbeats 4000000 in
theorem walk_GroupEnds (w : World) (n : Int) (hn : (Lit.int .i64 n).wf = true) (m : Int) (hm : (Lit.int .i64 m).wf = true) : Calls Try.prog 5 #[.int .i64 n, .int .i64 m] w fun en w' => en = .returned (.bool true) ∧ Below w.heap.size w w' := by
  go_enter Try.func5, Try.ntmps5
  go_wp2_with fail
  refine (gnew_n w).mono ?_
  rintro e w1 ⟨rfl, G1, N1⟩
  rcases add_cases 0 n (by decide) (by decide) [] with ⟨h1, he, hc, ho, hl⟩ | ⟨h1, he, hc, ho, hl⟩ | ⟨h1, h2, he, hc, ho, hl⟩
  all_goals
    try rw [Int.zero_add] at hc
    try simp only [Int.sub_zero, Int.neg_zero] at h1
    try simp only [Int.sub_zero, Int.neg_zero] at h2
    go_wp2_with fail
    refine (gadd_n n N1 he hc ho hl).mono ?_
    rintro e w2 ⟨a2, m2, rfl, -, -, G2, N2, -, -⟩
    clear N1 he hc ho hl
    have N := hid N2
    clear N2
    go_wp2_with fail
    refine (gcount_n N.out).mono ?_
    rintro e _ ⟨rfl, rfl⟩
    go_wp2_with fail
    refine (gcount_n N.out).mono ?_
    rintro e _ ⟨rfl, rfl⟩
  · rcases add_cases 0 m (by decide) (by decide) [] with ⟨g1, he, hc, ho, hl⟩ | ⟨g1, he, hc, ho, hl⟩ | ⟨g1, g2, he, hc, ho, hl⟩
    all_goals
      try rw [Int.zero_add] at hc
      try simp only [Int.sub_zero, Int.neg_zero] at g1
      try simp only [Int.sub_zero, Int.neg_zero] at g2
      go_wp2_with fail
      refine (gadd_n m N.out he hc ho hl).mono ?_
      rintro e w3 ⟨a3, m3, rfl, -, -, G3, N3, -, -⟩
      clear he hc ho hl
      have N := hid N3
      clear N3
      go_wp2_with fail
      refine (gawake_any _).mono ?_
      rintro e w4 ⟨rfl, K4⟩
      have N := hid (N.out.keep K4 (fun k h => h.elim))
      clear K4
      go_wp2_with fail
      refine (gcount_n N.out).mono ?_
      rintro e _ ⟨rfl, rfl⟩
      go_wp2
      go_ret
      exact ⟨rfl, N.out.2.2.below (fun _ h => h.elim) (Nat.le_refl _)⟩
  · rcases add_cases 0 m (by decide) (by decide) [] with ⟨g1, he, hc, ho, hl⟩ | ⟨g1, he, hc, ho, hl⟩ | ⟨g1, g2, he, hc, ho, hl⟩
    all_goals
      try rw [Int.zero_add] at hc
      try simp only [Int.sub_zero, Int.neg_zero] at g1
      try simp only [Int.sub_zero, Int.neg_zero] at g2
      go_wp2_with fail
      refine (gadd_n m N.out he hc ho hl).mono ?_
      rintro e w3 ⟨a3, m3, rfl, -, -, G3, N3, -, -⟩
      clear he hc ho hl
      have N := hid N3
      clear N3
      go_wp2_with fail
      refine (gawake_any _).mono ?_
      rintro e w4 ⟨rfl, K4⟩
      have N := hid (N.out.keep K4 (fun k h => h.elim))
      clear K4
      go_wp2_with fail
      refine (gcount_n N.out).mono ?_
      rintro e _ ⟨rfl, rfl⟩
      go_wp2
      go_ret
      exact ⟨rfl, N.out.2.2.below (fun _ h => h.elim) (Nat.le_refl _)⟩
  · rcases add_cases n m h1 h2 [] with ⟨g1, he, hc, ho, hl⟩ | ⟨g1, he, hc, ho, hl⟩ | ⟨g1, g2, he, hc, ho, hl⟩
    all_goals
      go_wp2_with fail
      refine (gadd_n m N.out he hc ho hl).mono ?_
      rintro e w3 ⟨a3, m3, rfl, -, -, G3, N3, -, -⟩
      clear he hc ho hl
      have N := hid N3
      clear N3
      go_wp2_with fail
      refine (gawake_any _).mono ?_
      rintro e w4 ⟨rfl, K4⟩
      have N := hid (N.out.keep K4 (fun k h => h.elim))
      clear K4
      go_wp2_with fail
      refine (gcount_n N.out).mono ?_
      rintro e _ ⟨rfl, rfl⟩
      go_wp2
      go_ret
      exact ⟨rfl, N.out.2.2.below (fun _ h => h.elim) (Nat.le_refl _)⟩

end Go.Proofs.Ytacogkmnmeekfaa
