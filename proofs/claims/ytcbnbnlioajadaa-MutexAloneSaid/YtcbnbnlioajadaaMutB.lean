/- Layer 11's fixed fact; MutexNone; MutexTries. -/
import Derived.Test.YtcbnbnlioajadaaMutA
namespace Go.Proofs.Ytcbnbnlioajadaa
open Go Go.RowKit

set_option maxRecDepth 10000 in
set_option maxHeartbeats 1000000 in
theorem mawake_any (w : World) : Calls Try.prog 36 #[] w fun en w' => en = .returned (.bool true) ∧ Keep (fun _ => False) w w' := by
  go_enter Try.func36, Try.ntmps36
  go_wp2_with fail
  refine (mnew_any w).mono ?_
  rintro e w1 ⟨rfl, G1, N1⟩
  go_wp2_with fail
  refine (mlock_any 1 N1 (by decide) (e := 0) (d' := 1) (l' := []) (by decide)).mono ?_
  rintro e w2 ⟨rfl, G2, N2, -, -⟩
  clear N1
  go_wp2_with fail
  refine (mlock_any 2 N2 (by decide) (e := 14) (d' := 1) (l' := [2]) (by decide)).mono ?_
  rintro e w3 ⟨rfl, G3, N3, -, -⟩
  clear N2
  go_wp2_with fail
  refine (mlock_any 3 N3 (by decide) (e := 14) (d' := 1) (l' := [2, 3]) (by decide)).mono ?_
  rintro e w4 ⟨rfl, G4, N4, -, -⟩
  clear N3
  go_wp2_with fail
  refine (mtry_any 4 N4 (e := 12) (d' := 1) (by decide)).mono ?_
  rintro e w5 ⟨rfl, G5, N5, -, -⟩
  clear N4
  go_wp2_with fail
  refine (mlock_any 1 N5 (by decide) (e := 11) (d' := 1) (l' := [2, 3]) (by decide)).mono ?_
  rintro e w6 ⟨rfl, G6, N6, -, -⟩
  clear N5
  go_wp2_with fail
  refine (mdrop_any 2 N6 (by decide)).mono ?_
  rintro e w7 ⟨rfl, G7, N7, -, -⟩
  rw [show dropT [2, 3] 2 = [(3 : Int)] from by decide] at N7
  rw [show decide ((2 : Int) ∈ [(2 : Int), 3]) = true from by decide]
  clear N6
  go_wp2_with fail
  refine (munlock_cons 3 N7 (by decide) (by decide)).mono ?_
  rintro e w8 ⟨rfl, G8, N8, -, -⟩
  have N8 := hid N8
  clear N7
  go_wp2_with fail
  refine (mholder_any N8.out).mono ?_
  rintro e _ ⟨rfl, rfl⟩
  go_wp2_with fail
  refine (mwaits_any N8.out (by decide)).mono ?_
  rintro e w9 ⟨a9, n9, rfl, -, N9, -⟩
  have N9 := hid N9
  go_wp2
  go_ret
  exact ⟨rfl, N9.out.2.2⟩

set_option maxRecDepth 10000 in
set_option maxHeartbeats 400000 in
theorem walk_MutexNone (w : World) (t : Int) (_ : (Lit.int .i64 t).wf = true) : Calls Try.prog 11 #[.int .i64 t] w fun en w' => en = .returned (.bool true) ∧ Below w.heap.size w w' := by
  go_enter Try.func11, Try.ntmps11
  go_wp2_with fail
  refine (munlock_none t w).mono ?_
  rintro e _ ⟨rfl, rfl⟩
  go_wp2_with fail
  refine (mawake_any w).mono ?_
  rintro e w2 ⟨rfl, K⟩
  have K := hid K
  go_wp2_with fail
  refine (mlock_nil t w2).mono ?_
  rintro e _ ⟨rfl, rfl⟩
  go_wp2_with fail
  refine (mtry_nil t w2).mono ?_
  rintro e _ ⟨rfl, rfl⟩
  go_wp2_with fail
  refine (mdrop_nil t w2).mono ?_
  rintro e _ ⟨rfl, rfl⟩
  go_wp2_with fail
  refine (mholder_nil w2).mono ?_
  rintro e _ ⟨rfl, rfl⟩
  go_wp2_with fail
  refine (mwaits_nil w2).mono ?_
  rintro e _ ⟨rfl, rfl⟩
  go_wp2
  go_ret
  exact ⟨rfl, K.out.below (fun _ h => h.elim) (Nat.le_refl _)⟩

/-- 1000, 1001, .., q of them, without a. -/
def thou (q : Nat) (a : Int) : List Int := ((List.range q).map fun (i : Nat) => (1000 : Int) + i).filter (fun t => t != a)

theorem thou_length (q : Nat) (a : Int) : (thou q a).length ≤ q := by
  have := List.length_filter_le (fun t => t != a) ((List.range q).map fun (i : Nat) => (1000 : Int) + i)
  unfold thou
  simpa using this
theorem thou_in (q : Nat) (a t : Int) : t ∈ thou q a ↔ (1000 ≤ t ∧ t < 1000 + q) ∧ t ≠ a := by
  simp only [thou, List.mem_filter, List.mem_map, List.mem_range, bne_iff_ne]
  constructor
  · rintro ⟨⟨i, hi, rfl⟩, h⟩; exact ⟨by omega, h⟩
  · intro h; exact ⟨⟨(t - 1000).toNat, by omega, by omega⟩, h.2⟩
theorem thou_on (q : Nat) (a : Int) (h : a ≠ 1000 + q) : thou q a ++ [(1000 : Int) + q] = thou (q + 1) a := by
  unfold thou; rw [List.range_succ, List.map_append, List.filter_append]; simp [Ne.symm h]
theorem thou_off (q : Nat) (a : Int) (h : a = 1000 + q) : thou q a = thou (q + 1) a := by
  unfold thou; rw [List.range_succ, List.map_append, List.filter_append]; simp [h]

theorem mtr_wrong {d : Int} {l : List Int} {t e : Int} (h : mwr d l t = e) (he : e ≠ 0) : mtr d l t = (e, d) := by unfold mtr; rw [h, if_neg he]
theorem mtr_busy {d : Int} {l : List Int} {t : Int} (h : mwr d l t = 0) (hd : d ≠ 0) : mtr d l t = (12, d) := by unfold mtr; rw [if_pos h, if_neg hd]
theorem mtr_free {l : List Int} {t : Int} (h : mwr 0 l t = 0) : mtr 0 l t = (0, t) := by unfold mtr; rw [if_pos h, if_pos rfl]
theorem mlk_not {d : Int} {l : List Int} {t e d' : Int} (h : mtr d l t = (e, d')) (he : e ≠ 12) : mlk d l t = (e, d', l) := by unfold mlk; rw [h, if_neg he]
theorem mlk_wait {d : Int} {l : List Int} {t d' : Int} (h : mtr d l t = (12, d')) : mlk d l t = (14, d', l ++ [t]) := by unfold mlk; rw [h, if_pos rfl]

set_option maxRecDepth 10000 in
set_option maxHeartbeats 4000000 in
theorem walk_MutexTries (w : World) (a : Int) (_ : (Lit.int .i64 a).wf = true) (b' : Int) (_ : (Lit.int .i64 b').wf = true) (n : Int) (hn : (Lit.int .u8 n).wf = true) : Calls Try.prog 9 #[.int .i64 a, .int .i64 b', .int .u8 n] w fun en w' => en = .returned (.bool true) ∧ Below w.heap.size w w' := by
  obtain ⟨M, hM, hM8⟩ := u8_mod n 8 hn (by decide)
  go_enter Try.func9, Try.ntmps9
  go_wp2_with fail
  refine (mnew_any w).mono ?_
  rintro e W1 ⟨rfl, G1, N1⟩
  have N1 := hid N1
  obtain ⟨b, hb⟩ : ∃ x, w.heap.size = x := ⟨_, rfl⟩
  rw [hb] at N1 ⊢
  by_cases ha : a < 1
  · go_wp2_with fail
    refine (mlock_any a N1.out (by decide) (mlk_not (mtr_wrong (mwr_lo ha) (by decide)) (by decide))).mono ?_
    rintro e W2 ⟨rfl, G2, N2, -, -⟩
    have N2 := hid N2
    go_wp2_with fail
    refine (mawake_any W2).mono ?_
    rintro e W3 ⟨rfl, K⟩
    have N3 := hid (N2.out.keep K fun _ h => h.elim)
    clear K
    go_wp2_with fail
    refine (mholder_any N3.out).mono ?_
    rintro e _ ⟨rfl, rfl⟩
    go_wp2
    go_ret
    exact ⟨rfl, N3.out.2.2.below (fun _ h => h.elim) (Nat.le_refl _)⟩
  go_wp2_with fail
  refine (mlock_any a N1.out (by decide) (mlk_not (mtr_free (mwr_ok (by omega) (by omega) (by simp))) (by decide))).mono ?_
  rintro e W2 ⟨rfl, G2, N2, -, -⟩
  have N2 := hid N2
  clear N1
  go_wp2_with fail
  go_loopw [8] (fun i wr => ∃ (q : Nat) (G : Nat → Prop), q ≤ M ∧ i = .int .i64 q ∧ ONew 69 w wr G b (mpre a) (thou q a)) (fun i _ => 60 - (intOf i).toNat)
  case atStart => exact ⟨0, G2, Nat.zero_le _, rfl, N2.out⟩
  case round =>
    obtain ⟨q, G, hq, rfl, hI⟩ := hrel
    have I := hid hI
    have L := hid (thou_length q a)
    clear hI N2
    by_cases hlt : q < M
    · have hlt' : (q : Int) < (M : Int) := by omega
      by_cases haq : a = 1000 + q
      · have hq1 := hid (thou_off q a haq)
        have hlk := hid (mlk_not (mtr_wrong (mwr_in (d := a) (l := thou q a) (t := 1000 + q) (by omega) (.inl haq)) (by decide)) (by decide))
        clear haq
        go_wp2_with fail
        refine (mlock_any (1000 + q) I.out (by have := L.out; omega) hlk.out).mono ?_
        rintro e W4 ⟨rfl, G4, N4, -, -⟩
        rw [hq1.out] at N4
        have N4 := hid N4
        clear I
        go_wp2_with fail
        go_roundw
        case rel => exact ⟨q + 1, G4, by omega, by go_num, N4.out⟩
        case measure => simp [intOf]; omega
      · have hq1 := hid (thou_on q a haq)
        have hlk := hid (mlk_wait (mtr_busy (mwr_ok (d := a) (l := thou q a) (t := 1000 + q) (by omega) haq (by rw [thou_in]; omega)) (by omega)))
        clear haq
        go_wp2_with fail
        refine (mlock_any (1000 + q) I.out (by have := L.out; omega) hlk.out).mono ?_
        rintro e W4 ⟨rfl, G4, N4, -, -⟩
        rw [hq1.out] at N4
        have N4 := hid N4
        clear I
        go_wp2_with fail
        go_roundw
        case rel => exact ⟨q + 1, G4, by omega, by go_num, N4.out⟩
        case measure => simp [intOf]; omega
    · obtain rfl : q = M := by omega
      have hlt' : ¬ ((q : Int) < (q : Int)) := by omega
      go_wp2_with fail
      refine (mwaits_any I.out (by have := L.out; omega)).mono ?_
      rintro e W4 ⟨a4, n4, rfl, R4, N4, K4, F4⟩
      have fr : Hid (∀ k, (Value.slice a4 (thou q a).length n4).ownBlock = some k → ¬ G k) := fun k hk hg => by have := F4 k hk; have := I.out.1.2.1 k hg; omega
      have R4 := hid R4
      have N4 := hid N4
      clear K4 F4
      have cs : (mtr a (thou q a) b' = (1, a) ∧ b' < 1 ∧ (b' == a) = false ∧ b' < 1000) ∨ (mtr a (thou q a) b' = (11, a) ∧ 1 ≤ b' ∧ (b' == a) = true ∧ 1 ≤ b') ∨ (mtr a (thou q a) b' = (11, a) ∧ 1000 ≤ b' ∧ (b' == a) = false ∧ b' < 1000 + (q : Int)) ∨
          (mtr a (thou q a) b' = (12, a) ∧ 1 ≤ b' ∧ (b' == a) = false ∧ b' < 1000) ∨ (mtr a (thou q a) b' = (12, a) ∧ 1000 ≤ b' ∧ (b' == a) = false ∧ ¬ b' < 1000 + (q : Int)) := by
        rcases mwr_cases a (thou q a) b' with ⟨h, h1⟩ | ⟨h, h1, h2⟩ | ⟨h, h1, h2, h3⟩
        · exact .inl ⟨mtr_wrong h (by decide), h1, by simp; omega, by omega⟩
        · by_cases e : a = b'
          · exact .inr (.inl ⟨mtr_wrong h (by decide), h1, by simp [e], h1⟩)
          · have h4 := (thou_in q a b').1 (h2.resolve_left e)
            exact .inr (.inr (.inl ⟨mtr_wrong h (by decide), h4.1.1, by simp; omega, h4.1.2⟩))
        · rw [thou_in] at h3
          by_cases e : b' < 1000
          · exact .inr (.inr (.inr (.inl ⟨mtr_busy h (by omega), h1, by simp; omega, e⟩)))
          · exact .inr (.inr (.inr (.inr ⟨mtr_busy h (by omega), by omega, by simp; omega, by omega⟩)))
      rcases cs with ⟨htr, c1, c2, c3⟩ | ⟨htr, c1, c2, c3⟩ | ⟨htr, c1, c2, c3⟩ | ⟨htr, c1, c2, c3⟩ | ⟨htr, c1, c2, c3⟩
      all_goals
        have HT := hid htr
        clear htr
        go_wp2_with fail
        refine (mtry_any b' N4.out HT.out).mono ?_
        rintro e W5 ⟨rfl, G5, N5, J5, K5⟩
        have R5 := hid (R4.out.keep K5 fr.out)
        have N5 := hid N5
        clear K5 J5
        go_wp2_with fail
        refine (mawake_any W5).mono ?_
        rintro e W6 ⟨rfl, K6⟩
        have N6 := hid (N5.out.keep K6 fun _ h => h.elim)
        have R6 := hid (R5.out.keep K6 fun _ _ h => h)
        clear K6
        go_wp2_with fail
        refine (mholder_any N6.out).mono ?_
        rintro e _ ⟨rfl, rfl⟩
        go_wp2_with fail
        refine (mwaits_any N6.out (by have := L.out; omega)).mono ?_
        rintro e W7 ⟨a7, n7, rfl, R7, N7, K7, -⟩
        have Q7 := hid (R6.out.keep K7 fun _ _ h => h)
        have R7 := hid R7
        have N7 := hid N7
        clear K7
        go_wp2_with fail
        refine (ints_any R7.out Q7.out).mono ?_
        rintro e W9 ⟨rfl, K9⟩
        have N9 := hid (N7.out.keep K9 fun _ h => h.elim)
        rw [show decide (thou q a = thou q a) = true from decide_eq_true rfl]
        clear K9
        go_wp2
        go_ret
        exact ⟨rfl, N9.out.2.2.below (fun _ h => h.elim) (Nat.le_refl _)⟩
end Go.Proofs.Ytcbnbnlioajadaa
