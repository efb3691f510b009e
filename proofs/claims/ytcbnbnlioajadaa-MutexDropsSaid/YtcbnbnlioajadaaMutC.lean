/- The walk of MutexDrops. -/
import Derived.Test.YtcbnbnlioajadaaMutB
namespace Go.Proofs.Ytcbnbnlioajadaa
open Go Go.RowKit

/-- Who is still to hold it, behind p of k; y is not there. -/
def rest (k : Nat) (y : Int) (p : Nat) : List Int := ((upTo k).drop p).filter (fun t => t != y)

theorem rest_skip (k p : Nat) (y : Int) (h : p < k) (hy : y = (p : Int) + 1) : rest k y p = rest k y (p + 1) := by
  unfold rest
  rw [List.drop_eq_getElem_cons (by rw [upTo_length]; exact h)]
  simp [upTo, hy]
theorem rest_step (k p : Nat) (y : Int) (h : p < k) (hy : y ≠ (p : Int) + 1) : rest k y p = ((p : Int) + 1) :: rest k y (p + 1) := by
  unfold rest
  rw [List.drop_eq_getElem_cons (by rw [upTo_length]; exact h)]
  simp [upTo, Ne.symm hy]
theorem rest_end (k : Nat) (y : Int) : rest k y k = [] := by unfold rest; rw [List.drop_eq_nil_of_le (by rw [upTo_length]; exact Nat.le_refl _)]; rfl
theorem rest_length (k p : Nat) (y : Int) : (rest k y p).length ≤ k := by
  refine Nat.le_trans (List.length_filter_le _ _) ?_
  rw [List.length_drop, upTo_length]; omega

theorem gone_all : ∀ K : Fin 20, ∀ X : Fin 20, dropT ((upTo (K.val + 1)).drop 1) ((X.val : Int) + 1) = if (X.val : Int) + 1 > 1 then rest (K.val + 1) ((X.val : Int) + 1) 1 else rest (K.val + 1) 0 1 := by decide +kernel
theorem gone_twice : ∀ K : Fin 20, ∀ X : Fin 20, ((X.val : Int) + 1) ∉ dropT ((upTo (K.val + 1)).drop 1) ((X.val : Int) + 1) := by decide +kernel
theorem gone_in : ∀ K : Fin 20, ∀ X : Fin 20, X.val ≤ K.val → (decide (((X.val : Int) + 1) ∈ (upTo (K.val + 1)).drop 1) = decide ((X.val : Int) + 1 > 1)) := by decide +kernel

theorem tail_upTo (q : Nat) : ((upTo q).drop 1).length ≤ q := by rw [List.length_drop, upTo_length]; omega

theorem mlk_next (q : Nat) : ∃ e, mlk (if q = 0 then 0 else 1) ((upTo q).drop 1) ((q : Int) + 1) = (e, 1, (upTo (q + 1)).drop 1) := by
  by_cases h : q = 0
  · subst h; exact ⟨0, by decide⟩
  · refine ⟨14, ?_⟩
    rw [if_neg h]
    have hno : ((q : Int) + 1) ∉ (upTo q).drop 1 := fun hm => by have := (upTo_in q _).1 (List.mem_of_mem_drop hm); omega
    rw [mlk_wait (mtr_busy (mwr_ok (by omega) (by omega) hno) (by decide)), ← upTo_succ, List.drop_append_of_le_length (by rw [upTo_length]; omega)]

theorem u8_bd (n : Int) (h : (Lit.int .u8 n).wf = true) : 0 ≤ n ∧ n ≤ 255 := by
  simp only [Lit.wf, Bool.and_eq_true, decide_eq_true_eq] at h
  exact ⟨Int.le_trans (by decide) h.1, Int.le_trans h.2 (by decide)⟩

set_option maxRecDepth 10000 in
set_option maxHeartbeats 8000000 in
theorem walk_MutexDrops (w : World) (n : Int) (hn : (Lit.int .u8 n).wf = true) (g : Int) (hg : (Lit.int .u8 g).wf = true) :
    Calls Try.prog 10 #[.int .u8 n, .int .u8 g] w fun en w' => en = .returned (.bool true) ∧ Below w.heap.size w w' := by
  obtain ⟨K, hK, hK20⟩ := u8_mod n 20 hn (by decide)
  obtain ⟨X, hX, hXK⟩ := u8_mod g (1 + (K : Int)) hg (by omega)
  have b1 := hid (gone_all ⟨K, by omega⟩ ⟨X, by omega⟩)
  have b2 := hid (gone_twice ⟨K, by omega⟩ ⟨X, by omega⟩)
  have b3 := hid (gone_in ⟨K, by omega⟩ ⟨X, by omega⟩ (by simp; omega))
  obtain ⟨g0, g1⟩ := u8_bd g hg
  have hk0 : ¬ (1 + (K : Int) = 0) := by omega
  go_enter Try.func10, Try.ntmps10
  go_wp2_with fail
  refine (mnew_any w).mono ?_
  rintro e W1 ⟨rfl, G1, N1⟩
  have N1 := hid N1
  obtain ⟨b, hb⟩ : ∃ x, w.heap.size = x := ⟨_, rfl⟩
  rw [hb] at N1 ⊢
  go_wp2_with fail
  go_loopw [7] (fun i wr => ∃ (q : Nat) (G : Nat → Prop), q ≤ K + 1 ∧ i = .int .i64 (q + 1) ∧ ONew 69 w wr G b (mpre (if q = 0 then 0 else 1)) ((upTo q).drop 1)) (fun i _ => 60 - (intOf i).toNat)
  case atStart => exact ⟨0, G1, Nat.zero_le _, rfl, N1.out⟩
  case round =>
    obtain ⟨q, G, hq, rfl, hI⟩ := hrel
    have I := hid hI
    have L := hid (tail_upTo q)
    clear hI N1
    by_cases hlt : q < K + 1
    · have hlt' : (q : Int) + 1 ≤ 1 + (K : Int) := by omega
      obtain ⟨e4, hlk⟩ := mlk_next q
      have hlk := hid hlk
      go_wp2_with fail
      refine (mlock_any (q + 1) I.out (by have := L.out; omega) hlk.out).mono ?_
      rintro e W4 ⟨rfl, G4, N4, -, -⟩
      have N4 : Hid (ONew 69 w W4 G4 b (mpre (if q + 1 = 0 then 0 else 1)) ((upTo (q + 1)).drop 1)) := hid (by rw [if_neg (by omega)]; exact N4)
      clear hlk
      go_wp2_with fail
      go_roundw
      case rel => exact ⟨q + 1, G4, by omega, by go_num, N4.out⟩
      case measure => simp [intOf]; omega
    obtain rfl : q = K + 1 := by omega
    have hlt' : ¬ (((K + 1 : Nat) : Int) + 1 ≤ 1 + (K : Int)) := by omega
    have I0 := I.out
    rw [if_neg (by omega)] at I0
    have I1 := hid I0
    clear I I0
    by_cases hX1 : 1 ≤ X
    · have hgt : (1 : Int) < 1 + (X : Int) := by omega
      have c1 : Hid (dropT ((upTo (K + 1)).drop 1) (1 + (X : Int)) = rest (K + 1) (1 + (X : Int)) 1) := hid (by have := b1.out; rw [if_pos (by omega)] at this; rw [Int.add_comm 1 (X : Int)]; exact this)
      have c3 : Hid (decide ((1 + (X : Int)) ∈ (upTo (K + 1)).drop 1) = true) := hid (by have := b3.out; rw [Int.add_comm 1 (X : Int), this]; exact decide_eq_true (by omega))
      have c4' : (1 + (X : Int)) ∉ rest (K + 1) (1 + (X : Int)) 1 := by have := b2.out; rw [Int.add_comm (X : Int) 1, c1.out] at this; exact this
      have c4 := hid (decide_eq_false c4')
      have c5 := hid (dropT_no c4')
      clear c4' b1 b2 b3
      go_wp2_with fail
      refine (mdrop_any (1 + X) I1.out (by have := L.out; omega)).mono ?_
      rintro e W4 ⟨rfl, G4, N4, -, -⟩
      rw [c1.out] at N4
      rw [c3.out]
      have N4 := hid N4
      clear I1
      go_wp2_with fail
      refine (mdrop_any (1 + X) N4.out (by have := rest_length (K + 1) 1 (1 + (X : Int)); omega)).mono ?_
      rintro e W5 ⟨rfl, G6, N6, -, -⟩
      rw [c5.out] at N6
      rw [c4.out]
      have N6 := hid N6
      clear N4 c1 c3 c4 c5
      go_wp2_with fail

      go_loopw [9] (fun i wr => ∃ (p : Nat) (G : Nat → Prop), p ≤ K + 1 ∧ i = .int .i64 (p + 1) ∧ ONew 69 w wr G b (mpre ((rest (K + 1) (1 + (X : Int)) p).headD 0)) (rest (K + 1) (1 + (X : Int)) p).tail) (fun i _ => 60 - (intOf i).toNat)
      case atStart => exact ⟨0, G6, Nat.zero_le _, rfl, by rw [rest_step (K + 1) 0 (1 + (X : Int)) (by omega) (by omega)]; exact N6.out⟩
      case round =>
        obtain ⟨p, G, hp, rfl, hI⟩ := hrel
        have I := hid hI
        clear hI N6
        by_cases hlt : p < K + 1
        · have hlt' : (p : Int) + 1 ≤ 1 + (K : Int) := by omega
          by_cases hpx : p = X
          · have hpx1 : ((p : Int) + 1 == 1 + (X : Int)) = true := by simp; omega
            have sk := hid (rest_skip (K + 1) p (1 + (X : Int)) hlt (by omega))
            clear hpx
            go_wp2_with fail
            go_roundw
            case rel => exact ⟨p + 1, G, by omega, by go_num, by rw [← sk.out]; exact I.out⟩
            case measure => simp [intOf]; omega
          have hpx1 : ((p : Int) + 1 == 1 + (X : Int)) = false := by simp; omega
          have st := rest_step (K + 1) p (1 + (X : Int)) hlt (by omega)
          have hlr := rest_length (K + 1) (p + 1) (1 + (X : Int))
          have I2 := I.out
          rw [st] at I2
          rw [List.headD_cons, List.tail_cons] at I2
          generalize hr : rest (K + 1) (1 + (X : Int)) (p + 1) = r at I2 hlr
          have HR := hid hr
          have I3 := hid I2
          have HLR := hid hlr
          clear hr I2 st I hlr
          go_wp2_with fail
          refine (mholder_any I3.out).mono ?_
          rintro e _ ⟨rfl, rfl⟩
          go_wp2_with fail
          cases r with
          | nil =>
            refine (munlock_nil I3.out (by omega)).mono ?_
            rintro e W7 ⟨rfl, G7, N7, -, -⟩
            have N7 := hid N7
            go_wp2_with fail
            go_roundw
            case rel => exact ⟨p + 1, G7, by omega, by go_num, by rw [HR.out]; exact N7.out⟩
            case measure => simp [intOf]; omega
          | cons h t =>
            refine (munlock_cons h I3.out (by omega) (by have := HLR.out; simp at this; omega)).mono ?_
            rintro e W7 ⟨rfl, G7, N7, -, -⟩
            have N7 := hid N7
            go_wp2_with fail
            go_roundw
            case rel => exact ⟨p + 1, G7, by omega, by go_num, by rw [HR.out]; exact N7.out⟩
            case measure => simp [intOf]; omega
        obtain rfl : p = K + 1 := by omega
        have hlt' : ¬ (((K + 1 : Nat) : Int) + 1 ≤ 1 + (K : Int)) := by omega
        have I2 := I.out
        rw [rest_end] at I2
        have I3 : Hid (ONew 69 w wr G b (mpre 0) []) := hid I2
        clear I I2
        go_wp2_with fail
        refine (mawake_any _).mono ?_
        rintro e W8 ⟨rfl, K8⟩
        have N8 := hid (I3.out.keep K8 fun _ h => h.elim)
        clear K8
        go_wp2_with fail
        refine (mholder_any N8.out).mono ?_
        rintro e _ ⟨rfl, rfl⟩
        go_wp2_with fail
        refine (mwaits_any N8.out (by decide)).mono ?_
        rintro e W9 ⟨a9, n9, rfl, -, N9, -⟩
        have N9 := hid N9
        go_wp2
        go_ret
        exact ⟨rfl, N9.out.2.2.below (fun _ h => h.elim) (Nat.le_refl _)⟩
    · obtain rfl : X = 0 := by omega
      have hX : g.tmod (1 + (K : Int)) = 0 := hX
      have c1 : Hid (dropT ((upTo (K + 1)).drop 1) 1 = rest (K + 1) 0 1) := hid (b1.out.trans (if_neg (by decide)))
      have c3 : Hid (decide ((1 : Int) ∈ (upTo (K + 1)).drop 1) = false) := hid (b3.out.trans (decide_eq_false (by simp)))
      have c4' : (1 : Int) ∉ rest (K + 1) 0 1 := by have := b2.out; rw [← c1.out]; exact this
      have c4 := hid (decide_eq_false c4')
      have c5 := hid (dropT_no c4')
      clear c4' b1 b2 b3
      go_wp2_with fail
      refine (mdrop_any 1 I1.out (by have := L.out; omega)).mono ?_
      rintro e W4 ⟨rfl, G4, N4, -, -⟩
      rw [c1.out] at N4
      rw [c3.out]
      have N4 := hid N4
      clear I1
      go_wp2_with fail
      refine (mdrop_any 1 N4.out (by have := rest_length (K + 1) 1 0; omega)).mono ?_
      rintro e W5 ⟨rfl, G6, N6, -, -⟩
      rw [c5.out] at N6
      rw [c4.out]
      have N6 := hid N6
      clear N4 c1 c3 c4 c5
      go_wp2_with fail

      go_loopw [9] (fun i wr => ∃ (p : Nat) (G : Nat → Prop), p ≤ K + 1 ∧ i = .int .i64 (p + 1) ∧ ONew 69 w wr G b (mpre ((rest (K + 1) 0 p).headD 0)) (rest (K + 1) 0 p).tail) (fun i _ => 60 - (intOf i).toNat)
      case atStart => exact ⟨0, G6, Nat.zero_le _, rfl, by rw [rest_step (K + 1) 0 0 (by omega) (by omega)]; exact N6.out⟩
      case round =>
        obtain ⟨p, G, hp, rfl, hI⟩ := hrel
        have I := hid hI
        clear hI N6
        by_cases hlt : p < K + 1
        · have hlt' : (p : Int) + 1 ≤ 1 + (K : Int) := by omega
          have st := rest_step (K + 1) p 0 hlt (by omega)
          have hlr := rest_length (K + 1) (p + 1) 0
          have I2 := I.out
          rw [st] at I2
          rw [List.headD_cons, List.tail_cons] at I2
          generalize hr : rest (K + 1) 0 (p + 1) = r at I2 hlr
          have HR := hid hr
          have I3 := hid I2
          have HLR := hid hlr
          clear hr I2 st I hlr
          rcases (by omega : p = 0 ∨ 1 ≤ p) with hp0 | hp0
          · have hpx1 : ((p : Int) + 1 == 1) = true := by simp; omega
            have hpx2 : p == 0 := by simp [hp0]
            clear hp0
            go_wp2_with fail
            refine (mholder_any I3.out).mono ?_
            rintro e _ ⟨rfl, rfl⟩
            go_wp2_with fail
            cases r with
            | nil =>
              refine (munlock_nil I3.out (by omega)).mono ?_
              rintro e W7 ⟨rfl, G7, N7, -, -⟩
              have N7 := hid N7
              go_wp2_with fail
              go_roundw
              case rel => exact ⟨p + 1, G7, by omega, by go_num, by rw [HR.out]; exact N7.out⟩
              case measure => simp [intOf]; omega
            | cons h t =>
              refine (munlock_cons h I3.out (by omega) (by have := HLR.out; simp at this; omega)).mono ?_
              rintro e W7 ⟨rfl, G7, N7, -, -⟩
              have N7 := hid N7
              go_wp2_with fail
              go_roundw
              case rel => exact ⟨p + 1, G7, by omega, by go_num, by rw [HR.out]; exact N7.out⟩
              case measure => simp [intOf]; omega
          · have hpx1 : ((p : Int) + 1 == 1) = false := by simp; omega
            have hpx2 : (p == 0) = false := by simp; omega
            go_wp2_with fail
            refine (mholder_any I3.out).mono ?_
            rintro e _ ⟨rfl, rfl⟩
            go_wp2_with fail
            cases r with
            | nil =>
              refine (munlock_nil I3.out (by omega)).mono ?_
              rintro e W7 ⟨rfl, G7, N7, -, -⟩
              have N7 := hid N7
              go_wp2_with fail
              go_roundw
              case rel => exact ⟨p + 1, G7, by omega, by go_num, by rw [HR.out]; exact N7.out⟩
              case measure => simp [intOf]; omega
            | cons h t =>
              refine (munlock_cons h I3.out (by omega) (by have := HLR.out; simp at this; omega)).mono ?_
              rintro e W7 ⟨rfl, G7, N7, -, -⟩
              have N7 := hid N7
              go_wp2_with fail
              go_roundw
              case rel => exact ⟨p + 1, G7, by omega, by go_num, by rw [HR.out]; exact N7.out⟩
              case measure => simp [intOf]; omega
        obtain rfl : p = K + 1 := by omega
        have hlt' : ¬ (((K + 1 : Nat) : Int) + 1 ≤ 1 + (K : Int)) := by omega
        have I2 := I.out
        rw [rest_end] at I2
        have I3 : Hid (ONew 69 w wr G b (mpre 0) []) := hid I2
        clear I I2
        go_wp2_with fail
        refine (mawake_any _).mono ?_
        rintro e W8 ⟨rfl, K8⟩
        have N8 := hid (I3.out.keep K8 fun _ h => h.elim)
        clear K8
        go_wp2_with fail
        refine (mholder_any N8.out).mono ?_
        rintro e _ ⟨rfl, rfl⟩
        go_wp2_with fail
        refine (mwaits_any N8.out (by decide)).mono ?_
        rintro e W9 ⟨a9, n9, rfl, -, N9, -⟩
        have N9 := hid N9
        go_wp2
        go_ret
        exact ⟨rfl, N9.out.2.2.below (fun _ h => h.elim) (Nat.le_refl _)⟩
end Go.Proofs.Ytcbnbnlioajadaa
