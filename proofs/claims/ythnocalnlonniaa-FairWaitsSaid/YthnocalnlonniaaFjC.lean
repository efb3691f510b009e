/- The walk of FairMore. -/
import Derived.Test.YthnocalnlonniaaFjB
namespace Go.Proofs.Ythnocalnlonniaa
open Go Go.RowKit

/-- What a slot counts for. -/
def wgt (dom : Int) (k : Nat) (p : Int × Int) : Int := if k < 16 ∧ 1 ≤ p.2 ∧ p.2 ≤ 16 ∧ p.1 = dom then p.2 else 0
def shK (s : List (Int × Int)) (dom : Int) : Nat → Int
  | 0 => 0
  | k + 1 => shK s dom k + (match s[k]? with | some p => wgt dom k p | none => 0)
def shareOf (s : List (Int × Int)) (dom : Int) : Int := shK s dom s.length

theorem shK_succ {s : List (Int × Int)} {dom : Int} {k : Nat} {p : Int × Int} (h : s[k]? = some p) : shK s dom (k + 1) = shK s dom k + wgt dom k p := by rw [shK, h]
theorem wgt_bd (dom : Int) (k : Nat) (p : Int × Int) : 0 ≤ wgt dom k p ∧ wgt dom k p ≤ 16 ∧ (16 ≤ k → wgt dom k p = 0) := by
  unfold wgt
  split
  · exact ⟨by omega, by omega, by omega⟩
  · exact ⟨by omega, by omega, fun _ => rfl⟩
theorem shK_bd (s : List (Int × Int)) (dom : Int) : ∀ k, 0 ≤ shK s dom k ∧ shK s dom k ≤ 16 * (min k 16 : Nat)
  | 0 => ⟨Int.le_refl _, by show (0 : Int) ≤ _; omega⟩
  | k + 1 => by
    have ih := shK_bd s dom k
    rw [shK]
    split
    · rename_i p _
      have := wgt_bd dom k p
      have := this.2.2
      omega
    · omega

set_option maxHeartbeats 1000000 in
theorem fcounts_any (n : Nat) (d l dom : Int) (w : World) (B : Bool) (hB : B = decide (n < 16 ∧ 1 ≤ l ∧ l ≤ 16 ∧ d = dom)) :
    Calls Try.prog 33 #[.int .i64 n, .agg #[.int .i64 d, .int .i64 l], .int .i64 dom] w fun e w' => e = .returned (.bool B) ∧ Keep (fun _ => False) w w' := by
  have KA : Keep (fun _ => False) w (w.alloc (.cells #[.int .i64 d, .int .i64 l] 35)) := (Keep.refl _ _).alloc _
  have x0 : (w.alloc (.cells #[.int .i64 d, .int .i64 l] 35)).cell? ⟨w.heap.size, 0, none⟩ = some (.int .i64 d) := by rw [World.cell?_alloc_new]; rfl
  have x1 : (w.alloc (.cells #[.int .i64 d, .int .i64 l] 35)).cell? ⟨w.heap.size, 1, none⟩ = some (.int .i64 l) := by rw [World.cell?_alloc_new]; rfl
  have KA := hid KA
  by_cases h1 : n < 16
  · have h1' : (n : Int) < 16 := by omega
    by_cases h2 : 1 ≤ l
    · by_cases h3 : l ≤ 16
      · by_cases h4 : d = dom
        · have hd : Hid (B = true) := hid (hB.trans <| decide_eq_true ⟨h1, h2, h3, h4⟩)
          have h4' : (d == dom) = true := by simp [h4]
          clear h1 h4 hB
          go_enter Try.func33, Try.ntmps33
          go_wp2
          go_ret
          exact ⟨by rw [hd.out]; rfl, KA.out⟩
        · have hd : Hid (B = false) := hid (hB.trans <| decide_eq_false fun h => h4 h.2.2.2)
          have h4' : (d == dom) = false := by simp [h4]
          clear h1 h4 hB
          go_enter Try.func33, Try.ntmps33
          go_wp2
          go_ret
          exact ⟨by rw [hd.out]; rfl, KA.out⟩
      · have hd : Hid (B = false) := hid (hB.trans <| decide_eq_false fun h => h3 h.2.2.1)
        clear h1 hB
        go_enter Try.func33, Try.ntmps33
        go_wp2
        go_ret
        exact ⟨by rw [hd.out]; rfl, KA.out⟩
    · have hd : Hid (B = false) := hid (hB.trans <| decide_eq_false fun h => h2 h.2.1)
      clear h1 hB
      go_enter Try.func33, Try.ntmps33
      go_wp2
      go_ret
      exact ⟨by rw [hd.out]; rfl, KA.out⟩
  · have h1' : ¬ (n : Int) < 16 := by omega
    have hd : Hid (B = false) := hid (hB.trans <| decide_eq_false fun h => h1 h.1)
    clear h1 hB
    go_enter Try.func33, Try.ntmps33
    go_wp2
    go_ret
    exact ⟨by rw [hd.out]; rfl, KA.out⟩

set_option maxHeartbeats 2000000 in
theorem fshare_any {w : World} {v : Value} {s : List (Int × Int)} (dom : Int) (h : SlotsR w v s) :
    Calls Try.prog 23 #[v, .int .i64 dom] w fun e w' => e = .returned (.int .i64 (shareOf s dom)) ∧ Keep (fun _ => False) w w' := by
  obtain ⟨a0, c0, hv⟩ := h.form
  subst hv
  have H := hid h
  clear h
  go_enter Try.func23, Try.ntmps23
  go_wp2_with fail
  go_loopw [5, 10] (fun m i wr => ∃ k : Nat, k ≤ s.length ∧ i = .int .i64 k ∧ m = .int .i64 (shK s dom k) ∧ Keep (fun _ => False) w wr) (fun _ i _ => s.length - (intOf i).toNat)
  case atStart => exact ⟨0, Nat.zero_le _, rfl, rfl, Keep.refl _ _⟩
  case round =>
    obtain ⟨k, hk, rfl, rfl, hK⟩ := hrel
    have KK := hid hK
    by_cases hlt : k < s.length
    · have hlt1 : (k : Int) < (s.length : Int) := by omega
      obtain ⟨⟨d, l⟩, hp⟩ : ∃ p, s[k]? = some p := ⟨_, List.getElem?_eq_getElem hlt⟩
      obtain ⟨g, off, c1, hv1, hg, hmx, k1, k2⟩ : ∃ g off c1, (Value.slice a0 s.length c0) = .slice (some ⟨g, off, none⟩) s.length c1 ∧ g < w.heap.size ∧ s.length ≤ maxLen ∧ w.cell? ⟨g, off + k * 2, none⟩ = some (.int .i64 d) ∧ w.cell? ⟨g, off + k * 2 + 1, none⟩ = some (.int .i64 l) := by
        rcases H.out with ⟨_, _, _, h0⟩ | ⟨g, off, c1, h1, h2, h3, h4, h5⟩
        · rw [h0] at hlt; simp at hlt
        · exact ⟨g, off, c1, h1, h2, Nat.le_trans h3 h4, (h5 k _ hp).1, (h5 k _ hp).2⟩
      simp only [Value.slice.injEq] at hv1
      obtain ⟨rfl, -, rfl⟩ := hv1
      have k1 := (hK.cell (p := ⟨g, off + k * 2, none⟩) hg (fun h => h)).trans k1
      have k2 := (hK.cell (p := ⟨g, off + k * 2 + 1, none⟩) hg (fun h => h)).trans k2
      have hgr := Nat.lt_of_lt_of_le hg hK.size
      have hgne := Nat.ne_of_lt hgr
      have SS := hid (shK_succ (dom := dom) hp)
      have bd := shK_bd s dom k
      have wb := wgt_bd dom k (d, l)
      have WG : Hid (wgt dom k (d, l) = if k < 16 ∧ 1 ≤ l ∧ l ≤ 16 ∧ d = dom then l else 0) := hid rfl
      have kB : Keep (fun _ => False) wr (wr.alloc (.cells #[.int .i64 d, .int .i64 l] 35)) := (Keep.refl _ _).alloc _
      have x1 : (wr.alloc (.cells #[.int .i64 d, .int .i64 l] 35)).cell? ⟨wr.heap.size, 1, none⟩ = some (.int .i64 l) := by rw [World.cell?_alloc_new]; rfl
      have xl : wr.heap.size < (wr.alloc (.cells #[.int .i64 d, .int .i64 l] 35)).heap.size := by rw [World.size_alloc]; exact Nat.lt_succ_self _
      obtain ⟨X, hX⟩ : ∃ X, shK s dom k = X := ⟨_, rfl⟩
      rw [hX] at bd SS ⊢
      unfold maxLen at hmx
      have X1 := hid x1
      have KB := hid kB
      have WB := hid wb
      clear hK hp hX kB x1 wb
      go_wp2_with fail
      refine (fcounts_any k d l dom _ _ rfl).mono ?_
      rintro _ w2 ⟨rfl, k2'⟩
      have y1 := (k2'.cell (p := ⟨wr.heap.size, 1, none⟩) xl (fun h => h)).trans X1.out
      have K2 := hid ((KK.out.trans KB.out).trans k2')
      clear k2'
      by_cases hc : k < 16 ∧ 1 ≤ l ∧ l ≤ 16 ∧ d = dom
      · have e := hid (SS.out.trans (by rw [WG.out, if_pos hc] : X + wgt dom k (d, l) = X + l))
        have l1 := hc.2.1
        have l2 := hc.2.2.1
        rw [decide_eq_true hc]
        clear hc
        go_wp2_with fail
        go_roundw
        case rel => exact ⟨k + 1, by omega, by go_num, by rw [e.out], K2.out⟩
        case measure => simp [intOf]; omega
      · have e := hid (SS.out.trans (by rw [WG.out, if_neg hc, Int.add_zero] : X + wgt dom k (d, l) = X))
        rw [decide_eq_false hc]
        clear hc
        go_wp2_with fail
        go_roundw
        case rel => exact ⟨k + 1, by omega, by go_num, by rw [e.out], K2.out⟩
        case measure => simp [intOf]; omega
    obtain rfl : k = s.length := by omega
    have hlt' : ¬ ((s.length : Int) < (s.length : Int)) := by omega
    have E : Hid (shareOf s dom = shK s dom s.length) := hid rfl
    clear hK
    go_wp2
    go_ret
    exact ⟨by rw [E.out]; rfl, KK.out⟩

set_option maxRecDepth 10000 in
set_option maxHeartbeats 1000000 in
theorem fawake_any (w : World) : Calls Try.prog 22 #[] w fun en w' => en = .returned (.bool true) ∧ Keep (fun _ => False) w w' := by
  have K0 : Keep (fun _ => False) w (w.alloc (.cells #[.int .i64 0, .int .i64 2, .int .i64 1, .int .i64 1, .int .i64 0, .int .i64 1] 35)) := (Keep.refl _ _).alloc _
  have S0 : SlotsR (w.alloc (.cells #[.int .i64 0, .int .i64 2, .int .i64 1, .int .i64 1, .int .i64 0, .int .i64 1] 35)) (.slice (some ⟨w.heap.size, 0, none⟩) 3 3) [(0, 2), (1, 1), (0, 1)] := by
    refine .inr ⟨w.heap.size, 0, 3, rfl, by simp, by decide, by decide, fun i p hp => ?_⟩
    rw [World.cell?_alloc_new, World.cell?_alloc_new]
    match i, hp with
    | 0, hp => cases hp; exact ⟨rfl, rfl⟩
    | 1, hp => cases hp; exact ⟨rfl, rfl⟩
    | 2, hp => cases hp; exact ⟨rfl, rfl⟩
    | n + 3, hp => simp at hp
  have S0 := hid S0
  have K0 := hid K0
  go_enter Try.func22, Try.ntmps22
  go_wp2_with fail
  refine (fover_any 1 2 3 S0.out).mono ?_
  rintro e w1 ⟨rfl, k1⟩
  have S1 := hid (S0.out.keep k1 (fun _ _ h => h))
  have K1 := hid (K0.out.trans k1)
  rw [show nextOf [(0, 2), (1, 1), (0, 1)] 1 (addOf 2 3) = (6, true) from by decide +kernel]
  clear k1
  go_wp2_with fail
  refine (fshare_any 0 S1.out).mono ?_
  rintro e w2 ⟨rfl, k2⟩
  have S2 := hid (S1.out.keep k2 (fun _ _ h => h))
  have K2 := hid (K1.out.trans k2)
  rw [show shareOf [(0, 2), (1, 1), (0, 1)] 0 = 3 from by decide +kernel]
  clear k2
  go_wp2_with fail
  refine (fgap_any 0 S2.out).mono ?_
  rintro e w3 ⟨rfl, k3⟩
  have S3 := hid (S2.out.keep k3 (fun _ _ h => h))
  have K3 := hid (K2.out.trans k3)
  rw [show gapOf [(0, 2), (1, 1), (0, 1)] 0 = 3 from by decide +kernel]
  clear k3
  go_wp2_with fail
  refine (fgap_any 1 S3.out).mono ?_
  rintro e w4 ⟨rfl, k4⟩
  have S4 := hid (S3.out.keep k4 (fun _ _ h => h))
  have K4 := hid (K3.out.trans k4)
  rw [show gapOf [(0, 2), (1, 1), (0, 1)] 1 = 4 from by decide +kernel]
  clear k4
  go_wp2_with fail
  refine (fbound_any 1 2 3 (by decide) (by decide) S4.out).mono ?_
  rintro e w5 ⟨rfl, k5⟩
  have S5 := hid (S4.out.keep k5 (fun _ _ h => h))
  have K5 := hid (K4.out.trans k5)
  rw [show bndOf [(0, 2), (1, 1), (0, 1)] 1 2 3 = 32 from by decide +kernel]
  clear k5
  go_wp2_with fail
  refine (fgap_any 2 S5.out).mono ?_
  rintro e w6 ⟨rfl, k6⟩
  have S6 := hid (S5.out.keep k6 (fun _ _ h => h))
  have K6 := hid (K5.out.trans k6)
  rw [show gapOf [(0, 2), (1, 1), (0, 1)] 2 = 0 from by decide +kernel]
  clear k6
  go_wp2
  go_ret
  exact ⟨rfl, K6.out⟩

theorem next_char (s : List (Int × Int)) (dom t : Int) (hc : cyc s ≠ 0) : (∃ m : Nat, (m : Int) < cyc s ∧ heldOf t + m ≤ 4611686018427387904 ∧ Starts s dom ((heldOf t + m) % cyc s) ∧ (∀ j : Nat, j < m → ¬ Starts s dom ((heldOf t + j) % cyc s)) ∧ nextOf s dom t = (heldOf t + m, true)) ∨
    ((∀ j : Nat, (j : Int) < cyc s → heldOf t + j ≤ 4611686018427387904 → ¬ Starts s dom ((heldOf t + j) % cyc s)) ∧ nextOf s dom t = (0, false)) := by
  by_cases hex : ∃ i : Nat, (i : Int) < cyc s ∧ heldOf t + i ≤ 4611686018427387904 ∧ Starts s dom ((heldOf t + i) % cyc s)
  · obtain ⟨i, hi⟩ := hex
    have : ∃ m : Nat, ((m : Int) < cyc s ∧ heldOf t + m ≤ 4611686018427387904 ∧ Starts s dom ((heldOf t + m) % cyc s)) ∧ ∀ j : Nat, j < m → ¬ Starts s dom ((heldOf t + j) % cyc s) := by
      induction i using Nat.strongRecOn with
      | _ i ih =>
        by_cases h : ∃ j : Nat, j < i ∧ Starts s dom ((heldOf t + j) % cyc s)
        · obtain ⟨j, hj, hj2⟩ := h
          exact ih j hj ⟨by have := hi.1; omega, by have := hi.2.1; omega, hj2⟩
        · exact ⟨i, hi, fun j hj hj2 => h ⟨j, hj, hj2⟩⟩
    obtain ⟨m, ⟨h1, h2, h3⟩, h4⟩ := this
    exact .inl ⟨m, h1, h2, h3, h4, next_found s dom t hc m h1 h2 (by rw [Int.emod_add_emod]; exact h3) fun j hj => by rw [Int.emod_add_emod]; exact h4 j hj⟩
  · have h : ∀ j : Nat, (j : Int) < cyc s → heldOf t + j ≤ 4611686018427387904 → ¬ Starts s dom ((heldOf t + j) % cyc s) := fun j h1 h2 h3 => hex ⟨j, h1, h2, h3⟩
    exact .inr ⟨h, next_none s dom t fun j h1 h2 => by rw [Int.emod_add_emod]; exact h j h1 h2⟩

theorem next_mono (s : List (Int × Int)) (dom t u : Int) (h : heldOf t ≤ heldOf u) {n : Int} (hu : nextOf s dom u = (n, true)) : ∃ k, nextOf s dom t = (k, true) ∧ k ≤ n := by
  by_cases hc : cyc s = 0
  · unfold nextOf at hu; rw [if_pos hc] at hu; cases hu
  have hb := cyc_bd s
  have hc0 : 0 < cyc s := by omega
  rcases next_char s dom u hc with ⟨m, h1, h2, h3, h4, h5⟩ | ⟨_, h5⟩
  · rw [hu] at h5
    obtain rfl : n = heldOf u + m := by injection h5
    obtain ⟨x, hx⟩ : ∃ x, heldOf u + (m : Int) = x := ⟨_, rfl⟩
    rw [hx] at h2 h3 ⊢
    have hr0 := Int.emod_nonneg (x - heldOf t) hc
    have hr1 := Int.emod_lt_of_pos (x - heldOf t) hc0
    have hr2 : (x - heldOf t) % cyc s ≤ x - heldOf t := emod_le_self' (by omega) hc0
    obtain ⟨r, hr⟩ : ∃ r : Nat, (x - heldOf t) % cyc s = r := ⟨((x - heldOf t) % cyc s).toNat, by omega⟩
    have hs : Starts s dom ((heldOf t + r) % cyc s) := by
      have e : (heldOf t + (r : Int)) % cyc s = x % cyc s := by
        rw [← hr, Int.add_emod_emod]
        congr 1; omega
      rw [e]; exact h3
    rcases next_char s dom t hc with ⟨k, g1, g2, g3, g4, g5⟩ | ⟨g4, _⟩
    · refine ⟨_, g5, ?_⟩
      have : ¬ r < k := fun hk => g4 r hk hs
      omega
    · exact absurd hs (g4 r (by omega) (by omega))
  · rw [hu] at h5; cases h5

theorem addOf_mono {a b c d : Int} (h1 : a ≤ c) (h2 : b ≤ d) : addOf a b ≤ addOf c d := by unfold addOf heldOf; omega
theorem held_add (a b : Int) : heldOf (addOf a b) = addOf a b := heldOf_in (addOf_bd a b).1 (addOf_bd a b).2

theorem bnd_mono (s : List (Int × Int)) (dom : Int) {a b c d : Int} (h1 : a ≤ c) (h2 : b ≤ d) : bndOf s dom a b ≤ bndOf s dom c d ∧ 0 ≤ bndOf s dom a b := by
  unfold bndOf
  split
  · exact ⟨Int.le_refl _, Int.le_refl _⟩
  · exact ⟨prodOf_mono h1 (addOf_mono (Int.le_refl _) (prodOf_mono h2 (Int.le_refl _))), (prodOf_bd _ _).1⟩

set_option maxRecDepth 10000 in
set_option maxHeartbeats 4000000 in
theorem walk_FairMore (w : World) (v : Value) (s : List (Int × Int)) (h : SlotsR w v s) (dom : Int) (_ : (Lit.int .i64 dom).wf = true) (a : Int) (ha : (Lit.int .i64 a).wf = true) (b : Int) (hb : (Lit.int .i64 b).wf = true) (c : Int) (hc : (Lit.int .i64 c).wf = true) (d : Int) (hd : (Lit.int .i64 d).wf = true) :
    Calls Try.prog 11 #[v, .int .i64 dom, .int .i64 a, .int .i64 b, .int .i64 c, .int .i64 d] w fun en w' => en = .returned (.bool true) ∧ Below w.heap.size w w' := by
  obtain ⟨a0, c0, hv⟩ := h.form
  subst hv
  have H := hid h
  have WA := hid ha
  have WB := hid hb
  have WC := hid hc
  have WD := hid hd
  clear h ha hb hc hd
  rcases (by omega : (c < a ∧ d < b) ∨ (c < a ∧ ¬ d < b) ∨ (¬ c < a ∧ d < b) ∨ (¬ c < a ∧ ¬ d < b)) with ⟨h1, h2⟩ | ⟨h1, h2⟩ | ⟨h1, h2⟩ | ⟨h1, h2⟩
  · obtain ⟨bm, b0⟩ := bnd_mono s dom (show c ≤ a by omega) (show d ≤ b by omega)
    have NM := hid (fun n => next_mono s dom (addOf c d) (addOf a b) (by rw [held_add, held_add]; exact addOf_mono (by omega) (by omega)) (n := n))
    obtain ⟨x, hx⟩ : ∃ x, bndOf s dom c d = x := ⟨_, rfl⟩
    obtain ⟨y, hy⟩ : ∃ y, bndOf s dom a b = y := ⟨_, rfl⟩
    obtain ⟨p, hp⟩ : ∃ p, addOf c d = p := ⟨_, rfl⟩
    obtain ⟨q, hq⟩ : ∃ q, addOf a b = q := ⟨_, rfl⟩
    have HX := hid hx
    have HY := hid hy
    have HP := hid hp
    have HQ := hid hq
    rw [hx, hy] at bm
    rw [hx] at b0
    rw [hp, hq] at NM
    clear hx hy hp hq
    go_enter Try.func11, Try.ntmps11
    go_wp2_with fail
    refine (fbound_any dom c d WC.out WD.out H.out).mono ?_
    rintro _ w1 ⟨rfl, k1⟩
    have S1 := hid (H.out.keep k1 (fun _ _ h => h))
    have K1 := hid k1
    rw [HX.out]
    clear k1
    go_wp2_with fail
    refine (fbound_any dom a b WA.out WB.out S1.out).mono ?_
    rintro _ w2 ⟨rfl, k2⟩
    have S2 := hid (S1.out.keep k2 (fun _ _ h => h))
    have K2 := hid (K1.out.trans k2)
    rw [HY.out]
    clear k2
    go_wp2_with fail
    refine (fover_any dom c d S2.out).mono ?_
    rintro _ w3 ⟨rfl, k3⟩
    have S3 := hid (S2.out.keep k3 (fun _ _ h => h))
    have K3 := hid (K2.out.trans k3)
    rw [HP.out]
    clear k3
    obtain ⟨⟨n1, o1⟩, hn1⟩ : ∃ z, nextOf s dom p = z := ⟨_, rfl⟩
    have HN1 := hid hn1
    rw [hn1]
    clear hn1
    go_wp2_with fail
    refine (fover_any dom a b S3.out).mono ?_
    rintro _ w4 ⟨rfl, k4⟩
    have K4 := hid (K3.out.trans k4)
    rw [HQ.out]
    clear k4
    obtain ⟨⟨n2, o2⟩, hn2⟩ : ∃ z, nextOf s dom q = z := ⟨_, rfl⟩
    have HN2 := hid hn2
    rw [hn2]
    clear hn2
    go_wp2_with fail
    refine (fawake_any w4).mono ?_
    rintro _ w5 ⟨rfl, k5⟩
    have K5 := hid (K4.out.trans k5)
    clear k5
    cases o2
    · go_wp2
      go_ret
      exact ⟨rfl, K5.out.below (fun _ h => h.elim) (Nat.le_refl _)⟩
    · obtain ⟨k, e1, e2⟩ := NM.out n2 HN2.out
      rw [HN1.out] at e1
      obtain ⟨rfl, rfl⟩ : n1 = k ∧ o1 = true := by cases e1; exact ⟨rfl, rfl⟩
      clear e1
      go_wp2
      go_ret
      exact ⟨rfl, K5.out.below (fun _ h => h.elim) (Nat.le_refl _)⟩
  · obtain ⟨bm, b0⟩ := bnd_mono s dom (show c ≤ a by omega) (show b ≤ d by omega)
    have NM := hid (fun n => next_mono s dom (addOf c b) (addOf a d) (by rw [held_add, held_add]; exact addOf_mono (by omega) (by omega)) (n := n))
    obtain ⟨x, hx⟩ : ∃ x, bndOf s dom c b = x := ⟨_, rfl⟩
    obtain ⟨y, hy⟩ : ∃ y, bndOf s dom a d = y := ⟨_, rfl⟩
    obtain ⟨p, hp⟩ : ∃ p, addOf c b = p := ⟨_, rfl⟩
    obtain ⟨q, hq⟩ : ∃ q, addOf a d = q := ⟨_, rfl⟩
    have HX := hid hx
    have HY := hid hy
    have HP := hid hp
    have HQ := hid hq
    rw [hx, hy] at bm
    rw [hx] at b0
    rw [hp, hq] at NM
    clear hx hy hp hq
    go_enter Try.func11, Try.ntmps11
    go_wp2_with fail
    refine (fbound_any dom c b WC.out WB.out H.out).mono ?_
    rintro _ w1 ⟨rfl, k1⟩
    have S1 := hid (H.out.keep k1 (fun _ _ h => h))
    have K1 := hid k1
    rw [HX.out]
    clear k1
    go_wp2_with fail
    refine (fbound_any dom a d WA.out WD.out S1.out).mono ?_
    rintro _ w2 ⟨rfl, k2⟩
    have S2 := hid (S1.out.keep k2 (fun _ _ h => h))
    have K2 := hid (K1.out.trans k2)
    rw [HY.out]
    clear k2
    go_wp2_with fail
    refine (fover_any dom c b S2.out).mono ?_
    rintro _ w3 ⟨rfl, k3⟩
    have S3 := hid (S2.out.keep k3 (fun _ _ h => h))
    have K3 := hid (K2.out.trans k3)
    rw [HP.out]
    clear k3
    obtain ⟨⟨n1, o1⟩, hn1⟩ : ∃ z, nextOf s dom p = z := ⟨_, rfl⟩
    have HN1 := hid hn1
    rw [hn1]
    clear hn1
    go_wp2_with fail
    refine (fover_any dom a d S3.out).mono ?_
    rintro _ w4 ⟨rfl, k4⟩
    have K4 := hid (K3.out.trans k4)
    rw [HQ.out]
    clear k4
    obtain ⟨⟨n2, o2⟩, hn2⟩ : ∃ z, nextOf s dom q = z := ⟨_, rfl⟩
    have HN2 := hid hn2
    rw [hn2]
    clear hn2
    go_wp2_with fail
    refine (fawake_any w4).mono ?_
    rintro _ w5 ⟨rfl, k5⟩
    have K5 := hid (K4.out.trans k5)
    clear k5
    cases o2
    · go_wp2
      go_ret
      exact ⟨rfl, K5.out.below (fun _ h => h.elim) (Nat.le_refl _)⟩
    · obtain ⟨k, e1, e2⟩ := NM.out n2 HN2.out
      rw [HN1.out] at e1
      obtain ⟨rfl, rfl⟩ : n1 = k ∧ o1 = true := by cases e1; exact ⟨rfl, rfl⟩
      clear e1
      go_wp2
      go_ret
      exact ⟨rfl, K5.out.below (fun _ h => h.elim) (Nat.le_refl _)⟩
  · obtain ⟨bm, b0⟩ := bnd_mono s dom (show a ≤ c by omega) (show d ≤ b by omega)
    have NM := hid (fun n => next_mono s dom (addOf a d) (addOf c b) (by rw [held_add, held_add]; exact addOf_mono (by omega) (by omega)) (n := n))
    obtain ⟨x, hx⟩ : ∃ x, bndOf s dom a d = x := ⟨_, rfl⟩
    obtain ⟨y, hy⟩ : ∃ y, bndOf s dom c b = y := ⟨_, rfl⟩
    obtain ⟨p, hp⟩ : ∃ p, addOf a d = p := ⟨_, rfl⟩
    obtain ⟨q, hq⟩ : ∃ q, addOf c b = q := ⟨_, rfl⟩
    have HX := hid hx
    have HY := hid hy
    have HP := hid hp
    have HQ := hid hq
    rw [hx, hy] at bm
    rw [hx] at b0
    rw [hp, hq] at NM
    clear hx hy hp hq
    go_enter Try.func11, Try.ntmps11
    go_wp2_with fail
    refine (fbound_any dom a d WA.out WD.out H.out).mono ?_
    rintro _ w1 ⟨rfl, k1⟩
    have S1 := hid (H.out.keep k1 (fun _ _ h => h))
    have K1 := hid k1
    rw [HX.out]
    clear k1
    go_wp2_with fail
    refine (fbound_any dom c b WC.out WB.out S1.out).mono ?_
    rintro _ w2 ⟨rfl, k2⟩
    have S2 := hid (S1.out.keep k2 (fun _ _ h => h))
    have K2 := hid (K1.out.trans k2)
    rw [HY.out]
    clear k2
    go_wp2_with fail
    refine (fover_any dom a d S2.out).mono ?_
    rintro _ w3 ⟨rfl, k3⟩
    have S3 := hid (S2.out.keep k3 (fun _ _ h => h))
    have K3 := hid (K2.out.trans k3)
    rw [HP.out]
    clear k3
    obtain ⟨⟨n1, o1⟩, hn1⟩ : ∃ z, nextOf s dom p = z := ⟨_, rfl⟩
    have HN1 := hid hn1
    rw [hn1]
    clear hn1
    go_wp2_with fail
    refine (fover_any dom c b S3.out).mono ?_
    rintro _ w4 ⟨rfl, k4⟩
    have K4 := hid (K3.out.trans k4)
    rw [HQ.out]
    clear k4
    obtain ⟨⟨n2, o2⟩, hn2⟩ : ∃ z, nextOf s dom q = z := ⟨_, rfl⟩
    have HN2 := hid hn2
    rw [hn2]
    clear hn2
    go_wp2_with fail
    refine (fawake_any w4).mono ?_
    rintro _ w5 ⟨rfl, k5⟩
    have K5 := hid (K4.out.trans k5)
    clear k5
    cases o2
    · go_wp2
      go_ret
      exact ⟨rfl, K5.out.below (fun _ h => h.elim) (Nat.le_refl _)⟩
    · obtain ⟨k, e1, e2⟩ := NM.out n2 HN2.out
      rw [HN1.out] at e1
      obtain ⟨rfl, rfl⟩ : n1 = k ∧ o1 = true := by cases e1; exact ⟨rfl, rfl⟩
      clear e1
      go_wp2
      go_ret
      exact ⟨rfl, K5.out.below (fun _ h => h.elim) (Nat.le_refl _)⟩
  · obtain ⟨bm, b0⟩ := bnd_mono s dom (show a ≤ c by omega) (show b ≤ d by omega)
    have NM := hid (fun n => next_mono s dom (addOf a b) (addOf c d) (by rw [held_add, held_add]; exact addOf_mono (by omega) (by omega)) (n := n))
    obtain ⟨x, hx⟩ : ∃ x, bndOf s dom a b = x := ⟨_, rfl⟩
    obtain ⟨y, hy⟩ : ∃ y, bndOf s dom c d = y := ⟨_, rfl⟩
    obtain ⟨p, hp⟩ : ∃ p, addOf a b = p := ⟨_, rfl⟩
    obtain ⟨q, hq⟩ : ∃ q, addOf c d = q := ⟨_, rfl⟩
    have HX := hid hx
    have HY := hid hy
    have HP := hid hp
    have HQ := hid hq
    rw [hx, hy] at bm
    rw [hx] at b0
    rw [hp, hq] at NM
    clear hx hy hp hq
    go_enter Try.func11, Try.ntmps11
    go_wp2_with fail
    refine (fbound_any dom a b WA.out WB.out H.out).mono ?_
    rintro _ w1 ⟨rfl, k1⟩
    have S1 := hid (H.out.keep k1 (fun _ _ h => h))
    have K1 := hid k1
    rw [HX.out]
    clear k1
    go_wp2_with fail
    refine (fbound_any dom c d WC.out WD.out S1.out).mono ?_
    rintro _ w2 ⟨rfl, k2⟩
    have S2 := hid (S1.out.keep k2 (fun _ _ h => h))
    have K2 := hid (K1.out.trans k2)
    rw [HY.out]
    clear k2
    go_wp2_with fail
    refine (fover_any dom a b S2.out).mono ?_
    rintro _ w3 ⟨rfl, k3⟩
    have S3 := hid (S2.out.keep k3 (fun _ _ h => h))
    have K3 := hid (K2.out.trans k3)
    rw [HP.out]
    clear k3
    obtain ⟨⟨n1, o1⟩, hn1⟩ : ∃ z, nextOf s dom p = z := ⟨_, rfl⟩
    have HN1 := hid hn1
    rw [hn1]
    clear hn1
    go_wp2_with fail
    refine (fover_any dom c d S3.out).mono ?_
    rintro _ w4 ⟨rfl, k4⟩
    have K4 := hid (K3.out.trans k4)
    rw [HQ.out]
    clear k4
    obtain ⟨⟨n2, o2⟩, hn2⟩ : ∃ z, nextOf s dom q = z := ⟨_, rfl⟩
    have HN2 := hid hn2
    rw [hn2]
    clear hn2
    go_wp2_with fail
    refine (fawake_any w4).mono ?_
    rintro _ w5 ⟨rfl, k5⟩
    have K5 := hid (K4.out.trans k5)
    clear k5
    cases o2
    · go_wp2
      go_ret
      exact ⟨rfl, K5.out.below (fun _ h => h.elim) (Nat.le_refl _)⟩
    · obtain ⟨k, e1, e2⟩ := NM.out n2 HN2.out
      rw [HN1.out] at e1
      obtain ⟨rfl, rfl⟩ : n1 = k ∧ o1 = true := by cases e1; exact ⟨rfl, rfl⟩
      clear e1
      go_wp2
      go_ret
      exact ⟨rfl, K5.out.below (fun _ h => h.elim) (Nat.le_refl _)⟩
end Go.Proofs.Ythnocalnlonniaa
