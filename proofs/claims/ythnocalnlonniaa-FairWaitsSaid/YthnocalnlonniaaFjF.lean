/- The gap is the same by both; FairShares, FairBounds. -/
import Derived.Test.YthnocalnlonniaaFjE
namespace Go.Proofs.Ythnocalnlonniaa
open Go Go.RowKit

theorem scan_skip (O : List Bool) (a : Nat) : ∀ d : Nat, (∀ j, j < d → O.getD ((a + j) % O.length) false = false) → scan O (a + d) = scan O a
  | 0, _ => rfl
  | d + 1, h => by
    rw [← Nat.add_assoc, scan_no (h d (by omega)), scan_skip O a d fun j hj => h j (by omega)]
theorem scan_mono (O : List Bool) (a : Nat) : ∀ d : Nat, (scan O a).2 ≤ (scan O (a + d)).2
  | 0 => Int.le_refl _
  | d + 1 => by
    have ih := scan_mono O a d
    rw [← Nat.add_assoc]
    cases hb : O.getD ((a + d) % O.length) false
    · rw [scan_no hb]; exact ih
    · rw [scan_yes hb]
      dsimp only
      split <;> omega

theorem st_at (s : List (Int × Int)) (dom : Int) (hc : cyc s ≠ 0) (t : Nat) : (stO s dom).getD (t % (stO s dom).length) false = true ↔ Starts s dom ((t : Int) % cyc s) := by
  have h1 := stO_len s dom
  have hb := cyc_bd s
  have hn : 0 < (stO s dom).length := by omega
  have hm := Nat.mod_lt t hn
  rw [stO_is s dom _ (by omega)]
  have : ((t % (stO s dom).length : Nat) : Int) = (t : Int) % cyc s := by rw [← h1]; rfl
  rw [this]
theorem st_no (s : List (Int × Int)) (dom : Int) (hc : cyc s ≠ 0) (t : Nat) (h : ¬ Starts s dom ((t : Int) % cyc s)) : (stO s dom).getD (t % (stO s dom).length) false = false := by
  cases hb : (stO s dom).getD (t % (stO s dom).length) false
  · rfl
  · exact absurd ((st_at s dom hc t).1 hb) h

theorem gapGo_scan (s : List (Int × Int)) (dom : Int) (hc : cyc s ≠ 0) (hex : ∃ e ∈ entsOf s, e.dom = dom) (n F : Nat) (hn : (n : Int) = cyc s) (hF : F < n) (hS : Starts s dom (((F + n : Nat) : Int) % cyc s)) :
    ∀ (f t : Nat) (m : Int), t ≤ F + n → F + n - t ≤ f → scan (stO s dom) (t + 1) = ((t : Int), m) → gapGo s dom ((F + n : Nat) : Int) f t m = (scan (stO s dom) (F + n + 1)).2
  | f, t, m, ht, hf, h => by
    have hb := cyc_bd s
    by_cases hlt : t < F + n
    · obtain ⟨f, rfl⟩ : ∃ f', f = f' + 1 := ⟨f - 1, by omega⟩
      rcases next_first s dom ((t : Int) + 1) (by omega) (by omega) with ⟨_, h0⟩ | ⟨_, k, hk, e, hs, hno⟩
      · exact absurd hex h0
      have cast : ∀ j : Nat, (((t : Int) + 1) % cyc s + j) % cyc s = ((t + 1 + j : Nat) : Int) % cyc s := fun j => by
        rw [Int.emod_add_emod]; congr 1
      rw [cast k] at hs
      have hno' : ∀ j, j < k → (stO s dom).getD ((t + 1 + j) % (stO s dom).length) false = false := fun j hj => st_no s dom hc _ (by rw [← cast j]; exact hno j hj)
      have hle : t + 1 + k ≤ F + n := by
        rcases Nat.lt_or_ge (F + n) (t + 1 + k) with hgt | hge
        · have := hno' (F + n - (t + 1)) (by omega)
          rw [show t + 1 + (F + n - (t + 1)) = F + n by omega, (st_at s dom hc (F + n)).2 hS] at this
          cases this
        · exact hge
      have hsc : scan (stO s dom) (t + 1 + k + 1) = (((t + 1 + k : Nat) : Int), max m (((t + 1 + k : Nat) : Int) - t)) := by
        rw [scan_yes ((st_at s dom hc _).2 hs), scan_skip _ _ k hno', h]
        dsimp only
        congr 1
        split <;> omega
      have e2 : (t : Int) + 1 + (k : Int) = ((t + 1 + k : Nat) : Int) := by omega
      rw [e2] at e
      rw [gapGo_step (by omega) e]
      exact gapGo_scan s dom hc hex n F hn hF hS f (t + 1 + k) _ hle (by omega) hsc
    · obtain rfl : t = F + n := by omega
      rw [gapGo_end (by omega), h]

theorem scan_round (s : List (Int × Int)) (dom : Int) (n F : Nat) (hn : (stO s dom).length = n) (hF : F < n)
    (h1 : scan (stO s dom) (F + 1) = ((F : Int), 0)) {G : Int} (h2 : scan (stO s dom) (F + n + 1) = (((F + n : Nat) : Int), G)) :
    ∀ d : Nat, F + 1 + d ≤ n → scan (stO s dom) (F + n + 1 + d) = ((n : Int) + (scan (stO s dom) (F + 1 + d)).1, G) ∧ 0 ≤ (scan (stO s dom) (F + 1 + d)).1
  | 0, _ => by
    rw [Nat.add_zero, Nat.add_zero, h2, h1]
    exact ⟨by congr 1; show ((F + n : Nat) : Int) = (n : Int) + (F : Int); omega, by show (0 : Int) ≤ (F : Int); omega⟩
  | d + 1, h => by
    obtain ⟨ih, ih2⟩ := scan_round s dom n F hn hF h1 h2 d (by omega)
    have em : (F + n + 1 + d) % (stO s dom).length = (F + 1 + d) % (stO s dom).length := by
      rw [hn, show F + n + 1 + d = F + 1 + d + n by omega, Nat.add_mod_right]
    rw [← Nat.add_assoc, ← Nat.add_assoc]
    cases hb : (stO s dom).getD ((F + 1 + d) % (stO s dom).length) false
    · rw [scan_no (by rw [em]; exact hb), scan_no hb]
      exact ⟨ih, ih2⟩
    · have hm := scan_mono (stO s dom) (F + 1 + d + 1) (n - d - 1)
      have hb' := scan_yes hb
      rw [show F + 1 + d + 1 + (n - d - 1) = F + n + 1 by omega, h2] at hm
      have hy := scan_yes (O := stO s dom) (t := F + n + 1 + d) (by rw [em]; exact hb)
      rw [ih] at hy
      rw [hb'] at hm ⊢
      rw [hy]
      dsimp only at hm ⊢
      refine ⟨?_, by omega⟩
      rw [if_neg]
      · congr 1; omega
      · rintro ⟨a, b⟩
        split at hm <;> omega

theorem gap_same (s : List (Int × Int)) (dom : Int) : rgapOf (stO s dom) = gapOf s dom := by
  have hb := cyc_bd s
  have hl := stO_len s dom
  by_cases hex : ∃ e ∈ entsOf s, e.dom = dom
  · rcases next_first s dom 0 (by omega) (by omega) with ⟨_, h0⟩ | ⟨hc, F, hF, e, hs, hno⟩
    · exact absurd hex h0
    obtain ⟨n, hn⟩ : ∃ n, (stO s dom).length = n := ⟨_, rfl⟩
    rw [hn] at hl
    have cast : ∀ j : Nat, ((0 : Int) % cyc s + j) % cyc s = (j : Int) % cyc s := fun j => by rw [Int.emod_add_emod, Int.zero_add]
    rw [cast F] at hs
    have hno' : ∀ j, j < F → (stO s dom).getD ((0 + j) % (stO s dom).length) false = false := fun j hj => st_no s dom hc _ (by rw [Nat.zero_add, ← cast j]; exact hno j hj)
    have h1 : scan (stO s dom) (F + 1) = ((F : Int), 0) := by
      have hk := scan_skip (stO s dom) 0 F hno'
      rw [Nat.zero_add] at hk
      rw [scan_yes ((st_at s dom hc F).2 hs), hk]
      rfl
    have hS : Starts s dom (((F + n : Nat) : Int) % cyc s) := by
      have : ((F + n : Nat) : Int) % cyc s = (F : Int) % cyc s := by rw [Int.natCast_add, hl, Int.add_emod_right]
      rw [this]; exact hs
    have hg := gapGo_scan s dom hc hex n F hl (by omega) hS 257 F 0 (by omega) (by omega) h1
    have e0 : (0 : Int) + (F : Int) = (F : Int) := Int.zero_add _
    have hgo : gapOf s dom = (scan (stO s dom) (F + n + 1)).2 := by
      unfold gapOf
      rw [e]
      dsimp only
      rw [if_pos rfl, e0, ← hl, ← Int.natCast_add]
      exact hg
    obtain ⟨G, hG⟩ : ∃ G, (scan (stO s dom) (F + n + 1)).2 = G := ⟨_, rfl⟩
    have h2 : scan (stO s dom) (F + n + 1) = (((F + n : Nat) : Int), G) := by
      have := scan_yes ((st_at s dom hc (F + n)).2 hS)
      rw [← hG, this]
    have hr := (scan_round s dom n F hn (by omega) h1 h2 (n - F - 1) (by omega)).1
    rw [show F + n + 1 + (n - F - 1) = 2 * n by omega] at hr
    unfold rgapOf
    rw [hn, hr, hgo, hG]
  · have h0 : gapOf s dom = 0 := by unfold gapOf; rw [next_no s dom hex 0 (by omega) (by omega)]; rfl
    have hz : scan (stO s dom) (0 + 2 * (stO s dom).length) = scan (stO s dom) 0 := scan_skip _ 0 _ fun j hj => by
      have hc : cyc s ≠ 0 := by omega
      exact st_no s dom hc _ fun ⟨e, he, _, hd⟩ => hex ⟨e, he, hd⟩
    rw [Nat.zero_add] at hz
    unfold rgapOf
    rw [hz, h0]
    rfl
theorem bnd_same (s : List (Int × Int)) (dom a b : Int) : rbndOf s dom a b = bndOf s dom a b := by unfold rbndOf bndOf; rw [gap_same]

set_option maxRecDepth 10000 in
set_option maxHeartbeats 2000000 in
theorem walk_FairShares (w : World) (v : Value) (s : List (Int × Int)) (h : SlotsR w v s) (dom : Int) (_ : (Lit.int .i64 dom).wf = true) :
    Calls Try.prog 8 #[v, .int .i64 dom] w fun en w' => en = .returned (.bool true) ∧ Below w.heap.size w w' := by
  obtain ⟨a0, c0, hv⟩ := h.form
  subst hv
  have H := hid h
  have GS := hid (gap_same s dom)
  clear h
  go_enter Try.func8, Try.ntmps8
  go_wp2_with fail
  refine (fawake_any w).mono ?_
  rintro _ w1 ⟨rfl, k1⟩
  have S1 := hid (H.out.keep k1 (fun _ _ h => h))
  have K1 := hid k1
  clear k1
  go_wp2_with fail
  refine (fshare_any dom S1.out).mono ?_
  rintro _ w2 ⟨rfl, k2⟩
  have S2 := hid (S1.out.keep k2 (fun _ _ h => h))
  have K2 := hid (K1.out.trans k2)
  clear k2
  obtain ⟨x, hx⟩ : ∃ x, shareOf s dom = x := ⟨_, rfl⟩
  have HX := hid hx
  rw [hx]
  clear hx
  go_wp2_with fail
  refine (rshare_any dom S2.out).mono ?_
  rintro _ w3 ⟨rfl, k3⟩
  have S3 := hid (S2.out.keep k3 (fun _ _ h => h))
  have K3 := hid (K2.out.trans k3)
  rw [HX.out]
  clear k3
  go_wp2_with fail
  refine (fgap_any dom S3.out).mono ?_
  rintro _ w4 ⟨rfl, k4⟩
  have S4 := hid (S3.out.keep k4 (fun _ _ h => h))
  have K4 := hid (K3.out.trans k4)
  clear k4
  obtain ⟨y, hy⟩ : ∃ y, gapOf s dom = y := ⟨_, rfl⟩
  rw [hy] at GS ⊢
  clear hy
  go_wp2_with fail
  refine (rgap_any dom S4.out).mono ?_
  rintro _ w5 ⟨rfl, k5⟩
  have K5 := hid (K4.out.trans k5)
  rw [GS.out]
  clear k5
  go_wp2
  go_ret
  exact ⟨rfl, K5.out.below (fun _ h => h.elim) (Nat.le_refl _)⟩

set_option maxRecDepth 10000 in
set_option maxHeartbeats 2000000 in
theorem walk_FairBounds (w : World) (v : Value) (s : List (Int × Int)) (h : SlotsR w v s) (dom : Int) (_ : (Lit.int .i64 dom).wf = true) (a : Int) (ha : (Lit.int .i64 a).wf = true) (b : Int) (hb : (Lit.int .i64 b).wf = true) :
    Calls Try.prog 9 #[v, .int .i64 dom, .int .i64 a, .int .i64 b] w fun en w' => en = .returned (.bool true) ∧ Below w.heap.size w w' := by
  obtain ⟨a0, c0, hv⟩ := h.form
  subst hv
  have H := hid h
  have BS := hid (bnd_same s dom a b)
  have WA := hid ha
  have WB := hid hb
  clear h ha hb
  go_enter Try.func9, Try.ntmps9
  go_wp2_with fail
  refine (fover_any dom a b H.out).mono ?_
  rintro _ w1 ⟨rfl, k1⟩
  have S1 := hid (H.out.keep k1 (fun _ _ h => h))
  have K1 := hid k1
  clear k1
  obtain ⟨p, hp⟩ : ∃ p, addOf a b = p := ⟨_, rfl⟩
  have HP := hid hp
  rw [hp]
  clear hp
  obtain ⟨⟨n1, o1⟩, hn1⟩ : ∃ z, nextOf s dom p = z := ⟨_, rfl⟩
  have HN := hid hn1
  rw [hn1]
  clear hn1
  go_wp2_with fail
  refine (radd_any a b w1).mono ?_
  rintro _ _ ⟨rfl, rfl⟩
  rw [HP.out]
  go_wp2_with fail
  refine (rnext_any dom p S1.out).mono ?_
  rintro _ w2 ⟨rfl, k2⟩
  have S2 := hid (S1.out.keep k2 (fun _ _ h => h))
  have K2 := hid (K1.out.trans k2)
  rw [HN.out]
  clear k2
  go_wp2_with fail
  refine (fawake_any w2).mono ?_
  rintro _ w3 ⟨rfl, k3⟩
  have S3 := hid (S2.out.keep k3 (fun _ _ h => h))
  have K3 := hid (K2.out.trans k3)
  clear k3
  go_wp2_with fail
  refine (fbound_any dom a b WA.out WB.out S3.out).mono ?_
  rintro _ w4 ⟨rfl, k4⟩
  have S4 := hid (S3.out.keep k4 (fun _ _ h => h))
  have K4 := hid (K3.out.trans k4)
  clear k4
  obtain ⟨y, hy⟩ : ∃ y, bndOf s dom a b = y := ⟨_, rfl⟩
  rw [hy] at BS ⊢
  clear hy
  go_wp2_with fail
  refine (rbound_any dom a b WA.out WB.out S4.out).mono ?_
  rintro _ w5 ⟨rfl, k5⟩
  have K5 := hid (K4.out.trans k5)
  rw [BS.out]
  clear k5
  go_wp2
  go_ret
  exact ⟨rfl, K5.out.below (fun _ h => h.elim) (Nat.le_refl _)⟩
end Go.Proofs.Ythnocalnlonniaa
