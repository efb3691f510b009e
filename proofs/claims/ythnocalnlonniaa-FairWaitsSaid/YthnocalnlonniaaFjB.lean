/- The walk of the gap: its value, by the program's own steps. -/
import Derived.Test.YthnocalnlonniaaTckH
import Derived.Test.YthnocalnlonniaaFjA
namespace Go.Proofs.Ythnocalnlonniaa
open Go Go.RowKit

/-- The gap, by the program's own steps. -/
def gapGo (s : List (Int × Int)) (dom lim : Int) : Nat → Int → Int → Int
  | 0, _, m => m
  | n + 1, t, m => if t < lim then gapGo s dom lim n (nextOf s dom (t + 1)).1 (max m ((nextOf s dom (t + 1)).1 - t)) else m
def gapOf (s : List (Int × Int)) (dom : Int) : Int := if (nextOf s dom 0).2 then gapGo s dom ((nextOf s dom 0).1 + cyc s) 257 (nextOf s dom 0).1 0 else 0

theorem gapGo_end {s : List (Int × Int)} {dom lim : Int} {n : Nat} {t m : Int} (h : ¬ t < lim) : gapGo s dom lim n t m = m := by
  cases n with
  | zero => rfl
  | succ n => rw [gapGo, if_neg h]
theorem gapGo_step {s : List (Int × Int)} {dom lim : Int} {n : Nat} {t m t' : Int} {b : Bool} (h : t < lim) (hn : nextOf s dom (t + 1) = (t', b)) : gapGo s dom lim (n + 1) t m = gapGo s dom lim n t' (max m (t' - t)) := by
  rw [gapGo, if_pos h, hn]

/-- From any tick on there is a slot's beginning within a cycle, if there is one at all. -/
theorem next_ok (s : List (Int × Int)) (dom : Int) (hex : ∃ e ∈ entsOf s, e.dom = dom) (t : Int) (h0 : 0 ≤ t) (h1 : t ≤ 2305843009213693952) : ∃ t', nextOf s dom t = (t', true) ∧ t ≤ t' ∧ t' < t + cyc s := by
  rcases next_first s dom t h0 h1 with ⟨_, h⟩ | ⟨_, m, hm, h, _⟩
  · exact absurd hex h
  · exact ⟨_, h, by omega, by omega⟩
theorem next_no (s : List (Int × Int)) (dom : Int) (hex : ¬ ∃ e ∈ entsOf s, e.dom = dom) (t : Int) (h0 : 0 ≤ t) (h1 : t ≤ 2305843009213693952) : nextOf s dom t = (0, false) := by
  rcases next_first s dom t h0 h1 with ⟨h, _⟩ | ⟨_, m, hm, _, ⟨e, he, _, hd⟩, _⟩
  · exact h
  · exact absurd ⟨e, he, hd⟩ hex

theorem gapGo_bd (s : List (Int × Int)) (dom lim : Int) (hex : ∃ e ∈ entsOf s, e.dom = dom) (hl : lim ≤ 1000000) : ∀ (n : Nat) (t m : Int), 0 ≤ t → 0 ≤ m → m ≤ 256 → 0 ≤ gapGo s dom lim n t m ∧ gapGo s dom lim n t m ≤ 256
  | 0, _, _, _, h1, h2 => ⟨h1, h2⟩
  | n + 1, t, m, h0, h1, h2 => by
    by_cases h : t < lim
    · obtain ⟨t', e, a, b⟩ := next_ok s dom hex (t + 1) (by omega) (by omega)
      have := cyc_bd s
      rw [gapGo_step h e]
      exact gapGo_bd s dom lim hex hl n t' _ (by omega) (by omega) (by omega)
    · rw [gapGo_end h]; exact ⟨h1, h2⟩

theorem gap_bd (s : List (Int × Int)) (dom : Int) : 0 ≤ gapOf s dom ∧ gapOf s dom ≤ 256 := by
  unfold gapOf
  have := cyc_bd s
  by_cases hex : ∃ e ∈ entsOf s, e.dom = dom
  · obtain ⟨t', e, a, b⟩ := next_ok s dom hex 0 (by omega) (by omega)
    rw [e]
    exact gapGo_bd s dom _ hex (by show t' + cyc s ≤ _; omega) _ _ _ (by omega) (by omega) (by omega)
  · rw [next_no s dom hex 0 (by omega) (by omega)]
    exact ⟨Int.le_refl _, by show (0 : Int) ≤ 256; decide⟩

set_option maxRecDepth 10000 in
set_option maxHeartbeats 2000000 in
theorem fgap_any {w : World} {v : Value} {s : List (Int × Int)} (dom : Int) (h : SlotsR w v s) :
    Calls Try.prog 25 #[v, .int .i64 dom] w fun e w' => e = .returned (.int .i64 (gapOf s dom)) ∧ Keep (fun _ => False) w w' := by
  obtain ⟨a0, c0, hv⟩ := h.form
  subst hv
  have H := hid h
  have hcb := cyc_bd s
  clear h
  by_cases hex : ∃ e ∈ entsOf s, e.dom = dom
  · obtain ⟨F, hF, f0, f1⟩ := next_ok s dom hex 0 (by omega) (by omega)
    have HF := hid hF
    have NX := hid (fun t => next_ok s dom hex t)
    have G0 : Hid (gapOf s dom = gapGo s dom (F + cyc s) 257 F 0) := hid (by unfold gapOf; rw [hF]; rfl)
    clear hF hex
    go_enter Try.func25, Try.ntmps25
    go_wp2_with fail
    refine (tnext_any dom 0 H.out).mono ?_
    rintro _ w1 ⟨rfl, B1⟩
    have k1 := keep_below B1
    have K1 := hid k1
    rw [HF.out]
    clear B1 k1
    obtain ⟨c, hc⟩ : ∃ c, cyc s = c := ⟨_, rfl⟩
    have HC := hid hc
    rw [hc] at hcb f1 G0
    clear hc
    go_wp2_with fail
    go_loopw [5, 8] (fun m t wr => ∃ (n : Nat) (M T : Int), m = .int .i64 M ∧ t = .int .i64 T ∧ 0 ≤ M ∧ M ≤ 256 ∧ F ≤ T ∧ T ≤ F + 1000 ∧ F + c - T ≤ n ∧ gapGo s dom (F + c) n T M = gapOf s dom ∧ Keep (fun _ => False) w wr) (fun _ t _ => (F + c - intOf t).toNat)
    case atStart => exact ⟨257, 0, F, rfl, rfl, Int.le_refl _, by omega, Int.le_refl _, by omega, by omega, G0.out.symm, K1.out⟩
    case round =>
      obtain ⟨n, M, T, rfl, rfl, m0, m1, t0, t1, hn, hg, hK⟩ := hrel
      have KK := hid hK
      have GG := hid hg
      have S1 := hid (H.out.keep hK (fun _ _ h => h))
      clear hK hg
      go_wp2_with fail
      refine (cycle_any S1.out).mono ?_
      rintro _ w2 ⟨rfl, B2⟩
      have k2 := keep_below B2
      have S2 := hid (S1.out.keep k2 (fun _ _ h => h))
      have K2 := hid (KK.out.trans k2)
      rw [HC.out]
      clear B2 k2
      by_cases hlt : T < F + c
      · obtain ⟨n, rfl⟩ : ∃ n', n = n' + 1 := ⟨n - 1, by omega⟩
        obtain ⟨T', e', a', b'⟩ := NX.out (T + 1) (by omega) (by omega)
        rw [HC.out] at b'
        have E' := hid e'
        have G2 := hid ((gapGo_step hlt e').symm.trans GG.out)
        clear e'
        go_wp2_with fail
        refine (tnext_any dom (T + 1) S2.out).mono ?_
        rintro _ w3 ⟨rfl, B3⟩
        have k3 := keep_below B3
        have K3 := hid (K2.out.trans k3)
        rw [E'.out]
        clear B3 k3
        rcases (by omega : T' - T ≤ M ∨ M < T' - T) with hm | hm
        · have hmx : max M (T' - T) = M := by omega
          rw [hmx] at G2
          go_wp2_with fail
          go_roundw
          case rel => exact ⟨n, M, T', rfl, rfl, m0, m1, by omega, by omega, by omega, G2.out, K3.out⟩
          case measure => simp [intOf]; omega
        · have hmx : max M (T' - T) = T' - T := by omega
          rw [hmx] at G2
          go_wp2_with fail
          go_roundw
          case rel => exact ⟨n, T' - T, T', rfl, rfl, by omega, by omega, by omega, by omega, by omega, G2.out, K3.out⟩
          case measure => simp [intOf]; omega
      · have G2 := hid ((gapGo_end (n := n) hlt).symm.trans GG.out)
        go_wp2
        go_ret
        exact ⟨by rw [← G2.out]; rfl, K2.out⟩
  · have HF := hid (next_no s dom hex 0 (by omega) (by omega))
    have G0 : Hid (gapOf s dom = 0) := hid (by unfold gapOf; rw [HF.out]; rfl)
    clear hex
    go_enter Try.func25, Try.ntmps25
    go_wp2_with fail
    refine (tnext_any dom 0 H.out).mono ?_
    rintro _ w1 ⟨rfl, B1⟩
    have k1 := keep_below B1
    have K1 := hid k1
    rw [HF.out]
    clear B1 k1
    go_wp2_with fail
    go_loopw [5, 8] (fun m t wr => m = .int .i64 0 ∧ t = .int .i64 0 ∧ Keep (fun _ => False) w wr) (fun _ t _ => 0)
    case atStart => exact ⟨rfl, rfl, K1.out⟩
    case round =>
      obtain ⟨rfl, rfl, hK⟩ := hrel
      have KK := hid hK
      clear hK
      go_wp2
      go_ret
      exact ⟨by rw [G0.out]; rfl, KK.out⟩

set_option maxHeartbeats 1000000 in
theorem fover_any {w : World} {v : Value} {s : List (Int × Int)} (dom a b : Int) (h : SlotsR w v s) :
    Calls Try.prog 27 #[v, .int .i64 dom, .int .i64 a, .int .i64 b] w fun e w' => e = .returned (.tuple #[.int .i64 (nextOf s dom (addOf a b)).1, .bool (nextOf s dom (addOf a b)).2]) ∧ Keep (fun _ => False) w w' := by
  obtain ⟨a0, c0, hv⟩ := h.form
  subst hv
  have H := hid h
  clear h
  go_enter Try.func27, Try.ntmps27
  go_wp2_with fail
  refine (tadd_any a b w).mono ?_
  rintro _ _ ⟨rfl, rfl⟩
  obtain ⟨x, hx⟩ : ∃ x, addOf a b = x := ⟨_, rfl⟩
  rw [hx]
  go_wp2_with fail
  refine (tnext_any dom x H.out).mono ?_
  rintro _ w1 ⟨rfl, B1⟩
  have K1 := hid (keep_below B1)
  clear B1
  obtain ⟨⟨p, q⟩, hpq⟩ : ∃ p, nextOf s dom x = p := ⟨_, rfl⟩
  have hpq' := hid (show nextOf s dom (addOf a b) = (p, q) by rw [hx]; exact hpq)
  rw [hpq]
  go_wp2
  go_ret2
  exact ⟨by rw [hpq'.out]; rfl, K1.out⟩

def bndOf (s : List (Int × Int)) (dom a b : Int) : Int := if gapOf s dom = 0 then 0 else prodOf a (addOf (gapOf s dom) (prodOf b (cyc s)))

theorem wf_of {x : Int} (h0 : -9223372036854775808 ≤ x) (h1 : x ≤ 9223372036854775807) : (Lit.int .i64 x).wf = true := by
  simp only [Lit.wf, Bool.and_eq_true, decide_eq_true_eq]
  exact ⟨h0, h1⟩

theorem addOf_bd (t d : Int) : 0 ≤ addOf t d ∧ addOf t d ≤ 4611686018427387904 := by
  have := heldOf_bd t
  unfold addOf
  omega

set_option maxHeartbeats 1000000 in
theorem fbound_any {w : World} {v : Value} {s : List (Int × Int)} (dom a b : Int) (ha : (Lit.int .i64 a).wf = true) (hb : (Lit.int .i64 b).wf = true) (h : SlotsR w v s) :
    Calls Try.prog 28 #[v, .int .i64 dom, .int .i64 a, .int .i64 b] w fun e w' => e = .returned (.int .i64 (bndOf s dom a b)) ∧ Keep (fun _ => False) w w' := by
  obtain ⟨a0, c0, hv⟩ := h.form
  subst hv
  have H := hid h
  have hgb := gap_bd s dom
  have hcb := cyc_bd s
  have HA := hid ha
  have HB := hid hb
  clear h ha hb
  go_enter Try.func28, Try.ntmps28
  go_wp2_with fail
  refine (fgap_any dom H.out).mono ?_
  rintro _ w1 ⟨rfl, k1⟩
  have S1 := hid (H.out.keep k1 (fun _ _ h => h))
  have K1 := hid k1
  clear k1
  have BE : Hid (bndOf s dom a b = if gapOf s dom = 0 then 0 else prodOf a (addOf (gapOf s dom) (prodOf b (cyc s)))) := hid rfl
  obtain ⟨g, hg⟩ : ∃ g, gapOf s dom = g := ⟨_, rfl⟩
  rw [hg] at hgb BE ⊢
  clear hg
  by_cases h0 : g = 0
  · subst h0
    go_wp2
    go_ret
    exact ⟨by rw [BE.out]; rfl, K1.out⟩
  · have hg0 : (g == 0) = false := by simp [h0]
    have BE2 := hid (BE.out.trans (if_neg h0))
    go_wp2_with fail
    refine (cycle_any S1.out).mono ?_
    rintro _ w2 ⟨rfl, B2⟩
    have K2 := hid (K1.out.trans (keep_below B2))
    clear B2
    obtain ⟨c, hc⟩ : ∃ c, cyc s = c := ⟨_, rfl⟩
    rw [hc] at hcb BE2 ⊢
    clear hc
    have wc := wf_of (x := c) (by omega) (by omega)
    go_wp2_with fail
    refine (ftimes_any b c HB.out wc w2).mono ?_
    rintro _ _ ⟨rfl, rfl⟩
    obtain ⟨x, hx⟩ : ∃ x, prodOf b c = x := ⟨_, rfl⟩
    rw [hx] at BE2 ⊢
    go_wp2_with fail
    refine (tadd_any g x w2).mono ?_
    rintro _ _ ⟨rfl, rfl⟩
    have yb := addOf_bd g x
    obtain ⟨y, hy⟩ : ∃ y, addOf g x = y := ⟨_, rfl⟩
    rw [hy] at BE2 yb ⊢
    have wy := wf_of (x := y) (by omega) (by omega)
    go_wp2_with fail
    refine (ftimes_any a y HA.out wy w2).mono ?_
    rintro _ _ ⟨rfl, rfl⟩
    rw [← BE2.out]
    go_wp2
    go_ret
    exact ⟨rfl, K2.out⟩
end Go.Proofs.Ythnocalnlonniaa
