/- The walks of chapter 27's reference: the gap, the products, the bound; the gap is the same. -/
import Derived.Test.YthnocalnlonniaaFjD
namespace Go.Proofs.Ythnocalnlonniaa
open Go Go.RowKit

/-- The last beginning before a tick, and the most between two. -/
def scan (O : List Bool) : Nat → Int × Int
  | 0 => (-1, 0)
  | t + 1 => if O.getD (t % O.length) false = true then ((t : Int), if (scan O t).1 ≥ 0 ∧ (t : Int) - (scan O t).1 > (scan O t).2 then (t : Int) - (scan O t).1 else (scan O t).2) else scan O t
def rgapOf (O : List Bool) : Int := (scan O (2 * O.length)).2

theorem scan_no {O : List Bool} {t : Nat} (h : O.getD (t % O.length) false = false) : scan O (t + 1) = scan O t := by rw [scan, if_neg (by rw [h]; decide)]
theorem scan_yes {O : List Bool} {t : Nat} (h : O.getD (t % O.length) false = true) : scan O (t + 1) = ((t : Int), if (scan O t).1 ≥ 0 ∧ (t : Int) - (scan O t).1 > (scan O t).2 then (t : Int) - (scan O t).1 else (scan O t).2) := by rw [scan, if_pos h]
theorem scan_bd (O : List Bool) : ∀ t : Nat, -1 ≤ (scan O t).1 ∧ (scan O t).1 ≤ t ∧ 0 ≤ (scan O t).2 ∧ (scan O t).2 ≤ t
  | 0 => ⟨by show (-1 : Int) ≤ -1; decide, by show (-1 : Int) ≤ 0; decide, by show (0 : Int) ≤ 0; decide, by show (0 : Int) ≤ 0; decide⟩
  | t + 1 => by
    have ih := scan_bd O t
    cases hb : O.getD (t % O.length) false
    · rw [scan_no hb]; omega
    · rw [scan_yes hb]
      dsimp only
      split <;> omega

theorem OwnB.at {w : World} {v : Value} {l : List Bool} (h : OwnB w v l) {n : Nat} (hn : l.length = n) (hp : 0 < n) : ∃ g c, v = .slice (some ⟨g, 0, none⟩) n c ∧ n ≤ maxLen ∧ ∀ i, i < n → w.cell? ⟨g, i, none⟩ = some (.bool (l.getD i false)) := by
  subst hn
  obtain ⟨g, c, h1, _, _, h2, h3⟩ := h.cells hp
  exact ⟨g, c, h1, h2, h3⟩

set_option maxHeartbeats 4000000 in
theorem rgap_any {w : World} {v : Value} {s : List (Int × Int)} (dom : Int) (h : SlotsR w v s) :
    Calls Try.prog 26 #[v, .int .i64 dom] w fun e w' => e = .returned (.int .i64 (rgapOf (stO s dom))) ∧ Keep (fun _ => False) w w' := by
  obtain ⟨a0, c0, hv⟩ := h.form
  subst hv
  have H := hid h
  have hcb := cyc_bd s
  have hsl := stO_len s dom
  clear h
  go_enter Try.func26, Try.ntmps26
  go_wp2_with fail
  refine (starts_any dom H.out).mono ?_
  rintro _ w1 ⟨a, c, rfl, hO, k1⟩
  obtain ⟨O, hOO⟩ : ∃ O, stO s dom = O := ⟨_, rfl⟩
  rw [hOO] at hO hsl ⊢
  have O1 := hid hO
  have HOO := hid hOO
  have K1 := hid k1
  have RG : Hid (rgapOf O = (scan O (2 * O.length)).2) := hid rfl
  obtain ⟨n, hn⟩ : ∃ n, O.length = n := ⟨_, rfl⟩
  have HN := hid hn
  have SN := hid (fun t => scan_no (O := O) (t := t))
  have SY := hid (fun t => scan_yes (O := O) (t := t))
  have SB := hid (scan_bd O)
  rw [hn] at hsl RG SN SY O1 ⊢
  have n1 : n ≤ 256 := by omega
  clear hO k1 hOO hn hsl hcb
  go_wp2_with fail
  go_loopw [7, 8, 9] (fun la mo t wr => ∃ k : Nat, k ≤ 2 * n ∧ t = .int .i64 k ∧ la = .int .i64 (scan O k).1 ∧ mo = .int .i64 (scan O k).2 ∧ Keep (fun _ => False) w1 wr) (fun _ _ t _ => 2 * n - (intOf t).toNat)
  case atStart => exact ⟨0, Nat.zero_le _, rfl, rfl, rfl, Keep.refl _ _⟩
  case round =>
    obtain ⟨k, hk, rfl, rfl, rfl, hK⟩ := hrel
    have KK := hid hK
    clear hK
    have sb := SB.out k
    obtain ⟨⟨la, mo⟩, hs⟩ : ∃ z, scan O k = z := ⟨_, rfl⟩
    have HSc := hid hs
    rw [hs] at sb ⊢
    dsimp only at sb ⊢
    have m2 : IntKind.i64.wrap (2 * (n : Int)) = 2 * (n : Int) := IntWalk.i64_in _ ⟨by omega, by omega⟩
    by_cases hlt : k < 2 * n
    · have hlt' : (k : Int) < 2 * (n : Int) := by omega
      obtain ⟨r, hr⟩ : ∃ r, k % n = r := ⟨_, rfl⟩
      have hrn : r < n := by rw [← hr]; exact Nat.mod_lt _ (by omega)
      have hrm : (k : Int).tmod (n : Int) = (r : Int) := by rw [Int.tmod_eq_emod_of_nonneg (by omega), ← hr]; rfl
      have hn0 : ((n : Int) == 0) = false := by simp; omega
      obtain ⟨g, c1, hv1, hmx, hcl⟩ := O1.out.at HN.out (by omega)
      simp only [Value.slice.injEq] at hv1
      obtain ⟨rfl, -, rfl⟩ := hv1
      have kc0 := hcl r hrn
      have kc := (KK.out.cell (p := ⟨g, r, none⟩) (World.block_lt_of_cell? _ _ kc0) (fun h => h)).trans kc0
      obtain ⟨B, hB⟩ : ∃ B, O.getD r false = B := ⟨_, rfl⟩
      rw [hB] at kc
      have HR := hid hr
      have hr1 : (r : Int) < (n : Int) := by omega
      unfold maxLen at hmx
      cases B
      · have E := hid (SN.out k (by rw [hr]; exact hB))
        clear hcl kc0 hs hB hr
        go_wp2_with fail
        go_roundw
        case rel => exact ⟨k + 1, by omega, by go_num, by rw [E.out, HSc.out], by rw [E.out, HSc.out], KK.out⟩
        case measure => simp [intOf]; omega
      · have e := SY.out k (by rw [hr]; exact hB)
        rw [hs] at e
        dsimp only at e
        clear hcl kc0 hs hB hr
        rcases (by omega : (0 ≤ la ∧ mo < (k : Int) - la) ∨ (0 ≤ la ∧ ¬ mo < (k : Int) - la) ∨ ¬ 0 ≤ la) with ⟨h1, h2⟩ | ⟨h1, h2⟩ | h1
        · rw [if_pos ⟨h1, h2⟩] at e
          have E := hid e
          clear e
          go_wp2_with fail
          go_roundw
          case rel => exact ⟨k + 1, by omega, by go_num, by rw [E.out], by rw [E.out], KK.out⟩
          case measure => simp [intOf]; omega
        · rw [if_neg fun h => h2 h.2] at e
          have E := hid e
          clear e
          go_wp2_with fail
          go_roundw
          case rel => exact ⟨k + 1, by omega, by go_num, by rw [E.out], by rw [E.out], KK.out⟩
          case measure => simp [intOf]; omega
        · rw [if_neg fun h => h1 h.1] at e
          have E := hid e
          clear e
          go_wp2_with fail
          go_roundw
          case rel => exact ⟨k + 1, by omega, by go_num, by rw [E.out], by rw [E.out], KK.out⟩
          case measure => simp [intOf]; omega
    · obtain rfl : k = 2 * n := by omega
      have hlt' : ¬ (((2 * n : Nat) : Int) < 2 * (n : Int)) := by omega
      have E := hid (RG.out.trans (congrArg Prod.snd HSc.out))
      clear hs
      go_wp2
      go_ret
      exact ⟨by rw [HOO.out, E.out]; rfl, K1.out.trans KK.out⟩

set_option maxHeartbeats 1000000 in
theorem rtimes_any (a b : Int) (ha : (Lit.int .i64 a).wf = true) (hb : (Lit.int .i64 b).wf = true) (w : World) :
    Calls Try.prog 36 #[.int .i64 a, .int .i64 b] w fun e w' => e = .returned (.int .i64 (prodOf a b)) ∧ w = w' := by
  by_cases h1 : a ≤ 0
  · have e := hid (show prodOf a b = 0 by unfold prodOf; rw [if_pos (.inl h1)])
    clear ha hb
    go_enter Try.func36, Try.ntmps36
    go_wp2
    go_ret
    exact ⟨by rw [e.out]; rfl, rfl⟩
  by_cases h2 : b ≤ 0
  · have e := hid (show prodOf a b = 0 by unfold prodOf; rw [if_pos (.inr h2)])
    clear ha hb
    go_enter Try.func36, Try.ntmps36
    go_wp2
    go_ret
    exact ⟨by rw [e.out]; rfl, rfl⟩
  have e0 : prodOf a b = if a * b > 4611686018427387904 then 4611686018427387904 else a * b := by unfold prodOf; rw [if_neg (by omega)]
  have hq : (4611686018427387904 : Int).tdiv b = 4611686018427387904 / b := Int.tdiv_eq_ediv_of_nonneg (by decide)
  have hiff : 4611686018427387904 / b < a ↔ a * b > 4611686018427387904 := by
    rw [Int.ediv_lt_iff_lt_mul (by omega)]
  have hq0 : 0 ≤ (4611686018427387904 : Int) / b := Int.ediv_nonneg (by decide) (by omega)
  have hq1 : (4611686018427387904 : Int) / b ≤ 4611686018427387904 := Int.ediv_le_self _ (by decide)
  have hp0 : 0 ≤ a * b := Int.le_of_lt (Int.mul_pos (by omega) (by omega))
  obtain ⟨q, hqq⟩ : ∃ q, (4611686018427387904 : Int) / b = q := ⟨_, rfl⟩
  rw [hqq] at hq hiff hq0 hq1
  obtain ⟨p, hpp⟩ : ∃ p, a * b = p := ⟨_, rfl⟩
  rw [hpp] at e0 hiff hp0
  have PP := hid hpp
  have hb0 : (b == 0) = false := by simp; omega
  have wq : IntKind.i64.wrap q = q := IntWalk.i64_in _ ⟨by omega, by omega⟩
  clear ha hb hqq
  by_cases h3 : q < a
  · rw [if_pos (hiff.1 h3)] at e0
    have e := hid e0
    clear e0 hiff hpp
    go_enter Try.func36, Try.ntmps36
    go_wp2
    go_ret
    exact ⟨by rw [e.out]; rfl, rfl⟩
  · have h4 : ¬ p > 4611686018427387904 := fun h => h3 (hiff.2 h)
    rw [if_neg h4] at e0
    have e := hid e0
    have wp : IntKind.i64.wrap (a * b) = p := by rw [hpp]; exact IntWalk.i64_in _ ⟨by omega, by omega⟩
    clear e0 hiff hpp
    go_enter Try.func36, Try.ntmps36
    go_wp2
    go_ret
    exact ⟨by rw [e.out]; rfl, rfl⟩

def rbndOf (s : List (Int × Int)) (dom a b : Int) : Int := if rgapOf (stO s dom) = 0 then 0 else prodOf a (addOf (rgapOf (stO s dom)) (prodOf b (cyc s)))

theorem rgap_bd (s : List (Int × Int)) (dom : Int) : 0 ≤ rgapOf (stO s dom) ∧ rgapOf (stO s dom) ≤ 512 := by
  have h1 := scan_bd (stO s dom) (2 * (stO s dom).length)
  have h2 := stO_len s dom
  have h3 := cyc_bd s
  unfold rgapOf
  omega

set_option maxHeartbeats 1000000 in
theorem rbound_any {w : World} {v : Value} {s : List (Int × Int)} (dom a b : Int) (ha : (Lit.int .i64 a).wf = true) (hb : (Lit.int .i64 b).wf = true) (h : SlotsR w v s) :
    Calls Try.prog 29 #[v, .int .i64 dom, .int .i64 a, .int .i64 b] w fun e w' => e = .returned (.int .i64 (rbndOf s dom a b)) ∧ Keep (fun _ => False) w w' := by
  obtain ⟨a0, c0, hv⟩ := h.form
  subst hv
  have H := hid h
  have hgb := rgap_bd s dom
  have hcb := cyc_bd s
  have HA := hid ha
  have HB := hid hb
  clear h ha hb
  go_enter Try.func29, Try.ntmps29
  go_wp2_with fail
  refine (rgap_any dom H.out).mono ?_
  rintro _ w1 ⟨rfl, k1⟩
  have S1 := hid (H.out.keep k1 (fun _ _ h => h))
  have K1 := hid k1
  clear k1
  have BE : Hid (rbndOf s dom a b = if rgapOf (stO s dom) = 0 then 0 else prodOf a (addOf (rgapOf (stO s dom)) (prodOf b (cyc s)))) := hid rfl
  obtain ⟨g, hg⟩ : ∃ g, rgapOf (stO s dom) = g := ⟨_, rfl⟩
  rw [hg] at hgb BE ⊢
  clear hg
  by_cases h0 : g = 0
  · subst h0
    go_wp2
    go_ret
    exact ⟨by rw [BE.out]; rfl, K1.out⟩
  · have hg0 : (g == 0) = false := by simp [h0]
    have BE2 := hid (BE.out.trans (if_neg h0))
    go_wp2_with fail
    refine (rcycle_any S1.out).mono ?_
    rintro _ w2 ⟨rfl, B2⟩
    have K2 := hid (K1.out.trans B2)
    clear B2
    obtain ⟨c, hc⟩ : ∃ c, cyc s = c := ⟨_, rfl⟩
    rw [hc] at hcb BE2 ⊢
    clear hc
    have wc := wf_of (x := c) (by omega) (by omega)
    go_wp2_with fail
    refine (rtimes_any b c HB.out wc w2).mono ?_
    rintro _ _ ⟨rfl, rfl⟩
    obtain ⟨x, hx⟩ : ∃ x, prodOf b c = x := ⟨_, rfl⟩
    rw [hx] at BE2 ⊢
    go_wp2_with fail
    refine (radd_any g x w2).mono ?_
    rintro _ _ ⟨rfl, rfl⟩
    have yb := addOf_bd g x
    obtain ⟨y, hy⟩ : ∃ y, addOf g x = y := ⟨_, rfl⟩
    rw [hy] at BE2 yb ⊢
    have wy := wf_of (x := y) (by omega) (by omega)
    go_wp2_with fail
    refine (rtimes_any a y HA.out wy w2).mono ?_
    rintro _ _ ⟨rfl, rfl⟩
    rw [← BE2.out]
    go_wp2
    go_ret
    exact ⟨rfl, K2.out⟩
end Go.Proofs.Ythnocalnlonniaa
