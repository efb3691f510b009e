/- How many bytes the rune has that a text begins with: the walk of Wide. -/
import Derived.Test.YtknlhbbkjgkjpaaLexI
import Derived.Lib.DecodeNEq
namespace Go.Proofs.Ytknlhbbkjgkjpaa
open Go Go.RowKit
open Go.Lib (decodeN slowN)

def wideL (l : By) : Nat := if l = [] then 0 else if (decodeL' l).1 = 65533 ∧ (decodeL' l).2 = 1 then 0 else (decodeL' l).2
def loK (lo j : Nat) : Nat := if j = 1 then lo else 128
def hiK (hi j : Nat) : Nat := if j = 1 then hi else 191
theorem wide_no {l : By} {sz lo hi : Nat} (hl : l ≠ []) (hs : slowN l.length (gu l 0) (gu l 1) (gu l 2) (gu l 3) sz lo hi = decodeN l.length (gu l 0) (gu l 1) (gu l 2) (gu l 3)) (h4 : sz ≤ 4)
    (h : l.length < sz ∨ ∃ j, 1 ≤ j ∧ j < sz ∧ (gu l j < loK lo j ∨ hiK hi j < gu l j)) : wideL l = 0 := by
  have e : decodeL' l = (65533, 1) := by
    rw [dn, ← hs]
    unfold slowN
    rcases h with h | ⟨j, h1, h2, h3⟩
    · rw [if_pos h]
    · by_cases c0 : l.length < sz
      · rw [if_pos c0]
      · rw [if_neg c0]
        have hj : j = 1 ∨ j = 2 ∨ j = 3 := by omega
        rcases hj with rfl | rfl | rfl
        · rw [if_pos (by simpa [loK, hiK] using h3)]
        · split
          · rfl
          · rw [if_neg (by omega), if_pos (by simpa [loK, hiK] using h3)]
        · split
          · rfl
          · rw [if_neg (by omega)]
            split
            · rfl
            · rw [if_neg (by omega), if_pos (by simpa [loK, hiK] using h3)]
  unfold wideL
  rw [if_neg hl, e, if_pos ⟨rfl, rfl⟩]
theorem wide_yes {l : By} {sz lo hi : Nat} (hl : l ≠ []) (hs : slowN l.length (gu l 0) (gu l 1) (gu l 2) (gu l 3) sz lo hi = decodeN l.length (gu l 0) (gu l 1) (gu l 2) (gu l 3)) (h2 : 2 ≤ sz) (h4 : sz ≤ 4)
    (hn : sz ≤ l.length) (h : ∀ j, 1 ≤ j → j < sz → loK lo j ≤ gu l j ∧ gu l j ≤ hiK hi j) : wideL l = sz := by
  have e : (decodeL' l).2 = sz := by
    rw [dn, ← hs]
    unfold slowN
    have k1 := h 1 (by omega) (by omega)
    simp only [loK, hiK, if_pos] at k1
    rw [if_neg (by omega), if_neg (by omega)]
    by_cases c2 : sz ≤ 2
    · rw [if_pos c2]; dsimp only; omega
    · rw [if_neg c2]
      have k2 := h 2 (by omega) (by omega)
      simp [loK, hiK] at k2
      rw [if_neg (by omega)]
      by_cases c3 : sz ≤ 3
      · rw [if_pos c3]; dsimp only; omega
      · rw [if_neg c3]
        have k3 := h 3 (by omega) (by omega)
        simp [loK, hiK] at k3
        rw [if_neg (by omega)]
        dsimp only; omega
  unfold wideL
  rw [if_neg hl, e, if_neg (by omega)]
theorem wide_ascii {l : By} (hl : l ≠ []) (h : gu l 0 < 128) : wideL l = 1 := by
  have e : decodeL' l = (gu l 0, 1) := by rw [dn]; simp [decodeN, h]
  unfold wideL
  rw [if_neg hl, e, if_neg (by simp; omega)]
theorem wide_bad {l : By} (hl : l ≠ []) (h : (128 ≤ gu l 0 ∧ gu l 0 < 194) ∨ 244 < gu l 0) : wideL l = 0 := by
  have e : decodeL' l = (65533, 1) := by
    rw [dn]
    have h0 := gu_lt l 0
    refine Go.Lib.bad_eq _ _ _ _ _ h0 ?_
    unfold Go.Lib.firstT
    repeat' split
    all_goals omega
  unfold wideL
  rw [if_neg hl, e, if_pos ⟨rfl, rfl⟩]

set_option maxRecDepth 10000 in
set_option maxHeartbeats 2000000 in
theorem wide_any (l : By) (hl : l.length ≤ 140737488351232) (w : World) :
    Calls Try.prog 16 #[.string (bs l)] w fun e w' => e = .returned (.int .i64 (wideL l : Int)) ∧ w = w' := by
  have bl := bs_size l
  by_cases hn : l = []
  · subst hn
    go_enter Try.func16, Try.ntmps16
    go_wp2_with fail
    go_ret
    exact ⟨rfl, rfl⟩
  have h0 : 0 < l.length := List.length_pos_iff.2 hn
  have h0' : ((l.length : Int) == 0) = false := by simp; omega
  have SI0 : ∀ h, ((bs l)[0]'h).toNat = gu l 0 := fun h => bs_get l 0 h
  have g1 := gu_lt l 1
  have g2 := gu_lt l 2
  have g3 := gu_lt l 3
  have g0 := gu_lt l 0
  have ca : gu l 0 < 128 ∨ ((128 ≤ gu l 0 ∧ gu l 0 < 194) ∨ 244 < gu l 0) ∨ (194 ≤ gu l 0 ∧ gu l 0 < 224) ∨ gu l 0 = 224 ∨ (225 ≤ gu l 0 ∧ gu l 0 < 237) ∨ (238 ≤ gu l 0 ∧ gu l 0 < 240) ∨ gu l 0 = 237 ∨ gu l 0 = 240 ∨ (241 ≤ gu l 0 ∧ gu l 0 < 244) ∨ gu l 0 = 244 := by omega
  rcases ca with hb | hb | hb | hb | hb | hb | hb | hb | hb | hb
  · have W := hid (wide_ascii hn hb)
    obtain ⟨a, ha⟩ : ∃ a, gu l 0 = a := ⟨_, rfl⟩
    rw [ha] at hb
    simp only [ha] at SI0
    have hb' : (a : Int) < 128 := by omega
    clear ha g0 g1 g2 g3 hn
    go_enter Try.func16, Try.ntmps16
    go_wp2_with fail
    go_ret
    exact ⟨by rw [W.out]; rfl, rfl⟩
  · have W := hid (wide_bad hn hb)
    obtain ⟨a, ha⟩ : ∃ a, gu l 0 = a := ⟨_, rfl⟩
    rw [ha] at hb g0
    simp only [ha] at SI0
    clear ha g1 g2 g3 hn
    rcases hb with ⟨hb1, hb2⟩ | hb1
    all_goals
      go_enter Try.func16, Try.ntmps16
      go_wp2_with fail
      go_ret
      exact ⟨by rw [W.out]; rfl, rfl⟩
  · have hs := Go.Lib.slow_C2 l.length (gu l 0) (gu l 1) (gu l 2) (gu l 3) (by omega) g1 g2 g3 hb
    have W0 := hid (fun h => wide_no (sz := 2) (lo := 128) (hi := 191) hn hs (by decide) h)
    have W1 := hid (fun h h' => wide_yes (sz := 2) (lo := 128) (hi := 191) hn hs (by decide) (by decide) h h')
    obtain ⟨a, ha⟩ : ∃ a, gu l 0 = a := ⟨_, rfl⟩
    rw [ha] at hb
    simp only [ha] at SI0
    clear ha g0 g1 g2 g3 hs hn
    obtain ⟨hb1, hb2⟩ := hb
    by_cases hsz : l.length < 2
    · have W := hid (W0.out (.inl hsz))
      have hszi : (l.length : Int) < 2 := by omega
      clear W0 W1 hsz
      go_enter Try.func16, Try.ntmps16
      go_wp2_with fail
      go_ret
      exact ⟨by rw [W.out]; rfl, rfl⟩
    · have hszi : ¬ (l.length : Int) < 2 := by omega
      go_enter Try.func16, Try.ntmps16
      go_wp2_with fail
      go_loopw [5, 6, 7] (fun x y i wr => ∃ k : Nat, 1 ≤ k ∧ k ≤ 2 ∧ i = .int .i64 k ∧ x = .int .i64 (loK 128 k : Int) ∧ y = .int .i64 (hiK 191 k : Int) ∧ (∀ j, 1 ≤ j → j < k → loK 128 j ≤ gu l j ∧ gu l j ≤ hiK 191 j) ∧ w = wr) (fun _ _ i _ => 2 - (intOf i).toNat)
      case atStart => exact ⟨1, by omega, by omega, rfl, rfl, rfl, fun j h1 h2 => absurd h2 (by omega), by first | trivial | rfl⟩
      case round =>
        obtain ⟨k, hk1, hk, rfl, rfl, rfl, hno, rfl⟩ := hrel
        by_cases hlt : k < 2
        · have hlti : (k : Int) < 2 := by omega
          have hkl : (k : Int) < (l.length : Int) := by omega
          have SI : ∀ h, ((bs l)[k]'h).toNat = gu l k := fun h => bs_get l k h
          have NO := hid hno
          obtain ⟨x, hx⟩ : ∃ x, gu l k = x := ⟨_, rfl⟩
          have HX := hid hx
          simp only [hx] at SI
          have gx : x < 256 := by rw [← hx]; exact gu_lt l k
          obtain ⟨lo, hlo⟩ : ∃ x, loK 128 k = x := ⟨_, rfl⟩
          obtain ⟨hi, hhi⟩ : ∃ x, hiK 191 k = x := ⟨_, rfl⟩
          have HLO := hid hlo
          have HHI := hid hhi
          rw [hlo, hhi]
          have l2 : Hid (loK 128 (k + 1) = 128) := hid (by unfold loK; rw [if_neg (by omega)])
          have h2 : Hid (hiK 191 (k + 1) = 191) := hid (by unfold hiK; rw [if_neg (by omega)])
          clear hno hx hlo hhi
          by_cases c1 : x < lo
          · have c1i : (x : Int) < (lo : Int) := by omega
            have W := hid (W0.out (.inr ⟨k, hk1, hlt, .inl (by rw [HX.out, HLO.out]; exact c1)⟩))
            clear W0 W1 c1
            go_wp2_with fail
            go_ret
            exact ⟨by rw [W.out]; rfl, rfl⟩
          · have c1i : ¬ (x : Int) < (lo : Int) := by omega
            by_cases c2 : hi < x
            · have c2i : (x : Int) > (hi : Int) := by omega
              have W := hid (W0.out (.inr ⟨k, hk1, hlt, .inr (by rw [HX.out, HHI.out]; exact c2)⟩))
              clear W0 W1 c1 c2
              go_wp2_with fail
              go_ret
              exact ⟨by rw [W.out]; rfl, rfl⟩
            · have c2i : ¬ (x : Int) > (hi : Int) := by omega
              have NO2 : Hid (∀ j, 1 ≤ j → j < k + 1 → loK 128 j ≤ gu l j ∧ gu l j ≤ hiK 191 j) := hid (fun j h1 h2 => by
                by_cases e : j = k
                · subst e; rw [HX.out, HLO.out, HHI.out]; omega
                · exact NO.out j h1 (by omega))
              clear W0 W1 c1 c2 NO
              go_wp2_with fail
              go_roundw
              case rel => exact ⟨k + 1, by omega, by omega, by go_num, by rw [l2.out]; rfl, by rw [h2.out]; rfl, NO2.out, by first | trivial | rfl⟩
              case measure => simp [intOf]; omega
        · obtain rfl : k = 2 := by omega
          have W := hid (W1.out (by omega) hno)
          have hlti : ¬ ((2 : Nat) : Int) < 2 := by omega
          clear W0 W1 hno hlt hk
          go_wp2_with fail
          go_ret
          exact ⟨by rw [W.out]; rfl, rfl⟩
  · have hs := Go.Lib.slow_E0 l.length (gu l 0) (gu l 1) (gu l 2) (gu l 3) (by omega) g1 g2 g3 hb
    have W0 := hid (fun h => wide_no (sz := 3) (lo := 160) (hi := 191) hn hs (by decide) h)
    have W1 := hid (fun h h' => wide_yes (sz := 3) (lo := 160) (hi := 191) hn hs (by decide) (by decide) h h')
    obtain ⟨a, ha⟩ : ∃ a, gu l 0 = a := ⟨_, rfl⟩
    rw [ha] at hb
    simp only [ha] at SI0
    clear ha g0 g1 g2 g3 hs hn
    skip
    by_cases hsz : l.length < 3
    · have W := hid (W0.out (.inl hsz))
      have hszi : (l.length : Int) < 3 := by omega
      clear W0 W1 hsz
      go_enter Try.func16, Try.ntmps16
      go_wp2_with fail
      go_ret
      exact ⟨by rw [W.out]; rfl, rfl⟩
    · have hszi : ¬ (l.length : Int) < 3 := by omega
      go_enter Try.func16, Try.ntmps16
      go_wp2_with fail
      go_loopw [5, 6, 7] (fun x y i wr => ∃ k : Nat, 1 ≤ k ∧ k ≤ 3 ∧ i = .int .i64 k ∧ x = .int .i64 (loK 160 k : Int) ∧ y = .int .i64 (hiK 191 k : Int) ∧ (∀ j, 1 ≤ j → j < k → loK 160 j ≤ gu l j ∧ gu l j ≤ hiK 191 j) ∧ w = wr) (fun _ _ i _ => 3 - (intOf i).toNat)
      case atStart => exact ⟨1, by omega, by omega, rfl, rfl, rfl, fun j h1 h2 => absurd h2 (by omega), by first | trivial | rfl⟩
      case round =>
        obtain ⟨k, hk1, hk, rfl, rfl, rfl, hno, rfl⟩ := hrel
        by_cases hlt : k < 3
        · have hlti : (k : Int) < 3 := by omega
          have hkl : (k : Int) < (l.length : Int) := by omega
          have SI : ∀ h, ((bs l)[k]'h).toNat = gu l k := fun h => bs_get l k h
          have NO := hid hno
          obtain ⟨x, hx⟩ : ∃ x, gu l k = x := ⟨_, rfl⟩
          have HX := hid hx
          simp only [hx] at SI
          have gx : x < 256 := by rw [← hx]; exact gu_lt l k
          obtain ⟨lo, hlo⟩ : ∃ x, loK 160 k = x := ⟨_, rfl⟩
          obtain ⟨hi, hhi⟩ : ∃ x, hiK 191 k = x := ⟨_, rfl⟩
          have HLO := hid hlo
          have HHI := hid hhi
          rw [hlo, hhi]
          have l2 : Hid (loK 160 (k + 1) = 128) := hid (by unfold loK; rw [if_neg (by omega)])
          have h2 : Hid (hiK 191 (k + 1) = 191) := hid (by unfold hiK; rw [if_neg (by omega)])
          clear hno hx hlo hhi
          by_cases c1 : x < lo
          · have c1i : (x : Int) < (lo : Int) := by omega
            have W := hid (W0.out (.inr ⟨k, hk1, hlt, .inl (by rw [HX.out, HLO.out]; exact c1)⟩))
            clear W0 W1 c1
            go_wp2_with fail
            go_ret
            exact ⟨by rw [W.out]; rfl, rfl⟩
          · have c1i : ¬ (x : Int) < (lo : Int) := by omega
            by_cases c2 : hi < x
            · have c2i : (x : Int) > (hi : Int) := by omega
              have W := hid (W0.out (.inr ⟨k, hk1, hlt, .inr (by rw [HX.out, HHI.out]; exact c2)⟩))
              clear W0 W1 c1 c2
              go_wp2_with fail
              go_ret
              exact ⟨by rw [W.out]; rfl, rfl⟩
            · have c2i : ¬ (x : Int) > (hi : Int) := by omega
              have NO2 : Hid (∀ j, 1 ≤ j → j < k + 1 → loK 160 j ≤ gu l j ∧ gu l j ≤ hiK 191 j) := hid (fun j h1 h2 => by
                by_cases e : j = k
                · subst e; rw [HX.out, HLO.out, HHI.out]; omega
                · exact NO.out j h1 (by omega))
              clear W0 W1 c1 c2 NO
              go_wp2_with fail
              go_roundw
              case rel => exact ⟨k + 1, by omega, by omega, by go_num, by rw [l2.out]; rfl, by rw [h2.out]; rfl, NO2.out, by first | trivial | rfl⟩
              case measure => simp [intOf]; omega
        · obtain rfl : k = 3 := by omega
          have W := hid (W1.out (by omega) hno)
          have hlti : ¬ ((3 : Nat) : Int) < 3 := by omega
          clear W0 W1 hno hlt hk
          go_wp2_with fail
          go_ret
          exact ⟨by rw [W.out]; rfl, rfl⟩
  · have hs := Go.Lib.slow_E1 l.length (gu l 0) (gu l 1) (gu l 2) (gu l 3) (by omega) g1 g2 g3 (.inl hb)
    have W0 := hid (fun h => wide_no (sz := 3) (lo := 128) (hi := 191) hn hs (by decide) h)
    have W1 := hid (fun h h' => wide_yes (sz := 3) (lo := 128) (hi := 191) hn hs (by decide) (by decide) h h')
    obtain ⟨a, ha⟩ : ∃ a, gu l 0 = a := ⟨_, rfl⟩
    rw [ha] at hb
    simp only [ha] at SI0
    clear ha g0 g1 g2 g3 hs hn
    obtain ⟨hb1, hb2⟩ := hb
    by_cases hsz : l.length < 3
    · have W := hid (W0.out (.inl hsz))
      have hszi : (l.length : Int) < 3 := by omega
      clear W0 W1 hsz
      go_enter Try.func16, Try.ntmps16
      go_wp2_with fail
      go_ret
      exact ⟨by rw [W.out]; rfl, rfl⟩
    · have hszi : ¬ (l.length : Int) < 3 := by omega
      go_enter Try.func16, Try.ntmps16
      go_wp2_with fail
      go_loopw [5, 6, 7] (fun x y i wr => ∃ k : Nat, 1 ≤ k ∧ k ≤ 3 ∧ i = .int .i64 k ∧ x = .int .i64 (loK 128 k : Int) ∧ y = .int .i64 (hiK 191 k : Int) ∧ (∀ j, 1 ≤ j → j < k → loK 128 j ≤ gu l j ∧ gu l j ≤ hiK 191 j) ∧ w = wr) (fun _ _ i _ => 3 - (intOf i).toNat)
      case atStart => exact ⟨1, by omega, by omega, rfl, rfl, rfl, fun j h1 h2 => absurd h2 (by omega), by first | trivial | rfl⟩
      case round =>
        obtain ⟨k, hk1, hk, rfl, rfl, rfl, hno, rfl⟩ := hrel
        by_cases hlt : k < 3
        · have hlti : (k : Int) < 3 := by omega
          have hkl : (k : Int) < (l.length : Int) := by omega
          have SI : ∀ h, ((bs l)[k]'h).toNat = gu l k := fun h => bs_get l k h
          have NO := hid hno
          obtain ⟨x, hx⟩ : ∃ x, gu l k = x := ⟨_, rfl⟩
          have HX := hid hx
          simp only [hx] at SI
          have gx : x < 256 := by rw [← hx]; exact gu_lt l k
          obtain ⟨lo, hlo⟩ : ∃ x, loK 128 k = x := ⟨_, rfl⟩
          obtain ⟨hi, hhi⟩ : ∃ x, hiK 191 k = x := ⟨_, rfl⟩
          have HLO := hid hlo
          have HHI := hid hhi
          rw [hlo, hhi]
          have l2 : Hid (loK 128 (k + 1) = 128) := hid (by unfold loK; rw [if_neg (by omega)])
          have h2 : Hid (hiK 191 (k + 1) = 191) := hid (by unfold hiK; rw [if_neg (by omega)])
          clear hno hx hlo hhi
          by_cases c1 : x < lo
          · have c1i : (x : Int) < (lo : Int) := by omega
            have W := hid (W0.out (.inr ⟨k, hk1, hlt, .inl (by rw [HX.out, HLO.out]; exact c1)⟩))
            clear W0 W1 c1
            go_wp2_with fail
            go_ret
            exact ⟨by rw [W.out]; rfl, rfl⟩
          · have c1i : ¬ (x : Int) < (lo : Int) := by omega
            by_cases c2 : hi < x
            · have c2i : (x : Int) > (hi : Int) := by omega
              have W := hid (W0.out (.inr ⟨k, hk1, hlt, .inr (by rw [HX.out, HHI.out]; exact c2)⟩))
              clear W0 W1 c1 c2
              go_wp2_with fail
              go_ret
              exact ⟨by rw [W.out]; rfl, rfl⟩
            · have c2i : ¬ (x : Int) > (hi : Int) := by omega
              have NO2 : Hid (∀ j, 1 ≤ j → j < k + 1 → loK 128 j ≤ gu l j ∧ gu l j ≤ hiK 191 j) := hid (fun j h1 h2 => by
                by_cases e : j = k
                · subst e; rw [HX.out, HLO.out, HHI.out]; omega
                · exact NO.out j h1 (by omega))
              clear W0 W1 c1 c2 NO
              go_wp2_with fail
              go_roundw
              case rel => exact ⟨k + 1, by omega, by omega, by go_num, by rw [l2.out]; rfl, by rw [h2.out]; rfl, NO2.out, by first | trivial | rfl⟩
              case measure => simp [intOf]; omega
        · obtain rfl : k = 3 := by omega
          have W := hid (W1.out (by omega) hno)
          have hlti : ¬ ((3 : Nat) : Int) < 3 := by omega
          clear W0 W1 hno hlt hk
          go_wp2_with fail
          go_ret
          exact ⟨by rw [W.out]; rfl, rfl⟩
  · have hs := Go.Lib.slow_E1 l.length (gu l 0) (gu l 1) (gu l 2) (gu l 3) (by omega) g1 g2 g3 (.inr hb)
    have W0 := hid (fun h => wide_no (sz := 3) (lo := 128) (hi := 191) hn hs (by decide) h)
    have W1 := hid (fun h h' => wide_yes (sz := 3) (lo := 128) (hi := 191) hn hs (by decide) (by decide) h h')
    obtain ⟨a, ha⟩ : ∃ a, gu l 0 = a := ⟨_, rfl⟩
    rw [ha] at hb
    simp only [ha] at SI0
    clear ha g0 g1 g2 g3 hs hn
    obtain ⟨hb1, hb2⟩ := hb
    by_cases hsz : l.length < 3
    · have W := hid (W0.out (.inl hsz))
      have hszi : (l.length : Int) < 3 := by omega
      clear W0 W1 hsz
      go_enter Try.func16, Try.ntmps16
      go_wp2_with fail
      go_ret
      exact ⟨by rw [W.out]; rfl, rfl⟩
    · have hszi : ¬ (l.length : Int) < 3 := by omega
      go_enter Try.func16, Try.ntmps16
      go_wp2_with fail
      go_loopw [5, 6, 7] (fun x y i wr => ∃ k : Nat, 1 ≤ k ∧ k ≤ 3 ∧ i = .int .i64 k ∧ x = .int .i64 (loK 128 k : Int) ∧ y = .int .i64 (hiK 191 k : Int) ∧ (∀ j, 1 ≤ j → j < k → loK 128 j ≤ gu l j ∧ gu l j ≤ hiK 191 j) ∧ w = wr) (fun _ _ i _ => 3 - (intOf i).toNat)
      case atStart => exact ⟨1, by omega, by omega, rfl, rfl, rfl, fun j h1 h2 => absurd h2 (by omega), by first | trivial | rfl⟩
      case round =>
        obtain ⟨k, hk1, hk, rfl, rfl, rfl, hno, rfl⟩ := hrel
        by_cases hlt : k < 3
        · have hlti : (k : Int) < 3 := by omega
          have hkl : (k : Int) < (l.length : Int) := by omega
          have SI : ∀ h, ((bs l)[k]'h).toNat = gu l k := fun h => bs_get l k h
          have NO := hid hno
          obtain ⟨x, hx⟩ : ∃ x, gu l k = x := ⟨_, rfl⟩
          have HX := hid hx
          simp only [hx] at SI
          have gx : x < 256 := by rw [← hx]; exact gu_lt l k
          obtain ⟨lo, hlo⟩ : ∃ x, loK 128 k = x := ⟨_, rfl⟩
          obtain ⟨hi, hhi⟩ : ∃ x, hiK 191 k = x := ⟨_, rfl⟩
          have HLO := hid hlo
          have HHI := hid hhi
          rw [hlo, hhi]
          have l2 : Hid (loK 128 (k + 1) = 128) := hid (by unfold loK; rw [if_neg (by omega)])
          have h2 : Hid (hiK 191 (k + 1) = 191) := hid (by unfold hiK; rw [if_neg (by omega)])
          clear hno hx hlo hhi
          by_cases c1 : x < lo
          · have c1i : (x : Int) < (lo : Int) := by omega
            have W := hid (W0.out (.inr ⟨k, hk1, hlt, .inl (by rw [HX.out, HLO.out]; exact c1)⟩))
            clear W0 W1 c1
            go_wp2_with fail
            go_ret
            exact ⟨by rw [W.out]; rfl, rfl⟩
          · have c1i : ¬ (x : Int) < (lo : Int) := by omega
            by_cases c2 : hi < x
            · have c2i : (x : Int) > (hi : Int) := by omega
              have W := hid (W0.out (.inr ⟨k, hk1, hlt, .inr (by rw [HX.out, HHI.out]; exact c2)⟩))
              clear W0 W1 c1 c2
              go_wp2_with fail
              go_ret
              exact ⟨by rw [W.out]; rfl, rfl⟩
            · have c2i : ¬ (x : Int) > (hi : Int) := by omega
              have NO2 : Hid (∀ j, 1 ≤ j → j < k + 1 → loK 128 j ≤ gu l j ∧ gu l j ≤ hiK 191 j) := hid (fun j h1 h2 => by
                by_cases e : j = k
                · subst e; rw [HX.out, HLO.out, HHI.out]; omega
                · exact NO.out j h1 (by omega))
              clear W0 W1 c1 c2 NO
              go_wp2_with fail
              go_roundw
              case rel => exact ⟨k + 1, by omega, by omega, by go_num, by rw [l2.out]; rfl, by rw [h2.out]; rfl, NO2.out, by first | trivial | rfl⟩
              case measure => simp [intOf]; omega
        · obtain rfl : k = 3 := by omega
          have W := hid (W1.out (by omega) hno)
          have hlti : ¬ ((3 : Nat) : Int) < 3 := by omega
          clear W0 W1 hno hlt hk
          go_wp2_with fail
          go_ret
          exact ⟨by rw [W.out]; rfl, rfl⟩
  · have hs := Go.Lib.slow_ED l.length (gu l 0) (gu l 1) (gu l 2) (gu l 3) (by omega) g1 g2 g3 hb
    have W0 := hid (fun h => wide_no (sz := 3) (lo := 128) (hi := 159) hn hs (by decide) h)
    have W1 := hid (fun h h' => wide_yes (sz := 3) (lo := 128) (hi := 159) hn hs (by decide) (by decide) h h')
    obtain ⟨a, ha⟩ : ∃ a, gu l 0 = a := ⟨_, rfl⟩
    rw [ha] at hb
    simp only [ha] at SI0
    clear ha g0 g1 g2 g3 hs hn
    skip
    by_cases hsz : l.length < 3
    · have W := hid (W0.out (.inl hsz))
      have hszi : (l.length : Int) < 3 := by omega
      clear W0 W1 hsz
      go_enter Try.func16, Try.ntmps16
      go_wp2_with fail
      go_ret
      exact ⟨by rw [W.out]; rfl, rfl⟩
    · have hszi : ¬ (l.length : Int) < 3 := by omega
      go_enter Try.func16, Try.ntmps16
      go_wp2_with fail
      go_loopw [5, 6, 7] (fun x y i wr => ∃ k : Nat, 1 ≤ k ∧ k ≤ 3 ∧ i = .int .i64 k ∧ x = .int .i64 (loK 128 k : Int) ∧ y = .int .i64 (hiK 159 k : Int) ∧ (∀ j, 1 ≤ j → j < k → loK 128 j ≤ gu l j ∧ gu l j ≤ hiK 159 j) ∧ w = wr) (fun _ _ i _ => 3 - (intOf i).toNat)
      case atStart => exact ⟨1, by omega, by omega, rfl, rfl, rfl, fun j h1 h2 => absurd h2 (by omega), by first | trivial | rfl⟩
      case round =>
        obtain ⟨k, hk1, hk, rfl, rfl, rfl, hno, rfl⟩ := hrel
        by_cases hlt : k < 3
        · have hlti : (k : Int) < 3 := by omega
          have hkl : (k : Int) < (l.length : Int) := by omega
          have SI : ∀ h, ((bs l)[k]'h).toNat = gu l k := fun h => bs_get l k h
          have NO := hid hno
          obtain ⟨x, hx⟩ : ∃ x, gu l k = x := ⟨_, rfl⟩
          have HX := hid hx
          simp only [hx] at SI
          have gx : x < 256 := by rw [← hx]; exact gu_lt l k
          obtain ⟨lo, hlo⟩ : ∃ x, loK 128 k = x := ⟨_, rfl⟩
          obtain ⟨hi, hhi⟩ : ∃ x, hiK 159 k = x := ⟨_, rfl⟩
          have HLO := hid hlo
          have HHI := hid hhi
          rw [hlo, hhi]
          have l2 : Hid (loK 128 (k + 1) = 128) := hid (by unfold loK; rw [if_neg (by omega)])
          have h2 : Hid (hiK 159 (k + 1) = 191) := hid (by unfold hiK; rw [if_neg (by omega)])
          clear hno hx hlo hhi
          by_cases c1 : x < lo
          · have c1i : (x : Int) < (lo : Int) := by omega
            have W := hid (W0.out (.inr ⟨k, hk1, hlt, .inl (by rw [HX.out, HLO.out]; exact c1)⟩))
            clear W0 W1 c1
            go_wp2_with fail
            go_ret
            exact ⟨by rw [W.out]; rfl, rfl⟩
          · have c1i : ¬ (x : Int) < (lo : Int) := by omega
            by_cases c2 : hi < x
            · have c2i : (x : Int) > (hi : Int) := by omega
              have W := hid (W0.out (.inr ⟨k, hk1, hlt, .inr (by rw [HX.out, HHI.out]; exact c2)⟩))
              clear W0 W1 c1 c2
              go_wp2_with fail
              go_ret
              exact ⟨by rw [W.out]; rfl, rfl⟩
            · have c2i : ¬ (x : Int) > (hi : Int) := by omega
              have NO2 : Hid (∀ j, 1 ≤ j → j < k + 1 → loK 128 j ≤ gu l j ∧ gu l j ≤ hiK 159 j) := hid (fun j h1 h2 => by
                by_cases e : j = k
                · subst e; rw [HX.out, HLO.out, HHI.out]; omega
                · exact NO.out j h1 (by omega))
              clear W0 W1 c1 c2 NO
              go_wp2_with fail
              go_roundw
              case rel => exact ⟨k + 1, by omega, by omega, by go_num, by rw [l2.out]; rfl, by rw [h2.out]; rfl, NO2.out, by first | trivial | rfl⟩
              case measure => simp [intOf]; omega
        · obtain rfl : k = 3 := by omega
          have W := hid (W1.out (by omega) hno)
          have hlti : ¬ ((3 : Nat) : Int) < 3 := by omega
          clear W0 W1 hno hlt hk
          go_wp2_with fail
          go_ret
          exact ⟨by rw [W.out]; rfl, rfl⟩
  · have hs := Go.Lib.slow_F0 l.length (gu l 0) (gu l 1) (gu l 2) (gu l 3) (by omega) g1 g2 g3 hb
    have W0 := hid (fun h => wide_no (sz := 4) (lo := 144) (hi := 191) hn hs (by decide) h)
    have W1 := hid (fun h h' => wide_yes (sz := 4) (lo := 144) (hi := 191) hn hs (by decide) (by decide) h h')
    obtain ⟨a, ha⟩ : ∃ a, gu l 0 = a := ⟨_, rfl⟩
    rw [ha] at hb
    simp only [ha] at SI0
    clear ha g0 g1 g2 g3 hs hn
    skip
    by_cases hsz : l.length < 4
    · have W := hid (W0.out (.inl hsz))
      have hszi : (l.length : Int) < 4 := by omega
      clear W0 W1 hsz
      go_enter Try.func16, Try.ntmps16
      go_wp2_with fail
      go_ret
      exact ⟨by rw [W.out]; rfl, rfl⟩
    · have hszi : ¬ (l.length : Int) < 4 := by omega
      go_enter Try.func16, Try.ntmps16
      go_wp2_with fail
      go_loopw [5, 6, 7] (fun x y i wr => ∃ k : Nat, 1 ≤ k ∧ k ≤ 4 ∧ i = .int .i64 k ∧ x = .int .i64 (loK 144 k : Int) ∧ y = .int .i64 (hiK 191 k : Int) ∧ (∀ j, 1 ≤ j → j < k → loK 144 j ≤ gu l j ∧ gu l j ≤ hiK 191 j) ∧ w = wr) (fun _ _ i _ => 4 - (intOf i).toNat)
      case atStart => exact ⟨1, by omega, by omega, rfl, rfl, rfl, fun j h1 h2 => absurd h2 (by omega), by first | trivial | rfl⟩
      case round =>
        obtain ⟨k, hk1, hk, rfl, rfl, rfl, hno, rfl⟩ := hrel
        by_cases hlt : k < 4
        · have hlti : (k : Int) < 4 := by omega
          have hkl : (k : Int) < (l.length : Int) := by omega
          have SI : ∀ h, ((bs l)[k]'h).toNat = gu l k := fun h => bs_get l k h
          have NO := hid hno
          obtain ⟨x, hx⟩ : ∃ x, gu l k = x := ⟨_, rfl⟩
          have HX := hid hx
          simp only [hx] at SI
          have gx : x < 256 := by rw [← hx]; exact gu_lt l k
          obtain ⟨lo, hlo⟩ : ∃ x, loK 144 k = x := ⟨_, rfl⟩
          obtain ⟨hi, hhi⟩ : ∃ x, hiK 191 k = x := ⟨_, rfl⟩
          have HLO := hid hlo
          have HHI := hid hhi
          rw [hlo, hhi]
          have l2 : Hid (loK 144 (k + 1) = 128) := hid (by unfold loK; rw [if_neg (by omega)])
          have h2 : Hid (hiK 191 (k + 1) = 191) := hid (by unfold hiK; rw [if_neg (by omega)])
          clear hno hx hlo hhi
          by_cases c1 : x < lo
          · have c1i : (x : Int) < (lo : Int) := by omega
            have W := hid (W0.out (.inr ⟨k, hk1, hlt, .inl (by rw [HX.out, HLO.out]; exact c1)⟩))
            clear W0 W1 c1
            go_wp2_with fail
            go_ret
            exact ⟨by rw [W.out]; rfl, rfl⟩
          · have c1i : ¬ (x : Int) < (lo : Int) := by omega
            by_cases c2 : hi < x
            · have c2i : (x : Int) > (hi : Int) := by omega
              have W := hid (W0.out (.inr ⟨k, hk1, hlt, .inr (by rw [HX.out, HHI.out]; exact c2)⟩))
              clear W0 W1 c1 c2
              go_wp2_with fail
              go_ret
              exact ⟨by rw [W.out]; rfl, rfl⟩
            · have c2i : ¬ (x : Int) > (hi : Int) := by omega
              have NO2 : Hid (∀ j, 1 ≤ j → j < k + 1 → loK 144 j ≤ gu l j ∧ gu l j ≤ hiK 191 j) := hid (fun j h1 h2 => by
                by_cases e : j = k
                · subst e; rw [HX.out, HLO.out, HHI.out]; omega
                · exact NO.out j h1 (by omega))
              clear W0 W1 c1 c2 NO
              go_wp2_with fail
              go_roundw
              case rel => exact ⟨k + 1, by omega, by omega, by go_num, by rw [l2.out]; rfl, by rw [h2.out]; rfl, NO2.out, by first | trivial | rfl⟩
              case measure => simp [intOf]; omega
        · obtain rfl : k = 4 := by omega
          have W := hid (W1.out (by omega) hno)
          have hlti : ¬ ((4 : Nat) : Int) < 4 := by omega
          clear W0 W1 hno hlt hk
          go_wp2_with fail
          go_ret
          exact ⟨by rw [W.out]; rfl, rfl⟩
  · have hs := Go.Lib.slow_F1 l.length (gu l 0) (gu l 1) (gu l 2) (gu l 3) (by omega) g1 g2 g3 hb
    have W0 := hid (fun h => wide_no (sz := 4) (lo := 128) (hi := 191) hn hs (by decide) h)
    have W1 := hid (fun h h' => wide_yes (sz := 4) (lo := 128) (hi := 191) hn hs (by decide) (by decide) h h')
    obtain ⟨a, ha⟩ : ∃ a, gu l 0 = a := ⟨_, rfl⟩
    rw [ha] at hb
    simp only [ha] at SI0
    clear ha g0 g1 g2 g3 hs hn
    obtain ⟨hb1, hb2⟩ := hb
    by_cases hsz : l.length < 4
    · have W := hid (W0.out (.inl hsz))
      have hszi : (l.length : Int) < 4 := by omega
      clear W0 W1 hsz
      go_enter Try.func16, Try.ntmps16
      go_wp2_with fail
      go_ret
      exact ⟨by rw [W.out]; rfl, rfl⟩
    · have hszi : ¬ (l.length : Int) < 4 := by omega
      go_enter Try.func16, Try.ntmps16
      go_wp2_with fail
      go_loopw [5, 6, 7] (fun x y i wr => ∃ k : Nat, 1 ≤ k ∧ k ≤ 4 ∧ i = .int .i64 k ∧ x = .int .i64 (loK 128 k : Int) ∧ y = .int .i64 (hiK 191 k : Int) ∧ (∀ j, 1 ≤ j → j < k → loK 128 j ≤ gu l j ∧ gu l j ≤ hiK 191 j) ∧ w = wr) (fun _ _ i _ => 4 - (intOf i).toNat)
      case atStart => exact ⟨1, by omega, by omega, rfl, rfl, rfl, fun j h1 h2 => absurd h2 (by omega), by first | trivial | rfl⟩
      case round =>
        obtain ⟨k, hk1, hk, rfl, rfl, rfl, hno, rfl⟩ := hrel
        by_cases hlt : k < 4
        · have hlti : (k : Int) < 4 := by omega
          have hkl : (k : Int) < (l.length : Int) := by omega
          have SI : ∀ h, ((bs l)[k]'h).toNat = gu l k := fun h => bs_get l k h
          have NO := hid hno
          obtain ⟨x, hx⟩ : ∃ x, gu l k = x := ⟨_, rfl⟩
          have HX := hid hx
          simp only [hx] at SI
          have gx : x < 256 := by rw [← hx]; exact gu_lt l k
          obtain ⟨lo, hlo⟩ : ∃ x, loK 128 k = x := ⟨_, rfl⟩
          obtain ⟨hi, hhi⟩ : ∃ x, hiK 191 k = x := ⟨_, rfl⟩
          have HLO := hid hlo
          have HHI := hid hhi
          rw [hlo, hhi]
          have l2 : Hid (loK 128 (k + 1) = 128) := hid (by unfold loK; rw [if_neg (by omega)])
          have h2 : Hid (hiK 191 (k + 1) = 191) := hid (by unfold hiK; rw [if_neg (by omega)])
          clear hno hx hlo hhi
          by_cases c1 : x < lo
          · have c1i : (x : Int) < (lo : Int) := by omega
            have W := hid (W0.out (.inr ⟨k, hk1, hlt, .inl (by rw [HX.out, HLO.out]; exact c1)⟩))
            clear W0 W1 c1
            go_wp2_with fail
            go_ret
            exact ⟨by rw [W.out]; rfl, rfl⟩
          · have c1i : ¬ (x : Int) < (lo : Int) := by omega
            by_cases c2 : hi < x
            · have c2i : (x : Int) > (hi : Int) := by omega
              have W := hid (W0.out (.inr ⟨k, hk1, hlt, .inr (by rw [HX.out, HHI.out]; exact c2)⟩))
              clear W0 W1 c1 c2
              go_wp2_with fail
              go_ret
              exact ⟨by rw [W.out]; rfl, rfl⟩
            · have c2i : ¬ (x : Int) > (hi : Int) := by omega
              have NO2 : Hid (∀ j, 1 ≤ j → j < k + 1 → loK 128 j ≤ gu l j ∧ gu l j ≤ hiK 191 j) := hid (fun j h1 h2 => by
                by_cases e : j = k
                · subst e; rw [HX.out, HLO.out, HHI.out]; omega
                · exact NO.out j h1 (by omega))
              clear W0 W1 c1 c2 NO
              go_wp2_with fail
              go_roundw
              case rel => exact ⟨k + 1, by omega, by omega, by go_num, by rw [l2.out]; rfl, by rw [h2.out]; rfl, NO2.out, by first | trivial | rfl⟩
              case measure => simp [intOf]; omega
        · obtain rfl : k = 4 := by omega
          have W := hid (W1.out (by omega) hno)
          have hlti : ¬ ((4 : Nat) : Int) < 4 := by omega
          clear W0 W1 hno hlt hk
          go_wp2_with fail
          go_ret
          exact ⟨by rw [W.out]; rfl, rfl⟩
  · have hs := Go.Lib.slow_F4 l.length (gu l 0) (gu l 1) (gu l 2) (gu l 3) (by omega) g1 g2 g3 hb
    have W0 := hid (fun h => wide_no (sz := 4) (lo := 128) (hi := 143) hn hs (by decide) h)
    have W1 := hid (fun h h' => wide_yes (sz := 4) (lo := 128) (hi := 143) hn hs (by decide) (by decide) h h')
    obtain ⟨a, ha⟩ : ∃ a, gu l 0 = a := ⟨_, rfl⟩
    rw [ha] at hb
    simp only [ha] at SI0
    clear ha g0 g1 g2 g3 hs hn
    skip
    by_cases hsz : l.length < 4
    · have W := hid (W0.out (.inl hsz))
      have hszi : (l.length : Int) < 4 := by omega
      clear W0 W1 hsz
      go_enter Try.func16, Try.ntmps16
      go_wp2_with fail
      go_ret
      exact ⟨by rw [W.out]; rfl, rfl⟩
    · have hszi : ¬ (l.length : Int) < 4 := by omega
      go_enter Try.func16, Try.ntmps16
      go_wp2_with fail
      go_loopw [5, 6, 7] (fun x y i wr => ∃ k : Nat, 1 ≤ k ∧ k ≤ 4 ∧ i = .int .i64 k ∧ x = .int .i64 (loK 128 k : Int) ∧ y = .int .i64 (hiK 143 k : Int) ∧ (∀ j, 1 ≤ j → j < k → loK 128 j ≤ gu l j ∧ gu l j ≤ hiK 143 j) ∧ w = wr) (fun _ _ i _ => 4 - (intOf i).toNat)
      case atStart => exact ⟨1, by omega, by omega, rfl, rfl, rfl, fun j h1 h2 => absurd h2 (by omega), by first | trivial | rfl⟩
      case round =>
        obtain ⟨k, hk1, hk, rfl, rfl, rfl, hno, rfl⟩ := hrel
        by_cases hlt : k < 4
        · have hlti : (k : Int) < 4 := by omega
          have hkl : (k : Int) < (l.length : Int) := by omega
          have SI : ∀ h, ((bs l)[k]'h).toNat = gu l k := fun h => bs_get l k h
          have NO := hid hno
          obtain ⟨x, hx⟩ : ∃ x, gu l k = x := ⟨_, rfl⟩
          have HX := hid hx
          simp only [hx] at SI
          have gx : x < 256 := by rw [← hx]; exact gu_lt l k
          obtain ⟨lo, hlo⟩ : ∃ x, loK 128 k = x := ⟨_, rfl⟩
          obtain ⟨hi, hhi⟩ : ∃ x, hiK 143 k = x := ⟨_, rfl⟩
          have HLO := hid hlo
          have HHI := hid hhi
          rw [hlo, hhi]
          have l2 : Hid (loK 128 (k + 1) = 128) := hid (by unfold loK; rw [if_neg (by omega)])
          have h2 : Hid (hiK 143 (k + 1) = 191) := hid (by unfold hiK; rw [if_neg (by omega)])
          clear hno hx hlo hhi
          by_cases c1 : x < lo
          · have c1i : (x : Int) < (lo : Int) := by omega
            have W := hid (W0.out (.inr ⟨k, hk1, hlt, .inl (by rw [HX.out, HLO.out]; exact c1)⟩))
            clear W0 W1 c1
            go_wp2_with fail
            go_ret
            exact ⟨by rw [W.out]; rfl, rfl⟩
          · have c1i : ¬ (x : Int) < (lo : Int) := by omega
            by_cases c2 : hi < x
            · have c2i : (x : Int) > (hi : Int) := by omega
              have W := hid (W0.out (.inr ⟨k, hk1, hlt, .inr (by rw [HX.out, HHI.out]; exact c2)⟩))
              clear W0 W1 c1 c2
              go_wp2_with fail
              go_ret
              exact ⟨by rw [W.out]; rfl, rfl⟩
            · have c2i : ¬ (x : Int) > (hi : Int) := by omega
              have NO2 : Hid (∀ j, 1 ≤ j → j < k + 1 → loK 128 j ≤ gu l j ∧ gu l j ≤ hiK 143 j) := hid (fun j h1 h2 => by
                by_cases e : j = k
                · subst e; rw [HX.out, HLO.out, HHI.out]; omega
                · exact NO.out j h1 (by omega))
              clear W0 W1 c1 c2 NO
              go_wp2_with fail
              go_roundw
              case rel => exact ⟨k + 1, by omega, by omega, by go_num, by rw [l2.out]; rfl, by rw [h2.out]; rfl, NO2.out, by first | trivial | rfl⟩
              case measure => simp [intOf]; omega
        · obtain rfl : k = 4 := by omega
          have W := hid (W1.out (by omega) hno)
          have hlti : ¬ ((4 : Nat) : Int) < 4 := by omega
          clear W0 W1 hno hlt hk
          go_wp2_with fail
          go_ret
          exact ⟨by rw [W.out]; rfl, rfl⟩
end Go.Proofs.Ytknlhbbkjgkjpaa
