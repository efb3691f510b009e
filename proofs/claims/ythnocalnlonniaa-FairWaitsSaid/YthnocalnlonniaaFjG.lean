/- FairWaits. -/
import Derived.Test.YthnocalnlonniaaFjF
namespace Go.Proofs.Ythnocalnlonniaa
open Go Go.RowKit

theorem gapGo_cyc (s : List (Int × Int)) (dom lim : Int) (hex : ∃ e ∈ entsOf s, e.dom = dom) (hl : lim ≤ 1000000) : ∀ (n : Nat) (t m : Int), 0 ≤ t → m ≤ cyc s → gapGo s dom lim n t m ≤ cyc s
  | 0, _, _, _, h1 => h1
  | n + 1, t, m, h0, h1 => by
    by_cases h : t < lim
    · obtain ⟨t', e, a, b⟩ := next_ok s dom hex (t + 1) (by omega) (by omega)
      rw [gapGo_step h e]
      exact gapGo_cyc s dom lim hex hl n t' _ (by omega) (by omega)
    · rw [gapGo_end h]; exact h1
theorem gap_cyc (s : List (Int × Int)) (dom : Int) (hex : ∃ e ∈ entsOf s, e.dom = dom) : gapOf s dom ≤ cyc s := by
  have := cyc_bd s
  obtain ⟨t', e, a, b⟩ := next_ok s dom hex 0 (by omega) (by omega)
  unfold gapOf
  rw [e]
  exact gapGo_cyc s dom _ hex (by show t' + cyc s ≤ _; omega) _ _ _ (by omega) (by omega)

/-- Whoever waits, waits less than a gap. -/
theorem wait_gap (s : List (Int × Int)) (dom t : Int) (h0 : 0 ≤ t) (h1 : t ≤ 2305843009213693952) (hex : ∃ e ∈ entsOf s, e.dom = dom) : ∃ n, nextOf s dom t = (n, true) ∧ t ≤ n ∧ n ≤ t + 256 ∧ n - t < gapOf s dom := by
  have hb := cyc_bd s
  rcases next_first s dom 0 (by omega) (by omega) with ⟨_, h0⟩ | ⟨hc, F, hF, e, hs, hno⟩
  · exact absurd hex h0
  have hl := stO_len s dom
  obtain ⟨n, hn⟩ : ∃ n, (stO s dom).length = n := ⟨_, rfl⟩
  rw [hn] at hl
  have cast : ∀ j : Nat, ((0 : Int) % cyc s + j) % cyc s = (j : Int) % cyc s := fun j => by rw [Int.emod_add_emod, Int.zero_add]
  rw [cast F] at hs
  have hno' : ∀ j, j < F → (stO s dom).getD ((0 + j) % (stO s dom).length) false = false := fun j hj => st_no s dom hc _ (by rw [Nat.zero_add, ← cast j]; exact hno j hj)
  have s1 : scan (stO s dom) (F + 1) = ((F : Int), 0) := by
    have hk := scan_skip (stO s dom) 0 F hno'
    rw [Nat.zero_add] at hk
    rw [scan_yes ((st_at s dom hc F).2 hs), hk]
    rfl
  have hS : Starts s dom (((F + n : Nat) : Int) % cyc s) := by
    have : ((F + n : Nat) : Int) % cyc s = (F : Int) % cyc s := by rw [Int.natCast_add, hl, Int.add_emod_right]
    rw [this]; exact hs
  have hg := gapGo_scan s dom hc hex n F hl (by omega) hS 257 F 0 (by omega) (by omega) s1
  have hgo : gapOf s dom = (scan (stO s dom) (F + n + 1)).2 := by
    unfold gapOf
    rw [e]
    dsimp only
    rw [if_pos rfl, Int.zero_add, ← hl, ← Int.natCast_add]
    exact hg
  -- the last beginning ahead of a tick behind the first one
  have last : ∀ d : Nat, (F : Int) ≤ (scan (stO s dom) (F + 1 + d)).1 := by
    intro d
    induction d with
    | zero => rw [Nat.add_zero, s1]; exact Int.le_refl _
    | succ d ih =>
      rw [← Nat.add_assoc]
      cases hb : (stO s dom).getD ((F + 1 + d) % (stO s dom).length) false
      · rw [scan_no hb]; exact ih
      · rw [scan_yes hb]; show (F : Int) ≤ ((F + 1 + d : Nat) : Int); omega
  have lt : ∀ k : Nat, (scan (stO s dom) k).1 < k := by
    intro k
    induction k with
    | zero => show (-1 : Int) < 0; decide
    | succ k ih =>
      cases hb : (stO s dom).getD (k % (stO s dom).length) false
      · rw [scan_no hb]; omega
      · rw [scan_yes hb]; show (k : Int) < ((k + 1 : Nat) : Int); omega
  rcases next_first s dom t h0 h1 with ⟨_, h⟩ | ⟨_, m, hm, e2, hs2, hno2⟩
  · exact absurd hex h
  refine ⟨_, e2, by omega, by omega, ?_⟩
  -- the same tick, of the first cycle behind the first beginning
  have r0 := Int.emod_nonneg (t - F) hc
  have r1 := Int.emod_lt_of_pos (t - F) (show 0 < cyc s by omega)
  obtain ⟨r, hr⟩ : ∃ r : Nat, (t - F) % cyc s = r := ⟨((t - F) % cyc s).toNat, by omega⟩
  have same : ∀ j : Nat, (t % cyc s + j) % cyc s = ((F + r + j : Nat) : Int) % cyc s := fun j => by
    rw [Int.emod_add_emod]
    have : (((F + r + j : Nat) : Int)) = (t - F) % cyc s + ((F : Int) + j) := by rw [hr]; omega
    rw [this, Int.emod_add_emod]
    congr 1; omega
  rw [same m] at hs2
  have hno3 : ∀ j, j < m → (stO s dom).getD ((F + r + j) % (stO s dom).length) false = false := fun j hj => st_no s dom hc _ (by rw [← same j]; exact hno2 j hj)
  have hle : F + r + m ≤ F + n := by
    rcases Nat.lt_or_ge (F + n) (F + r + m) with hgt | hge
    · have := hno3 (n - r) (by omega)
      rw [show F + r + (n - r) = F + n by omega, (st_at s dom hc (F + n)).2 hS] at this
      cases this
    · exact hge
  rw [hgo]
  have far : ∀ k : Nat, F + 1 ≤ k → k ≤ F + n → Starts s dom ((k : Int) % cyc s) → (k : Int) - (scan (stO s dom) k).1 ≤ (scan (stO s dom) (F + n + 1)).2 := by
    intro k hk1 hk2 hk3
    have hm := scan_mono (stO s dom) (k + 1) (F + n - k)
    rw [show k + 1 + (F + n - k) = F + n + 1 by omega, scan_yes ((st_at s dom hc k).2 hk3)] at hm
    have hla := last (k - F - 1)
    rw [show F + 1 + (k - F - 1) = k by omega] at hla
    dsimp only at hm
    split at hm
    · exact hm
    · omega
  rcases Nat.eq_zero_or_pos m with rfl | hm0
  · have h1 := far (F + n) (by omega) (Nat.le_refl _) hS
    have h2 := lt (F + n)
    omega
  · have hr0 : 0 < r := by
      rcases Nat.eq_zero_or_pos r with rfl | h
      · exact absurd ((st_at s dom hc (F + 0 + 0)).2 (by simpa using hs)) (by rw [hno3 0 hm0]; decide)
      · exact h
    have h1 := far (F + r + m) (by omega) hle hs2
    rw [scan_skip _ (F + r) m hno3] at h1
    have h2 := lt (F + r)
    omega

theorem share_pos (s : List (Int × Int)) (dom : Int) : 0 < shareOf s dom ↔ ∃ e ∈ entsOf s, e.dom = dom := by
  rw [share_cut, ← hasK_all s dom (s.take 16).length (by rw [List.length_take]; omega)]
  have hM : (s.take 16).length = min 16 s.length := List.length_take
  have : ∀ k, k ≤ (s.take 16).length → (0 < shK s dom k ↔ hasK s dom k = true) := by
    intro k
    induction k with
    | zero => intro _; rw [hasK_zero]; simp [shK]
    | succ k ih =>
      intro hk
      have ih := ih (by omega)
      obtain ⟨⟨d, l⟩, hp⟩ : ∃ p, s[k]? = some p := ⟨_, List.getElem?_eq_getElem (by omega)⟩
      have b := shK_bd s dom k
      rw [shK_succ hp, hasK_succ s dom k _ hp, Bool.or_eq_true, ← ih]
      unfold wgt okP
      simp only [Bool.and_eq_true, beq_iff_eq, decide_eq_true_eq]
      by_cases hc : d = dom ∧ 1 ≤ l ∧ l ≤ 16
      · rw [if_pos ⟨by omega, hc.2.1, hc.2.2, hc.1⟩]
        exact ⟨fun _ => .inr hc, fun _ => by omega⟩
      · rw [if_neg fun h => hc ⟨h.2.2.2, h.2.1, h.2.2.1⟩, Int.add_zero]
        exact ⟨fun h => .inl h, fun h => h.elim id fun h => absurd h hc⟩
  exact this _ (Nat.le_refl _)

/-- Has a domain come up? -/
def seen (s : List (Int × Int)) (i : Nat) (d : Int) : Bool := (s.take i).any fun p => p.1 == d
theorem seen_zero (s : List (Int × Int)) (d : Int) : seen s 0 d = false := by simp [seen]
theorem seen_succ {s : List (Int × Int)} {i : Nat} {p : Int × Int} (h : s[i]? = some p) (d : Int) : seen s (i + 1) d = (seen s i d || (p.1 == d)) := by
  obtain ⟨hk, rfl⟩ := List.getElem?_eq_some_iff.1 h
  unfold seen
  rw [List.take_succ_eq_append_getElem hk, List.any_append]
  simp

def U (s : List (Int × Int)) (i : Nat) : Nat → Int
  | 0 => 0
  | k + 1 => U s i k + (match s[k]? with | some p => if seen s i p.1 then wgt p.1 k p else 0 | none => 0)

theorem U_zero (s : List (Int × Int)) : ∀ K, U s 0 K = 0
  | 0 => rfl
  | K + 1 => by
    rw [U, U_zero s K]
    split
    · rw [seen_zero]; rfl
    · rfl
theorem U_bd (s : List (Int × Int)) (i : Nat) : ∀ K, 0 ≤ U s i K ∧ U s i K ≤ 16 * (min K 16 : Nat)
  | 0 => ⟨Int.le_refl _, by show (0 : Int) ≤ _; omega⟩
  | K + 1 => by
    have ih := U_bd s i K
    rw [U]
    split
    · rename_i p _
      have := wgt_bd p.1 K p
      have := this.2.2
      split <;> omega
    · omega
theorem wgt_dom (dom : Int) (k : Nat) (p : Int × Int) : wgt dom k p = if p.1 = dom then wgt p.1 k p else 0 := by
  by_cases h : p.1 = dom
  · rw [if_pos h, h]
  · rw [if_neg h]; unfold wgt; rw [if_neg fun h2 => h h2.2.2.2]
theorem U_succ {s : List (Int × Int)} {i : Nat} {p : Int × Int} (h : s[i]? = some p) : ∀ K, U s (i + 1) K = U s i K + (if seen s i p.1 then 0 else shK s p.1 K)
  | 0 => by show (0 : Int) = 0 + _; split <;> rfl
  | K + 1 => by
    have ih := U_succ h K
    rw [U, U, ih, shK]
    cases hq : s[K]? with
    | none => dsimp only; split <;> omega
    | some q =>
      dsimp only
      rw [seen_succ h q.1, wgt_dom p.1 K q]
      by_cases hd : q.1 = p.1
      · have e : (p.1 == q.1) = true := by simp [hd]
        rw [e, Bool.or_true, if_pos rfl, if_pos hd, hd]
        split <;> omega
      · have e : (p.1 == q.1) = false := by simp [Ne.symm hd]
        rw [e, Bool.or_false, if_neg hd]
        split <;> split <;> omega

theorem U_stop (s : List (Int × Int)) (i : Nat) : ∀ j, U s i (16 + j) = U s i 16
  | 0 => rfl
  | j + 1 => by
    rw [← Nat.add_assoc, U, U_stop s i j]
    split
    · rename_i p _
      have := (wgt_bd p.1 (16 + j) p).2.2 (by omega)
      split <;> omega
    · omega
theorem seen_all {s : List (Int × Int)} {k : Nat} {p : Int × Int} (h : s[k]? = some p) : seen s s.length p.1 = true := by
  unfold seen
  rw [List.take_of_length_le (Nat.le_refl _), List.any_eq_true]
  exact ⟨p, List.mem_of_getElem? h, by simp⟩
theorem U_from (s : List (Int × Int)) : ∀ k, k ≤ (s.take 16).length → U s s.length k = fromK s k
  | 0, _ => by simp [U, fromK, ents, total]
  | k + 1, hk => by
    have hM : (s.take 16).length = min 16 s.length := List.length_take
    obtain ⟨⟨d, l⟩, hp⟩ : ∃ p, s[k]? = some p := ⟨_, List.getElem?_eq_getElem (by omega)⟩
    rw [U, U_from s k (by omega), hp]
    dsimp only
    rw [seen_all hp, if_pos rfl]
    unfold wgt
    by_cases hl : 1 ≤ l ∧ l ≤ 16
    · rw [if_pos ⟨by omega, hl.1, hl.2, rfl⟩]
      obtain ⟨_, _, _, _, hy⟩ := step_yes s k (by omega) d l hp hl
      exact hy.symm
    · rw [if_neg fun h => hl ⟨h.2.1, h.2.2.1⟩, (step_no s k (by omega) d l hp hl).2, Int.add_zero]
theorem U_cyc (s : List (Int × Int)) : U s s.length s.length = cyc s := by
  have hM : (s.take 16).length = min 16 s.length := List.length_take
  have h1 := U_from s (s.take 16).length (Nat.le_refl _)
  have h2 : fromK s (s.take 16).length = cyc s := by unfold fromK cyc entsOf; rw [List.take_of_length_le (Nat.le_refl _)]
  by_cases h : 16 ≤ s.length
  · obtain ⟨j, hj⟩ : ∃ j, s.length = 16 + j := ⟨s.length - 16, by omega⟩
    rw [← h2, ← h1, hM, Nat.min_eq_left h]
    conv => lhs; rw [hj]
    rw [U_stop, ← hj]
  · rw [← h2, ← h1, hM, Nat.min_eq_right (by omega)]
end Go.Proofs.Ythnocalnlonniaa
