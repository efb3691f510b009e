/- TickRound, TickWaits. -/
import Derived.Test.YthnocalnlonniaaTckG
namespace Go.Proofs.Ythnocalnlonniaa
open Go Go.RowKit

theorem at_round (s : List (Int × Int)) (t : Int) (h0 : 0 ≤ t) (h1 : t ≤ 4611686018427387904 - cyc s) (hc : cyc s ≠ 0) :
    ∃ e ∈ entsOf s, atOf s t = ((e.n : Int), t - t % cyc s + e.at_) ∧ atOf s (t + cyc s) = ((e.n : Int), t - t % cyc s + e.at_ + cyc s) ∧ t - t % cyc s + e.at_ ≤ t ∧ 0 ≤ t - t % cyc s + e.at_ ∧ t - (t - t % cyc s + e.at_) < e.len := by
  have hb := cyc_bd s
  have ht : heldOf t = t := heldOf_in h0 (by omega)
  have ht2 : heldOf (t + cyc s) = t + cyc s := heldOf_in (by omega) (by omega)
  obtain ⟨e, he, a, b, h⟩ := atOf_is s t hc
  obtain ⟨g, hg, a2, b2, h2⟩ := atOf_is s (t + cyc s) hc
  rw [ht] at a b h
  rw [ht2, Int.add_emod_right] at a2 b2 h2
  have hge : g = e := chain_uniq (ents_chain (s.take 16) 0 0) hg he (fun x hx => (entsOf_mem (s := s) hx).2.2.2.1) ⟨a2, b2⟩ ⟨a, b⟩
  subst hge
  have hr := emod_le_self' h0 (show 0 < cyc s by omega)
  have hm := entsOf_mem hg
  refine ⟨g, hg, h, ?_, by omega, by have := hm.2.2.2.2.2.1; omega, by omega⟩
  rw [h2]
  congr 1
  omega

set_option maxRecDepth 10000 in
set_option maxHeartbeats 2000000 in
theorem walk_TickRound (w : World) (v : Value) (s : List (Int × Int)) (h : SlotsR w v s) (t : Int) (_ : (Lit.int .i64 t).wf = true) : Calls Try.prog 6 #[v, .int .i64 t] w fun en w' => en = .returned (.bool true) ∧ Below w.heap.size w w' := by
  obtain ⟨a0, c0, hv⟩ := h.form
  subst hv
  have H := hid h
  have hcb := cyc_bd s
  have HA := hid (at_round s t)
  clear h
  go_enter Try.func6, Try.ntmps6
  go_wp2_with fail
  refine (cycle_any H.out).mono ?_
  rintro e w1 ⟨rfl, B1⟩
  have k1 := keep_below B1
  have S1 := hid (H.out.keep k1 (fun _ _ h => h))
  have K1 := hid k1
  obtain ⟨c, hc⟩ : ∃ c, cyc s = c := ⟨_, rfl⟩
  have HC := hid hc
  rw [hc] at hcb HA ⊢
  clear B1 k1 hc
  rcases (by omega : t < 0 ∨ (0 ≤ t ∧ 4611686018427387904 - c < t) ∨ (0 ≤ t ∧ t ≤ 4611686018427387904 - c ∧ c = 0) ∨ (0 ≤ t ∧ t ≤ 4611686018427387904 - c ∧ c ≠ 0)) with h1 | ⟨h1, h2⟩ | ⟨h1, h2, rfl⟩ | ⟨h1, h2, h3⟩
  case inr.inr.inr =>
    obtain ⟨e, he, e1, e2, e3, e4, e5⟩ := HA.out h1 h2 h3
    have hcn : (c == 0) = false := by simp [h3]
    have E1 := hid e1
    have E2 := hid e2
    have HE := hid he
    obtain ⟨x, hx⟩ : ∃ x, t - t % c + e.at_ = x := ⟨_, rfl⟩
    rw [hx] at e3 e4 e5 E1 E2
    clear e1 e2 he hx HA h3
    go_wp2_with fail
    refine (tat_any t S1.out).mono ?_
    rintro _ w2 ⟨rfl, B2⟩
    have k2 := keep_below B2
    have S2 := hid (S1.out.keep k2 (fun _ _ h => h))
    have K2 := hid (K1.out.trans k2)
    rw [E1.out]
    clear B2 k2
    go_wp2_with fail
    refine (tat_any (t + c) S2.out).mono ?_
    rintro _ w3 ⟨rfl, B3⟩
    have k3 := keep_below B3
    have S3 := hid (S2.out.keep k3 (fun _ _ h => h))
    have K3 := hid (K2.out.trans k3)
    rw [E2.out]
    clear B3 k3
    go_wp2_with fail
    refine (tawake_any w3).mono ?_
    rintro _ w4 ⟨rfl, k4⟩
    have S4 := S3.out.keep k4 (fun _ _ h => h)
    have K4 := hid (K3.out.trans k4)
    obtain ⟨g, off, rfl, -, hns, hg, hmx, -, kl⟩ := S4.ent ⟨e, HE.out⟩
    dsimp only at hns kl
    unfold maxLen at hmx
    clear k4 S4
    have hns1 : (e.n : Int) < (s.length : Int) := by omega
    obtain ⟨ln, hln⟩ : ∃ q, e.len = q := ⟨_, rfl⟩
    rw [hln] at e5 kl
    clear hln
    have hgt : decide (t - x < ln) = true := decide_eq_true e5
    go_wp2
    go_ret
    exact ⟨rfl, K4.out.below (fun _ h => h.elim) (Nat.le_refl _)⟩
  all_goals
    clear HA
    go_wp2_with fail
    refine (tawake_any w1).mono ?_
    rintro _ w4 ⟨rfl, k4⟩
    have K4 := hid (K1.out.trans k4)
    clear k4
    go_wp2
    go_ret
    exact ⟨rfl, K4.out.below (fun _ h => h.elim) (Nat.le_refl _)⟩

def okP (dom : Int) (p : Int × Int) : Bool := p.1 == dom && (decide (1 ≤ p.2) && decide (p.2 ≤ 16))
def hasK (s : List (Int × Int)) (dom : Int) (k : Nat) : Bool := (s.take k).any (okP dom)
theorem hasK_zero (s : List (Int × Int)) (dom : Int) : hasK s dom 0 = false := by simp [hasK]
theorem hasK_succ (s : List (Int × Int)) (dom : Int) (k : Nat) (p : Int × Int) (h : s[k]? = some p) : hasK s dom (k + 1) = (hasK s dom k || okP dom p) := by
  obtain ⟨hk, rfl⟩ := List.getElem?_eq_some_iff.1 h
  unfold hasK
  rw [List.take_succ_eq_append_getElem hk, List.any_append]
  simp

theorem ents_has (u : List (Int × Int)) (dom : Int) (n : Nat) (f : Int) : (∃ e ∈ ents n f u, e.dom = dom) ↔ u.any (okP dom) = true := by
  induction u generalizing n f with
  | nil => simp [ents]
  | cons p u ih =>
    obtain ⟨d, l⟩ := p
    rw [ents_cons, List.any_cons]
    by_cases hl : 1 ≤ l ∧ l ≤ 16
    · rw [if_pos hl]
      have e : okP dom (d, l) = (d == dom) := by unfold okP; simp [hl.1, hl.2]
      rw [e, Bool.or_eq_true, ← ih (n + 1) (f + l)]
      simp only [List.mem_cons, exists_eq_or_imp, beq_iff_eq]
    · rw [if_neg hl]
      have e : okP dom (d, l) = false := by
        unfold okP
        rcases (by omega : ¬ 1 ≤ l ∨ ¬ l ≤ 16) with h | h <;> simp [h]
      rw [e, Bool.false_or, ← ih (n + 1) f]

theorem hasK_all (s : List (Int × Int)) (dom : Int) (k : Nat) (hk : k = 16 ∨ (k = s.length ∧ k ≤ 16)) : hasK s dom k = true ↔ ∃ e ∈ entsOf s, e.dom = dom := by
  unfold entsOf hasK
  rw [ents_has]
  rcases hk with rfl | ⟨rfl, h⟩
  · exact Iff.rfl
  · rw [List.take_of_length_le (Nat.le_refl _), List.take_of_length_le h]

/-- The first beginning. -/
theorem next_first (s : List (Int × Int)) (dom t : Int) (h0 : 0 ≤ t) (h1 : t ≤ 2305843009213693952) :
    (nextOf s dom t = (0, false) ∧ ¬ ∃ e ∈ entsOf s, e.dom = dom) ∨
    (cyc s ≠ 0 ∧ ∃ m : Nat, (m : Int) < cyc s ∧ nextOf s dom t = (t + m, true) ∧ Starts s dom ((t % cyc s + m) % cyc s) ∧ ∀ j : Nat, j < m → ¬ Starts s dom ((t % cyc s + j) % cyc s)) := by
  have hb := cyc_bd s
  have ht : heldOf t = t := heldOf_in h0 (by omega)
  by_cases hex : ∃ e ∈ entsOf s, e.dom = dom
  · obtain ⟨e, he, hd⟩ := hex
    have hm := entsOf_mem he
    have hc : cyc s ≠ 0 := by have := hm.2.2.2.1; have := hm.2.2.2.2.2.1; have := hm.2.2.2.2.2.2; omega
    have hr0 := Int.emod_nonneg t hc
    have hr1 := Int.emod_lt_of_pos t (show 0 < cyc s by omega)
    obtain ⟨i, hi1, hi2, hi3⟩ := cand_is (c := cyc s) (t := t) (r := t % cyc s) (e := e) hr0 hr1 hm.2.2.2.2.2.1 (by have := hm.2.2.2.1; have := hm.2.2.2.2.2.2; omega)
    have : ∃ m : Nat, ((m : Int) < cyc s ∧ Starts s dom ((t % cyc s + m) % cyc s)) ∧ ∀ j : Nat, j < m → ¬ Starts s dom ((t % cyc s + j) % cyc s) := by
      have hi : (i : Int) < cyc s ∧ Starts s dom ((t % cyc s + i) % cyc s) := ⟨hi1, e, he, hi3.symm, hd⟩
      clear hi1 hi2 hi3
      induction i using Nat.strongRecOn with
      | _ i ih =>
        by_cases h : ∃ j : Nat, j < i ∧ Starts s dom ((t % cyc s + j) % cyc s)
        · obtain ⟨j, hj, hj2⟩ := h
          exact ih j hj ⟨by have := hi.1; omega, hj2⟩
        · exact ⟨i, hi, fun j hj hj2 => h ⟨j, hj, hj2⟩⟩
    obtain ⟨m, ⟨hm1, hm2⟩, hm3⟩ := this
    refine .inr ⟨hc, m, hm1, ?_, hm2, hm3⟩
    have := next_found s dom t hc m hm1 (by rw [ht]; omega) (by rw [ht]; exact hm2) (fun j hj => by rw [ht]; exact hm3 j hj)
    rw [ht] at this
    exact this
  · exact .inl ⟨next_none s dom t (fun j _ _ ⟨e, he, _, hd⟩ => hex ⟨e, he, hd⟩), hex⟩

theorem at_start (s : List (Int × Int)) (dom t : Int) (m : Nat) (h0 : 0 ≤ t) (h1 : t ≤ 2305843009213693952) (hc : cyc s ≠ 0) (hm : (m : Int) < cyc s) (hs : Starts s dom ((t % cyc s + m) % cyc s)) :
    ∃ e ∈ entsOf s, e.dom = dom ∧ atOf s (t + m) = ((e.n : Int), t + m) := by
  have hb := cyc_bd s
  obtain ⟨g, hg, ha, hd⟩ := hs
  have ht2 : heldOf (t + m) = t + m := heldOf_in (by omega) (by omega)
  obtain ⟨e, he, a, b, h⟩ := atOf_is s (t + m) hc
  rw [ht2] at a b h
  have e1 : (t + (m : Int)) % cyc s = g.at_ := by rw [ha, Int.emod_add_emod]
  have hgm := entsOf_mem hg
  have : e = g := chain_uniq (ents_chain (s.take 16) 0 0) he hg (fun x hx => (entsOf_mem (s := s) hx).2.2.2.1) (k := g.at_) (by rw [e1] at a b; exact ⟨a, b⟩) ⟨Int.le_refl _, by have := hgm.2.2.2.1; omega⟩
  subst this
  exact ⟨e, he, hd, by rw [h, e1]; congr 1; omega⟩

theorem at_between (s : List (Int × Int)) (dom t : Int) (j : Nat) (h0 : 0 ≤ t) (h1 : t ≤ 2305843009213693952) (hc : cyc s ≠ 0) (hj : (j : Int) < cyc s) (hs : ¬ Starts s dom ((t % cyc s + j) % cyc s)) :
    ∃ e ∈ entsOf s, ∃ y, atOf s (t + j) = ((e.n : Int), y) ∧ (y ≠ t + j ∨ e.dom ≠ dom) := by
  have hb := cyc_bd s
  have ht2 : heldOf (t + j) = t + j := heldOf_in (by omega) (by omega)
  obtain ⟨e, he, a, b, h⟩ := atOf_is s (t + j) hc
  rw [ht2] at a b h
  refine ⟨e, he, _, h, ?_⟩
  by_cases hd : e.dom = dom
  · refine .inl fun hy => hs ⟨e, he, ?_, hd⟩
    rw [Int.emod_add_emod]; omega
  · exact .inr hd

set_option maxRecDepth 10000 in
set_option maxHeartbeats 8000000 in
theorem walk_TickWaits (w : World) (v : Value) (s : List (Int × Int)) (h : SlotsR w v s) (dom : Int) (_ : (Lit.int .i64 dom).wf = true) (t : Int) (_ : (Lit.int .i64 t).wf = true) : Calls Try.prog 7 #[v, .int .i64 dom, .int .i64 t] w fun en w' => en = .returned (.bool true) ∧ Below w.heap.size w w' := by
  obtain ⟨a0, c0, hv⟩ := h.form
  subst hv
  have H := hid h
  rcases (by omega : t < 0 ∨ (0 ≤ t ∧ 2305843009213693952 < t) ∨ (0 ≤ t ∧ t ≤ 2305843009213693952)) with h1 | ⟨h1, h2⟩ | ⟨h1, h2⟩
  case inr.inr =>
    have NF := hid (next_first s dom t h1 h2)
    have AS := hid (fun m => at_start s dom t m h1 h2)
    have AB := hid (fun j => at_between s dom t j h1 h2)
    have hmx : s.length ≤ 9223372036854775807 := by
      rcases h with ⟨_, _, _, h0⟩ | ⟨_, _, _, _, _, h3, h4, _⟩
      · rw [h0]; simp
      · unfold maxLen at h4; omega
    have hb1 : decide (t < 0) = false := decide_eq_false (by omega)
    have hb2 : decide (2305843009213693952 < t) = false := decide_eq_false (by omega)
    clear h
    go_enter Try.func7, Try.ntmps7
    go_wp2_with fail
    go_loop [7, 8] (fun hs i => ∃ k : Nat, k ≤ s.length ∧ k ≤ 16 ∧ i = .int .i64 k ∧ hs = .bool (hasK s dom k)) (fun _ i => 16 - (intOf i).toNat)
    case atStart => exact ⟨0, Nat.zero_le _, by omega, rfl, by rw [hasK_zero]⟩
    case round =>
      obtain ⟨k, hk, hk16, rfl, rfl⟩ := hrel
      by_cases hlt : k < s.length ∧ k < 16
      · obtain ⟨hl1, hl2⟩ := hlt
        have hl1' : (k : Int) < (s.length : Int) := by omega
        have hl2' : (k : Int) < 16 := by omega
        obtain ⟨⟨d, l⟩, hp⟩ : ∃ p, s[k]? = some p := ⟨_, List.getElem?_eq_getElem hl1⟩
        obtain ⟨g, off, c1, hv1, hcl⟩ : ∃ g off c1, (Value.slice a0 s.length c0) = .slice (some ⟨g, off, none⟩) s.length c1 ∧ (w.cell? ⟨g, off + k * 2, none⟩ = some (.int .i64 d) ∧ w.cell? ⟨g, off + k * 2 + 1, none⟩ = some (.int .i64 l)) := by
          rcases H.out with ⟨_, _, _, h0⟩ | ⟨g, off, c1, h1, h2, h3, h4, h5⟩
          · rw [h0] at hl1; simp at hl1
          · exact ⟨g, off, c1, h1, h5 k _ hp⟩
        simp only [Value.slice.injEq] at hv1
        obtain ⟨rfl, -, rfl⟩ := hv1
        obtain ⟨cd, cl⟩ := hcl
        have HS := hid (hasK_succ s dom k (d, l) hp)
        obtain ⟨b, hb⟩ : ∃ b, hasK s dom k = b := ⟨_, rfl⟩
        rw [hb] at HS ⊢
        clear hb hp
        cases b
        · rcases (by omega : d = dom ∧ 1 ≤ l ∧ l ≤ 16 ∨ (d ≠ dom) ∨ (d = dom ∧ l < 1) ∨ (d = dom ∧ 1 ≤ l ∧ 16 < l)) with ⟨hd, hx1, hx2⟩ | hd | ⟨hd, hx⟩ | ⟨hd, hx1, hx2⟩
          · have e : hasK s dom (k + 1) = true := by rw [HS.out]; unfold okP; simp [hd, hx1, hx2]
            have E := hid e
            have hdb : (d == dom) = true := by simp [hd]
            clear e HS hd
            go_wp2
            go_round
            case rel => exact ⟨k + 1, by omega, by omega, by go_num, by rw [E.out]⟩
            case measure => simp [intOf]; omega
          · have e : hasK s dom (k + 1) = false := by rw [HS.out]; unfold okP; simp [hd]
            have E := hid e
            have hdb : (d == dom) = false := by simp [hd]
            clear e HS hd
            go_wp2
            go_round
            case rel => exact ⟨k + 1, by omega, by omega, by go_num, by rw [E.out]⟩
            case measure => simp [intOf]; omega
          · have e : hasK s dom (k + 1) = false := by rw [HS.out]; unfold okP; simp; omega
            have E := hid e
            have hdb : (d == dom) = true := by simp [hd]
            have hx' : ¬ 1 ≤ l := by omega
            clear e HS hd
            go_wp2
            go_round
            case rel => exact ⟨k + 1, by omega, by omega, by go_num, by rw [E.out]⟩
            case measure => simp [intOf]; omega
          · have e : hasK s dom (k + 1) = false := by rw [HS.out]; unfold okP; simp; omega
            have E := hid e
            have hdb : (d == dom) = true := by simp [hd]
            have hx' : ¬ l ≤ 16 := by omega
            clear e HS hd
            go_wp2
            go_round
            case rel => exact ⟨k + 1, by omega, by omega, by go_num, by rw [E.out]⟩
            case measure => simp [intOf]; omega
        · have E : Hid (hasK s dom (k + 1) = true) := hid (by rw [HS.out]; rfl)
          clear HS
          go_wp2
          go_round
          case rel => exact ⟨k + 1, by omega, by omega, by go_num, by rw [E.out]⟩
          case measure => simp [intOf]; omega
      · have hall := hasK_all s dom k (by omega)
        have hge : ¬ ((k : Int) < (s.length : Int)) ∨ (k : Int) < (s.length : Int) ∧ ¬ ((k : Int) < 16) := by omega
        rcases NF.out with ⟨hn, hno⟩ | ⟨hc, m, hm1, hm2, hm3, hm4⟩
        · have hf : hasK s dom k = false := by
            cases hx : hasK s dom k
            · rfl
            · exact absurd (hall.1 hx) hno
          rw [hf]
          have HN := hid hn
          clear hall hn hno hlt hf NF
          rcases hge with hg1 | ⟨hg1, hg2⟩
          all_goals
            go_wp2_with fail
            refine (tnext_any dom t H.out).mono ?_
            rintro _ w1 ⟨rfl, B1⟩
            have K1 := hid (keep_below B1)
            rw [HN.out]
            clear B1
            go_wp2_with fail
            refine (tawake_any w1).mono ?_
            rintro _ w2 ⟨rfl, k2⟩
            have K2 := hid (K1.out.trans k2)
            clear k2
            go_wp2
            go_ret
            exact ⟨rfl, K2.out.below (fun _ h => h.elim) (Nat.le_refl _)⟩
        · obtain ⟨e, he, hed, hat⟩ := AS.out m hc hm1 hm3
          have hf : hasK s dom k = true := hall.2 ⟨e, he, hed⟩
          rw [hf]
          have HN := hid hm2
          have AT := hid hat
          have HE := hid he
          have HNO := hid hm4
          have HCC := hid hc
          have hcb := cyc_bd s
          have HED := hid hed
          have HM1 := hid hm1
          clear hall hm2 hat he hm4 hm3 hlt hf NF hc hed hm1
          rcases hge with hg1 | ⟨hg1, hg2⟩
          all_goals
            go_wp2_with fail
            refine (tnext_any dom t H.out).mono ?_
            rintro _ w1 ⟨rfl, B1⟩
            have k1 := keep_below B1
            have K1 := hid k1
            have S1 := hid (H.out.keep k1 (fun _ _ h => h))
            rw [HN.out]
            clear B1 k1
            go_wp2_with fail
            refine (tat_any (t + m) S1.out).mono ?_
            rintro _ w2 ⟨rfl, B2⟩
            have k2 := keep_below B2
            have K2 := hid (K1.out.trans k2)
            have S2 := hid (S1.out.keep k2 (fun _ _ h => h))
            rw [AT.out]
            clear B2 k2
            have hm256 : (m : Int) ≤ 256 := by have := HM1.out; omega
            go_wp2_with fail
            refine (cycle_any S2.out).mono ?_
            rintro _ w3 ⟨rfl, B3⟩
            have k3 := keep_below B3
            have K3 := hid (K2.out.trans k3)
            have S3 := hid (S2.out.keep k3 (fun _ _ h => h))
            clear B3 k3
            obtain ⟨g, off, rfl, -, hns, hg, -, kd, -⟩ := S3.out.ent ⟨e, HE.out⟩
            dsimp only at hns kd
            have hns1 : (e.n : Int) < (s.length : Int) := by omega
            rw [HED.out] at kd
            obtain ⟨c, hc⟩ : ∃ c, cyc s = c := ⟨_, rfl⟩
            have hmc : (m : Int) < c := by have := HM1.out; omega
            rw [hc] at hcb ⊢
            have HCV := hid hc
            clear hc
            have hdd : (dom != dom) = false := by simp
            have htt : (t + (m : Int) != t + (m : Int)) = false := by simp
            have hn1 : decide (t + (m : Int) < t) = false := decide_eq_false (by omega)
            have hn2 : decide (t + c ≤ t + (m : Int)) = false := decide_eq_false (by omega)
            have hn3 : decide ((e.n : Int) < 0) = false := decide_eq_false (by omega)
            have hn5 : decide (s.length ≤ e.n) = false := decide_eq_false (by omega)
            go_wp2_with fail
            go_loopw [13] (fun i wr => ∃ j : Nat, j ≤ m ∧ i = .int .i64 (t + j) ∧ Keep (fun _ => False) w wr) (fun i _ => m - (intOf i - t).toNat)
            case atStart => exact ⟨0, Nat.zero_le _, by simp, K3.out⟩
            case round =>
              obtain ⟨j, hj, rfl, hK⟩ := hrel
              have KJ := hid hK
              have SJ := hid (H.out.keep hK (fun _ _ h => h))
              clear hK
              by_cases hjm : j < m
              · obtain ⟨q, hq, y, hy, hne⟩ := AB.out j HCC.out (by have := HM1.out; omega) (HNO.out j hjm)
                have HQ := hid hq
                have HY := hid hy
                have hj1 : t + (j : Int) < t + (m : Int) := by omega
                clear hq hy
                go_wp2_with fail
                refine (tat_any (t + j) SJ.out).mono ?_
                rintro _ w5 ⟨rfl, B5⟩
                have k5 := keep_below B5
                have K5 := hid (KJ.out.trans k5)
                have S5 := SJ.out.keep k5 (fun _ _ h => h)
                rw [HY.out]
                obtain ⟨g5, off5, hv5, -, hns5, hg5, -, kd5, -⟩ := S5.ent ⟨q, HQ.out⟩
                dsimp only at hns5 kd5
                simp only [Option.some.injEq, Addr.mk.injEq] at hv5
                obtain ⟨rfl, rfl, -⟩ := hv5
                have hns6 : (q.n : Int) < (s.length : Int) := by omega
                have hn4 : ¬ (q.n : Int) < 0 := by omega
                clear B5 k5 S5
                obtain ⟨xd, hxd⟩ : ∃ z, q.dom = z := ⟨_, rfl⟩
                rw [hxd] at kd5 hne
                clear hxd
                have hcase : (y == t + (j : Int)) = false ∨ (y == t + (j : Int)) = true ∧ (xd == dom) = false := by
                  by_cases e : y = t + j
                  · exact .inr ⟨by simp [e], by rcases hne with h | h; exact absurd e h; simp [h]⟩
                  · exact .inl (by simp [e])
                clear hne
                rcases hcase with hy1 | ⟨hy1, hy2⟩
                all_goals
                  go_wp2
                  go_roundw
                  case rel => exact ⟨j + 1, by omega, by first | rfl | (congr 1; omega), K5.out⟩
                  case measure => simp [intOf]; omega
              · have hj1 : ¬ t + (j : Int) < t + (m : Int) := by omega
                go_wp2_with fail
                refine (tawake_any _).mono ?_
                rintro _ w6 ⟨rfl, k6⟩
                have K6 := hid (KJ.out.trans k6)
                clear k6
                go_wp2
                go_ret
                exact ⟨rfl, K6.out.below (fun _ h => h.elim) (Nat.le_refl _)⟩
  all_goals
    clear h
    go_enter Try.func7, Try.ntmps7
    go_wp2_with fail
    refine (tawake_any w).mono ?_
    rintro _ w4 ⟨rfl, k4⟩
    have K4 := hid k4
    clear k4
    go_wp2
    go_ret
    exact ⟨rfl, K4.out.below (fun _ h => h.elim) (Nat.le_refl _)⟩
end Go.Proofs.Ythnocalnlonniaa
